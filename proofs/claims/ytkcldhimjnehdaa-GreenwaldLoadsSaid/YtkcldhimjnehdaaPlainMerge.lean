/-
  Merged rows of tuples and their spots, plainly. Conditions: none.
-/
import Derived.Test.YtkcldhimjnehdaaPlainTuples
namespace Go.Proofs.Ytkcldhimjnehdaa

/-- Two rows merged, each tuple's slack greater by what is next in the other one. -/
def mrgT : List Tp → List Tp → List Tp
  | [], b => b
  | p :: a, [] => p :: a
  | p :: a, q :: b =>
    if p.x ≤ q.x then ⟨p.x, p.st, p.sl + (q.st + q.sl - 1)⟩ :: mrgT a (q :: b)
    else ⟨q.x, q.st, q.sl + (p.st + p.sl - 1)⟩ :: mrgT (p :: a) b
termination_by a b => a.length + b.length
/-- The document's way, on spots: na, nb: the least places that were reached in each. -/
def mrgS : Nat → Nat → List Sp → List Sp → List Sp
  | _, _, [], [] => []
  | _, nb, s :: a, [] => ⟨s.x, s.lo + nb, s.hi + nb⟩ :: mrgS s.lo nb a []
  | na, _, [], t :: b => ⟨t.x, t.lo + na, t.hi + na⟩ :: mrgS na t.lo [] b
  | na, nb, s :: a, t :: b =>
    if s.x ≤ t.x then ⟨s.x, s.lo + nb, s.hi + t.hi - 1⟩ :: mrgS s.lo nb a (t :: b)
    else ⟨t.x, t.lo + na, t.hi + s.hi - 1⟩ :: mrgS na t.lo (s :: a) b
termination_by _ _ a b => a.length + b.length
theorem mrg_same : ∀ (a b : List Tp) (na nb : Nat), (∀ p ∈ a, 1 ≤ p.st) → (∀ p ∈ b, 1 ≤ p.st) → spF (na + nb) (mrgT a b) = mrgS na nb (spF na a) (spF nb b)
  | [], [], na, nb, _, _ => by simp [mrgT, mrgS, spF]
  | [], q :: b, na, nb, ha, hb => by
    have ih := mrg_same [] b na (nb + q.st) ha (fun p hp => hb p (by simp [hp]))
    have e : mrgT [] b = b := by unfold mrgT; rfl
    rw [e] at ih
    have e2 : mrgT [] (q :: b) = q :: b := by unfold mrgT; rfl
    rw [e2]
    simp only [spF] at ih ⊢
    rw [mrgS, ← ih]
    simp only [List.cons.injEq, Sp.mk.injEq, true_and]
    refine ⟨⟨by omega, by omega⟩, by rw [show na + nb + q.st = na + (nb + q.st) from by omega]⟩
  | p :: a, [], na, nb, ha, hb => by
    have ih := mrg_same a [] (na + p.st) nb (fun q hq => ha q (by simp [hq])) hb
    have e : mrgT a [] = a := by cases a <;> (unfold mrgT; rfl)
    rw [e] at ih
    have e2 : mrgT (p :: a) [] = p :: a := by unfold mrgT; rfl
    rw [e2]
    simp only [spF] at ih ⊢
    rw [mrgS, ← ih]
    simp only [List.cons.injEq, Sp.mk.injEq, true_and]
    refine ⟨⟨by omega, by omega⟩, by rw [show na + nb + p.st = na + p.st + nb from by omega]⟩
  | p :: a, q :: b, na, nb, ha, hb => by
    have hp := ha p (by simp)
    have hq := hb q (by simp)
    by_cases hle : p.x ≤ q.x
    · have ih := mrg_same a (q :: b) (na + p.st) nb (fun q hq => ha q (by simp [hq])) hb
      have e : mrgT (p :: a) (q :: b) = ⟨p.x, p.st, p.sl + (q.st + q.sl - 1)⟩ :: mrgT a (q :: b) := by rw [mrgT, if_pos hle]
      rw [e]
      simp only [spF] at ih ⊢
      rw [mrgS, if_pos hle, ← ih]
      simp only [List.cons.injEq, Sp.mk.injEq, true_and]
      refine ⟨⟨by omega, by omega⟩, by rw [show na + nb + p.st = na + p.st + nb from by omega]⟩
    · have ih := mrg_same (p :: a) b na (nb + q.st) ha (fun p hp => hb p (by simp [hp]))
      have e : mrgT (p :: a) (q :: b) = ⟨q.x, q.st, q.sl + (p.st + p.sl - 1)⟩ :: mrgT (p :: a) b := by rw [mrgT, if_neg hle]
      rw [e]
      simp only [spF] at ih ⊢
      rw [mrgS, if_neg hle, ← ih]
      simp only [List.cons.injEq, Sp.mk.injEq, true_and]
      refine ⟨⟨by omega, by omega⟩, by rw [show na + nb + q.st = na + (nb + q.st) from by omega]⟩
termination_by a b => a.length + b.length

def nextGe (b : List Tp) (x : Int) : Nat := match b.find? (fun q => decide (x ≤ q.x)) with
  | some q => q.st + q.sl - 1
  | none => 0
def nextGt (a : List Tp) (x : Int) : Nat := match a.find? (fun q => decide (x < q.x)) with
  | some q => q.st + q.sl - 1
  | none => 0
/-- A row's tuples as they are in a merged row: of the first row, and of the second. -/
def partA (a b : List Tp) : List Tp := a.map fun p => ⟨p.x, p.st, p.sl + nextGe b p.x⟩
def partB (b a : List Tp) : List Tp := b.map fun q => ⟨q.x, q.st, q.sl + nextGt a q.x⟩
/-- Two rows in order, as one: of the same values those of the first one ahead. -/
def mrgX : List Tp → List Tp → List Tp
  | [], b => b
  | p :: a, [] => p :: a
  | p :: a, q :: b => if p.x ≤ q.x then p :: mrgX a (q :: b) else q :: mrgX (p :: a) b
termination_by a b => a.length + b.length
theorem nextGe_skip (q : Tp) (b : List Tp) (x : Int) (h : q.x < x) : nextGe (q :: b) x = nextGe b x := by
  rw [nextGe, List.find?_cons_of_neg (by simp; omega)]
  rfl
theorem nextGt_skip (q : Tp) (b : List Tp) (x : Int) (h : q.x ≤ x) : nextGt (q :: b) x = nextGt b x := by
  rw [nextGt, List.find?_cons_of_neg (by simp; omega)]
  rfl
theorem nextGe_hit (q : Tp) (b : List Tp) (x : Int) (h : x ≤ q.x) : nextGe (q :: b) x = q.st + q.sl - 1 := by
  rw [nextGe, List.find?_cons_of_pos (by simpa using h)]
theorem nextGt_hit (q : Tp) (b : List Tp) (x : Int) (h : x < q.x) : nextGt (q :: b) x = q.st + q.sl - 1 := by
  rw [nextGt, List.find?_cons_of_pos (by simpa using h)]
theorem partA_nil (a : List Tp) : partA a [] = a := by
  rw [partA]
  conv => rhs; rw [← List.map_id a]
  apply List.map_congr_left
  intro p _
  cases p
  rfl
theorem partB_nil (a : List Tp) : partB a [] = a := by
  rw [partB]
  conv => rhs; rw [← List.map_id a]
  apply List.map_congr_left
  intro p _
  cases p
  rfl
theorem part_merge : ∀ (a b : List Tp), (a.Pairwise fun p q => p.x ≤ q.x) → (b.Pairwise fun p q => p.x ≤ q.x) → mrgX (partA a b) (partB b a) = mrgT a b
  | [], b, _, _ => by
    rw [partB_nil, show partA [] b = [] from rfl]
    unfold mrgX mrgT
    rfl
  | p :: a, [], _, _ => by
    rw [partA_nil, show partB [] (p :: a) = [] from rfl]
    unfold mrgX mrgT
    rfl
  | p :: a, q :: b, ha, hb => by
    obtain ⟨ha1, ha2⟩ := List.pairwise_cons.1 ha
    obtain ⟨hb1, hb2⟩ := List.pairwise_cons.1 hb
    have ea : partA (p :: a) (q :: b) = ⟨p.x, p.st, p.sl + nextGe (q :: b) p.x⟩ :: partA a (q :: b) := rfl
    have eb : partB (q :: b) (p :: a) = ⟨q.x, q.st, q.sl + nextGt (p :: a) q.x⟩ :: partB b (p :: a) := rfl
    by_cases hle : p.x ≤ q.x
    · have ih := part_merge a (q :: b) ha2 hb
      have hB : partB (q :: b) (p :: a) = partB (q :: b) a := by
        rw [partB, partB]
        apply List.map_congr_left
        intro r hr
        rw [nextGt_skip p a r.x (by
          rcases List.mem_cons.1 hr with rfl | hr
          · exact hle
          · have := hb1 r hr; omega)]
      rw [mrgT, if_pos hle, ea, hB, ← ih, nextGe_hit q b p.x hle]
      have eb2 : partB (q :: b) a = ⟨q.x, q.st, q.sl + nextGt a q.x⟩ :: partB b a := rfl
      rw [eb2, mrgX]
      exact if_pos hle
    · have ih := part_merge (p :: a) b ha hb2
      have hA : partA (p :: a) (q :: b) = partA (p :: a) b := by
        rw [partA, partA]
        apply List.map_congr_left
        intro r hr
        rw [nextGe_skip q b r.x (by
          rcases List.mem_cons.1 hr with rfl | hr
          · omega
          · have := ha1 r hr; omega)]
      rw [mrgT, if_neg hle, eb, hA, ← ih, nextGt_hit p a q.x (by omega)]
      have ea2 : partA (p :: a) b = ⟨p.x, p.st, p.sl + nextGe b p.x⟩ :: partA a b := rfl
      rw [ea2, mrgX]
      exact if_neg hle
termination_by a b => a.length + b.length
end Go.Proofs.Ytkcldhimjnehdaa
