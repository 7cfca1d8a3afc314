/-
  Find and Rank of tuples, plainly: how close what they answer is. Conditions: none.
-/
import Derived.Test.YtkcldhimjnehdaaPlainPlaces
namespace Go.Proofs.Ytkcldhimjnehdaa

/-- How far a place lies at most from those between a least and a greatest one. -/
def offN (t lo hi : Nat) : Nat := max (t - lo) (hi - t)
/-- The first one of the closest. -/
def bestS (t : Nat) : Sp → List Sp → Sp
  | s, [] => s
  | s, r :: l => if offN t r.lo r.hi < offN t s.lo s.hi then bestS t r l else bestS t s l
theorem bestS_mem (t : Nat) (s : Sp) (l : List Sp) : bestS t s l ∈ s :: l := by
  induction l generalizing s with
  | nil => simp [bestS]
  | cons r l ih =>
    rw [bestS]
    split
    · have := ih r
      exact List.mem_cons_of_mem _ this
    · rcases List.mem_cons.1 (ih s) with h | h
      · rw [h]; simp
      · simp [h]
theorem bestS_min (t : Nat) (s : Sp) (l : List Sp) : ∀ r ∈ s :: l, offN t (bestS t s l).lo (bestS t s l).hi ≤ offN t r.lo r.hi := by
  induction l generalizing s with
  | nil => intro r hr; simp at hr; subst hr; exact Nat.le_refl _
  | cons q l ih =>
    intro r hr
    rw [bestS]
    split
    · next h =>
      rcases List.mem_cons.1 hr with rfl | hr
      · have := ih q q (by simp); omega
      · exact ih q r hr
    · next h =>
      rcases List.mem_cons.1 hr with rfl | hr
      · exact ih r r (by simp)
      · rcases List.mem_cons.1 hr with rfl | hr
        · have := ih s s (by simp); omega
        · exact ih s r (by simp [hr])
/-- There is one no further than half the greatest step and slack. -/
theorem close_one (t g : Nat) : ∀ (row : List Tp) (s : Sp), s.hi ≤ t + g / 2 → (∀ p ∈ row, p.st + p.sl ≤ g) → t ≤ s.lo + tot row → ∃ r ∈ s :: spF s.lo row, offN t r.lo r.hi ≤ g / 2
  | [], s, h1, _, h3 => by
    refine ⟨s, by simp, ?_⟩
    have : tot [] = 0 := rfl
    unfold offN
    omega
  | p :: row, s, h1, h2, h3 => by
    have hp := h2 p (by simp)
    by_cases hh : s.lo + p.st + p.sl ≤ t + g / 2
    · obtain ⟨r, hr, ho⟩ := close_one t g row ⟨p.x, s.lo + p.st, s.lo + p.st + p.sl⟩ hh (fun q hq => h2 q (by simp [hq])) (by rw [tot_cons] at h3; simp only; omega)
      refine ⟨r, ?_, ho⟩
      rw [spF]
      exact List.mem_cons_of_mem _ hr
    · refine ⟨s, by simp, ?_⟩
      unfold offN
      omega
/-- What Find answers is close. -/
theorem find_close {p : Tp} {row : List Tp} {A : List Int} {t g : Nat} (hA : Placed (spF 0 (p :: row)) A) (hp : p.st = 1 ∧ p.sl = 0) (hg : ∀ q ∈ p :: row, q.st + q.sl ≤ g) (h1 : 1 ≤ t) (h2 : t ≤ tot (p :: row)) :
    let s := bestS t ⟨p.x, p.st, p.st + p.sl⟩ (spF p.st row)
    unC A s.x + 1 ≤ t + g / 2 ∧ t ≤ upC A s.x + g / 2 ∧ unC A s.x < upC A s.x := by
  intro s
  have e : spF 0 (p :: row) = ⟨p.x, p.st, p.st + p.sl⟩ :: spF p.st row := by
    rw [spF]
    simp only [Nat.zero_add]
  obtain ⟨r, hr, ho⟩ := close_one t g row ⟨p.x, p.st, p.st + p.sl⟩ (by simp only; omega) (fun q hq => hg q (by simp [hq])) (by rw [tot_cons] at h2; simp only; omega)
  have hm := bestS_min t ⟨p.x, p.st, p.st + p.sl⟩ (spF p.st row) r hr
  obtain ⟨a1, a2, a3, a4⟩ := hA.all s (by rw [e]; exact bestS_mem t _ _)
  have hd : offN t s.lo s.hi ≤ g / 2 := Nat.le_trans hm ho
  unfold offN at hd
  exact ⟨by omega, by omega, a4⟩
/-- What Rank answers: the least and the greatest number of values up to one. -/
def rankF : Nat → List Tp → Int → Nat × Nat
  | n, [], _ => (n, n)
  | n, p :: row, x => if x < p.x then (n, n + p.st + p.sl - 1) else rankF (n + p.st) row x
theorem rank_ok {A : List Int} (x : Int) : ∀ (row : List Tp) (n : Nat), (∀ s ∈ spF n row, PlS A s) → n ≤ upC A x → (row = [] → upC A x ≤ n) → (∀ s, (spF n row).getLast? = some s → upC A s.x = A.length ∧ s.lo = A.length) →
    (rankF n row x).1 ≤ upC A x ∧ upC A x ≤ (rankF n row x).2
  | [], n, _, h2, h3, _ => ⟨h2, h3 rfl⟩
  | p :: row, n, h1, h2, _, h4 => by
    obtain ⟨a1, a2, a3, a4⟩ := h1 ⟨p.x, n + p.st, n + p.st + p.sl⟩ (by rw [spF]; simp)
    rw [rankF]
    by_cases hx : x < p.x
    · rw [if_pos hx]
      have := unC_up A hx
      simp only at a2 ⊢
      exact ⟨h2, by omega⟩
    · rw [if_neg hx]
      have hm := upC_mono A (show p.x ≤ x by omega)
      simp only at a1
      refine rank_ok x row (n + p.st) (fun s hs => h1 s (by rw [spF]; simp [hs])) (by omega) (fun he => ?_) (fun s hs => h4 s ?_)
      · subst he
        have := h4 ⟨p.x, n + p.st, n + p.st + p.sl⟩ (by simp [spF])
        simp only at this
        have := upC_le A x
        omega
      · rw [spF]
        cases hc : spF (n + p.st) row with
        | nil => rw [hc] at hs; simp at hs
        | cons b l => rw [hc] at hs; simpa using hs
end Go.Proofs.Ytkcldhimjnehdaa
