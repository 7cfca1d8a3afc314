/-
  Plain law of sketches by comparisons: what they keep, and how close they are. Conditions: none.
  Two slices of the program's own, of unlike elements, share no block. Conditions: none.
  Rows of tuples: their cells. Conditions: none.
  The walk of slices.Insert at rows of tuples, one tuple put in. Conditions: the form's own reach.
-/
import Derived.Test.YtmehcfocfljoeaaGreatDoorSlotsErrorsB18
import Derived.Test.YtmehcfocfljoeaaGreatDoorSlotsErrorsB19
import Derived.Test.YtmehcfocfljoeaaGreatDoorSlotsErrorsB1
import Derived.Test.YtmehcfocfljoeaaGreatDoorProg
import Derived.Test.YtmehcfocfljoeaaGreatDoorSlotsErrorsB17
import Derived.Test.YtmehcfocfljoeaaGreatDoorSlotsErrorsB5
import Derived.Deep.RegionLaw
import Derived.Lib.Overlaps
import Derived.Lib.AppendZerosOnto
namespace Go.Proofs.YtmehcfocfljoeaaGreatDoor

/-- To which rows are squeezed, of so many. -/
def limG (num den n : Nat) : Nat := max (2 * num * n / den) 1
theorem limG_mono {num den a b : Nat} (h : a ≤ b) : limG num den a ≤ limG num den b := by
  have := Nat.div_le_div_right (c := den) (Nat.mul_le_mul_left (2 * num) h)
  unfold limG
  omega
theorem add_div_le (a b d : Nat) : a / d + b / d ≤ (a + b) / d := by
  rcases Nat.eq_zero_or_pos d with h | h
  · subst h; simp
  · rw [Nat.le_div_iff_mul_le h, Nat.add_mul]
    have h1 := Nat.div_mul_le_self a d
    have h2 := Nat.div_mul_le_self b d
    omega
theorem limG_add (num den a b : Nat) : limG num den a + limG num den b ≤ limG num den (a + b) + 1 := by
  have h : 2 * num * a / den + 2 * num * b / den ≤ 2 * num * (a + b) / den := by
    rw [Nat.mul_add]
    exact add_div_le _ _ _
  unfold limG
  generalize 2 * num * a / den = x at *
  generalize 2 * num * b / den = y at *
  generalize 2 * num * (a + b) / den = z at *
  omega
/-- A sketch: a closeness, a row, all values that were flushed, and those that wait. -/
structure GkD where
  num : Nat
  den : Nat
  row : List Tp
  vals : List Int
  waits : List Int
namespace GkD
def total (D : GkD) : Nat := D.vals.length + D.waits.length
end GkD
def ins1 (r : List Tp) (x : Int) : List Tp := insT r x (upT r x)
def insAll (r : List Tp) (ws : List Int) : List Tp := ws.foldl ins1 r
namespace GkD
def flush (D : GkD) : GkD := if D.waits = [] then D else
  { D with row := sqT (limG D.num D.den D.total) (insAll D.row (sortL D.waits)), vals := D.vals ++ sortL D.waits, waits := [] }
def wait (D : GkD) (x : Int) : GkD := { D with waits := D.waits ++ [x] }
def put1 (D : GkD) (x : Int) : GkD := if 16 ≤ (D.wait x).waits.length then (D.wait x).flush else D.wait x
def putN (D : GkD) (x : Int) : Nat → GkD
  | 0 => D
  | k + 1 => (D.putN x k).put1 x
def join (D O : GkD) : GkD := { D with row := sqT (limG D.num D.den (D.total + O.total)) (mrgT D.flush.row O.flush.row), vals := D.flush.vals ++ O.flush.vals, waits := [] }
/-- What is so of each. -/
structure ok (D : GkD) : Prop where
  fine : FineT D.row D.vals.length
  placed : Placed (spF 0 D.row) D.vals
  len : D.row.length ≤ D.vals.length
  few : D.waits.length < 16
  tight : ∀ p ∈ D.row, p.st + p.sl ≤ limG D.num D.den D.vals.length
theorem flush_same (D : GkD) : D.flush.num = D.num ∧ D.flush.den = D.den ∧ D.flush.total = D.total ∧ D.flush.waits = [] := by
  unfold flush
  split
  · next h => exact ⟨rfl, rfl, rfl, h⟩
  · refine ⟨rfl, rfl, ?_, rfl⟩
    simp [total, (sort_ok D.waits).2.2]
theorem put1_same (D : GkD) (x : Int) : (D.put1 x).num = D.num ∧ (D.put1 x).den = D.den ∧ (D.put1 x).total = D.total + 1 := by
  have ht : (D.wait x).total = D.total + 1 := by simp [wait, total]; omega
  unfold put1
  split
  · obtain ⟨h1, h2, h3, _⟩ := (D.wait x).flush_same
    exact ⟨h1, h2, h3.trans ht⟩
  · exact ⟨rfl, rfl, ht⟩
theorem putN_same (D : GkD) (x : Int) (k : Nat) : (D.putN x k).num = D.num ∧ (D.putN x k).den = D.den ∧ (D.putN x k).total = D.total + k := by
  induction k with
  | zero => exact ⟨rfl, rfl, rfl⟩
  | succ k ih =>
    obtain ⟨h1, h2, h3⟩ := (D.putN x k).put1_same x
    exact ⟨h1.trans ih.1, h2.trans ih.2.1, by rw [show D.putN x (k + 1) = (D.putN x k).put1 x from rfl, h3, ih.2.2]; omega⟩
end GkD
theorem getD_memT {l : List Tp} {k : Nat} (h : k < l.length) : l.getD k default ∈ l := by
  simp [List.getD, h]
/-- What holds of each tuple behind an insertion: of the new one too. -/
theorem insT_tight {r : List Tp} {x : Int} {k g : Nat} (hg : 1 ≤ g) (hp : ∀ p ∈ r, 1 ≤ p.st) (h : ∀ p ∈ r, p.st + p.sl ≤ g) : ∀ p ∈ insT r x k, p.st + p.sl ≤ g := by
  intro p hm
  unfold insT at hm
  simp only [List.mem_append, List.mem_cons, List.not_mem_nil, or_false] at hm
  rcases hm with (hm | rfl) | hm
  · exact h p (List.mem_of_mem_take hm)
  · simp only
    split
    · next hk =>
      have h1 := h _ (getD_memT hk.2)
      have h2 := hp _ (getD_memT hk.2)
      omega
    · omega
  · exact h p (List.mem_of_mem_drop hm)
theorem sqStep_tight {m i : Nat} {r : List Tp} {g : Nat} (hmg : m ≤ g) (h : ∀ p ∈ r, p.st + p.sl ≤ g) : ∀ p ∈ sqStep m i r, p.st + p.sl ≤ g := by
  intro p hm
  unfold sqStep at hm
  split at hm
  · next hle =>
    simp only [List.mem_append, List.mem_cons, List.not_mem_nil, or_false] at hm
    rcases hm with (hm | rfl) | hm
    · exact h p (List.mem_of_mem_take hm)
    · simp only; omega
    · exact h p (List.mem_of_mem_drop hm)
  · exact h p hm
theorem sqTo_tight {m g : Nat} (hmg : m ≤ g) : ∀ (i : Nat) (r : List Tp), (∀ p ∈ r, p.st + p.sl ≤ g) → ∀ p ∈ sqTo m i r, p.st + p.sl ≤ g
  | 0, _, h => h
  | i + 1, _, h => sqTo_tight hmg i _ (sqStep_tight hmg h)
theorem sqT_tight {m g : Nat} (hmg : m ≤ g) {r : List Tp} (h : ∀ p ∈ r, p.st + p.sl ≤ g) : ∀ p ∈ sqT m r, p.st + p.sl ≤ g := sqTo_tight hmg _ r h
theorem mrgT_tight {ga gb : Nat} : ∀ (a b : List Tp), (∀ p ∈ a, p.st + p.sl ≤ ga) → (∀ p ∈ b, p.st + p.sl ≤ gb) → 1 ≤ ga → 1 ≤ gb → ∀ p ∈ mrgT a b, p.st + p.sl ≤ ga + gb - 1
  | [], b, _, hb, h1, h2, p, hp => by
    rw [mrgT_nil] at hp
    have := hb p hp
    omega
  | q :: a, [], ha, _, h1, h2, p, hp => by
    rw [mrgT_left] at hp
    have := ha p hp
    omega
  | q :: a, r :: b, ha, hb, h1, h2, p, hp => by
    by_cases h : q.x ≤ r.x
    · rw [mrgT_le a b h] at hp
      rcases List.mem_cons.1 hp with rfl | hp
      · have h3 := ha q (by simp)
        have h4 := hb r (by simp)
        simp only
        omega
      · exact mrgT_tight a (r :: b) (fun p hp => ha p (by simp [hp])) hb h1 h2 p hp
    · rw [mrgT_gt a b h] at hp
      rcases List.mem_cons.1 hp with rfl | hp
      · have h3 := ha q (by simp)
        have h4 := hb r (by simp)
        simp only
        omega
      · exact mrgT_tight (q :: a) b ha (fun p hp => hb p (by simp [hp])) h1 h2 p hp
termination_by a b => a.length + b.length
theorem insAll_fine {g : Nat} (hg : 1 ≤ g) : ∀ (ws : List Int) {r : List Tp} {A : List Int}, FineP (r, A) A.length → (∀ p ∈ r, p.st + p.sl ≤ g) →
    FineP (insAll r ws, A ++ ws) (A ++ ws).length ∧ ∀ p ∈ insAll r ws, p.st + p.sl ≤ g
  | [], r, A, h, h3 => by rw [List.append_nil]; exact ⟨h, h3⟩
  | x :: ws, r, A, h, h3 => by
    have h4 := h.step ⟨x, 0, false⟩
    have e : playS (r, A) ⟨x, 0, false⟩ = (ins1 r x, A ++ [x]) := by simp [playS, ins1]
    rw [e] at h4
    have hl : (A ++ [x]).length = A.length + 1 := by simp
    have h5 := insAll_fine hg ws (r := ins1 r x) (A := A ++ [x]) (by rw [hl]; exact h4) (insT_tight hg h.fine.pos h3)
    rw [List.append_assoc, List.singleton_append] at h5
    exact h5
namespace GkD
theorem ok.lim {D : GkD} (h : D.ok) {n : Nat} (hn : D.vals.length ≤ n) : ∀ p ∈ D.row, p.st + p.sl ≤ limG D.num D.den n := fun p hp => Nat.le_trans (h.tight p hp) (limG_mono hn)
theorem limG_pos (num den n : Nat) : 1 ≤ limG num den n := Nat.le_max_right _ _
theorem flush_ok {D : GkD} (h : D.ok) (hw : D.waits.length ≤ 16) : D.flush.ok := by
  unfold flush
  split
  · exact h
  · have hlen : (D.vals ++ sortL D.waits).length = D.total := by simp [total, (sort_ok D.waits).2.2]
    have h1 := insAll_fine (limG_pos D.num D.den D.total) (sortL D.waits) (r := D.row) (A := D.vals) ⟨h.fine, h.placed, h.len, Nat.le_refl _⟩ (h.lim (by unfold total; omega))
    obtain ⟨⟨h2, h3, h4, _⟩, h6⟩ := h1
    refine ⟨h2.squeeze _, ?_, ?_, by simp, ?_⟩
    · show Placed (spF 0 (sqT (limG D.num D.den D.total) (insAll D.row (sortL D.waits)))) _
      rw [squeeze_same]
      exact h3.squeeze _
    · exact Nat.le_trans (sqT_len _ _) h4
    · show ∀ p ∈ sqT (limG D.num D.den D.total) (insAll D.row (sortL D.waits)), p.st + p.sl ≤ limG D.num D.den (D.vals ++ sortL D.waits).length
      rw [hlen]
      exact sqT_tight (Nat.le_refl _) h6
/-- A row may wait for a moment with one value too many. -/
structure ok' (D : GkD) : Prop where
  fine : FineT D.row D.vals.length
  placed : Placed (spF 0 D.row) D.vals
  len : D.row.length ≤ D.vals.length
  few : D.waits.length ≤ 16
  tight : ∀ p ∈ D.row, p.st + p.sl ≤ limG D.num D.den D.vals.length
theorem flush_ok' {D : GkD} (h : D.ok') (hw : D.waits ≠ []) : D.flush.ok := by
  unfold flush
  rw [if_neg hw]
  have hlen : (D.vals ++ sortL D.waits).length = D.total := by simp [total, (sort_ok D.waits).2.2]
  have h1 := insAll_fine (limG_pos D.num D.den D.total) (sortL D.waits) (r := D.row) (A := D.vals) ⟨h.fine, h.placed, h.len, Nat.le_refl _⟩ (fun p hp => Nat.le_trans (h.tight p hp) (limG_mono (by unfold total; omega)))
  obtain ⟨⟨h2, h3, h4, _⟩, h6⟩ := h1
  refine ⟨h2.squeeze _, ?_, ?_, by simp, ?_⟩
  · show Placed (spF 0 (sqT (limG D.num D.den D.total) (insAll D.row (sortL D.waits)))) _
    rw [squeeze_same]
    exact h3.squeeze _
  · exact Nat.le_trans (sqT_len _ _) h4
  · show ∀ p ∈ sqT (limG D.num D.den D.total) (insAll D.row (sortL D.waits)), p.st + p.sl ≤ limG D.num D.den (D.vals ++ sortL D.waits).length
    rw [hlen]
    exact sqT_tight (Nat.le_refl _) h6
theorem put1_ok {D : GkD} (h : D.ok) (x : Int) : (D.put1 x).ok := by
  unfold put1
  have hl : (D.wait x).waits.length = D.waits.length + 1 := by simp [wait]
  have hf := h.few
  split
  · refine flush_ok' ⟨h.fine, h.placed, h.len, by omega, h.tight⟩ (fun e => ?_)
    rw [e] at hl
    simp at hl
  · exact ⟨h.fine, h.placed, h.len, by omega, h.tight⟩
theorem putN_ok {D : GkD} (h : D.ok) (x : Int) (k : Nat) : (D.putN x k).ok := by
  induction k with
  | zero => exact h
  | succ k ih => exact put1_ok ih x
theorem flush_ok0 {D : GkD} (h : D.ok) : D.flush.ok := flush_ok h (by have := h.few; omega)
theorem join_ok {D O : GkD} (h : D.ok) (k : O.ok) (hn : O.num = D.num) (hd : O.den = D.den) : (D.join O).ok := by
  have a := flush_ok0 h
  have b := flush_ok0 k
  obtain ⟨a1, a2, a3, a4⟩ := D.flush_same
  obtain ⟨b1, b2, b3, b4⟩ := O.flush_same
  have ha : D.flush.vals.length = D.total := by rw [← a3, total, a4]; rfl
  have hb : O.flush.vals.length = O.total := by rw [← b3, total, b4]; rfl
  obtain ⟨m1, m2⟩ := merged a.fine b.fine a.placed b.placed
  have ht := mrgT_tight D.flush.row O.flush.row a.tight b.tight (limG_pos _ _ _) (limG_pos _ _ _)
  rw [a1, a2, b1, b2, hn, hd, ha, hb] at ht
  have hlen : (D.flush.vals ++ O.flush.vals).length = D.total + O.total := by rw [List.length_append, ha, hb]
  refine ⟨m1.squeeze _, ?_, ?_, by simp [join], ?_⟩
  · show Placed (spF 0 (sqT _ _)) _
    rw [squeeze_same]
    exact m2.squeeze _
  · refine Nat.le_trans (sqT_len _ _) ?_
    rw [mrgT_len]
    have h1 := a.len
    have h2 := b.len
    simp only [join, List.length_append]
    omega
  · show ∀ p ∈ sqT (limG D.num D.den (D.total + O.total)) (mrgT D.flush.row O.flush.row), p.st + p.sl ≤ limG D.num D.den (D.flush.vals ++ O.flush.vals).length
    rw [hlen]
    refine sqT_tight (Nat.le_refl _) (fun p hp => ?_)
    have h1 := ht p hp
    have h2 := limG_add D.num D.den D.total O.total
    omega
theorem join_same {D O : GkD} (_h : D.ok) (_k : O.ok) : (D.join O).num = D.num ∧ (D.join O).den = D.den ∧ (D.join O).total = D.total + O.total := by
  obtain ⟨a1, a2, a3, a4⟩ := D.flush_same
  obtain ⟨b1, b2, b3, b4⟩ := O.flush_same
  refine ⟨rfl, rfl, ?_⟩
  simp only [total, join, List.length_append, List.length_nil] at *
  rw [a4] at a3
  rw [b4] at b3
  simp at a3 b3
  omega
/-- All values that were put. -/
def all (D : GkD) : List Int := D.vals ++ D.waits
theorem upC_sort (l : List Int) (x : Int) : upC (sortL l) x = upC l x := (sort_ok l).2.1 x
theorem flush_all (D : GkD) (x : Int) : upC D.flush.all x = upC D.all x := by
  unfold flush
  split
  · rfl
  · simp only [all, upC_app, upC_sort, List.append_nil]
theorem put1_all (D : GkD) (y x : Int) : upC (D.put1 y).all x = upC D.all x + if y ≤ x then 1 else 0 := by
  have hw : upC (D.wait y).all x = upC D.all x + if y ≤ x then 1 else 0 := by
    simp only [all, wait, ← List.append_assoc]
    exact upC_snoc _ _ _
  unfold put1
  split
  · rw [flush_all, hw]
  · exact hw
theorem putN_all (D : GkD) (y x : Int) (k : Nat) : upC (D.putN y k).all x = upC D.all x + if y ≤ x then k else 0 := by
  induction k with
  | zero => simp [putN]
  | succ k ih =>
    rw [show D.putN y (k + 1) = (D.putN y k).put1 y from rfl, put1_all, ih]
    split <;> omega
theorem join_all (D O : GkD) (x : Int) : upC (D.join O).all x = upC D.all x + upC O.all x := by
  have h1 := D.flush_all x
  have h2 := O.flush_all x
  obtain ⟨_, _, _, a4⟩ := D.flush_same
  obtain ⟨_, _, _, b4⟩ := O.flush_same
  simp only [all, a4, b4, List.append_nil] at h1 h2
  simp only [all, join, List.append_nil, upC_app] at *
  omega
theorem all_len (D : GkD) : D.all.length = D.total := by simp [all, total]
end GkD
theorem unC_up1 (A : List Int) (x : Int) : unC A x = upC A (x - 1) := by
  unfold unC upC
  congr 1
  funext y
  rw [Bool.eq_iff_iff]
  simp
  omega
/-- Half of the limit, as a part of all. -/
theorem lim_half {num den n g : Nat} (hg : g ≤ limG num den n / 2) : g * den ≤ num * n := by
  unfold limG at hg
  by_cases h : 2 * num * n / den ≤ 1
  · have : g = 0 := by omega
    subst this
    simp
  · have h1 : 2 * g ≤ 2 * num * n / den := by omega
    have h2 := Nat.div_mul_le_self (2 * num * n) den
    have h3 := Nat.mul_le_mul_right den h1
    have h4 : 2 * g * den = 2 * (g * den) := Nat.mul_assoc _ _ _
    have h5 : 2 * num * n = 2 * (num * n) := Nat.mul_assoc _ _ _
    omega
end Go.Proofs.YtmehcfocfljoeaaGreatDoor

namespace Go.Proofs.YtmehcfocfljoeaaGreatDoor
open Go.RowKit

/-- Two slices of the program's own, of unlike elements, share no block. -/
theorem Own.apart {w : World} {e1 e2 : TypeId} {s1 s2 n1 n2 : Nat} {v1 v2 : Value} {x1 x2 : List Value} (h1 : Own w e1 s1 v1 n1 x1) (h2 : Own w e2 s2 v2 n2 x2) (hne : e1 ≠ e2) : ∀ b ∈ blkOf v1, b ∉ blkOf v2 := by
  intro b hb hb2
  obtain ⟨_, ⟨rfl, _⟩ | ⟨g, o, cap, cur, rfl, hg, _⟩⟩ := h1
  · simp at hb
  obtain ⟨_, ⟨rfl, _⟩ | ⟨g2, o2, cap2, cur2, rfl, hg2, _⟩⟩ := h2
  · simp at hb2
  simp only [blkOf_some, List.mem_singleton] at hb hb2
  subst hb
  subst hb2
  rw [hg] at hg2
  simp only [Option.some.injEq, Obj.cells.injEq] at hg2
  exact hne hg2.2.1
theorem Mv.low {F F' : List Nat} {w w' : World} (h : Mv F w F' w') {L : Nat} (hL : L ≤ w.heap.size) (hF : ∀ b ∈ F, L ≤ b) : ∀ b ∈ F', L ≤ b := fun b hb => by
  rcases h.fr b hb with h1 | h1
  · exact hF b h1
  · omega
end Go.Proofs.YtmehcfocfljoeaaGreatDoor

namespace Go.Proofs.YtmehcfocfljoeaaGreatDoor
open Go.RowKit

def Tp.cells (p : Tp) : List Value := [.int .i64 p.x, .int .u64 p.st, .int .u64 p.sl]
def Tp.ok (p : Tp) : Prop := -9223372036854775808 ≤ p.x ∧ p.x < 9223372036854775808 ∧ p.st < 18446744073709551616 ∧ p.sl < 18446744073709551616
def tpCells (l : List Tp) : List Value := (l.map Tp.cells).flatten
theorem tpCells_len (l : List Tp) : (tpCells l).length = l.length * 3 := by
  induction l with
  | nil => rfl
  | cons a r ih => simp only [tpCells, List.map_cons, List.flatten_cons, List.length_append, List.length_cons] at *; rw [ih]; simp [Tp.cells]; omega
theorem tpCells_append (a b : List Tp) : tpCells (a ++ b) = tpCells a ++ tpCells b := by simp [tpCells]
theorem tpCells_get (l : List Tp) (k j : Nat) (hk : k < l.length) (hj : j < 3) : (tpCells l)[k * 3 + j]? = (l[k].cells)[j]? := by
  induction l generalizing k with
  | nil => simp at hk
  | cons a r ih =>
    cases k with
    | zero =>
      simp only [tpCells, List.map_cons, List.flatten_cons, Nat.zero_mul, Nat.zero_add, List.getElem_cons_zero]
      rw [List.getElem?_append_left (by simpa [Tp.cells] using hj)]
    | succ k =>
      have := ih k (by simpa using hk)
      simp only [tpCells, List.map_cons, List.flatten_cons, List.getElem_cons_succ] at *
      rw [List.getElem?_append_right (by simp [Tp.cells]; omega), ← this]
      congr 1
      simp [Tp.cells]
      omega
theorem tp_at {w : World} {b o k : Nat} {l : List Tp} (hc : ∀ j, j < l.length * 3 → w.cell? ⟨b, o + j, none⟩ = (tpCells l)[j]?) (h : k < l.length) :
    w.cell? ⟨b, o + k * 3, none⟩ = some (.int .i64 l[k].x) ∧ w.cell? ⟨b, o + k * 3 + 1, none⟩ = some (.int .u64 l[k].st) ∧ w.cell? ⟨b, o + k * 3 + 2, none⟩ = some (.int .u64 l[k].sl) := by
  have g : ∀ j, j < 3 → w.cell? ⟨b, o + k * 3 + j, none⟩ = (l[k].cells)[j]? := fun j hj => by
    rw [← tpCells_get l k j h hj, ← hc (k * 3 + j) (by omega), Nat.add_assoc]
  exact ⟨g 0 (by omega), g 1 (by omega), g 2 (by omega)⟩
theorem tpCells_oneCell (l : List Tp) : ∀ y ∈ tpCells l, y.oneCell' = true := by
  intro y hy
  simp only [tpCells, List.mem_flatten, List.mem_map] at hy
  obtain ⟨x, ⟨i, _, rfl⟩, hy⟩ := hy
  simp only [Tp.cells, List.mem_cons, List.not_mem_nil, or_false] at hy
  rcases hy with rfl | rfl | rfl <;> rfl
theorem under_tuples : Tryz.prog.underlying 227 = some (.slice 251) := by kernel_rfl
theorem info_tuple : (Tryz.prog.info? 251).map (fun i => (i.zero, i.size, i.bytes)) = some (some (.agg #[.int .i64 0, .int .u64 0, .int .u64 0]), 3, 24) := by kernel_rfl
end Go.Proofs.YtmehcfocfljoeaaGreatDoor

namespace Go.Proofs.YtmehcfocfljoeaaGreatDoor
open Go.RowKit

theorem size_tuple : (Tryz.prog.info? 251).map (·.size) = some 3 := by kernel_rfl
theorem sizeOf_tuple (w : World) : (Go.sizeOf 251).run Tryz.prog w = .ok 3 w := by
  obtain ⟨i0, hi0, _, hzs, _⟩ := info_parts info_tuple
  simp [sizeOf, typeInfo, hi0, hzs]

/-- 'copy' into a block of the program's own: its cells, and nothing else. -/
theorem copy_blkT (w : World) (g o dLen dCap : Nat) (ROW : Array Value) (hb : Blk w g ROW 251) (ad : Addr) (sLen sCap m : Nat) (cs : List Value) (hm : m = Nat.min sLen dLen) (hn : cs.length = m * 3)
    (hsrc : ∀ j v, cs[j]? = some v → w.cell? (ad.add j) = some v) (hfit : o + cs.length ≤ ROW.size) (h1 : ∀ v ∈ cs, v.oneCell' = true) :
    ∃ w', (∀ ty, (Builtin.copy_ #[227, 227] ty #[.slice (some ⟨g, o, none⟩) dLen dCap, .slice (some ad) sLen sCap]).run Tryz.prog w = .ok (goInt m) w') ∧
      Blk w' g (ROW.toList.take o ++ cs ++ ROW.toList.drop (o + cs.length)).toArray 251 ∧ Chg [g] w w' := by
  subst hm
  refine ⟨_, fun ty => run_copy_rowK w 227 227 ty 251 3 g o dLen dCap ad sLen sCap ROW 251 cs under_tuples size_tuple hb hn hsrc hfit h1, ?_, ?_⟩
  · exact setRow_heap w g ROW _ _ _ hb
  · exact (Chg.refl [g] w).setRow (.inl (by simp)) _

/-- 'append(s[:i], make(..)...)' where there is no room: a new block. -/
theorem app_zerosT (w : World) (g o cap n k at_ : Nat) (l : List Tp) (hn : n = l.length) (hat : at_ ≤ n) (hr : ∀ j, j < n * 3 → w.cell? ⟨g, o + j, none⟩ = (tpCells l)[j]?) (hk : at_ + k = n + 1) (hnc : n ≤ cap) (hc : cap < n + 1) (hl : n ≤ 100000) :
    ∃ (G : Nat) (ROW : Array Value) (w' : World), (∀ ty x, x = (k : Int) → (Builtin.append_ #[227, 3] ty #[.slice (some ⟨g, o, none⟩) at_ cap, .int .i64 x]).run Tryz.prog w = .ok (.slice (some ⟨w.heap.size, 0, none⟩) (n + 1) G) w') ∧
      Blk w' w.heap.size ROW 251 ∧ ROW.toList.take (at_ * 3) = tpCells (l.take at_) ∧ ROW.size = G * 3 ∧ n + 1 ≤ G ∧ G ≤ maxLen ∧ Chg [] w w' := by
  obtain ⟨i0, hi0, hz0, hzs, hzb⟩ := info_parts info_tuple
  have htl : tpCells (l.take at_) = (tpCells l).take (at_ * 3) := by
    have e : tpCells l = tpCells (l.take at_) ++ tpCells (l.drop at_) := by rw [← tpCells_append, List.take_append_drop]
    have hlen : (tpCells (l.take at_)).length = at_ * 3 := by rw [tpCells_len, List.length_take, ← hn, Nat.min_eq_left hat]
    rw [e, ← hlen, List.take_left]
  have hold : (Builtin.firstCells i0.size at_ (.slice (some ⟨g, o, none⟩) at_ cap)).run Tryz.prog w.drew = .ok (tpCells (l.take at_)).toArray w.drew := by
    rw [hzs]
    exact run_firstCells_some w.drew 3 at_ ⟨g, o, none⟩ at_ cap _ (by rw [tpCells_len, List.length_take, ← hn, Nat.min_eq_left hat]) (fun j v hj => by
      rw [htl, List.getElem?_take] at hj
      split at hj
      · next hjl =>
        have h2 : at_ * 3 ≤ n * 3 := Nat.mul_le_mul_right 3 hat
        have := hr j (by omega)
        rw [Addr.add_lit]
        exact this.trans hj
      · simp at hj)
  have hu3 : Tryz.prog.underlying 3 = some (.int .i64) := by kernel_rfl
  have hrz := fun ty => Lib.run_append_grow_zeros w 227 3 ty 251 i0 _ .i64 .i64 under_tuples hu3 hi0 hz0 (some ⟨g, o, none⟩) at_ cap _ hold k (by omega) (by omega) (by omega) (by omega) (by rw [hzb]; omega) (by rw [hzb, hk]; exact growslice_fits hc (by omega))
  rw [hk] at hrz
  have hG1 := grownCap_ge w (n + 1) cap 251
  have hG2 := grownCap_le_maxLen w (n + 1) cap 251 (by unfold maxLen; omega)
  refine ⟨grownCap w (n + 1) cap 251, _, _, fun ty x hx => by subst hx; exact hrz ty, Blk.alloc_new w.drew _ _, ?_, ?_, hG1, hG2, (Chg.drew (Chg.refl [] w)).alloc _⟩
  · have hlen : (tpCells (l.take at_)).length = at_ * 3 := by rw [tpCells_len, List.length_take, ← hn, Nat.min_eq_left hat]
    simp only [Array.toList_append, List.append_assoc]
    rw [← hlen]
    exact List.take_left
  · have hlen : (tpCells (l.take at_)).length = at_ * 3 := by rw [tpCells_len, List.length_take, ← hn, Nat.min_eq_left hat]
    have hz : (Value.agg #[.int .i64 0, .int .u64 0, .int .u64 0]).cells.size = 3 := rfl
    simp only [Array.size_append, List.size_toArray, size_zeroCells, hz, hlen]
    omega

set_option maxRecDepth 100000 in
set_option maxHeartbeats 1000000 in
theorem insert_tuple (w : World) (ao : Option Addr) (cap : Nat) (l : List Tp) (at_ : Nat) (hat : at_ ≤ l.length) (p : Tp) (vb : Nat) (hl : l.length ≤ 100000)
    (ho : Own w 251 3 (.slice ao l.length cap) l.length (tpCells l)) (hv : Blk w vb #[.int .i64 p.x, .int .u64 p.st, .int .u64 p.sl] 251) (hvb : vb ∉ abl ao) :
    Calls Tryz.prog 355 #[.slice ao l.length cap, .int .i64 at_, .slice (some ⟨vb, 0, none⟩) 1 1] w fun e w' => ∃ a3 c3, e = .returned (.slice a3 (l.length + 1) c3) ∧
      Own w' 251 3 (.slice a3 (l.length + 1) c3) (l.length + 1) (tpCells (l.take at_ ++ [p] ++ l.drop at_)) ∧ Chg (abl ao) w w' ∧ ∀ b ∈ abl a3, b ∈ abl ao ∨ w.heap.size ≤ b := by
  have hvr : Rd w 3 (.slice (some ⟨vb, 0, none⟩) 1 1) 1 (tpCells [p]) := ⟨rfl, _, _, rfl, .inr ⟨_, _, rfl, fun j hj => by
    rw [Nat.zero_add, hv.cell j]
    simp [tpCells, Tp.cells]⟩⟩
  go_enter Tryz.func355, Tryz.ntmps355
  have hb1 : ((at_ : Nat) : Int) ≤ (l.length : Int) := by omega
  have hb0 : (0 : Int) ≤ ((at_ : Nat) : Int) := by omega
  obtain ⟨hlen, ⟨hv0, h0⟩ | ⟨g, o, cp, cur, hv1, hg, hnc, hm, hsz, hxs⟩⟩ := id ho
  · obtain rfl : l = [] := List.eq_nil_of_length_eq_zero h0
    obtain rfl : at_ = 0 := by simpa using hat
    simp only [Value.slice.injEq] at hv0
    obtain ⟨rfl, _, rfl⟩ := hv0
    have ho' : Own w 251 3 (.slice none 0 0) 0 (tpCells []) := ho
    clear ho hlen
    go_wp2_with (at_builtin; go_must (refine wpList_append_src _ rfl (.tmp 23) (.tmp 24) 227 227 rfl 251 _ 3 24 under_tuples info_tuple rfl (by decide) (.slice none 0 0) 0 (tpCells []) rfl ho' (.slice (some ⟨vb, 0, none⟩) 1 1) 1 (tpCells [p]) rfl (Src.of_rd under_tuples hvr) (tpCells_oneCell _) (by decide) (by decide) ?_; intro a3 c3 w7 ho7 hg7 hf7))
    go_ret
    exact ⟨a3, c3, rfl, by simpa [tpCells] using ho7, by simpa using hg7, by simpa using hf7⟩
  · simp only [Value.slice.injEq, true_and] at hv1
    obtain ⟨rfl, rfl⟩ := hv1
    by_cases hend : at_ = l.length
    · subst hend
      have hsame : tpCells (l.take l.length ++ [p] ++ l.drop l.length) = tpCells l ++ tpCells [p] := by rw [List.take_length, List.drop_length, List.append_nil, tpCells_append]
      rw [hsame]
      clear hsame
      have HH := Lib.hid (And.intro hg (And.intro hxs hsz))
      clear hg hxs hsz hlen
      by_cases hcl : cap = l.length
      · have hcl2 := hcl
        go_wp2_with (at_builtin; go_must (refine wpList_append_src _ rfl (.tmp 23) (.tmp 24) 227 227 rfl 251 _ 3 24 under_tuples info_tuple rfl (by decide) (.slice (some ⟨g, o, none⟩) l.length cap) l.length (tpCells l) rfl ho (.slice (some ⟨vb, 0, none⟩) 1 1) 1 (tpCells [p]) rfl (Src.of_rd under_tuples hvr) (tpCells_oneCell _) (by unfold maxLen; omega) (by omega) ?_; intro a3 c3 w7 ho7 hg7 hf7))
        go_ret
        exact ⟨a3, c3, rfl, ho7, by simpa using hg7, by simpa using hf7⟩
      · go_wp2_with (at_builtin; go_must (refine wpList_append_src _ rfl (.tmp 23) (.tmp 24) 227 227 rfl 251 _ 3 24 under_tuples info_tuple rfl (by decide) (.slice (some ⟨g, o, none⟩) l.length cap) l.length (tpCells l) rfl ho (.slice (some ⟨vb, 0, none⟩) 1 1) 1 (tpCells [p]) rfl (Src.of_rd under_tuples hvr) (tpCells_oneCell _) (by unfold maxLen; omega) (by omega) ?_; intro a3 c3 w7 ho7 hg7 hf7))
        go_ret
        exact ⟨a3, c3, rfl, ho7, by simpa using hg7, by simpa using hf7⟩
    · have hlt : at_ < l.length := by omega
      have hvs : w.shape? vb = some (251, 3) := by
        have h := hv
        simp only [Blk] at h
        simp [World.shape?, h]
      have hgs : w.shape? g = some (251, cur.size) := by simp [World.shape?, hg]
      have hvg : vb ≠ g := fun h => hvb (by simp [h])
      have hov : ∀ off lb cb, (callFunc 369 #[.slice (some ⟨vb, 0, none⟩) 1 1, .slice (some ⟨g, off, none⟩) lb cb]).run Tryz.prog w = .ok (.value (.bool false)) w := fun off lb cb => by
        rw [run_callFunc_extern Tryz.func369 (by kernel_rfl) (by kernel_rfl) (by kernel_rfl) (e := Extern.SlicesOverlaps.overlaps #[227, 227] #[4]) (by kernel_rfl),
          Lib.run_overlaps_apart w 227 4 251 under_tuples 3 sizeOf_tuple ⟨vb, 0, none⟩ ⟨g, off, none⟩ 1 1 lb cb hvg 251 251 3 cur.size hvs hgs (by omega) (hv.free 0) (hv.free 3)]
        rfl
      have hne : (at_ : Int) ≠ (l.length : Int) := by omega
      have hsplit : tpCells l = tpCells (l.take at_) ++ tpCells (l.drop at_) := by rw [← tpCells_append, List.take_append_drop]
      have hA : (tpCells (l.take at_)).length = at_ * 3 := by rw [tpCells_len, List.length_take, Nat.min_eq_left hat]
      have hB : (tpCells (l.drop at_)).length = (l.length - at_) * 3 := by rw [tpCells_len, List.length_drop]
      have hw1 : IntKind.i64.wrap ((at_ : Int) + 1) = (at_ : Int) + 1 := by rw [IntKind.wrap_i64]; omega
      have htn : ((at_ : Int) + 1).toNat = at_ + 1 := by omega
      have hp1 : (0 : Int) ≤ (at_ : Int) + 1 := by omega
      have hp2 : (at_ : Int) ≤ (l.length : Int) + 1 := by omega
      have hbk : Blk w g cur 251 := hg
      have hcell0 : ∀ j, j < l.length * 3 → w.cell? ⟨g, o + j, none⟩ = (tpCells l)[j]? := fun j hj => by
        rw [hbk.cell (o + j), ← hxs, List.getElem?_take, if_pos hj, List.getElem?_drop, Array.getElem?_toList]
      by_cases hroom : cap < l.length + 1
      · have hd : decide ((cap : Int) < (l.length : Int) + 1) = true := decide_eq_true (by omega)
        obtain ⟨G, ROW, w1, hrz, hb1', hR1, hR2, hG1, hG2, hch1⟩ := app_zerosT w g o cap l.length (l.length + 1 - at_) at_ l rfl hat hcell0 (by omega) hnc hroom hl
        have hsub : (l.length : Int) + 1 - (at_ : Int) = ((l.length + 1 - at_ : Nat) : Int) := by omega
        have hc1 : ¬ (cap = at_) := by omega
        have hc2 : ¬ (G = at_) := by omega
        have hc3 : ¬ (G = at_ + 1) := by omega
        clear hov hvs hgs
        have hgl := hbk.lt
        have hvl := hv.lt
        have hv1 := Blk.chg hv hch1 (by simp)
        have hpv : ∀ j v, (tpCells [p])[j]? = some v → w1.cell? ((⟨vb, 0, none⟩ : Addr).add j) = some v := fun j v hj => by
          rw [Addr.add_lit, Nat.zero_add, hv1.cell j, ← hj]
          simp [tpCells, Tp.cells]
        have hRl : ROW.toList.length = G * 3 := by simpa using hR2
        have hR := grow_rows 3 ROW.toList (tpCells (l.take at_)) (tpCells (l.drop at_)) (tpCells [p]) (at_ * 3) ((l.length - at_) * 3) hA hB rfl hR1 (by omega)
        obtain ⟨w2, hcp1, hb2, hch2⟩ := copy_blkT w1 w.heap.size (at_ * 3) (l.length + 1 - at_) (G - at_) ROW hb1' ⟨vb, 0, none⟩ 1 1 1 (tpCells [p]) (by show _ = min _ _; omega) rfl hpv (by show _ + 3 ≤ _; omega) (tpCells_oneCell _)
        obtain ⟨hRa, hRb, hRc⟩ := hR
        rw [show (tpCells [p]).length = 3 from rfl] at hb2
        generalize (ROW.toList.take (at_ * 3) ++ tpCells [p] ++ ROW.toList.drop (at_ * 3 + 3)) = R2 at *
        have hch02 : Chg [] w w2 := hch1.trans' hch2 (by simp)
        have hbk2 := Blk.chg hbk hch02 (by simp)
        have hcell : ∀ j v, (tpCells (l.drop at_))[j]? = some v → w2.drew.cell? ((⟨g, o + at_ * 3, none⟩ : Addr).add j) = some v := fun j v hj => by
          have hjl : j < (tpCells (l.drop at_)).length := (List.getElem?_eq_some_iff.1 hj).1
          have h1 : (tpCells l)[at_ * 3 + j]? = some v := by
            rw [hsplit, List.getElem?_append_right (by omega), hA, Nat.add_sub_cancel_left]
            exact hj
          rw [← hxs, List.getElem?_take, if_pos (by omega), List.getElem?_drop] at h1
          rw [Addr.add_lit]
          have h3 := hbk2.cell (o + at_ * 3 + j)
          rw [← Array.getElem?_toList, Nat.add_assoc] at h3
          show w2.cell? _ = _
          rw [Nat.add_assoc, h3]
          exact h1
        obtain ⟨w3, hcp2, hb3, hch3⟩ := copy_blkT w2.drew w.heap.size ((at_ + 1) * 3) (l.length - at_) (G - (at_ + 1)) R2.toArray hb2 ⟨g, o + at_ * 3, none⟩ (l.length - at_) (cap - at_) (l.length - at_) (tpCells (l.drop at_)) (by show _ = min _ _; omega) hB hcell (by have h9 : R2.toArray.size = R2.length := List.size_toArray; omega) (tpCells_oneCell _)
        have hch : Chg [] w w3 := hch02.drew.trans' hch3 (by simp)
        rw [show (at_ + 1) * 3 = at_ * 3 + 3 from by omega, hB] at hb3
        have hfin : Own w3 251 3 (.slice (some ⟨w.heap.size, 0, none⟩) (l.length + 1) G) (l.length + 1) (tpCells (l.take at_ ++ [p] ++ l.drop at_)) := by
          refine ⟨by rw [tpCells_len]; simp; omega, .inr ⟨w.heap.size, 0, G, _, rfl, hb3, by omega, hG2, ?_, ?_⟩⟩
          · simp only [List.size_toArray]
            rw [hRb, hRl]
            omega
          · simp only [List.drop_zero]
            rw [tpCells_append, tpCells_append, ← hRc]
            congr 1
            omega
        have HF := Lib.hid (And.intro hfin hch)
        have HZ := Lib.hid hrz
        clear hfin hch hb3 hRa hRb hRc hb2 hsplit hA hB hcell hpv hxs hg hcell0 hR1 hR2 hb1' hbk2 hbk hrz
        go_wp2_with (first
          | (at_builtin; go_must (refine wpList_append_runK rfl _ _ 227 3 rfl _ _ rfl rfl (HZ.out _ _ rfl) ?_))
          | (at_builtin; go_must (refine wpList_copy_rowK rfl _ _ 227 227 rfl _ _ rfl rfl (hcp1 _) ?_)))
        go_region_law (refine step_copy_rowK rfl _ _ 227 227 rfl _ _ (by simp [Act.eval, Act.put]) (by simp [Act.eval, Act.put]) (hcp2 _) ?_)
        go_wp2
        go_ret
        exact ⟨_, _, rfl, HF.out.1, by simpa using HF.out.2.nil, fun b hb => .inr (by simp at hb; omega)⟩
      · have hd : decide ((cap : Int) < (l.length : Int) + 1) = false := decide_eq_false (by omega)
        have hc1 : ¬ (cap = at_) := by omega
        have hc2 : ¬ (cap = at_ + 1) := by omega
        go_wp2_with (simp only [hov])
        have hcell : ∀ j v, (tpCells (l.drop at_))[j]? = some v → w.drew.cell? ((⟨g, o + at_ * 3, none⟩ : Addr).add j) = some v := fun j v hj => by
          have hjl : j < (tpCells (l.drop at_)).length := (List.getElem?_eq_some_iff.1 hj).1
          have h1 : (tpCells l)[at_ * 3 + j]? = some v := by
            rw [hsplit, List.getElem?_append_right (by omega), hA, Nat.add_sub_cancel_left]
            exact hj
          rw [← hxs, List.getElem?_take, if_pos (by omega), List.getElem?_drop] at h1
          rw [Addr.add_lit]
          have h2 : Blk w g cur 251 := hg
          have h3 := h2.cell (o + at_ * 3 + j)
          rw [← Array.getElem?_toList, Nat.add_assoc] at h3
          show w.cell? _ = _
          rw [Nat.add_assoc, h3]
          exact h1
        obtain ⟨w2, hcp1, hb2, hch2⟩ := copy_blkT w.drew g (o + (at_ + 1) * 3) (l.length - at_) (cap - (at_ + 1)) cur hg ⟨g, o + at_ * 3, none⟩ (l.length + 1 - at_) (cap - at_) (l.length - at_) (tpCells (l.drop at_)) (by show _ = min _ _; omega) hB hcell (by omega) (tpCells_oneCell _)
        go_region_law (refine step_copy_rowK rfl _ _ 227 227 rfl _ _ (by simp [Act.eval, Act.put]) (by simp [Act.eval, Act.put]) (hcp1 _) ?_)
        have hR := shift_rows 3 cur.toList (tpCells (l.take at_)) (tpCells (l.drop at_)) (tpCells [p]) o (at_ * 3) ((l.length - at_) * 3) (cap * 3) hA hB rfl (by rw [← hsplit, ← hxs]; congr 1; omega) (by rw [Array.length_toList]; exact hsz) (by omega)
        rw [show (at_ + 1) * 3 = at_ * 3 + 3 from by omega, hB] at hb2
        obtain ⟨hR2, hR3, hRX⟩ := hR
        generalize (cur.toList.take (o + (at_ * 3 + 3)) ++ tpCells (l.drop at_) ++ cur.toList.drop (o + (at_ * 3 + 3) + (l.length - at_) * 3)) = R2 at *
        have hv2 := Blk.chg (Blk.drew hv) hch2 (by simpa using hvg)
        have hpv : ∀ j v, (tpCells [p])[j]? = some v → w2.cell? ((⟨vb, 0, none⟩ : Addr).add j) = some v := fun j v hj => by
          rw [Addr.add_lit, Nat.zero_add, hv2.cell j, ← hj]
          simp [tpCells, Tp.cells]
        obtain ⟨w3, hcp2, hb3, hch3⟩ := copy_blkT w2 g (o + at_ * 3) (l.length + 1 - at_) (cap - at_) R2.toArray hb2 ⟨vb, 0, none⟩ 1 1 1 (tpCells [p]) (by show _ = min _ _; omega) rfl hpv (by simp only [List.size_toArray, hR2, Array.length_toList]; show _ + 3 ≤ _; omega) (tpCells_oneCell _)
        have hch : Chg [g] w w3 := ((Chg.drew (Chg.refl [g] w)).trans hch2).trans hch3
        have hfin : Own w3 251 3 (.slice (some ⟨g, o, none⟩) (l.length + 1) cap) (l.length + 1) (tpCells (l.take at_ ++ [p] ++ l.drop at_)) := by
          refine ⟨by rw [tpCells_len]; simp; omega, .inr ⟨g, o, cap, _, rfl, hb3, by omega, hm, ?_, ?_⟩⟩
          · simp only [List.size_toArray]
            show _ ≤ (R2.take (o + at_ * 3) ++ tpCells [p] ++ R2.drop (o + at_ * 3 + 3)).length
            rw [hR3, Array.length_toList]
            exact hsz
          · show (List.drop o (R2.take (o + at_ * 3) ++ tpCells [p] ++ R2.drop (o + at_ * 3 + 3))).take _ = _
            rw [tpCells_append, tpCells_append, ← hRX]
            congr 1
            omega
        have HF := Lib.hid (And.intro hfin hch)
        clear hfin hch hb3 hcp1 hR3 hRX hR2 hb2 hsplit hA hB hcell hpv hxs hg hgs hvs hov
        go_wp2_with (at_builtin; go_must (refine wpList_copy_rowK rfl _ _ 227 227 rfl _ _ rfl rfl (hcp2 _) ?_))
        go_ret
        exact ⟨_, _, rfl, HF.out.1, by simpa using HF.out.2, fun b hb => .inl hb⟩
end Go.Proofs.YtmehcfocfljoeaaGreatDoor
