/-
  Rows of pairs: their cells. Conditions: none.
-/
import Derived.Test.YtgnbabkafobeoaaProg
import Derived.Test.YtgnbabkafobeoaaBase
namespace Go.Proofs.Ytgnbabkafobeoaa
open Go.RowKit

structure Pr where
  i : Int
  c : Nat
def Pr.cells (p : Pr) : List Value := [.int .i64 p.i, .int .u64 p.c]
def Pr.ok (p : Pr) : Prop := -9223372036854775808 ≤ p.i ∧ p.i < 9223372036854775808 ∧ p.c < 18446744073709551616
instance : Inhabited Pr := ⟨⟨0, 0⟩⟩
def prCells (l : List Pr) : List Value := (l.map Pr.cells).flatten
theorem prCells_len (l : List Pr) : (prCells l).length = l.length * 2 := by
  induction l with
  | nil => rfl
  | cons a r ih => simp only [prCells, List.map_cons, List.flatten_cons, List.length_append, List.length_cons] at *; rw [ih]; simp [Pr.cells]; omega
theorem prCells_append (a b : List Pr) : prCells (a ++ b) = prCells a ++ prCells b := by simp [prCells]
theorem prCells_get (l : List Pr) (k j : Nat) (hk : k < l.length) (hj : j < 2) : (prCells l)[k * 2 + j]? = (l[k].cells)[j]? := by
  induction l generalizing k with
  | nil => simp at hk
  | cons a r ih =>
    cases k with
    | zero =>
      simp only [prCells, List.map_cons, List.flatten_cons, Nat.zero_mul, Nat.zero_add, List.getElem_cons_zero]
      rw [List.getElem?_append_left (by simpa [Pr.cells] using hj)]
    | succ k =>
      have := ih k (by simpa using hk)
      simp only [prCells, List.map_cons, List.flatten_cons, List.getElem_cons_succ] at *
      rw [List.getElem?_append_right (by simp [Pr.cells]; omega), ← this]
      congr 1
      simp [Pr.cells]
      omega
theorem pr_at {w : World} {b o k : Nat} {l : List Pr} (hc : ∀ j, j < l.length * 2 → w.cell? ⟨b, o + j, none⟩ = (prCells l)[j]?) (h : k < l.length) :
    w.cell? ⟨b, o + k * 2, none⟩ = some (.int .i64 l[k].i) ∧ w.cell? ⟨b, o + k * 2 + 1, none⟩ = some (.int .u64 l[k].c) := by
  have g : ∀ j, j < 2 → w.cell? ⟨b, o + k * 2 + j, none⟩ = (l[k].cells)[j]? := fun j hj => by
    rw [← prCells_get l k j h hj, ← hc (k * 2 + j) (by omega), Nat.add_assoc]
  exact ⟨g 0 (by omega), g 1 (by omega)⟩
theorem prCells_oneCell (l : List Pr) : ∀ y ∈ prCells l, y.oneCell' = true := by
  intro y hy
  simp only [prCells, List.mem_flatten, List.mem_map] at hy
  obtain ⟨x, ⟨i, _, rfl⟩, hy⟩ := hy
  simp only [Pr.cells, List.mem_cons, List.not_mem_nil, or_false] at hy
  rcases hy with rfl | rfl <;> rfl

theorem under_pairs : Try.prog.underlying 48 = some (.slice 53) := by kernel_rfl
theorem info_pair : (Try.prog.info? 53).map (fun i => (i.zero, i.size, i.bytes)) = some (some (.agg #[.int .i64 0, .int .u64 0]), 2, 16) := by kernel_rfl
def totP (l : List Pr) : Nat := (l.map Pr.c).sum
theorem totP_cons (p : Pr) (l : List Pr) : totP (p :: l) = p.c + totP l := by simp [totP]
theorem totP_app (a b : List Pr) : totP (a ++ b) = totP a + totP b := by simp [totP]
theorem mem_tot {l : List Pr} {p : Pr} (h : p ∈ l) : p.c ≤ totP l := by
  induction l with
  | nil => simp at h
  | cons q l ih =>
    rw [totP_cons]
    rcases List.mem_cons.1 h with rfl | h
    · omega
    · have := ih h; omega
theorem take_tot (l : List Pr) (k : Nat) : totP (l.take k) ≤ totP l := by
  conv => rhs; rw [← List.take_append_drop k l, totP_app]
  omega
/-- May a row be: indexes that rise, counts from 1 to 2^63 - 1. -/
def goodTo (l : List Pr) (k : Nat) : Bool := (List.range k).all fun j => decide (1 ≤ (l.getD j default).c ∧ (l.getD j default).c ≤ 9223372036854775807 ∧ (0 < j → (l.getD (j - 1) default).i < (l.getD j default).i))
def goodP (l : List Pr) : Bool := goodTo l l.length
theorem goodTo_succ (l : List Pr) (k : Nat) : goodTo l (k + 1) = (goodTo l k && decide (1 ≤ (l.getD k default).c ∧ (l.getD k default).c ≤ 9223372036854775807 ∧ (0 < k → (l.getD (k - 1) default).i < (l.getD k default).i))) := by
  simp [goodTo, List.range_succ]
theorem goodTo_false {l : List Pr} {k m : Nat} (h : goodTo l k = false) (hm : k ≤ m) : goodTo l m = false := by
  induction m with
  | zero => rw [show k = 0 from by omega] at h; exact h
  | succ m ih =>
    rcases Nat.lt_or_ge m k with h1 | h1
    · obtain rfl : k = m + 1 := by omega
      exact h
    · rw [goodTo_succ, ih h1]; rfl
end Go.Proofs.Ytgnbabkafobeoaa
