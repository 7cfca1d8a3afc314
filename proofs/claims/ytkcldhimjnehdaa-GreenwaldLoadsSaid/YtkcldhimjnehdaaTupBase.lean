/-
  Rows of tuples: their cells. Conditions: none.
-/
import Derived.Test.YtkcldhimjnehdaaProg
import Derived.Test.YtkcldhimjnehdaaBase
import Derived.Test.YtkcldhimjnehdaaPlainTuples
namespace Go.Proofs.Ytkcldhimjnehdaa
open Go.RowKit

def Tp.cells (p : Tp) : List Value := [.int .i64 p.x, .int .u64 p.st, .int .u64 p.sl]
def Tp.ok (p : Tp) : Prop := -9223372036854775808 ≤ p.x ∧ p.x < 9223372036854775808 ∧ p.st < 18446744073709551616 ∧ p.sl < 18446744073709551616
def tpCells (l : List Tp) : List Value := (l.map Tp.cells).flatten
theorem tpCells_len (l : List Tp) : (tpCells l).length = l.length * 3 := by
  induction l with
  | nil => rfl
  | cons a r ih => simp only [tpCells, List.map_cons, List.flatten_cons, List.length_append, List.length_cons] at *; rw [ih]; simp [Tp.cells]; omega
theorem tpCells_append (a b : List Tp) : tpCells (a ++ b) = tpCells a ++ tpCells b := by simp [tpCells]
theorem tpCells_get (l : List Tp) (k j : Nat) (hk : k < l.length) (hj : j < 3) : (tpCells l)[k * 3 + j]? = (l[k].cells)[j]? := by
  induction l generalizing k with
  | nil => simp at hk
  | cons a r ih =>
    cases k with
    | zero =>
      simp only [tpCells, List.map_cons, List.flatten_cons, Nat.zero_mul, Nat.zero_add, List.getElem_cons_zero]
      rw [List.getElem?_append_left (by simpa [Tp.cells] using hj)]
    | succ k =>
      have := ih k (by simpa using hk)
      simp only [tpCells, List.map_cons, List.flatten_cons, List.getElem_cons_succ] at *
      rw [List.getElem?_append_right (by simp [Tp.cells]; omega), ← this]
      congr 1
      simp [Tp.cells]
      omega
theorem tp_at {w : World} {b o k : Nat} {l : List Tp} (hc : ∀ j, j < l.length * 3 → w.cell? ⟨b, o + j, none⟩ = (tpCells l)[j]?) (h : k < l.length) :
    w.cell? ⟨b, o + k * 3, none⟩ = some (.int .i64 l[k].x) ∧ w.cell? ⟨b, o + k * 3 + 1, none⟩ = some (.int .u64 l[k].st) ∧ w.cell? ⟨b, o + k * 3 + 2, none⟩ = some (.int .u64 l[k].sl) := by
  have g : ∀ j, j < 3 → w.cell? ⟨b, o + k * 3 + j, none⟩ = (l[k].cells)[j]? := fun j hj => by
    rw [← tpCells_get l k j h hj, ← hc (k * 3 + j) (by omega), Nat.add_assoc]
  exact ⟨g 0 (by omega), g 1 (by omega), g 2 (by omega)⟩
theorem tpCells_oneCell (l : List Tp) : ∀ y ∈ tpCells l, y.oneCell' = true := by
  intro y hy
  simp only [tpCells, List.mem_flatten, List.mem_map] at hy
  obtain ⟨x, ⟨i, _, rfl⟩, hy⟩ := hy
  simp only [Tp.cells, List.mem_cons, List.not_mem_nil, or_false] at hy
  rcases hy with rfl | rfl | rfl <;> rfl
theorem under_tuples : Try.prog.underlying 22 = some (.slice 28) := by kernel_rfl
theorem info_tuple : (Try.prog.info? 28).map (fun i => (i.zero, i.size, i.bytes)) = some (some (.agg #[.int .i64 0, .int .u64 0, .int .u64 0]), 3, 24) := by kernel_rfl
end Go.Proofs.Ytkcldhimjnehdaa
