/-
  Rows of spots, and of the reference's tuples: their cells. Conditions: none.
-/
import Derived.Test.YtkcldhimjnehdaaTupBase
namespace Go.Proofs.Ytkcldhimjnehdaa
open Go.RowKit

def Sp.cells (p : Sp) : List Value := [.int .i64 p.x, .int .u64 p.lo, .int .u64 p.hi]
def Sp.ok (p : Sp) : Prop := -9223372036854775808 ≤ p.x ∧ p.x < 9223372036854775808 ∧ p.lo < 18446744073709551616 ∧ p.hi < 18446744073709551616
def spCells (l : List Sp) : List Value := (l.map Sp.cells).flatten
theorem spCells_len (l : List Sp) : (spCells l).length = l.length * 3 := by
  induction l with
  | nil => rfl
  | cons a r ih => simp only [spCells, List.map_cons, List.flatten_cons, List.length_append, List.length_cons] at *; rw [ih]; simp [Sp.cells]; omega
theorem spCells_append (a b : List Sp) : spCells (a ++ b) = spCells a ++ spCells b := by simp [spCells]
theorem spCells_get (l : List Sp) (k j : Nat) (hk : k < l.length) (hj : j < 3) : (spCells l)[k * 3 + j]? = (l[k].cells)[j]? := by
  induction l generalizing k with
  | nil => simp at hk
  | cons a r ih =>
    cases k with
    | zero =>
      simp only [spCells, List.map_cons, List.flatten_cons, Nat.zero_mul, Nat.zero_add, List.getElem_cons_zero]
      rw [List.getElem?_append_left (by simpa [Sp.cells] using hj)]
    | succ k =>
      have := ih k (by simpa using hk)
      simp only [spCells, List.map_cons, List.flatten_cons, List.getElem_cons_succ] at *
      rw [List.getElem?_append_right (by simp [Sp.cells]; omega), ← this]
      congr 1
      simp [Sp.cells]
      omega
theorem sp_at {w : World} {b o k : Nat} {l : List Sp} (hc : ∀ j, j < l.length * 3 → w.cell? ⟨b, o + j, none⟩ = (spCells l)[j]?) (h : k < l.length) :
    w.cell? ⟨b, o + k * 3, none⟩ = some (.int .i64 l[k].x) ∧ w.cell? ⟨b, o + k * 3 + 1, none⟩ = some (.int .u64 l[k].lo) ∧ w.cell? ⟨b, o + k * 3 + 2, none⟩ = some (.int .u64 l[k].hi) := by
  have g : ∀ j, j < 3 → w.cell? ⟨b, o + k * 3 + j, none⟩ = (l[k].cells)[j]? := fun j hj => by
    rw [← spCells_get l k j h hj, ← hc (k * 3 + j) (by omega), Nat.add_assoc]
  exact ⟨g 0 (by omega), g 1 (by omega), g 2 (by omega)⟩
theorem spCells_oneCell (l : List Sp) : ∀ y ∈ spCells l, y.oneCell' = true := by
  intro y hy
  simp only [spCells, List.mem_flatten, List.mem_map] at hy
  obtain ⟨x, ⟨i, _, rfl⟩, hy⟩ := hy
  simp only [Sp.cells, List.mem_cons, List.not_mem_nil, or_false] at hy
  rcases hy with rfl | rfl | rfl <;> rfl
theorem under_spots : Try.prog.underlying 88 = some (.slice 108) := by kernel_rfl
theorem info_spot : (Try.prog.info? 108).map (fun i => (i.zero, i.size, i.bytes)) = some (some (.agg #[.int .i64 0, .int .u64 0, .int .u64 0]), 3, 24) := by kernel_rfl
theorem under_tuples2 : Try.prog.underlying 104 = some (.slice 121) := by kernel_rfl
theorem info_tuple2 : (Try.prog.info? 121).map (fun i => (i.zero, i.size, i.bytes)) = some (some (.agg #[.int .i64 0, .int .u64 0, .int .u64 0]), 3, 24) := by kernel_rfl
end Go.Proofs.Ytkcldhimjnehdaa
