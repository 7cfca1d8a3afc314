/-
  Rows of int64: their cells. Conditions: none.
-/
import Derived.Test.YtbaobiniianamaaProg
import Derived.Test.YtbaobiniianamaaBase2
namespace Go.Proofs.Ytbaobiniianamaa
open Go.RowKit

def ints (l : List Int) : List Value := l.map fun u : Int => Value.int .i64 u
@[simp] theorem ints_length (l : List Int) : (ints l).length = l.length := by simp [ints]
theorem ints_append (a b : List Int) : ints (a ++ b) = ints a ++ ints b := by simp [ints]
theorem ints_oneCell (l : List Int) : ∀ y ∈ ints l, y.oneCell' = true := by
  intro y hy
  simp only [ints, List.mem_map] at hy
  obtain ⟨u, _, rfl⟩ := hy
  rfl
theorem ints_at {w : World} {b o : Nat} {l : List Int} (hc : ∀ j, j < l.length * 1 → w.cell? ⟨b, o + j, none⟩ = (ints l)[j]?) (k : Nat) (h : k < l.length) : w.cell? ⟨b, o + k, none⟩ = some (.int .i64 l[k]) := by
  rw [hc k (by omega)]
  simp [ints, h]
theorem under_ints : Try.prog.underlying 22 = some (.slice 2) := by kernel_rfl
theorem info_i64 : (Try.prog.info? 2).map (fun i => (i.zero, i.size, i.bytes)) = some (some (.int .i64 0), 1, 8) := by kernel_rfl

theorem ints_take (l : List Int) (u j : Nat) (h : j < u) : (ints (l.take u))[j]? = (ints l)[j]? := by
  simp [ints, h]
theorem ints_drop (l : List Int) (u j : Nat) : (ints (l.drop u))[j]? = (ints l)[u + j]? := by
  simp [ints, List.getElem?_drop]
end Go.Proofs.Ytbaobiniianamaa
