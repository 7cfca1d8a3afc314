/-
  How a row of int64 is opened. Conditions: the form's own reach.
-/
import Derived.Test.YtkcldhimjnehdaaSteps
import Derived.Test.YtkcldhimjnehdaaRanges
import Derived.Lib.SmallJoins
namespace Go.Proofs.Ytkcldhimjnehdaa
open Go.ChangeShapes Go.WideShapes Go.ChangeAt Go.RowKit

theorem cells_i64 : Try.prog.cellsOf 2 = 1 := by kernel_rfl
theorem bytes_i64 : Try.prog.bytesOf 2 = 8 := by kernel_rfl
theorem ints_flat (a : List Int) : (a.map fun k : Int => [Value.int .i64 k]).flatten = ints a := by
  induction a with
  | nil => rfl
  | cons x a ih => rw [List.map_cons, List.flatten_cons, ih]; rfl
section
variable {H : Type} {enc : TypeId × Value → H} {W : World}
set_option maxRecDepth 100000 in
theorem ints_open {v : Value} {d : DataW H} {ps : List MemPlace} {r : Reach} {b0 : Nat} (hval : Value.okWide Try.prog W r b0 61 v)
    (hd : DataW.Trod enc Try.prog W 0 (fun _ => true) true 61 v d ps) (hr : Reached Try.prog 61 d) :
    ∃ (ao : Option Addr) (cap : Nat) (a : List Int), v = .slice ao a.length cap ∧ Rd W 1 (.slice ao a.length cap) a.length (ints a) ∧ a.length ≤ 140737488351232 := by
  obtain ⟨ao, cap, xs, rfl, h1, h2, h3, _, h4⟩ := open_rows Try.underlying61 hval hd hr (by rw [cells_i64]; omega)
  obtain ⟨a, rfl, ha⟩ := choose_list (f := fun k : Int => [Value.int .i64 k]) (p := fun _ => True) (fun x hx => by
    obtain ⟨_, n, y, hy, _⟩ := h4 x hx
    obtain ⟨k, e0, _, _⟩ := DataW.trod_int Try.underlying2 hy
    exact ⟨k, e0, trivial⟩)
  rw [cells_i64, ints_flat] at h1
  rw [bytes_i64] at h3
  rw [List.length_map] at *
  exact ⟨ao, cap, a, rfl, h1, by omega⟩
end
end Go.Proofs.Ytkcldhimjnehdaa
