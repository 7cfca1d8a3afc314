/-
  How fractions are opened. Conditions: the form's own reach.
-/
import Derived.Test.YtkcldhimjnehdaaProg
import Derived.Test.YtkcldhimjnehdaaRanges
import Derived.Test.YtkcldhimjnehdaaLawBase
import Derived.Lib.SmallJoins
namespace Go.Proofs.Ytkcldhimjnehdaa
open Go.ChangeShapes Go.WideShapes Go.ChangeAt Go.RowKit

theorem cells_ratio : Try.prog.cellsOf 25 = 2 := by kernel_rfl
section
variable {H : Type} {enc : TypeId × Value → H} {W : World}
set_option maxRecDepth 100000 in
theorem ratio_open {v : Value} {d : DataW H} {ps : List MemPlace} {r : Reach} {b0 : Nat} (hval : Value.okWide Try.prog W r b0 25 v)
    (hd : DataW.Trod enc Try.prog W 0 (fun _ => true) true 25 v d ps) :
    ∃ num den : Nat, v = .agg #[.int .u64 num, .int .u64 den] ∧ num < 18446744073709551616 ∧ den < 18446744073709551616 := by
  obtain ⟨v0, v1, y0, y1, n, rfl, _, _, h0, h1⟩ := Go.Joins.open_agg2 Try.underlying25 (by kernel_rfl) cells_ratio hval hd
  obtain ⟨u, e0, _, w0⟩ := DataW.trod_int Try.underlying23 h0
  obtain ⟨k, e1, _, w1⟩ := DataW.trod_int Try.underlying23 h1
  simp only [List.cons.injEq, and_true] at e0 e1
  subst e0 e1
  have r0 := u64_range w0
  have r1 := u64_range w1
  obtain ⟨u, rfl⟩ := Int.eq_ofNat_of_zero_le r0.1
  obtain ⟨k, rfl⟩ := Int.eq_ofNat_of_zero_le r1.1
  exact ⟨u, k, rfl, by omega, by omega⟩
end
end Go.Proofs.Ytkcldhimjnehdaa
