/-
  How a digest's settings are opened. Conditions: the form's own reach.
-/
import Derived.Test.YtgnbabkafobeoaaPrBase
import Derived.Test.YtgnbabkafobeoaaRanges
import Derived.Test.YtgnbabkafobeoaaLawBase
import Derived.Lib.SmallJoins
namespace Go.Proofs.Ytgnbabkafobeoaa
open Go.ChangeShapes Go.WideShapes Go.ChangeAt Go.RowKit

theorem cells_dcfg : Try.prog.cellsOf 23 = 2 := by kernel_rfl
section
variable {H : Type} {enc : TypeId × Value → H} {W : World}
set_option maxRecDepth 100000 in
theorem dcfg_open {v : Value} {d : DataW H} {ps : List MemPlace} {r : Reach} {b0 : Nat} (hval : Value.okWide Try.prog W r b0 23 v)
    (hd : DataW.Trod enc Try.prog W 0 (fun _ => true) true 23 v d ps) :
    ∃ (a b : Int), v = .agg #[.int .i64 a, .int .i64 b] ∧ -9223372036854775808 ≤ a ∧ a < 9223372036854775808 ∧ -9223372036854775808 ≤ b ∧ b < 9223372036854775808 := by
  obtain ⟨v0, v1, y0, y1, n, rfl, _, _, h0, h1⟩ := Go.Joins.open_agg2 Try.underlying23 (by kernel_rfl) cells_dcfg hval hd
  obtain ⟨u, e0, _, w0⟩ := DataW.trod_int Try.underlying3 h0
  obtain ⟨k, e1, _, w1⟩ := DataW.trod_int Try.underlying3 h1
  simp only [List.cons.injEq, and_true] at e0 e1
  subst e0 e1
  have r0 := i64_range w0
  have r1 := i64_range w1
  exact ⟨u, k, rfl, r0.1, r0.2, r1.1, r1.2⟩
end
end Go.Proofs.Ytgnbabkafobeoaa
