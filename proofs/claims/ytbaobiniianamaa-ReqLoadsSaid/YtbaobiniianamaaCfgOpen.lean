/-
  How a tower's settings are opened. Conditions: the form's own reach.
-/
import Derived.Test.YtbaobiniianamaaCoinsHalve
import Derived.Test.YtbaobiniianamaaRanges
import Derived.Test.YtbaobiniianamaaLawBase
import Derived.Lib.SmallJoins
namespace Go.Proofs.Ytbaobiniianamaa
open Go.ChangeShapes Go.WideShapes Go.ChangeAt Go.RowKit

theorem cells_cfg : Try.prog.cellsOf 37 = 2 := by kernel_rfl
section
variable {H : Type} {enc : TypeId × Value → H} {W : World}
set_option maxRecDepth 100000 in
theorem cfg_open {v : Value} {d : DataW H} {ps : List MemPlace} {r : Reach} {b0 : Nat} (hval : Value.okWide Try.prog W r b0 37 v)
    (hd : DataW.Trod enc Try.prog W 0 (fun _ => true) true 37 v d ps) :
    ∃ (w : Int) (word : Nat), v = .agg #[.int .i64 w, .int .u64 word] ∧ word < 18446744073709551616 := by
  obtain ⟨v0, v1, y0, y1, n, rfl, _, _, h0, h1⟩ := Go.Joins.open_agg2 Try.underlying37 (by kernel_rfl) cells_cfg hval hd
  obtain ⟨u, e0, _, w0⟩ := DataW.trod_int Try.underlying3 h0
  obtain ⟨k, e1, _, w1⟩ := DataW.trod_int Try.underlying35 h1
  simp only [List.cons.injEq, and_true] at e0 e1
  subst e0 e1
  have r1 := u64_range w1
  obtain ⟨k, rfl⟩ := Int.eq_ofNat_of_zero_le r1.1
  exact ⟨u, k, rfl, by omega⟩
end
end Go.Proofs.Ytbaobiniianamaa
