/-
  How a row of values with counts is opened. Conditions: the form's own reach.
  How fractions are opened. Conditions: the form's own reach.
-/
import Derived.Test.YtgnbabkafobeoaaProg
import Derived.Test.YtgnbabkafobeoaaVals
import Derived.Test.YtgnbabkafobeoaaRanges
import Derived.Lib.SmallJoins
import Derived.Test.YtgnbabkafobeoaaLawBase
namespace Go.Proofs.Ytgnbabkafobeoaa
open Go.ChangeShapes Go.WideShapes Go.ChangeAt Go.RowKit

theorem cells_val : Try.prog.cellsOf 46 = 2 := by kernel_rfl
theorem bytes_val : Try.prog.bytesOf 46 = 16 := by kernel_rfl
theorem val_int64 : Try.prog.cellsOf 2 = 1 := by kernel_rfl
theorem val_uint64 : Try.prog.cellsOf 25 = 1 := by kernel_rfl
section
variable {H : Type} {enc : TypeId × Value → H} {W : World}
set_option maxRecDepth 100000 in
theorem val_open {x : List Value} (h : x.length = Try.prog.cellsOf 46 ∧ ∃ (n : Nat) (y : DataW H × List MemPlace), DataW.trod enc Try.prog W 0 (fun _ => true) true n 46 x = some y ∧ Reached Try.prog 46 y.1) :
    ∃ i : Vl, x = i.cells ∧ i.ok := by
  obtain ⟨hl, n, y, hy, _⟩ := h
  rw [cells_val] at hl
  obtain ⟨y0, y1, m, rfl, _, h0, h1⟩ := trod_struct2 Try.underlying46 hy
  match x, hl with
  | [c0, c1], _ =>
  simp only [val_int64, val_uint64, List.drop_zero, List.drop_succ_cons, List.take_succ_cons, List.take_zero] at h0 h1
  obtain ⟨k, e0, _, w0⟩ := DataW.trod_int Try.underlying2 h0
  obtain ⟨u, e1, _, w1⟩ := DataW.trod_int Try.underlying25 h1
  simp only [List.cons.injEq, and_true] at e0 e1
  subst e0 e1
  have r0 := i64_range w0
  have r1 := u64_range w1
  obtain ⟨u, rfl⟩ := Int.eq_ofNat_of_zero_le r1.1
  exact ⟨⟨k, u⟩, rfl, r0.1, r0.2, by simp only; omega⟩

set_option maxRecDepth 100000 in
theorem vals_open {v : Value} {d : DataW H} {ps : List MemPlace} {r : Reach} {b0 : Nat} (hval : Value.okWide Try.prog W r b0 24 v)
    (hd : DataW.Trod enc Try.prog W 0 (fun _ => true) true 24 v d ps) (hr : Reached Try.prog 24 d) :
    ∃ (ao : Option Addr) (cap : Nat) (a : List Vl), v = .slice ao a.length cap ∧ Rd W 2 (.slice ao a.length cap) a.length (vlCells a) ∧ a.length ≤ 140737488351232 ∧ ∀ i ∈ a, i.ok := by
  obtain ⟨ao, cap, xs, rfl, h1, h2, h3, _, h4⟩ := open_rows Try.underlying24 hval hd hr (by rw [cells_val]; omega)
  obtain ⟨a, rfl, ha⟩ := choose_list (f := Vl.cells) (p := Vl.ok) (fun x hx => val_open (h4 x hx))
  rw [cells_val] at h1
  rw [bytes_val] at h3
  rw [List.length_map] at *
  exact ⟨ao, cap, a, rfl, h1, by omega, ha⟩
end
end Go.Proofs.Ytgnbabkafobeoaa

namespace Go.Proofs.Ytgnbabkafobeoaa
open Go.ChangeShapes Go.WideShapes Go.ChangeAt Go.RowKit

theorem cells_ratio : Try.prog.cellsOf 27 = 2 := by kernel_rfl
section
variable {H : Type} {enc : TypeId × Value → H} {W : World}
set_option maxRecDepth 100000 in
theorem ratio_open {v : Value} {d : DataW H} {ps : List MemPlace} {r : Reach} {b0 : Nat} (hval : Value.okWide Try.prog W r b0 27 v)
    (hd : DataW.Trod enc Try.prog W 0 (fun _ => true) true 27 v d ps) :
    ∃ num den : Nat, v = .agg #[.int .u64 num, .int .u64 den] ∧ num < 18446744073709551616 ∧ den < 18446744073709551616 := by
  obtain ⟨v0, v1, y0, y1, n, rfl, _, _, h0, h1⟩ := Go.Joins.open_agg2 Try.underlying27 (by kernel_rfl) cells_ratio hval hd
  obtain ⟨u, e0, _, w0⟩ := DataW.trod_int Try.underlying25 h0
  obtain ⟨k, e1, _, w1⟩ := DataW.trod_int Try.underlying25 h1
  simp only [List.cons.injEq, and_true] at e0 e1
  subst e0 e1
  have r0 := u64_range w0
  have r1 := u64_range w1
  obtain ⟨u, rfl⟩ := Int.eq_ofNat_of_zero_le r0.1
  obtain ⟨k, rfl⟩ := Int.eq_ofNat_of_zero_le r1.1
  exact ⟨u, k, rfl, by omega, by omega⟩
end
end Go.Proofs.Ytgnbabkafobeoaa
