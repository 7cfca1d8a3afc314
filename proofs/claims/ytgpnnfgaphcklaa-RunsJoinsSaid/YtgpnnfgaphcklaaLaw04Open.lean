/-
  How a row of items (or asks) is opened, for the laws of layer 4. Conditions: the form's own reach.
-/
import Derived.Test.YtgpnnfgaphcklaaLaw04Put
import Derived.Test.YtgpnnfgaphcklaaBase2
import Derived.Lib.SmallJoins
namespace Go.Proofs.Ytgpnnfgaphcklaa
open Go.ChangeShapes Go.WideShapes Go.ChangeAt Go.RowKit

theorem i64_range {n : Int} (h : (Lit.int .i64 n).wf = true) : -9223372036854775808 ≤ n ∧ n < 9223372036854775808 := by
  simp [Lit.wf, IntKind.min, IntKind.max, IntKind.signed, IntKind.bits] at h; omega
theorem u64_range {n : Int} (h : (Lit.int .u64 n).wf = true) : 0 ≤ n ∧ n < 18446744073709551616 := by
  simp [Lit.wf, IntKind.min, IntKind.max, IntKind.signed, IntKind.bits] at h; omega
theorem u32_range {n : Int} (h : (Lit.int .u32 n).wf = true) : 0 ≤ n ∧ n < 4294967296 := by
  simp [Lit.wf, IntKind.min, IntKind.max, IntKind.signed, IntKind.bits] at h; omega
theorem u8_range {n : Int} (h : (Lit.int .u8 n).wf = true) : 0 ≤ n ∧ n < 256 := by
  simp [Lit.wf, IntKind.min, IntKind.max, IntKind.signed, IntKind.bits] at h; omega

theorem cells_item : Try.prog.cellsOf 58 = 4 := by kernel_rfl
theorem bytes_item : Try.prog.bytesOf 58 = 40 := by kernel_rfl
theorem one_int : Try.prog.cellsOf 3 = 1 := by kernel_rfl
theorem one_uint64 : Try.prog.cellsOf 32 = 1 := by kernel_rfl
theorem one_int64 : Try.prog.cellsOf 2 = 1 := by kernel_rfl
theorem one_string : Try.prog.cellsOf 9 = 1 := by kernel_rfl

section
variable {H : Type} {enc : TypeId × Value → H} {W : World}
set_option maxRecDepth 100000 in
theorem item_open {x : List Value} (h : x.length = Try.prog.cellsOf 58 ∧ ∃ (n : Nat) (y : DataW H × List MemPlace), DataW.trod enc Try.prog W 0 (fun _ => true) true n 58 x = some y ∧ Reached Try.prog 58 y.1) :
    ∃ i : Itm, x = i.cells ∧ i.ok := by
  obtain ⟨hl, n, y, hy, hr⟩ := h
  rw [cells_item] at hl
  obtain ⟨y0, y1, y2, y3, m, rfl, _, h0, h1, h2, h3⟩ := Joins.trod_struct4 Try.underlying58 hy
  match x, hl with
  | [c0, c1, c2, c3], _ =>
  simp only [one_int, one_uint64, one_int64, one_string, List.drop_zero, List.drop_succ_cons, List.take_succ_cons, List.take_zero] at h0 h1 h2 h3
  obtain ⟨k, e0, _, w0⟩ := DataW.trod_int Try.underlying3 h0
  obtain ⟨u, e1, _, w1⟩ := DataW.trod_int Try.underlying32 h1
  obtain ⟨v, e2, _, w2⟩ := DataW.trod_int Try.underlying2 h2
  simp only [Reached, DataW.weights, Try.underlying58, List.map_cons, List.map_nil, DataW.weightsEach, List.all_append, Bool.and_eq_true] at hr
  obtain ⟨l, e3, hs⟩ := trod_text Try.underlying9 h3 hr.2.2.2.1
  simp only [List.cons.injEq, and_true] at e0 e1 e2 e3
  subst e0 e1 e2 e3
  have r0 := i64_range w0
  have r1 := u64_range w1
  have r2 := i64_range w2
  obtain ⟨u, rfl⟩ := Int.eq_ofNat_of_zero_le r1.1
  exact ⟨⟨k, u, v, l⟩, rfl, r0.1, r0.2, by simp only; omega, r2.1, r2.2, hs⟩

set_option maxRecDepth 100000 in
/-- A row of items that came in. -/
theorem items_open {v : Value} {d : DataW H} {ps : List MemPlace} {r : Reach} {b0 : Nat} (hval : Value.okWide Try.prog W r b0 22 v)
    (hd : DataW.Trod enc Try.prog W 0 (fun _ => true) true 22 v d ps) (hr : Reached Try.prog 22 d) :
    ∃ (ao : Option Addr) (cap : Nat) (a : List Itm), v = .slice ao a.length cap ∧ Rd W 4 (.slice ao a.length cap) a.length (itmCells a) ∧ Old W.heap.size (.slice ao a.length cap) a.length ∧ a.length * 40 ≤ 140737488351232 ∧ ∀ i ∈ a, i.ok := by
  obtain ⟨ao, cap, xs, rfl, h1, h2, h3, _, h4⟩ := open_rows Try.underlying22 hval hd hr (by rw [cells_item]; omega)
  obtain ⟨a, rfl, ha⟩ := choose_list (f := Itm.cells) (p := Itm.ok) (fun x hx => item_open (h4 x hx))
  rw [cells_item] at h1
  rw [bytes_item] at h3
  rw [List.length_map] at *
  exact ⟨ao, cap, a, rfl, h1, fun b hb => h2 b (by simpa using hb), h3, ha⟩
end
end Go.Proofs.Ytgpnnfgaphcklaa
