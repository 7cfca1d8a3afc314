/-
  How a row of asks is opened, for QuillReads. Conditions: the form's own reach.
-/
import Derived.Test.YtgpnnfgaphcklaaQuillReadsW
import Derived.Test.YtgpnnfgaphcklaaLaw04Open
namespace Go.Proofs.Ytgpnnfgaphcklaa
open Go.ChangeShapes Go.WideShapes Go.ChangeAt Go.RowKit

theorem cells_ask : Try.prog.cellsOf 62 = 3 := by kernel_rfl
theorem bytes_ask : Try.prog.bytesOf 62 = 24 := by kernel_rfl
section
variable {H : Type} {enc : TypeId × Value → H} {W : World}
set_option maxRecDepth 100000 in
theorem ask_open {x : List Value} (h : x.length = Try.prog.cellsOf 62 ∧ ∃ (n : Nat) (y : DataW H × List MemPlace), DataW.trod enc Try.prog W 0 (fun _ => true) true n 62 x = some y ∧ Reached Try.prog 62 y.1) :
    ∃ i : Asq, x = i.cells ∧ i.ok := by
  obtain ⟨hl, n, y, hy, _⟩ := h
  rw [cells_ask] at hl
  obtain ⟨y0, y1, y2, m, rfl, _, h0, h1, h2⟩ := Deep.trod_struct3 Try.underlying62 hy
  match x, hl with
  | [c0, c1, c2], _ =>
  simp only [one_int, one_uint64, List.drop_zero, List.drop_succ_cons, List.take_succ_cons, List.take_zero] at h0 h1 h2
  obtain ⟨k, e0, _, w0⟩ := DataW.trod_int Try.underlying3 h0
  obtain ⟨u, e1, _, w1⟩ := DataW.trod_int Try.underlying32 h1
  obtain ⟨v, e2, _, w2⟩ := DataW.trod_int Try.underlying3 h2
  simp only [List.cons.injEq, and_true] at e0 e1 e2
  subst e0 e1 e2
  have r0 := i64_range w0
  have r1 := u64_range w1
  have r2 := i64_range w2
  obtain ⟨u, rfl⟩ := Int.eq_ofNat_of_zero_le r1.1
  exact ⟨⟨k, u, v⟩, rfl, r0.1, r0.2, by simp only; omega, r2.1, r2.2⟩

set_option maxRecDepth 100000 in
theorem asks_open {v : Value} {d : DataW H} {ps : List MemPlace} {r : Reach} {b0 : Nat} (hval : Value.okWide Try.prog W r b0 60 v)
    (hd : DataW.Trod enc Try.prog W 0 (fun _ => true) true 60 v d ps) (hr : Reached Try.prog 60 d) :
    ∃ (ao : Option Addr) (cap : Nat) (a : List Asq), v = .slice ao a.length cap ∧ Rd W 3 (.slice ao a.length cap) a.length (asqCells a) ∧ Old W.heap.size (.slice ao a.length cap) a.length ∧ a.length * 24 ≤ 140737488351232 ∧ ∀ i ∈ a, i.ok := by
  obtain ⟨ao, cap, xs, rfl, h1, h2, h3, _, h4⟩ := open_rows Try.underlying60 hval hd hr (by rw [cells_ask]; omega)
  obtain ⟨a, rfl, ha⟩ := choose_list (f := Asq.cells) (p := Asq.ok) (fun x hx => ask_open (h4 x hx))
  rw [cells_ask] at h1
  rw [bytes_ask] at h3
  rw [List.length_map] at *
  exact ⟨ao, cap, a, rfl, h1, fun b hb => h2 b (by simpa using hb), h3, ha⟩
end
end Go.Proofs.Ytgpnnfgaphcklaa
