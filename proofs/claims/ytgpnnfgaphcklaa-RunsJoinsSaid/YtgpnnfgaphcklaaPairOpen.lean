/-
  How a row of pairs is opened. Conditions: the form's own reach.
-/
import Derived.Test.YtgpnnfgaphcklaaRunsBase
import Derived.Test.YtgpnnfgaphcklaaLaw04Open
namespace Go.Proofs.Ytgpnnfgaphcklaa
open Go.ChangeShapes Go.WideShapes Go.ChangeAt Go.RowKit

theorem cells_pair : Try.prog.cellsOf 47 = 2 := by kernel_rfl
theorem bytes_pair : Try.prog.bytesOf 47 = 16 := by kernel_rfl
section
variable {H : Type} {enc : TypeId × Value → H} {W : World}
set_option maxRecDepth 100000 in
theorem pair_open {x : List Value} (h : x.length = Try.prog.cellsOf 47 ∧ ∃ (n : Nat) (y : DataW H × List MemPlace), DataW.trod enc Try.prog W 0 (fun _ => true) true n 47 x = some y ∧ Reached Try.prog 47 y.1) :
    ∃ i : Pr, x = i.cells ∧ i.ok := by
  obtain ⟨hl, n, y, hy, _⟩ := h
  rw [cells_pair] at hl
  obtain ⟨y0, y1, m, rfl, _, h0, h1⟩ := trod_struct2 Try.underlying47 hy
  match x, hl with
  | [c0, c1], _ =>
  simp only [one_int, one_uint64, List.drop_zero, List.drop_succ_cons, List.take_succ_cons, List.take_zero] at h0 h1
  obtain ⟨k, e0, _, w0⟩ := DataW.trod_int Try.underlying3 h0
  obtain ⟨u, e1, _, w1⟩ := DataW.trod_int Try.underlying32 h1
  simp only [List.cons.injEq, and_true] at e0 e1
  subst e0 e1
  have r0 := i64_range w0
  have r1 := u64_range w1
  obtain ⟨u, rfl⟩ := Int.eq_ofNat_of_zero_le r1.1
  exact ⟨⟨k, u⟩, rfl, r0.1, r0.2, by simp only; omega⟩

set_option maxRecDepth 100000 in
theorem pairs_open {v : Value} {d : DataW H} {ps : List MemPlace} {r : Reach} {b0 : Nat} (hval : Value.okWide Try.prog W r b0 45 v)
    (hd : DataW.Trod enc Try.prog W 0 (fun _ => true) true 45 v d ps) (hr : Reached Try.prog 45 d) :
    ∃ (ao : Option Addr) (cap : Nat) (a : List Pr), v = .slice ao a.length cap ∧ Rd W 2 (.slice ao a.length cap) a.length (prCells a) ∧ Old W.heap.size (.slice ao a.length cap) a.length ∧ a.length * 16 ≤ 140737488351232 ∧ ∀ i ∈ a, i.ok := by
  obtain ⟨ao, cap, xs, rfl, h1, h2, h3, _, h4⟩ := open_rows Try.underlying45 hval hd hr (by rw [cells_pair]; omega)
  obtain ⟨a, rfl, ha⟩ := choose_list (f := Pr.cells) (p := Pr.ok) (fun x hx => pair_open (h4 x hx))
  rw [cells_pair] at h1
  rw [bytes_pair] at h3
  rw [List.length_map] at *
  exact ⟨ao, cap, a, rfl, h1, fun b hb => h2 b (by simpa using hb), h3, ha⟩
end
end Go.Proofs.Ytgpnnfgaphcklaa
