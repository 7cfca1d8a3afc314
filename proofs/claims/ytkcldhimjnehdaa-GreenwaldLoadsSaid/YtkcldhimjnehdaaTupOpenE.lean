/-
  How rows of tuples, and fractions, are opened. Conditions: the form's own reach.
-/
import Derived.Test.YtkcldhimjnehdaaTupBase
import Derived.Test.YtkcldhimjnehdaaRanges
import Derived.Test.YtkcldhimjnehdaaLawBase
import Derived.Test.YtkcldhimjnehdaaValOpen
import Derived.Lib.SmallJoins
import Derived.Deep.Strs
namespace Go.Proofs.Ytkcldhimjnehdaa
open Go.ChangeShapes Go.WideShapes Go.ChangeAt Go.RowKit

theorem cells_tuple : Try.prog.cellsOf 28 = 3 := by kernel_rfl
theorem bytes_tuple : Try.prog.bytesOf 28 = 24 := by kernel_rfl
theorem one_i64T : Try.prog.cellsOf 2 = 1 := by kernel_rfl
theorem one_u64T : Try.prog.cellsOf 23 = 1 := by kernel_rfl
section
variable {H : Type} {enc : TypeId × Value → H} {W : World}
set_option maxRecDepth 100000 in
theorem tuple_open {x : List Value} (h : x.length = Try.prog.cellsOf 28 ∧ ∃ (n : Nat) (y : DataW H × List MemPlace), DataW.trod enc Try.prog W 0 (fun _ => true) true n 28 x = some y ∧ Reached Try.prog 28 y.1) :
    ∃ i : Tp, x = i.cells ∧ i.ok := by
  obtain ⟨hl, n, y, hy, _⟩ := h
  rw [cells_tuple] at hl
  obtain ⟨y0, y1, y2, m, rfl, _, h0, h1, h2⟩ := Deep.trod_struct3 Try.underlying28 hy
  match x, hl with
  | [c0, c1, c2], _ =>
  simp only [one_i64T, one_u64T, List.drop_zero, List.drop_succ_cons, List.take_succ_cons, List.take_zero] at h0 h1 h2
  obtain ⟨k, e0, _, w0⟩ := DataW.trod_int Try.underlying2 h0
  obtain ⟨u, e1, _, w1⟩ := DataW.trod_int Try.underlying23 h1
  obtain ⟨v, e2, _, w2⟩ := DataW.trod_int Try.underlying23 h2
  simp only [List.cons.injEq, and_true] at e0 e1 e2
  subst e0 e1 e2
  have r0 := i64_range w0
  have r1 := u64_range w1
  have r2 := u64_range w2
  obtain ⟨u, rfl⟩ := Int.eq_ofNat_of_zero_le r1.1
  obtain ⟨v, rfl⟩ := Int.eq_ofNat_of_zero_le r2.1
  exact ⟨⟨k, u, v⟩, rfl, r0.1, r0.2, by simp only; omega, by simp only; omega⟩

set_option maxRecDepth 100000 in
theorem tuples_open {v : Value} {d : DataW H} {ps : List MemPlace} {r : Reach} {b0 : Nat} (hval : Value.okWide Try.prog W r b0 22 v)
    (hd : DataW.Trod enc Try.prog W 0 (fun _ => true) true 22 v d ps) (hr : Reached Try.prog 22 d) :
    ∃ (ao : Option Addr) (cap : Nat) (a : List Tp), v = .slice ao a.length cap ∧ Rd W 3 (.slice ao a.length cap) a.length (tpCells a) ∧ a.length * 24 ≤ 140737488351232 ∧ ∀ i ∈ a, i.ok := by
  obtain ⟨ao, cap, xs, rfl, h1, h2, h3, _, h4⟩ := open_rows Try.underlying22 hval hd hr (by rw [cells_tuple]; omega)
  obtain ⟨a, rfl, ha⟩ := choose_list (f := Tp.cells) (p := Tp.ok) (fun x hx => tuple_open (h4 x hx))
  rw [cells_tuple] at h1
  rw [bytes_tuple] at h3
  rw [List.length_map] at *
  exact ⟨ao, cap, a, rfl, h1, h3, ha⟩
end
end Go.Proofs.Ytkcldhimjnehdaa
