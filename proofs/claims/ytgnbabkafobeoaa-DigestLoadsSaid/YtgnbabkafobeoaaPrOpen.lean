/-
  How a row of pairs, and an array of two numbers, is opened. Conditions: the form's own reach.
-/
import Derived.Test.YtgnbabkafobeoaaPrBase
import Derived.Test.YtgnbabkafobeoaaRanges
import Derived.Test.YtgnbabkafobeoaaLawBase
import Derived.Lib.SmallJoins
namespace Go.Proofs.Ytgnbabkafobeoaa
open Go.ChangeShapes Go.WideShapes Go.ChangeAt Go.RowKit

theorem okWide_array {P : Program} {w : World} {r : Reach} {base n : Nat} {t e : TypeId} {v : Value} (ht : P.underlying t = some (.array n e)) (h : Value.okWide P w r base t v) : ∃ cs, v = .agg cs ∧ cs.size = P.cellsOf t := by
  simp only [Value.okWide, ht] at h
  obtain ⟨cs, h1, h2, _⟩ := h
  exact ⟨cs, h1, h2⟩
theorem one_int : Try.prog.cellsOf 3 = 1 := by kernel_rfl
theorem one_uint64 : Try.prog.cellsOf 25 = 1 := by kernel_rfl
theorem one_int64 : Try.prog.cellsOf 2 = 1 := by kernel_rfl
theorem cells_pair : Try.prog.cellsOf 53 = 2 := by kernel_rfl
theorem bytes_pair : Try.prog.bytesOf 53 = 16 := by kernel_rfl
section
variable {H : Type} {enc : TypeId × Value → H} {W : World}
set_option maxRecDepth 100000 in
theorem pair_open {x : List Value} (h : x.length = Try.prog.cellsOf 53 ∧ ∃ (n : Nat) (y : DataW H × List MemPlace), DataW.trod enc Try.prog W 0 (fun _ => true) true n 53 x = some y ∧ Reached Try.prog 53 y.1) :
    ∃ i : Pr, x = i.cells ∧ i.ok := by
  obtain ⟨hl, n, y, hy, _⟩ := h
  rw [cells_pair] at hl
  obtain ⟨y0, y1, m, rfl, _, h0, h1⟩ := trod_struct2 Try.underlying53 hy
  match x, hl with
  | [c0, c1], _ =>
  simp only [one_int, one_uint64, List.drop_zero, List.drop_succ_cons, List.take_succ_cons, List.take_zero] at h0 h1
  obtain ⟨k, e0, _, w0⟩ := DataW.trod_int Try.underlying3 h0
  obtain ⟨u, e1, _, w1⟩ := DataW.trod_int Try.underlying25 h1
  simp only [List.cons.injEq, and_true] at e0 e1
  subst e0 e1
  have r0 := i64_range w0
  have r1 := u64_range w1
  obtain ⟨u, rfl⟩ := Int.eq_ofNat_of_zero_le r1.1
  exact ⟨⟨k, u⟩, rfl, r0.1, r0.2, by simp only; omega⟩

set_option maxRecDepth 100000 in
theorem pairs_open {v : Value} {d : DataW H} {ps : List MemPlace} {r : Reach} {b0 : Nat} (hval : Value.okWide Try.prog W r b0 48 v)
    (hd : DataW.Trod enc Try.prog W 0 (fun _ => true) true 48 v d ps) (hr : Reached Try.prog 48 d) :
    ∃ (ao : Option Addr) (cap : Nat) (a : List Pr), v = .slice ao a.length cap ∧ Rd W 2 (.slice ao a.length cap) a.length (prCells a) ∧ Old W.heap.size (.slice ao a.length cap) a.length ∧ a.length * 16 ≤ 140737488351232 ∧ ∀ i ∈ a, i.ok := by
  obtain ⟨ao, cap, xs, rfl, h1, h2, h3, _, h4⟩ := open_rows Try.underlying48 hval hd hr (by rw [cells_pair]; omega)
  obtain ⟨a, rfl, ha⟩ := choose_list (f := Pr.cells) (p := Pr.ok) (fun x hx => pair_open (h4 x hx))
  rw [cells_pair] at h1
  rw [bytes_pair] at h3
  rw [List.length_map] at *
  exact ⟨ao, cap, a, rfl, h1, fun b hb => h2 b (by simpa using hb), h3, ha⟩
set_option maxRecDepth 100000 in
theorem two_open {v : Value} {d : DataW H} {ps : List MemPlace} {r : Reach} {b0 : Nat} (hval : Value.okWide Try.prog W r b0 66 v)
    (hd : DataW.Trod enc Try.prog W 0 (fun _ => true) true 66 v d ps) :
    ∃ (a b : Int), v = .agg #[.int .i64 a, .int .i64 b] ∧ -9223372036854775808 ≤ a ∧ a < 9223372036854775808 ∧ -9223372036854775808 ≤ b ∧ b < 9223372036854775808 := by
  obtain ⟨cs, rfl, hsz⟩ := okWide_array Try.underlying66 hval
  obtain ⟨c0, c1, rfl⟩ := Go.Joins.array2 (hsz.trans (by kernel_rfl))
  obtain ⟨fuel, hf⟩ := hd
  obtain ⟨xs, m, _, _, _, hlen, hel⟩ := DataW.trod_array Try.underlying66 hf
  match xs, hlen with
  | [y0, y1], _ =>
  have h0 := hel 0 (by omega)
  have h1 := hel 1 (by omega)
  simp only [one_int64, List.getElem?_cons_zero, List.getElem?_cons_succ, Value.cells, List.drop_zero, Nat.zero_mul, Nat.one_mul, List.drop_succ_cons, List.take_succ_cons, List.take_zero] at h0 h1
  obtain ⟨k, e0, _, w0⟩ := DataW.trod_int Try.underlying2 h0
  obtain ⟨u, e1, _, w1⟩ := DataW.trod_int Try.underlying2 h1
  simp only [List.cons.injEq, and_true] at e0 e1
  subst e0 e1
  have r0 := i64_range w0
  have r1 := i64_range w1
  exact ⟨k, u, rfl, r0.1, r0.2, r1.1, r1.2⟩
end
end Go.Proofs.Ytgnbabkafobeoaa
