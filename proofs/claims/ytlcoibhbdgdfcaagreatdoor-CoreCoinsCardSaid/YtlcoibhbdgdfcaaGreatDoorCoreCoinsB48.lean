/-
  How a row of values with counts is opened. Conditions: the form's own reach. How fractions are opened. Conditions: the form's own reach.
  How a slice within what came in is opened. Conditions: the form's own reach.
  How a config, and a row of leaves, that came in are opened. Conditions: the form's own reach.
-/
import Derived.Test.YtlcoibhbdgdfcaaGreatDoorProg
import Derived.Test.YtlcoibhbdgdfcaaGreatDoorCoreCoinsB4
import Derived.Test.YtlcoibhbdgdfcaaGreatDoorCoreCoinsB47
import Derived.Lib.SmallJoins
import Derived.Test.YtlcoibhbdgdfcaaGreatDoorCoreCoinsB2
import Derived.Test.YtlcoibhbdgdfcaaGreatDoorCoreCoinsB7
namespace Go.Proofs.YtlcoibhbdgdfcaaGreatDoor
open Go.ChangeShapes Go.WideShapes Go.ChangeAt Go.RowKit

theorem cells_val : Tryz.prog.cellsOf 72 = 2 := by kernel_rfl
theorem bytes_val : Tryz.prog.bytesOf 72 = 16 := by kernel_rfl
theorem val_int64 : Tryz.prog.cellsOf 2 = 1 := by kernel_rfl
theorem val_uint64 : Tryz.prog.cellsOf 25 = 1 := by kernel_rfl
section
variable {H : Type} {enc : TypeId × Value → H} {W : World}
set_option maxRecDepth 100000 in
theorem val_open {x : List Value} (h : x.length = Tryz.prog.cellsOf 72 ∧ ∃ (n : Nat) (y : DataW H × List MemPlace), DataW.trod enc Tryz.prog W 0 (fun _ => true) true n 72 x = some y ∧ Reached Tryz.prog 72 y.1) :
    ∃ i : Vl, x = i.cells ∧ i.ok := by
  obtain ⟨hl, n, y, hy, _⟩ := h
  rw [cells_val] at hl
  obtain ⟨y0, y1, m, rfl, _, h0, h1⟩ := trod_struct2 Tryz.underlying72 hy
  match x, hl with
  | [c0, c1], _ =>
  simp only [val_int64, val_uint64, List.drop_zero, List.drop_succ_cons, List.take_succ_cons, List.take_zero] at h0 h1
  obtain ⟨k, e0, _, w0⟩ := DataW.trod_int Tryz.underlying2 h0
  obtain ⟨u, e1, _, w1⟩ := DataW.trod_int Tryz.underlying25 h1
  simp only [List.cons.injEq, and_true] at e0 e1
  subst e0 e1
  have r0 := i64_range w0
  have r1 := u64_range w1
  obtain ⟨u, rfl⟩ := Int.eq_ofNat_of_zero_le r1.1
  exact ⟨⟨k, u⟩, rfl, r0.1, r0.2, by simp only; omega⟩

set_option maxRecDepth 100000 in
theorem vals_open {v : Value} {d : DataW H} {ps : List MemPlace} {r : Reach} {b0 : Nat} (hval : Value.okWide Tryz.prog W r b0 49 v)
    (hd : DataW.Trod enc Tryz.prog W 0 (fun _ => true) true 49 v d ps) (hr : Reached Tryz.prog 49 d) :
    ∃ (ao : Option Addr) (cap : Nat) (a : List Vl), v = .slice ao a.length cap ∧ Rd W 2 (.slice ao a.length cap) a.length (vlCells a) ∧ a.length ≤ 140737488351232 ∧ ∀ i ∈ a, i.ok := by
  obtain ⟨ao, cap, xs, rfl, h1, h2, h3, _, h4⟩ := open_rows Tryz.underlying49 hval hd hr (by rw [cells_val]; omega)
  obtain ⟨a, rfl, ha⟩ := choose_list (f := Vl.cells) (p := Vl.ok) (fun x hx => val_open (h4 x hx))
  rw [cells_val] at h1
  rw [bytes_val] at h3
  rw [List.length_map] at *
  exact ⟨ao, cap, a, rfl, h1, by omega, ha⟩
end
end Go.Proofs.YtlcoibhbdgdfcaaGreatDoor

namespace Go.Proofs.YtlcoibhbdgdfcaaGreatDoor
open Go.ChangeShapes Go.WideShapes Go.ChangeAt Go.RowKit

theorem cells_ratio : Tryz.prog.cellsOf 27 = 2 := by kernel_rfl
section
variable {H : Type} {enc : TypeId × Value → H} {W : World}
set_option maxRecDepth 100000 in
theorem ratio_open {v : Value} {d : DataW H} {ps : List MemPlace} {r : Reach} {b0 : Nat} (hval : Value.okWide Tryz.prog W r b0 27 v)
    (hd : DataW.Trod enc Tryz.prog W 0 (fun _ => true) true 27 v d ps) :
    ∃ num den : Nat, v = .agg #[.int .u64 num, .int .u64 den] ∧ num < 18446744073709551616 ∧ den < 18446744073709551616 := by
  obtain ⟨v0, v1, y0, y1, n, rfl, _, _, h0, h1⟩ := Go.Joins.open_agg2 Tryz.underlying27 (by kernel_rfl) cells_ratio hval hd
  obtain ⟨u, e0, _, w0⟩ := DataW.trod_int Tryz.underlying25 h0
  obtain ⟨k, e1, _, w1⟩ := DataW.trod_int Tryz.underlying25 h1
  simp only [List.cons.injEq, and_true] at e0 e1
  subst e0 e1
  have r0 := u64_range w0
  have r1 := u64_range w1
  obtain ⟨u, rfl⟩ := Int.eq_ofNat_of_zero_le r0.1
  obtain ⟨k, rfl⟩ := Int.eq_ofNat_of_zero_le r1.1
  exact ⟨u, k, rfl, by omega, by omega⟩
end
end Go.Proofs.YtlcoibhbdgdfcaaGreatDoor

namespace Go.Proofs.YtlcoibhbdgdfcaaGreatDoor
open Go.ChangeShapes Go.WideShapes Go.ChangeAt Go.RowKit

section
variable {H : Type} {enc : TypeId × Value → H} {P : Program} {W : World}
/-- A slice that came in: its elements' cells, one behind the other; what each reads as; and the form's reach. -/
theorem open_rowsS {t e : TypeId} {v : Value} {d : DataW H} {ps : List MemPlace} (ht : P.underlying t = some (.slice e)) (hval : ∃ a0 len0 cp, v = .slice a0 len0 cp)
    (hd : DataW.Trod enc P W 0 (fun _ => true) true t v d ps) (hr : Reached P t d) (hpos : 0 < P.cellsOf e) :
    ∃ (ao : Option Addr) (cap : Nat) (xs : List (List Value)), v = .slice ao xs.length cap ∧ Rd W (P.cellsOf e) v xs.length xs.flatten ∧ (∀ b ∈ abl ao, b < W.heap.size ∨ xs.length = 0) ∧
      xs.length * P.bytesOf e ≤ 140737488351232 ∧ xs.length ≤ maxLen ∧
      ∀ x ∈ xs, x.length = P.cellsOf e ∧ ∃ (n : Nat) (y : DataW H × List MemPlace), DataW.trod enc P W 0 (fun _ => true) true n e x = some y ∧ Reached P e y.1 := by
  obtain ⟨a0, len0, cp, rfl⟩ := hval
  obtain ⟨fuel, hf⟩ := hd
  rcases Go.Deep.open_slice ht hf with ⟨hcs, hx⟩ | ⟨a, len, cap, m, n, D, Pl, hcs, _, hlc, hcm, hm, hx, hel⟩
  · simp [Value.cells] at hcs
    obtain ⟨rfl, rfl, rfl⟩ := hcs
    exact ⟨none, 0, [], rfl, ⟨by simp, none, 0, rfl, .inl rfl⟩, by simp, by simp, by simp [maxLen], by simp⟩
  · simp [Value.cells] at hcs
    obtain ⟨rfl, rfl, rfl⟩ := hcs
    simp only [Prod.mk.injEq] at hx
    obtain ⟨rfl, rfl⟩ := hx
    simp only [if_true] at hm
    obtain rfl := hm.symm
    simp only [Reached, DataW.weights, ht, List.all_cons, List.all_append, Bool.and_eq_true, reachBytes] at hr
    obtain ⟨hr0, hr1, _⟩ := hr
    have hr0 := of_decide_eq_true hr0
    have key : ∀ i, i < len0 → ∃ x : List Value, x.length = P.cellsOf e ∧ (∀ j, j < P.cellsOf e → W.cell? ((a.add (i * P.cellsOf e)).add j) = x[j]?) ∧ ∃ (n : Nat) (y : DataW H × List MemPlace), DataW.trod enc P W 0 (fun _ => true) true n e x = some y ∧ Reached P e y.1 := by
      intro i hi
      obtain ⟨x, h1, h2⟩ := hel i (by omega)
      simp only [World.cells?, Nat.zero_le, if_true] at h1
      obtain ⟨hl, hc⟩ := mapM_cells h1
      exact ⟨x, hl, hc, n, _, h2, reached_all hr1 _ (List.mem_map.2 ⟨i, by simpa using hi, rfl⟩)⟩
    obtain ⟨X, hX⟩ := Go.Deep.choose_lt key
    have hlen : ((List.range len0).map X).length = len0 := by simp
    have hfl : ∀ n, n ≤ len0 → (((List.range n).map X).flatten).length = n * P.cellsOf e := by
      intro n
      induction n with
      | zero => simp
      | succ n ih =>
        intro hn
        rw [List.range_succ, List.map_append, List.flatten_append, List.length_append, ih (by omega)]
        simp [(hX n (by omega)).1, Nat.succ_mul]
    have hget : ∀ n i j, n ≤ len0 → i < n → j < P.cellsOf e → (((List.range n).map X).flatten)[i * P.cellsOf e + j]? = (X i)[j]? := by
      intro n
      induction n with
      | zero => intro i j _ hi; omega
      | succ n ih =>
        intro i j hn hi hj
        rw [List.range_succ, List.map_append, List.flatten_append]
        by_cases hin : i < n
        · rw [List.getElem?_append_left, ih i j (by omega) hin hj]
          rw [hfl n (by omega)]
          have : (i + 1) * P.cellsOf e ≤ n * P.cellsOf e := Nat.mul_le_mul_right _ (by omega)
          rw [Nat.succ_mul] at this
          omega
        · obtain rfl : i = n := by omega
          rw [List.getElem?_append_right (by rw [hfl i (by omega)]; omega), hfl i (by omega)]
          simp
    refine ⟨some a, cp, (List.range len0).map X, by rw [hlen], ?_, ?_, ?_, by rw [hlen]; omega, ?_⟩
    · rw [hlen]
      refine ⟨hfl len0 (Nat.le_refl _), some a, cp, rfl, ?_⟩
      by_cases h0 : len0 = 0
      · exact .inl h0
      · right
        obtain ⟨b, off, spot⟩ := a
        have hspot : spot = none := by
          obtain ⟨hl, hc, _⟩ := hX 0 (by omega)
          have := hc 0 hpos
          have hs : (X 0)[0]? = some ((X 0)[0]'(by omega)) := List.getElem?_eq_getElem _
          rw [hs] at this
          simpa [Addr.add] using World.cell?_spot this
        subst hspot
        refine ⟨b, off, rfl, fun j hj => ?_⟩
        have hdiv : j / P.cellsOf e < len0 := Nat.div_lt_of_lt_mul (by rw [Nat.mul_comm]; exact hj)
        have hmod := Nat.mod_lt j hpos
        have e1 := hget len0 (j / P.cellsOf e) (j % P.cellsOf e) (Nat.le_refl _) hdiv hmod
        have e2 := (hX (j / P.cellsOf e) hdiv).2.1 (j % P.cellsOf e) hmod
        rw [Nat.mul_comm, Nat.div_add_mod] at e1
        rw [e1, ← e2, Go.Deep.add_add, Nat.mul_comm, Nat.div_add_mod]
        by_cases hj0 : j = 0
        · subst hj0; simp [Addr.add]
        · simp [Addr.add, hj0]
    · intro b hb
      by_cases h0 : len0 = 0
      · exact .inr (by simpa using h0)
      · left
        simp only [abl_some, List.mem_singleton] at hb
        subst hb
        obtain ⟨hl, hc, _⟩ := hX 0 (by omega)
        have := hc 0 hpos
        have hs : (X 0)[0]? = some ((X 0)[0]'(by omega)) := List.getElem?_eq_getElem _
        rw [hs] at this
        have hlt := World.block_lt_of_cell? W _ this
        simpa [Addr.add] using hlt
    · rw [hlen]
      have : len0 * P.bytesOf e ≤ (((List.range len0).map D).length + ((List.range (cp - len0)).map fun j => D (len0 + j)).length) * P.bytesOf e := Nat.mul_le_mul_right _ (by simp)
      omega
    · intro x hx
      obtain ⟨i, hi, rfl⟩ := List.mem_map.1 hx
      obtain ⟨h1, _, h2⟩ := hX i (by simpa using hi)
      exact ⟨h1, h2⟩
end
end Go.Proofs.YtlcoibhbdgdfcaaGreatDoor

namespace Go.Proofs.YtlcoibhbdgdfcaaGreatDoor
open Go.ChangeShapes Go.WideShapes Go.ChangeAt Go.RowKit

/-- Each part of a config lies where its type has it. -/
structure Cf.okR (c : Cf) : Prop where
  kind : -9223372036854775808 ≤ c.kind ∧ c.kind < 9223372036854775808
  num : c.num < 18446744073709551616
  den : c.den < 18446744073709551616
  side : -9223372036854775808 ≤ c.side ∧ c.side < 9223372036854775808
  most : -9223372036854775808 ≤ c.most ∧ c.most < 9223372036854775808
  digits : -9223372036854775808 ≤ c.digits ∧ c.digits < 9223372036854775808
  limit : c.limit < 18446744073709551616
  depth : -9223372036854775808 ≤ c.depth ∧ c.depth < 9223372036854775808
  factor : -9223372036854775808 ≤ c.factor ∧ c.factor < 9223372036854775808
  width : -9223372036854775808 ≤ c.width ∧ c.width < 9223372036854775808
  word : c.word < 18446744073709551616
theorem cells_scfg : Tryz.prog.cellsOf 30 = 11 := by kernel_rfl
theorem cells_ratio0 : Tryz.prog.cellsOf 27 = 2 := by kernel_rfl
theorem cells_kind0 : Tryz.prog.cellsOf 24 = 1 := by kernel_rfl
theorem cells_side0 : Tryz.prog.cellsOf 28 = 1 := by kernel_rfl
theorem cells_int0 : Tryz.prog.cellsOf 3 = 1 := by kernel_rfl
theorem cells_u64_0 : Tryz.prog.cellsOf 25 = 1 := by kernel_rfl
theorem cells_leaf : Tryz.prog.cellsOf 67 = 2 := by kernel_rfl
theorem cells_vals0 : Tryz.prog.cellsOf 49 = 1 := by kernel_rfl
theorem cells_bool0 : Tryz.prog.cellsOf 4 = 1 := by kernel_rfl
theorem bytes_leaf : Tryz.prog.bytesOf 67 = 32 := by kernel_rfl
theorem list11 {α : Type} {l : List α} (h : l.length = 11) : ∃ a b c d e f g i j k m, l = [a, b, c, d, e, f, g, i, j, k, m] := by
  match l, h with
  | [a, b, c, d, e, f, g, i, j, k, m], _ => exact ⟨a, b, c, d, e, f, g, i, j, k, m, rfl⟩
section
variable {H : Type} {enc : TypeId × Value → H} {W : World}
set_option maxRecDepth 100000 in
theorem scfg_openL {cs : List Value} (hl : cs.length = 11) {fuel : Nat} {y : DataW H × List MemPlace} (hf : DataW.trod enc Tryz.prog W 0 (fun _ => true) true fuel 30 cs = some y) : ∃ c : Cf, cs = c.cells.toList ∧ c.okR := by
  obtain ⟨c0, c1, c2, c3, c4, c5, c6, c7, c8, c9, c10, rfl⟩ := list11 hl
  obtain ⟨xs, m, _, _, _, hlen, hel⟩ := DataW.trod_struct Tryz.underlying30 hf
  have h0 := hel 0 _ rfl
  have h1 := hel 1 _ rfl
  have h2 := hel 2 _ rfl
  have h3 := hel 3 _ rfl
  have h4 := hel 4 _ rfl
  have h5 := hel 5 _ rfl
  have h6 := hel 6 _ rfl
  have h7 := hel 7 _ rfl
  have h8 := hel 8 _ rfl
  have h9 := hel 9 _ rfl
  clear hel
  have hx : ∀ k, k < 10 → ∃ z, xs[k]? = some z := fun k hk => ⟨xs[k]'(by rw [hlen]; exact hk), List.getElem?_eq_getElem _⟩
  obtain ⟨y0, e0⟩ := hx 0 (by omega)
  obtain ⟨y1, e1⟩ := hx 1 (by omega)
  obtain ⟨y2, e2⟩ := hx 2 (by omega)
  obtain ⟨y3, e3⟩ := hx 3 (by omega)
  obtain ⟨y4, e4⟩ := hx 4 (by omega)
  obtain ⟨y5, e5⟩ := hx 5 (by omega)
  obtain ⟨y6, e6⟩ := hx 6 (by omega)
  obtain ⟨y7, e7⟩ := hx 7 (by omega)
  obtain ⟨y8, e8⟩ := hx 8 (by omega)
  obtain ⟨y9, e9⟩ := hx 9 (by omega)
  rw [e0] at h0
  rw [e1] at h1
  rw [e2] at h2
  rw [e3] at h3
  rw [e4] at h4
  rw [e5] at h5
  rw [e6] at h6
  rw [e7] at h7
  rw [e8] at h8
  rw [e9] at h9
  simp only [List.getElem_toArray, List.getElem_cons_zero, List.getElem_cons_succ] at h0 h1 h2 h3 h4 h5 h6 h7 h8 h9
  simp only [cells_kind0, cells_ratio0, cells_side0, cells_int0, cells_u64_0, List.drop_zero, List.drop_succ_cons, List.take_succ_cons, List.take_zero] at h0 h1 h2 h3 h4 h5 h6 h7 h8 h9
  obtain ⟨n0, f0, _, w0⟩ := DataW.trod_int Tryz.underlying24 h0
  obtain ⟨z0, z1, m', _, _, k0, k1⟩ := trod_struct2 Tryz.underlying27 h1
  simp only [cells_u64_0, List.drop_zero, List.drop_succ_cons, List.take_succ_cons, List.take_zero] at k0 k1
  obtain ⟨n1, f1, _, w1⟩ := DataW.trod_int Tryz.underlying25 k0
  obtain ⟨n2, f2, _, w2⟩ := DataW.trod_int Tryz.underlying25 k1
  obtain ⟨n3, f3, _, w3⟩ := DataW.trod_int Tryz.underlying28 h2
  obtain ⟨n4, f4, _, w4⟩ := DataW.trod_int Tryz.underlying3 h3
  obtain ⟨n5, f5, _, w5⟩ := DataW.trod_int Tryz.underlying3 h4
  obtain ⟨n6, f6, _, w6⟩ := DataW.trod_int Tryz.underlying25 h5
  obtain ⟨n7, f7, _, w7⟩ := DataW.trod_int Tryz.underlying3 h6
  obtain ⟨n8, f8, _, w8⟩ := DataW.trod_int Tryz.underlying3 h7
  obtain ⟨n9, f9, _, w9⟩ := DataW.trod_int Tryz.underlying3 h8
  obtain ⟨n10, f10, _, w10⟩ := DataW.trod_int Tryz.underlying25 h9
  simp only [List.cons.injEq, and_true] at f0 f1 f2 f3 f4 f5 f6 f7 f8 f9 f10
  have r0 := i64_range w0
  have r1 := u64_range w1
  have r2 := u64_range w2
  have r3 := i64_range w3
  have r4 := i64_range w4
  have r5 := i64_range w5
  have r6 := u64_range w6
  have r7 := i64_range w7
  have r8 := i64_range w8
  have r9 := i64_range w9
  have r10 := u64_range w10
  obtain ⟨n1, rfl⟩ := Int.eq_ofNat_of_zero_le r1.1
  obtain ⟨n2, rfl⟩ := Int.eq_ofNat_of_zero_le r2.1
  obtain ⟨n6, rfl⟩ := Int.eq_ofNat_of_zero_le r6.1
  obtain ⟨n10, rfl⟩ := Int.eq_ofNat_of_zero_le r10.1
  refine ⟨⟨n0, n1, n2, n3, n4, n5, n6, n7, n8, n9, n10⟩, ?_, ⟨r0, by simp only; omega, by simp only; omega, r3, r4, r5, by simp only; omega, r7, r8, r9, by simp only; omega⟩⟩
  rw [f0, f1, f2, f3, f4, f5, f6, f7, f8, f9, f10]
  rfl
set_option maxRecDepth 100000 in
theorem scfg_open {v : Value} {d : DataW H} {ps : List MemPlace} {r : Reach} {b0 : Nat} (hval : Value.okWide Tryz.prog W r b0 30 v)
    (hd : DataW.Trod enc Tryz.prog W 0 (fun _ => true) true 30 v d ps) : ∃ c : Cf, v = c.val ∧ c.okR := by
  obtain ⟨cs, rfl, hsz⟩ := okWide_struct Tryz.underlying30 hval
  obtain ⟨fuel, hf⟩ := hd
  obtain ⟨c, h1, h2⟩ := scfg_openL (cs := cs.toList) (by rw [Array.length_toList, hsz]; exact cells_scfg) (by simpa [Value.cells] using hf)
  refine ⟨c, ?_, h2⟩
  rw [Cf.val, Array.ext' h1]
set_option maxRecDepth 100000 in
theorem vrow_open {v : Value} {d : DataW H} {ps : List MemPlace} (hs : ∃ a0 len0 cp, v = .slice a0 len0 cp)
    (hd : DataW.Trod enc Tryz.prog W 0 (fun _ => true) true 49 v d ps) (hr : Reached Tryz.prog 49 d) :
    ∃ (ao : Option Addr) (cap : Nat) (a : List Vl), v = .slice ao a.length cap ∧ Rd W 2 (.slice ao a.length cap) a.length (vlCells a) ∧ a.length ≤ 140737488351232 ∧ ∀ i ∈ a, i.ok := by
  obtain ⟨ao, cap, xs, rfl, h1, h2, h3, _, h4⟩ := open_rowsS Tryz.underlying49 hs hd hr (by rw [cells_val]; omega)
  obtain ⟨a, rfl, ha⟩ := choose_list (f := Vl.cells) (p := Vl.ok) (fun x hx => val_open (h4 x hx))
  rw [cells_val] at h1
  rw [bytes_val] at h3
  rw [List.length_map] at *
  exact ⟨ao, cap, a, rfl, h1, by omega, ha⟩
/-- What is so of a leaf that came in. -/
def Lf.inW (W : World) (f : Lf) : Prop := (Rd W 2 (.slice f.ao f.l.length f.cap) f.l.length (vlCells f.l) ∧ f.l.length ≤ 140737488351232) ∧ ∀ v ∈ f.l, v.ok
set_option maxRecDepth 100000 in
theorem leaf_open {x : List Value} (h : x.length = Tryz.prog.cellsOf 67 ∧ ∃ (n : Nat) (y : DataW H × List MemPlace), DataW.trod enc Tryz.prog W 0 (fun _ => true) true n 67 x = some y ∧ Reached Tryz.prog 67 y.1) :
    ∃ f : Lf, x = f.cells ∧ f.inW W := by
  obtain ⟨hl, n, y, hy, hr⟩ := h
  rw [cells_leaf] at hl
  obtain ⟨y0, y1, m, rfl, _, h0, h1⟩ := trod_struct2 Tryz.underlying67 hy
  match x, hl with
  | [c0, c1], _ =>
  simp only [cells_vals0, cells_bool0, List.drop_zero, List.drop_succ_cons, List.take_succ_cons, List.take_zero] at h0 h1
  simp only [Reached, DataW.weights, Tryz.underlying67, List.map_cons, List.map_nil, DataW.weightsEach, List.all_append, Bool.and_eq_true] at hr
  obtain ⟨b, e1, _⟩ := DataW.trod_bool Tryz.underlying4 h1
  have hsh : ∃ a0 len0 cp, c0 = .slice a0 len0 cp := by
    rcases Go.Deep.open_slice Tryz.underlying49 h0 with ⟨hcs, _⟩ | ⟨a, len, cp, m', n', D, Pl, hcs, _⟩
    · simp only [List.cons.injEq, and_true] at hcs
      exact ⟨_, _, _, hcs⟩
    · simp only [List.cons.injEq, and_true] at hcs
      exact ⟨_, _, _, hcs⟩
  obtain ⟨a0, len0, cp, rfl⟩ := hsh
  obtain ⟨ao, cap, l, e, g1, g2, g3⟩ := vrow_open (v := .slice a0 len0 cp) (d := y0.1) (ps := y0.2) ⟨_, _, _, rfl⟩ ⟨m, by simpa [Value.cells] using h0⟩ hr.1
  simp only [List.cons.injEq, and_true] at e1
  refine ⟨⟨ao, cap, l, b⟩, ?_, ⟨g1, g2⟩, g3⟩
  rw [Lf.cells, e, e1]
set_option maxRecDepth 100000 in
theorem leaves_open {v : Value} {d : DataW H} {ps : List MemPlace} {r : Reach} {b0 : Nat} (hval : Value.okWide Tryz.prog W r b0 44 v)
    (hd : DataW.Trod enc Tryz.prog W 0 (fun _ => true) true 44 v d ps) (hr : Reached Tryz.prog 44 d) :
    ∃ (ao : Option Addr) (cap : Nat) (fs : List Lf), v = .slice ao fs.length cap ∧ Rd W 2 (.slice ao fs.length cap) fs.length (lfCells fs) ∧ fs.length ≤ 140737488351232 ∧ ∀ f ∈ fs, f.inW W := by
  obtain ⟨ao, cap, xs, rfl, h1, h2, h3, _, h4⟩ := open_rows Tryz.underlying44 hval hd hr (by rw [cells_leaf]; omega)
  obtain ⟨a, rfl, ha⟩ := choose_list (f := Lf.cells) (p := Lf.inW W) (fun x hx => leaf_open (h4 x hx))
  rw [cells_leaf] at h1
  rw [bytes_leaf] at h3
  rw [List.length_map] at *
  exact ⟨ao, cap, a, rfl, h1, by omega, ha⟩
set_option maxRecDepth 100000 in
theorem picks_open {v : Value} {d : DataW H} {ps : List MemPlace} {r : Reach} {b0 : Nat} (hval : Value.okWide Tryz.prog W r b0 45 v)
    (hd : DataW.Trod enc Tryz.prog W 0 (fun _ => true) true 45 v d ps) (hr : Reached Tryz.prog 45 d) :
    ∃ (ao : Option Addr) (cap : Nat) (a : List Int), v = .slice ao a.length cap ∧ Rd W 1 (.slice ao a.length cap) a.length (ints a) ∧ a.length ≤ 140737488351232 := by
  obtain ⟨ao, cap, xs, rfl, h1, h2, h3, _, h4⟩ := open_rows Tryz.underlying45 hval hd hr (by rw [cells_int0]; omega)
  obtain ⟨a, rfl, ha⟩ := choose_list (f := fun k : Int => [Value.int .i64 k]) (p := fun _ => True) (fun x hx => by
    obtain ⟨_, n, y, hy, _⟩ := h4 x hx
    obtain ⟨k, e0, _, _⟩ := DataW.trod_int Tryz.underlying3 hy
    exact ⟨k, e0, trivial⟩)
  rw [cells_int0] at h1
  have e : ∀ a : List Int, (a.map fun k : Int => [Value.int .i64 k]).flatten = ints a := by
    intro a
    induction a with
    | nil => rfl
    | cons x a ih => rw [List.map_cons, List.flatten_cons, ih]; rfl
  rw [e] at h1
  rw [show Tryz.prog.bytesOf 3 = 8 from by kernel_rfl] at h3
  rw [List.length_map] at *
  exact ⟨ao, cap, a, rfl, h1, by omega⟩
end
end Go.Proofs.YtlcoibhbdgdfcaaGreatDoor
