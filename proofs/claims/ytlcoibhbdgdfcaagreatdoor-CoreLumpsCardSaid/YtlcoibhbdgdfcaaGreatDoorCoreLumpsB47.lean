/-
  How a config, and a row of leaves, that came in are opened. Conditions: the form's own reach.
  The walk of ogiveref01.Fewer; parts that are fewer ask for places no later. Conditions: none.
-/
import Derived.Test.YtlcoibhbdgdfcaaGreatDoorCoreLumpsB7
import Derived.Test.YtlcoibhbdgdfcaaGreatDoorCoreLumpsB46
import Derived.Lib.SmallJoins
import Derived.Test.YtlcoibhbdgdfcaaGreatDoorCoreLumpsB30
import Derived.Test.YtlcoibhbdgdfcaaGreatDoorCoreLumpsB29
import Derived.Test.YtlcoibhbdgdfcaaGreatDoorCoreLumpsB6
import Derived.Test.YtlcoibhbdgdfcaaGreatDoorCoreLumpsB15
namespace Go.Proofs.YtlcoibhbdgdfcaaGreatDoor
open Go.ChangeShapes Go.WideShapes Go.ChangeAt Go.RowKit

/-- Each part of a config lies where its type has it. -/
structure Cf.okR (c : Cf) : Prop where
  kind : -9223372036854775808 ≤ c.kind ∧ c.kind < 9223372036854775808
  num : c.num < 18446744073709551616
  den : c.den < 18446744073709551616
  side : -9223372036854775808 ≤ c.side ∧ c.side < 9223372036854775808
  most : -9223372036854775808 ≤ c.most ∧ c.most < 9223372036854775808
  digits : -9223372036854775808 ≤ c.digits ∧ c.digits < 9223372036854775808
  limit : c.limit < 18446744073709551616
  depth : -9223372036854775808 ≤ c.depth ∧ c.depth < 9223372036854775808
  factor : -9223372036854775808 ≤ c.factor ∧ c.factor < 9223372036854775808
  width : -9223372036854775808 ≤ c.width ∧ c.width < 9223372036854775808
  word : c.word < 18446744073709551616
theorem cells_scfg : Tryz.prog.cellsOf 30 = 11 := by kernel_rfl
theorem cells_ratio0 : Tryz.prog.cellsOf 27 = 2 := by kernel_rfl
theorem cells_kind0 : Tryz.prog.cellsOf 24 = 1 := by kernel_rfl
theorem cells_side0 : Tryz.prog.cellsOf 28 = 1 := by kernel_rfl
theorem cells_int0 : Tryz.prog.cellsOf 3 = 1 := by kernel_rfl
theorem cells_u64_0 : Tryz.prog.cellsOf 25 = 1 := by kernel_rfl
theorem cells_leaf : Tryz.prog.cellsOf 67 = 2 := by kernel_rfl
theorem cells_vals0 : Tryz.prog.cellsOf 49 = 1 := by kernel_rfl
theorem cells_bool0 : Tryz.prog.cellsOf 4 = 1 := by kernel_rfl
theorem bytes_leaf : Tryz.prog.bytesOf 67 = 32 := by kernel_rfl
theorem list11 {α : Type} {l : List α} (h : l.length = 11) : ∃ a b c d e f g i j k m, l = [a, b, c, d, e, f, g, i, j, k, m] := by
  match l, h with
  | [a, b, c, d, e, f, g, i, j, k, m], _ => exact ⟨a, b, c, d, e, f, g, i, j, k, m, rfl⟩
section
variable {H : Type} {enc : TypeId × Value → H} {W : World}
set_option maxRecDepth 100000 in
theorem scfg_openL {cs : List Value} (hl : cs.length = 11) {fuel : Nat} {y : DataW H × List MemPlace} (hf : DataW.trod enc Tryz.prog W 0 (fun _ => true) true fuel 30 cs = some y) : ∃ c : Cf, cs = c.cells.toList ∧ c.okR := by
  obtain ⟨c0, c1, c2, c3, c4, c5, c6, c7, c8, c9, c10, rfl⟩ := list11 hl
  obtain ⟨xs, m, _, _, _, hlen, hel⟩ := DataW.trod_struct Tryz.underlying30 hf
  have h0 := hel 0 _ rfl
  have h1 := hel 1 _ rfl
  have h2 := hel 2 _ rfl
  have h3 := hel 3 _ rfl
  have h4 := hel 4 _ rfl
  have h5 := hel 5 _ rfl
  have h6 := hel 6 _ rfl
  have h7 := hel 7 _ rfl
  have h8 := hel 8 _ rfl
  have h9 := hel 9 _ rfl
  clear hel
  have hx : ∀ k, k < 10 → ∃ z, xs[k]? = some z := fun k hk => ⟨xs[k]'(by rw [hlen]; exact hk), List.getElem?_eq_getElem _⟩
  obtain ⟨y0, e0⟩ := hx 0 (by omega)
  obtain ⟨y1, e1⟩ := hx 1 (by omega)
  obtain ⟨y2, e2⟩ := hx 2 (by omega)
  obtain ⟨y3, e3⟩ := hx 3 (by omega)
  obtain ⟨y4, e4⟩ := hx 4 (by omega)
  obtain ⟨y5, e5⟩ := hx 5 (by omega)
  obtain ⟨y6, e6⟩ := hx 6 (by omega)
  obtain ⟨y7, e7⟩ := hx 7 (by omega)
  obtain ⟨y8, e8⟩ := hx 8 (by omega)
  obtain ⟨y9, e9⟩ := hx 9 (by omega)
  rw [e0] at h0
  rw [e1] at h1
  rw [e2] at h2
  rw [e3] at h3
  rw [e4] at h4
  rw [e5] at h5
  rw [e6] at h6
  rw [e7] at h7
  rw [e8] at h8
  rw [e9] at h9
  simp only [List.getElem_toArray, List.getElem_cons_zero, List.getElem_cons_succ] at h0 h1 h2 h3 h4 h5 h6 h7 h8 h9
  simp only [cells_kind0, cells_ratio0, cells_side0, cells_int0, cells_u64_0, List.drop_zero, List.drop_succ_cons, List.take_succ_cons, List.take_zero] at h0 h1 h2 h3 h4 h5 h6 h7 h8 h9
  obtain ⟨n0, f0, _, w0⟩ := DataW.trod_int Tryz.underlying24 h0
  obtain ⟨z0, z1, m', _, _, k0, k1⟩ := trod_struct2 Tryz.underlying27 h1
  simp only [cells_u64_0, List.drop_zero, List.drop_succ_cons, List.take_succ_cons, List.take_zero] at k0 k1
  obtain ⟨n1, f1, _, w1⟩ := DataW.trod_int Tryz.underlying25 k0
  obtain ⟨n2, f2, _, w2⟩ := DataW.trod_int Tryz.underlying25 k1
  obtain ⟨n3, f3, _, w3⟩ := DataW.trod_int Tryz.underlying28 h2
  obtain ⟨n4, f4, _, w4⟩ := DataW.trod_int Tryz.underlying3 h3
  obtain ⟨n5, f5, _, w5⟩ := DataW.trod_int Tryz.underlying3 h4
  obtain ⟨n6, f6, _, w6⟩ := DataW.trod_int Tryz.underlying25 h5
  obtain ⟨n7, f7, _, w7⟩ := DataW.trod_int Tryz.underlying3 h6
  obtain ⟨n8, f8, _, w8⟩ := DataW.trod_int Tryz.underlying3 h7
  obtain ⟨n9, f9, _, w9⟩ := DataW.trod_int Tryz.underlying3 h8
  obtain ⟨n10, f10, _, w10⟩ := DataW.trod_int Tryz.underlying25 h9
  simp only [List.cons.injEq, and_true] at f0 f1 f2 f3 f4 f5 f6 f7 f8 f9 f10
  have r0 := i64_range w0
  have r1 := u64_range w1
  have r2 := u64_range w2
  have r3 := i64_range w3
  have r4 := i64_range w4
  have r5 := i64_range w5
  have r6 := u64_range w6
  have r7 := i64_range w7
  have r8 := i64_range w8
  have r9 := i64_range w9
  have r10 := u64_range w10
  obtain ⟨n1, rfl⟩ := Int.eq_ofNat_of_zero_le r1.1
  obtain ⟨n2, rfl⟩ := Int.eq_ofNat_of_zero_le r2.1
  obtain ⟨n6, rfl⟩ := Int.eq_ofNat_of_zero_le r6.1
  obtain ⟨n10, rfl⟩ := Int.eq_ofNat_of_zero_le r10.1
  refine ⟨⟨n0, n1, n2, n3, n4, n5, n6, n7, n8, n9, n10⟩, ?_, ⟨r0, by simp only; omega, by simp only; omega, r3, r4, r5, by simp only; omega, r7, r8, r9, by simp only; omega⟩⟩
  rw [f0, f1, f2, f3, f4, f5, f6, f7, f8, f9, f10]
  rfl
set_option maxRecDepth 100000 in
theorem scfg_open {v : Value} {d : DataW H} {ps : List MemPlace} {r : Reach} {b0 : Nat} (hval : Value.okWide Tryz.prog W r b0 30 v)
    (hd : DataW.Trod enc Tryz.prog W 0 (fun _ => true) true 30 v d ps) : ∃ c : Cf, v = c.val ∧ c.okR := by
  obtain ⟨cs, rfl, hsz⟩ := okWide_struct Tryz.underlying30 hval
  obtain ⟨fuel, hf⟩ := hd
  obtain ⟨c, h1, h2⟩ := scfg_openL (cs := cs.toList) (by rw [Array.length_toList, hsz]; exact cells_scfg) (by simpa [Value.cells] using hf)
  refine ⟨c, ?_, h2⟩
  rw [Cf.val, Array.ext' h1]
set_option maxRecDepth 100000 in
theorem vrow_open {v : Value} {d : DataW H} {ps : List MemPlace} (hs : ∃ a0 len0 cp, v = .slice a0 len0 cp)
    (hd : DataW.Trod enc Tryz.prog W 0 (fun _ => true) true 49 v d ps) (hr : Reached Tryz.prog 49 d) :
    ∃ (ao : Option Addr) (cap : Nat) (a : List Vl), v = .slice ao a.length cap ∧ Rd W 2 (.slice ao a.length cap) a.length (vlCells a) ∧ a.length ≤ 140737488351232 ∧ ∀ i ∈ a, i.ok := by
  obtain ⟨ao, cap, xs, rfl, h1, h2, h3, _, h4⟩ := open_rowsS Tryz.underlying49 hs hd hr (by rw [cells_val]; omega)
  obtain ⟨a, rfl, ha⟩ := choose_list (f := Vl.cells) (p := Vl.ok) (fun x hx => val_open (h4 x hx))
  rw [cells_val] at h1
  rw [bytes_val] at h3
  rw [List.length_map] at *
  exact ⟨ao, cap, a, rfl, h1, by omega, ha⟩
/-- What is so of a leaf that came in. -/
def Lf.inW (W : World) (f : Lf) : Prop := (Rd W 2 (.slice f.ao f.l.length f.cap) f.l.length (vlCells f.l) ∧ f.l.length ≤ 140737488351232) ∧ ∀ v ∈ f.l, v.ok
set_option maxRecDepth 100000 in
theorem leaf_open {x : List Value} (h : x.length = Tryz.prog.cellsOf 67 ∧ ∃ (n : Nat) (y : DataW H × List MemPlace), DataW.trod enc Tryz.prog W 0 (fun _ => true) true n 67 x = some y ∧ Reached Tryz.prog 67 y.1) :
    ∃ f : Lf, x = f.cells ∧ f.inW W := by
  obtain ⟨hl, n, y, hy, hr⟩ := h
  rw [cells_leaf] at hl
  obtain ⟨y0, y1, m, rfl, _, h0, h1⟩ := trod_struct2 Tryz.underlying67 hy
  match x, hl with
  | [c0, c1], _ =>
  simp only [cells_vals0, cells_bool0, List.drop_zero, List.drop_succ_cons, List.take_succ_cons, List.take_zero] at h0 h1
  simp only [Reached, DataW.weights, Tryz.underlying67, List.map_cons, List.map_nil, DataW.weightsEach, List.all_append, Bool.and_eq_true] at hr
  obtain ⟨b, e1, _⟩ := DataW.trod_bool Tryz.underlying4 h1
  have hsh : ∃ a0 len0 cp, c0 = .slice a0 len0 cp := by
    rcases Go.Deep.open_slice Tryz.underlying49 h0 with ⟨hcs, _⟩ | ⟨a, len, cp, m', n', D, Pl, hcs, _⟩
    · simp only [List.cons.injEq, and_true] at hcs
      exact ⟨_, _, _, hcs⟩
    · simp only [List.cons.injEq, and_true] at hcs
      exact ⟨_, _, _, hcs⟩
  obtain ⟨a0, len0, cp, rfl⟩ := hsh
  obtain ⟨ao, cap, l, e, g1, g2, g3⟩ := vrow_open (v := .slice a0 len0 cp) (d := y0.1) (ps := y0.2) ⟨_, _, _, rfl⟩ ⟨m, by simpa [Value.cells] using h0⟩ hr.1
  simp only [List.cons.injEq, and_true] at e1
  refine ⟨⟨ao, cap, l, b⟩, ?_, ⟨g1, g2⟩, g3⟩
  rw [Lf.cells, e, e1]
set_option maxRecDepth 100000 in
theorem leaves_open {v : Value} {d : DataW H} {ps : List MemPlace} {r : Reach} {b0 : Nat} (hval : Value.okWide Tryz.prog W r b0 44 v)
    (hd : DataW.Trod enc Tryz.prog W 0 (fun _ => true) true 44 v d ps) (hr : Reached Tryz.prog 44 d) :
    ∃ (ao : Option Addr) (cap : Nat) (fs : List Lf), v = .slice ao fs.length cap ∧ Rd W 2 (.slice ao fs.length cap) fs.length (lfCells fs) ∧ fs.length ≤ 140737488351232 ∧ ∀ f ∈ fs, f.inW W := by
  obtain ⟨ao, cap, xs, rfl, h1, h2, h3, _, h4⟩ := open_rows Tryz.underlying44 hval hd hr (by rw [cells_leaf]; omega)
  obtain ⟨a, rfl, ha⟩ := choose_list (f := Lf.cells) (p := Lf.inW W) (fun x hx => leaf_open (h4 x hx))
  rw [cells_leaf] at h1
  rw [bytes_leaf] at h3
  rw [List.length_map] at *
  exact ⟨ao, cap, a, rfl, h1, by omega, ha⟩
set_option maxRecDepth 100000 in
theorem picks_open {v : Value} {d : DataW H} {ps : List MemPlace} {r : Reach} {b0 : Nat} (hval : Value.okWide Tryz.prog W r b0 45 v)
    (hd : DataW.Trod enc Tryz.prog W 0 (fun _ => true) true 45 v d ps) (hr : Reached Tryz.prog 45 d) :
    ∃ (ao : Option Addr) (cap : Nat) (a : List Int), v = .slice ao a.length cap ∧ Rd W 1 (.slice ao a.length cap) a.length (ints a) ∧ a.length ≤ 140737488351232 := by
  obtain ⟨ao, cap, xs, rfl, h1, h2, h3, _, h4⟩ := open_rows Tryz.underlying45 hval hd hr (by rw [cells_int0]; omega)
  obtain ⟨a, rfl, ha⟩ := choose_list (f := fun k : Int => [Value.int .i64 k]) (p := fun _ => True) (fun x hx => by
    obtain ⟨_, n, y, hy, _⟩ := h4 x hx
    obtain ⟨k, e0, _, _⟩ := DataW.trod_int Tryz.underlying3 hy
    exact ⟨k, e0, trivial⟩)
  rw [cells_int0] at h1
  have e : ∀ a : List Int, (a.map fun k : Int => [Value.int .i64 k]).flatten = ints a := by
    intro a
    induction a with
    | nil => rfl
    | cons x a ih => rw [List.map_cons, List.flatten_cons, ih]; rfl
  rw [e] at h1
  rw [show Tryz.prog.bytesOf 3 = 8 from by kernel_rfl] at h3
  rw [List.length_map] at *
  exact ⟨ao, cap, a, rfl, h1, by omega⟩
end
end Go.Proofs.YtlcoibhbdgdfcaaGreatDoor

namespace Go.Proofs.YtlcoibhbdgdfcaaGreatDoor
open Go.RowKit

theorem ceilT_le_iff {a b k : Nat} (hb : 0 < b) : ceilT a b ≤ k ↔ a ≤ k * b := by
  have h := Nat.div_add_mod a b
  have h2 := Nat.mod_lt a hb
  unfold ceilT
  split
  · rename_i h0
    rw [h0, Nat.add_zero] at h
    constructor
    · intro hk
      have := Nat.mul_le_mul_left b hk
      rw [Nat.mul_comm k b]; omega
    · intro hk
      rw [← h, Nat.mul_comm k b] at hk
      exact Nat.le_of_mul_le_mul_left hk hb
  · rename_i h0
    constructor
    · intro hk
      have h3 := Nat.mul_le_mul_left b hk
      rw [Nat.mul_add, Nat.mul_one] at h3
      rw [Nat.mul_comm k b]; omega
    · intro hk
      rcases Nat.lt_or_ge (a / b) k with h4 | h4
      · omega
      · exfalso
        have h3 := Nat.mul_le_mul_left b h4
        rw [Nat.mul_comm k b] at hk
        omega
theorem ceilT_mono {a b c d : Nat} (hb : 0 < b) (hd : 0 < d) (h : a * d ≤ c * b) : ceilT a b ≤ ceilT c d := by
  rw [ceilT_le_iff hb]
  have h1 := (ceilT_le_iff (a := c) (k := ceilT c d) hd).1 (Nat.le_refl _)
  have h2 := Nat.mul_le_mul_right b h1
  have h3 : a * d ≤ ceilT c d * b * d := by
    rw [Nat.mul_assoc (ceilT c d) b d, Nat.mul_comm b d, ← Nat.mul_assoc]
    omega
  exact Nat.le_of_mul_le_mul_right h3 hd
theorem placeT_mono {pn pd qn qd n : Nat} (hp : placeE pn pd n = 0) (hq : placeE qn qd n = 0) (h : pn * qd ≤ qn * pd) : placeT pn pd n ≤ placeT qn qd n := by
  have g : ∀ a b, placeE a b n = 0 → 0 < b := fun a b hE => by
    unfold placeE at hE
    split at hE
    · next hg => simp [goodR] at hg; omega
    · omega
  unfold placeT
  rw [if_pos hp, if_pos hq]
  have h1 := ceilT_mono (a := pn * n) (b := pd) (c := qn * n) (d := qd) (g _ _ hp) (g _ _ hq) (by
    have := Nat.mul_le_mul_right n h
    rw [Nat.mul_right_comm, Nat.mul_right_comm qn n pd]
    exact this)
  omega
theorem enters_rtimes : ∀ (args : Array Value) (w : World), (callFunc 40 args).run Tryz.prog w = .ok (.enter 40 args) w := enters_of Tryz.func40 (by kernel_rfl) rfl
theorem enters_rless : ∀ (args : Array Value) (w : World), (callFunc 39 args).run Tryz.prog w = .ok (.enter 39 args) w := enters_of Tryz.func39 (by kernel_rfl) rfl
set_option maxRecDepth 100000 in
set_option maxHeartbeats 2000000 in
theorem ref01_fewer (w : World) (a b c d : Nat) (ha : a < 18446744073709551616) (hb : b < 18446744073709551616) (hc : c < 18446744073709551616) (hd : d < 18446744073709551616) (hb0 : 0 < b) (hd0 : 0 < d) (B : Bool) (hB : B = decide (a * d < c * b)) :
    Calls Tryz.prog 19 #[.agg #[.int .u64 (a : Nat), .int .u64 (b : Nat)], .agg #[.int .u64 (c : Nat), .int .u64 (d : Nat)]] w fun e w' => e = .returned (.bool B) ∧ Chg [] w w' := by
  obtain ⟨X, hX⟩ : ∃ X, X = a * d := ⟨_, rfl⟩
  obtain ⟨Y, hY⟩ : ∃ Y, Y = c * b := ⟨_, rfl⟩
  rw [← hX, ← hY] at hB
  obtain ⟨h1, eh1⟩ : ∃ z, z = X / 18446744073709551616 := ⟨_, rfl⟩
  obtain ⟨l1, el1⟩ : ∃ z, z = X % 18446744073709551616 := ⟨_, rfl⟩
  obtain ⟨h2, eh2⟩ : ∃ z, z = Y / 18446744073709551616 := ⟨_, rfl⟩
  obtain ⟨l2, el2⟩ : ∃ z, z = Y % 18446744073709551616 := ⟨_, rfl⟩
  have HT1 := Lib.hid (fun u => show Calls Tryz.prog 40 #[.int .u64 (a : Nat), .int .u64 (d : Nat)] u fun e w' => e = .returned (.agg #[.int .u64 (h1 : Nat), .int .u64 (l1 : Nat)]) ∧ Chg [] u w' from by rw [eh1, el1]; exact ref01_times u a d X hX.symm ha hd)
  have HT2 := Lib.hid (fun u => show Calls Tryz.prog 40 #[.int .u64 (c : Nat), .int .u64 (b : Nat)] u fun e w' => e = .returned (.agg #[.int .u64 (h2 : Nat), .int .u64 (l2 : Nat)]) ∧ Chg [] u w' from by rw [eh2, el2]; exact ref01_times u c b Y hY.symm hc hb)
  have HCM := Lib.hid (fun u => ref01_less u h1 l1 h2 l2 B (by
    rw [hB]
    split
    · rename_i h; rw [decide_eq_decide]; omega
    · rename_i h; rw [decide_eq_decide]; omega))
  have hb1 : ((b : Int) == 0) = false := by rw [beq_eq_false_iff_ne]; omega
  have hd1 : ((d : Int) == 0) = false := by rw [beq_eq_false_iff_ne]; omega
  obtain ⟨b2, hb2⟩ : ∃ z, z = w.heap.size := ⟨_, rfl⟩
  obtain ⟨b3, hb3⟩ : ∃ z, z = w.heap.size + 1 := ⟨_, rfl⟩
  have HB2 := Lib.hid (show Blk ((w.alloc (.cells #[.int .u64 (a : Nat), .int .u64 (b : Nat)] 27)).alloc (.cells #[.int .u64 (c : Nat), .int .u64 (d : Nat)] 27)) b2 #[.int .u64 (a : Nat), .int .u64 (b : Nat)] 27 from by rw [hb2]; exact (Blk.alloc_new w _ _).alloc _)
  have HB3 := Lib.hid (show Blk ((w.alloc (.cells #[.int .u64 (a : Nat), .int .u64 (b : Nat)] 27)).alloc (.cells #[.int .u64 (c : Nat), .int .u64 (d : Nat)] 27)) b3 #[.int .u64 (c : Nat), .int .u64 (d : Nat)] 27 from by rw [hb3, ← World.size_alloc w (.cells #[.int .u64 (a : Nat), .int .u64 (b : Nat)] 27)]; exact Blk.alloc_new _ _ _)
  have HC0 := Lib.hid (((Chg.refl [] w).alloc (.cells #[.int .u64 (a : Nat), .int .u64 (b : Nat)] 27)).alloc (.cells #[.int .u64 (c : Nat), .int .u64 (d : Nat)] 27))
  clear hX hY hB eh1 el1 eh2 el2 ha hb hc hd hb0 hd0
  go_enter Tryz.func19, Tryz.ntmps19
  go_wp2_with fail
  rw [← hb3, ← hb2]
  clear hb2 hb3
  generalize ((w.alloc (.cells #[.int .u64 (a : Nat), .int .u64 (b : Nat)] 27)).alloc (.cells #[.int .u64 (c : Nat), .int .u64 (d : Nat)] 27)) = w0 at *
  have HS := Lib.hid (fun wx (hu : Chg [] w0 wx) => show wx.cell? ⟨b2, 0, none⟩ = some (.int .u64 (a : Nat)) ∧ wx.cell? ⟨b2, 1, none⟩ = some (.int .u64 (b : Nat)) ∧ wx.cell? ⟨b3, 0, none⟩ = some (.int .u64 (c : Nat)) ∧ wx.cell? ⟨b3, 1, none⟩ = some (.int .u64 (d : Nat)) from ⟨(HB2.out.chg hu (by simp)).cell 0, (HB2.out.chg hu (by simp)).cell 1, (HB3.out.chg hu (by simp)).cell 0, (HB3.out.chg hu (by simp)).cell 1⟩)
  obtain ⟨z0, z1, z2, z3⟩ := HS.out w0 (Chg.refl [] w0)
  go_wp2_with fail
  clear z0 z1 z2 z3
  have hSS := HS.out w0.drew (Chg.refl [] w0).drew
  refine startN (S := fun wx => wx.cell? ⟨b2, 0, none⟩ = some (.int .u64 (a : Nat)) ∧ wx.cell? ⟨b2, 1, none⟩ = some (.int .u64 (b : Nat)) ∧ wx.cell? ⟨b3, 0, none⟩ = some (.int .u64 (c : Nat)) ∧ wx.cell? ⟨b3, 1, none⟩ = some (.int .u64 (d : Nat))) (by kernel_rfl) hSS (fun hHeld => ?_)
  refine takeN (i := 0) (v := ?va0) rfl (by kernel_rfl) (by kernel_rfl) (by kernel_rfl) (fun _ _ _ h => h) (Or.inl ⟨by rfl, ?ya0⟩) hSS ?ra0
  case ya0 => (intro w hSw; (try dsimp only at hSw); go_simp; first | done | with_reducible rfl)
  try simp only [Act.put, List.setIfInBounds_toArray, List.set_cons_zero, List.set_cons_succ]
  refine takeN (i := 1) (v := ?va1) rfl (by kernel_rfl) (by kernel_rfl) (by kernel_rfl) (fun _ _ _ h => h) (Or.inl ⟨by rfl, ?ya1⟩) hSS ?ra1
  case ya1 => (intro w hSw; (try dsimp only at hSw); go_simp; first | done | with_reducible rfl)
  try simp only [Act.put, List.setIfInBounds_toArray, List.set_cons_zero, List.set_cons_succ]
  refine takeN (i := 2) (v := ?va2) rfl (by kernel_rfl) (by kernel_rfl) (by kernel_rfl) (fun _ _ _ h => h) (Or.inl ⟨by rfl, ?ya2⟩) hSS ?ra2
  case ya2 => (intro w hSw; (try dsimp only at hSw); go_simp; first | done | with_reducible rfl)
  try simp only [Act.put, List.setIfInBounds_toArray, List.set_cons_zero, List.set_cons_succ]
  refine takeN (i := 3) (v := ?va3) rfl (by kernel_rfl) (by kernel_rfl) (by kernel_rfl) (fun _ _ _ h => h) (Or.inl ⟨by rfl, ?ya3⟩) hSS ?ra3
  case ya3 => (intro w hSw; (try dsimp only at hSw); go_simp; first | done | with_reducible rfl)
  try simp only [Act.put, List.setIfInBounds_toArray, List.set_cons_zero, List.set_cons_succ]
  refine takeN (i := 5) (v := ?va5) rfl (by kernel_rfl) (by kernel_rfl) (by kernel_rfl) (fun _ _ _ h => h) (Or.inl ⟨by rfl, ?ya5⟩) hSS ?ra5
  case ya5 => (intro w hSw; (try dsimp only at hSw); go_simp; first | done | with_reducible rfl)
  try simp only [Act.put, List.setIfInBounds_toArray, List.set_cons_zero, List.set_cons_succ]
  refine takeN (i := 6) (v := ?va6) rfl (by kernel_rfl) (by kernel_rfl) (by kernel_rfl) (fun _ _ _ h => h) (Or.inl ⟨by rfl, ?ya6⟩) hSS ?ra6
  case ya6 => (intro w hSw; (try dsimp only at hSw); go_simp; first | done | with_reducible rfl)
  try simp only [Act.put, List.setIfInBounds_toArray, List.set_cons_zero, List.set_cons_succ]
  refine takeN (i := 7) (v := ?va7) rfl (by kernel_rfl) (by kernel_rfl) (by kernel_rfl) (fun _ _ _ h => h) (Or.inl ⟨by rfl, ?ya7⟩) hSS ?ra7
  case ya7 => (intro w hSw; (try dsimp only at hSw); go_simp; first | done | with_reducible rfl)
  try simp only [Act.put, List.setIfInBounds_toArray, List.set_cons_zero, List.set_cons_succ]
  refine takeN (i := 8) (v := ?va8) rfl (by kernel_rfl) (by kernel_rfl) (by kernel_rfl) (fun _ _ _ h => h) (Or.inl ⟨by rfl, ?ya8⟩) hSS ?ra8
  case ya8 => (intro w hSw; (try dsimp only at hSw); go_simp; first | done | with_reducible rfl)
  try simp only [Act.put, List.setIfInBounds_toArray, List.set_cons_zero, List.set_cons_succ]
  refine readyN (rs := [4]) (by kernel_rfl) (by simp) (consN rfl (fun K hK => ?_) nilN)
  refine step_callsG (by rfl) 40 _ _ rfl enters_rtimes _ #[.int .u64 (a : Nat), .int .u64 (d : Nat)] (by simp [Act.eval]) (HT1.out _) ?_; rintro e wa1 ⟨rfl, hca1⟩; refine ⟨_, rfl, ?_⟩
  have HCa1 := Lib.hid ((Chg.refl [] w0).drew.trans hca1)
  have hSa1 := HS.out wa1 HCa1.out
  clear hca1
  refine hK.out _ _ hSa1 (fun hHeld => ?_)
  clear hK K hHeld
  try simp only [Act.put, List.setIfInBounds_toArray, List.set_cons_zero, List.set_cons_succ]
  refine readyN (rs := [9]) (by kernel_rfl) (by simp) (consN rfl (fun K hK => ?_) nilN)
  refine step_callsG (by rfl) 40 _ _ rfl enters_rtimes _ #[.int .u64 (c : Nat), .int .u64 (b : Nat)] (by simp [Act.eval]) (HT2.out _) ?_; rintro e wa2 ⟨rfl, hca2⟩; refine ⟨_, rfl, ?_⟩
  have HCa2 := Lib.hid (HCa1.out.trans hca2)
  have hSa2 := HS.out wa2 HCa2.out
  clear hca2
  refine hK.out _ _ hSa2 (fun hHeld => ?_)
  clear hK K hHeld
  try simp only [Act.put, List.setIfInBounds_toArray, List.set_cons_zero, List.set_cons_succ]
  refine readyN (rs := [10]) (by kernel_rfl) (by simp) (consN rfl (fun K hK => ?_) nilN)
  refine step_callsG (by rfl) 39 _ _ rfl enters_rless _ #[.agg #[.int .u64 (h1 : Nat), .int .u64 (l1 : Nat)], .agg #[.int .u64 (h2 : Nat), .int .u64 (l2 : Nat)]] (by simp [Act.eval]) (HCM.out _) ?_; rintro e wa3 ⟨rfl, hca3⟩; refine ⟨_, rfl, ?_⟩
  have HCa3 := Lib.hid (HCa2.out.trans hca3)
  have hSa3 := HS.out wa3 HCa3.out
  clear hca3
  refine hK.out _ _ hSa3 (fun hHeld => ?_)
  clear hK K hHeld
  try simp only [Act.put, List.setIfInBounds_toArray, List.set_cons_zero, List.set_cons_succ]
  refine takeN (i := 11) (v := ?va11) rfl (by kernel_rfl) (by kernel_rfl) (by kernel_rfl) (fun _ _ _ h => h) (Or.inl ⟨by rfl, ?ya11⟩) hSa3 ?ra11
  case ya11 => (intro w hSw; (try dsimp only at hSw); go_simp; first | done | with_reducible rfl)
  try simp only [Act.put, List.setIfInBounds_toArray, List.set_cons_zero, List.set_cons_succ]
  refine doneN (by kernel_rfl) ?_ _
  have HCE := Lib.hid (HC0.out.trans HCa3.out)
  clear HT1 HT2 HCM HS
  go_wp2
  go_ret
  exact ⟨rfl, HCE.out⟩
end Go.Proofs.YtlcoibhbdgdfcaaGreatDoor
