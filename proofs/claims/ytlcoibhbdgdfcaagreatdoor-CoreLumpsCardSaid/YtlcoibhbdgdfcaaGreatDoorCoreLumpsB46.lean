/-
  The walks of suite's calls through its interface, at the kind Hdr. Conditions: the form's own reach.
  The walk of ogivetop's alive. Conditions: what the package spans' tens hold.
  The ranges of opened numbers. Conditions: none.
  How a row of values with counts is opened. Conditions: the form's own reach. How fractions are opened. Conditions: the form's own reach.
  How a slice within what came in is opened. Conditions: the form's own reach.
-/
import Derived.Test.YtlcoibhbdgdfcaaGreatDoorCoreLumpsB4
import Derived.Test.YtlcoibhbdgdfcaaGreatDoorCoreLumpsB45
import Derived.Test.YtlcoibhbdgdfcaaGreatDoorCoreLumpsB1
import Derived.Test.YtlcoibhbdgdfcaaGreatDoorCoreLumpsB2
import Derived.Test.YtlcoibhbdgdfcaaGreatDoorProg
import Derived.Lib.SmallJoins
namespace Go.Proofs.YtlcoibhbdgdfcaaGreatDoor
open Go.RowKit

set_option maxRecDepth 100000 in
set_option maxHeartbeats 4000000 in
theorem sk_put_hdr (w : World) (s p : Nat) (c : Cf) (h : Sk w s c 148 p) (x : Int) (n : Nat) (R : Ending → World → Prop)
    (HP0 : Calls Tryz.prog 229 #[.pointer (some ⟨p, 0, none⟩), .int .i64 x, .int .u64 n] w fun e w' => ∃ k, e = .returned (.int .i64 k) ∧ R e w') :
    Calls Tryz.prog 24 #[.pointer (some ⟨s, 0, none⟩), .int .i64 x, .int .u64 n] w R := by
  have c11 := h.core
  have HP := Lib.hid HP0
  clear h HP0
  go_enter Tryz.func24, Tryz.ntmps24
  go_wp2_with fail
  refine HP.out.mono ?_
  rintro e w1 ⟨k, rfl, hR⟩
  have HR := Lib.hid hR
  clear hR HP
  go_wp2_with fail
  exact HR.out
set_option maxRecDepth 100000 in
set_option maxHeartbeats 4000000 in
theorem sk_quant_hdr (w : World) (s p : Nat) (c : Cf) (h : Sk w s c 148 p) (num den : Nat) (x k : Int)
    (HP0 : ∀ u, Chg [] w u → Calls Tryz.prog 230 #[.pointer (some ⟨p, 0, none⟩), .agg #[.int .u64 (num : Nat), .int .u64 (den : Nat)]] u fun e w' => e = .returned (.tuple #[.int .i64 x, .int .i64 k]) ∧ Chg [] u w') :
    Calls Tryz.prog 17 #[.pointer (some ⟨s, 0, none⟩), .agg #[.int .u64 (num : Nat), .int .u64 (den : Nat)]] w fun e w' => e = .returned (.tuple #[.int .i64 x, .int .i64 k]) ∧ Chg [] w w' := by
  have c11 := (Sk.nil h ((Chg.refl [] w).alloc (.cells #[.int .u64 (num : Nat), .int .u64 (den : Nat)] 27))).core
  have HP := Lib.hid HP0
  have HC := Lib.hid ((Chg.refl [] w).alloc (.cells #[.int .u64 (num : Nat), .int .u64 (den : Nat)] 27))
  clear h HP0
  go_enter Tryz.func17, Tryz.ntmps17
  go_wp2_with fail
  have c11d := c11
  rw [← World.cell?_drew] at c11d
  go_region_with (go_at_call 230; refine (HP.out _ HC.out.drew).mono ?_; rintro e w1 ⟨rfl, hc⟩)
  all_goals
    go_wp2
    go_ret2
    exact ⟨rfl, HC.out.drew.trans hc⟩
set_option maxRecDepth 100000 in
set_option maxHeartbeats 4000000 in
theorem core_total_hdr (w : World) (p : Nat) (n : Nat)
    (HP0 : ∀ u, Chg [] w u → Calls Tryz.prog 101 #[.pointer (some ⟨p, 0, none⟩)] u fun e w' => e = .returned (.int .u64 (n : Nat)) ∧ Chg [] u w') :
    Calls Tryz.prog 238 #[.agg #[.pointer (some ⟨p, 0, none⟩)]] w fun e w' => e = .returned (.int .u64 (n : Nat)) ∧ Chg [] w w' := by
  have HP := Lib.hid HP0
  have HC := Lib.hid ((Chg.refl [] w).alloc (.cells #[.pointer (some ⟨p, 0, none⟩)] 148))
  clear HP0
  go_enter Tryz.func238, Tryz.ntmps238
  go_wp2_with fail
  refine (HP.out _ HC.out).mono ?_
  rintro e w1 ⟨rfl, hc⟩
  go_wp2
  go_ret
  exact ⟨rfl, HC.out.trans hc⟩
set_option maxRecDepth 100000 in
set_option maxHeartbeats 4000000 in
theorem sk_total_hdr (w : World) (s p : Nat) (c : Cf) (h : Sk w s c 148 p) (n : Nat)
    (HP0 : ∀ u, Chg [] w u → Calls Tryz.prog 101 #[.pointer (some ⟨p, 0, none⟩)] u fun e w' => e = .returned (.int .u64 (n : Nat)) ∧ Chg [] u w') :
    Calls Tryz.prog 25 #[.pointer (some ⟨s, 0, none⟩)] w fun e w' => e = .returned (.int .u64 (n : Nat)) ∧ Chg [] w w' := by
  have c11 := h.core
  have HT := Lib.hid (core_total_hdr w p n HP0)
  clear h HP0
  go_enter Tryz.func25, Tryz.ntmps25
  go_wp2_with fail
  refine HT.out.mono ?_
  rintro e w1 ⟨rfl, hc⟩
  go_wp2
  go_ret
  exact ⟨rfl, hc⟩
end Go.Proofs.YtlcoibhbdgdfcaaGreatDoor

namespace Go.Proofs.YtlcoibhbdgdfcaaGreatDoor
open Go.RowKit

theorem bare_alive (u : World) : Calls Tryz.prog 45 #[aliveC.val] u fun e w' => e = .returned aliveC.val ∧ Chg [] u w' := bare_hdr u aliveC rfl
def FreshH (B : Nat) (w' : World) (T : Nat) (d : Value) (k : Int) : Prop := ∃ h p s0 s1, T = 148 ∧ d = .agg #[.pointer (some ⟨h, 0, none⟩)] ∧ k = 0 ∧ HdA w' h p s0 s1 (.slice none 0 0) [] 0 0 ∧ s0 ≠ s1 ∧ B ≤ h ∧ B ≤ s1
set_option maxRecDepth 100000 in
theorem new_alive (w : World) (ht : w.cell? ⟨0, 1, none⟩ = some (.int .u64 10)) : Calls Tryz.prog 26 #[aliveC.val] w fun e w' => ∃ s h p s0 s1, e = .returned (.tuple #[.pointer (some ⟨s, 0, none⟩), .int .i64 0]) ∧ Sk w' s aliveC 148 h ∧ HdA w' h p s0 s1 (.slice none 0 0) [] 0 0 ∧ s0 ≠ s1 ∧ Chg [] w w' ∧ h ≠ s ∧ s1 ≠ s ∧ w.heap.size ≤ h ∧ w.heap.size ≤ s1 := by
  refine (suite_newK w aliveC aliveC bare_alive (FreshH w.heap.size) (fun u hu => (fresh_hdr1 u (hu.cell ht (by simp))).mono ?_)).mono ?_
  · rintro e w' ⟨h, p, s0, s1, rfl, hd, hc, hne, hl1, hl2⟩
    exact ⟨_, _, _, rfl, ⟨h, p, s0, s1, rfl, rfl, rfl, hd, hne, Nat.le_trans hu.size hl1, Nat.le_trans hu.size hl2⟩, hc⟩
  · rintro e w' (⟨h1, -⟩ | ⟨-, T, d, k, w1, ⟨h, p, s0, s1, rfl, rfl, rfl, hd, hne, hl1, hl2⟩, hc, ⟨hk, -⟩ | ⟨-, rfl, rfl⟩⟩)
    · exact absurd h1 (by decide)
    · exact absurd rfl hk
    · have hk : Chg [] w1 (w1.alloc (.cells (aliveC.cells ++ #[.iface 148 (.agg #[.pointer (some ⟨h, 0, none⟩)])]) 96)) := (Chg.refl _ _).alloc _
      exact ⟨w1.heap.size, h, p, s0, s1, rfl, Blk.alloc_new _ _ _, hd.nil hk, hne, hc.trans hk, Nat.ne_of_lt hd.blk.lt, Nat.ne_of_lt hd.st1.blk.lt, hl1, hl2⟩
set_option maxRecDepth 100000 in
set_option maxHeartbeats 4000000 in
theorem core_alive (w : World) (ht : w.cell? ⟨0, 1, none⟩ = some (.int .u64 10)) : Calls Tryz.prog 7 #[] w fun e w' => e = .returned (.bool true) ∧ Chg [] w w' := by
  have HN := Lib.hid (new_alive w ht)
  simp only [aliveC, Cf.val, Cf.cells, Cf.none] at HN
  go_enter Tryz.func7, Tryz.ntmps7
  go_wp2_with fail
  refine HN.out.mono ?_
  rintro e w1 ⟨s, h, p, s0, s1, rfl, hs, hd, hne, hc, hn1, hn2, hl1, hl2⟩
  have HS := Lib.hid hs
  have HC := Lib.hid hc
  have HNE := Lib.hid (show s0 ≠ s1 ∧ h ≠ s ∧ s1 ≠ s ∧ w.heap.size ≤ h ∧ w.heap.size ≤ s1 from ⟨hne, hn1, hn2, hl1, hl2⟩)
  have HP := Lib.hid (hdr_put5 w1 h p s0 s1 hd hne)
  clear HN hs hd hc hne hn1 hn2 hl1 hl2
  go_wp2_with fail
  refine (sk_put_hdr w1 s h _ HS.out 5 2 (fun e w' => e = .returned (.int .i64 0) ∧ ∃ rv, HdA w' h p s0 s1 rv [⟨5, 2⟩] 5 5 ∧ Chg [h, s1] w1 w') (HP.out.mono fun e w' ⟨he, hr⟩ => ⟨0, he, he, hr⟩)).mono ?_
  rintro e w2 ⟨rfl, rv, hd, hc⟩
  have HS2 := Lib.hid (HS.out.chg hc (by simp; exact ⟨fun e => HNE.out.2.1 e.symm, fun e => HNE.out.2.2.1 e.symm⟩))
  have HC2 := Lib.hid (HC.out.trans' hc (fun b hb => .inr (by simp at hb; rcases hb with rfl | rfl; exact HNE.out.2.2.2.1; exact HNE.out.2.2.2.2)))
  have HD := Lib.hid hd
  clear hd hc HC HS HP
  go_wp2_with fail
  refine (sk_quant_hdr w2 s h _ HS2.out 1 2 5 0 (fun u hu => hdr_quant5 u h p s0 s1 rv (HD.out.nil hu))).mono ?_
  rintro e w3 ⟨rfl, hc3⟩
  have HS3 := Lib.hid (HS2.out.nil hc3)
  have HC3 := Lib.hid (HC2.out.trans hc3)
  have HD3 := Lib.hid (HD.out.nil hc3)
  clear hc3 HC2 HS2 HD
  go_wp2_with fail
  refine (sk_total_hdr w3 s h _ HS3.out 2 (fun u hu => hdr_total u h p s0 s1 rv [⟨5, 2⟩] 5 5 (HD3.out.nil hu) 2 (by decide) (by omega))).mono ?_
  rintro e w4 ⟨rfl, hc4⟩
  have HC4 := Lib.hid (HC3.out.trans hc4)
  clear hc4
  go_wp2
  go_ret
  exact ⟨rfl, HC4.out⟩
end Go.Proofs.YtlcoibhbdgdfcaaGreatDoor

namespace Go.Proofs.YtlcoibhbdgdfcaaGreatDoor
open Go.ChangeShapes Go.WideShapes Go.ChangeAt Go.RowKit

theorem i64_range {n : Int} (h : (Lit.int .i64 n).wf = true) : -9223372036854775808 ≤ n ∧ n < 9223372036854775808 := by
  simp [Lit.wf, IntKind.min, IntKind.max, IntKind.signed, IntKind.bits] at h; omega
theorem u64_range {n : Int} (h : (Lit.int .u64 n).wf = true) : 0 ≤ n ∧ n < 18446744073709551616 := by
  simp [Lit.wf, IntKind.min, IntKind.max, IntKind.signed, IntKind.bits] at h; omega
theorem u32_range {n : Int} (h : (Lit.int .u32 n).wf = true) : 0 ≤ n ∧ n < 4294967296 := by
  simp [Lit.wf, IntKind.min, IntKind.max, IntKind.signed, IntKind.bits] at h; omega
theorem u8_range {n : Int} (h : (Lit.int .u8 n).wf = true) : 0 ≤ n ∧ n < 256 := by
  simp [Lit.wf, IntKind.min, IntKind.max, IntKind.signed, IntKind.bits] at h; omega
end Go.Proofs.YtlcoibhbdgdfcaaGreatDoor

namespace Go.Proofs.YtlcoibhbdgdfcaaGreatDoor
open Go.ChangeShapes Go.WideShapes Go.ChangeAt Go.RowKit

theorem cells_val : Tryz.prog.cellsOf 72 = 2 := by kernel_rfl
theorem bytes_val : Tryz.prog.bytesOf 72 = 16 := by kernel_rfl
theorem val_int64 : Tryz.prog.cellsOf 2 = 1 := by kernel_rfl
theorem val_uint64 : Tryz.prog.cellsOf 25 = 1 := by kernel_rfl
section
variable {H : Type} {enc : TypeId × Value → H} {W : World}
set_option maxRecDepth 100000 in
theorem val_open {x : List Value} (h : x.length = Tryz.prog.cellsOf 72 ∧ ∃ (n : Nat) (y : DataW H × List MemPlace), DataW.trod enc Tryz.prog W 0 (fun _ => true) true n 72 x = some y ∧ Reached Tryz.prog 72 y.1) :
    ∃ i : Vl, x = i.cells ∧ i.ok := by
  obtain ⟨hl, n, y, hy, _⟩ := h
  rw [cells_val] at hl
  obtain ⟨y0, y1, m, rfl, _, h0, h1⟩ := trod_struct2 Tryz.underlying72 hy
  match x, hl with
  | [c0, c1], _ =>
  simp only [val_int64, val_uint64, List.drop_zero, List.drop_succ_cons, List.take_succ_cons, List.take_zero] at h0 h1
  obtain ⟨k, e0, _, w0⟩ := DataW.trod_int Tryz.underlying2 h0
  obtain ⟨u, e1, _, w1⟩ := DataW.trod_int Tryz.underlying25 h1
  simp only [List.cons.injEq, and_true] at e0 e1
  subst e0 e1
  have r0 := i64_range w0
  have r1 := u64_range w1
  obtain ⟨u, rfl⟩ := Int.eq_ofNat_of_zero_le r1.1
  exact ⟨⟨k, u⟩, rfl, r0.1, r0.2, by simp only; omega⟩

set_option maxRecDepth 100000 in
theorem vals_open {v : Value} {d : DataW H} {ps : List MemPlace} {r : Reach} {b0 : Nat} (hval : Value.okWide Tryz.prog W r b0 49 v)
    (hd : DataW.Trod enc Tryz.prog W 0 (fun _ => true) true 49 v d ps) (hr : Reached Tryz.prog 49 d) :
    ∃ (ao : Option Addr) (cap : Nat) (a : List Vl), v = .slice ao a.length cap ∧ Rd W 2 (.slice ao a.length cap) a.length (vlCells a) ∧ a.length ≤ 140737488351232 ∧ ∀ i ∈ a, i.ok := by
  obtain ⟨ao, cap, xs, rfl, h1, h2, h3, _, h4⟩ := open_rows Tryz.underlying49 hval hd hr (by rw [cells_val]; omega)
  obtain ⟨a, rfl, ha⟩ := choose_list (f := Vl.cells) (p := Vl.ok) (fun x hx => val_open (h4 x hx))
  rw [cells_val] at h1
  rw [bytes_val] at h3
  rw [List.length_map] at *
  exact ⟨ao, cap, a, rfl, h1, by omega, ha⟩
end
end Go.Proofs.YtlcoibhbdgdfcaaGreatDoor

namespace Go.Proofs.YtlcoibhbdgdfcaaGreatDoor
open Go.ChangeShapes Go.WideShapes Go.ChangeAt Go.RowKit

theorem cells_ratio : Tryz.prog.cellsOf 27 = 2 := by kernel_rfl
section
variable {H : Type} {enc : TypeId × Value → H} {W : World}
set_option maxRecDepth 100000 in
theorem ratio_open {v : Value} {d : DataW H} {ps : List MemPlace} {r : Reach} {b0 : Nat} (hval : Value.okWide Tryz.prog W r b0 27 v)
    (hd : DataW.Trod enc Tryz.prog W 0 (fun _ => true) true 27 v d ps) :
    ∃ num den : Nat, v = .agg #[.int .u64 num, .int .u64 den] ∧ num < 18446744073709551616 ∧ den < 18446744073709551616 := by
  obtain ⟨v0, v1, y0, y1, n, rfl, _, _, h0, h1⟩ := Go.Joins.open_agg2 Tryz.underlying27 (by kernel_rfl) cells_ratio hval hd
  obtain ⟨u, e0, _, w0⟩ := DataW.trod_int Tryz.underlying25 h0
  obtain ⟨k, e1, _, w1⟩ := DataW.trod_int Tryz.underlying25 h1
  simp only [List.cons.injEq, and_true] at e0 e1
  subst e0 e1
  have r0 := u64_range w0
  have r1 := u64_range w1
  obtain ⟨u, rfl⟩ := Int.eq_ofNat_of_zero_le r0.1
  obtain ⟨k, rfl⟩ := Int.eq_ofNat_of_zero_le r1.1
  exact ⟨u, k, rfl, by omega, by omega⟩
end
end Go.Proofs.YtlcoibhbdgdfcaaGreatDoor

namespace Go.Proofs.YtlcoibhbdgdfcaaGreatDoor
open Go.ChangeShapes Go.WideShapes Go.ChangeAt Go.RowKit

section
variable {H : Type} {enc : TypeId × Value → H} {P : Program} {W : World}
/-- A slice that came in: its elements' cells, one behind the other; what each reads as; and the form's reach. -/
theorem open_rowsS {t e : TypeId} {v : Value} {d : DataW H} {ps : List MemPlace} (ht : P.underlying t = some (.slice e)) (hval : ∃ a0 len0 cp, v = .slice a0 len0 cp)
    (hd : DataW.Trod enc P W 0 (fun _ => true) true t v d ps) (hr : Reached P t d) (hpos : 0 < P.cellsOf e) :
    ∃ (ao : Option Addr) (cap : Nat) (xs : List (List Value)), v = .slice ao xs.length cap ∧ Rd W (P.cellsOf e) v xs.length xs.flatten ∧ (∀ b ∈ abl ao, b < W.heap.size ∨ xs.length = 0) ∧
      xs.length * P.bytesOf e ≤ 140737488351232 ∧ xs.length ≤ maxLen ∧
      ∀ x ∈ xs, x.length = P.cellsOf e ∧ ∃ (n : Nat) (y : DataW H × List MemPlace), DataW.trod enc P W 0 (fun _ => true) true n e x = some y ∧ Reached P e y.1 := by
  obtain ⟨a0, len0, cp, rfl⟩ := hval
  obtain ⟨fuel, hf⟩ := hd
  rcases Go.Deep.open_slice ht hf with ⟨hcs, hx⟩ | ⟨a, len, cap, m, n, D, Pl, hcs, _, hlc, hcm, hm, hx, hel⟩
  · simp [Value.cells] at hcs
    obtain ⟨rfl, rfl, rfl⟩ := hcs
    exact ⟨none, 0, [], rfl, ⟨by simp, none, 0, rfl, .inl rfl⟩, by simp, by simp, by simp [maxLen], by simp⟩
  · simp [Value.cells] at hcs
    obtain ⟨rfl, rfl, rfl⟩ := hcs
    simp only [Prod.mk.injEq] at hx
    obtain ⟨rfl, rfl⟩ := hx
    simp only [if_true] at hm
    obtain rfl := hm.symm
    simp only [Reached, DataW.weights, ht, List.all_cons, List.all_append, Bool.and_eq_true, reachBytes] at hr
    obtain ⟨hr0, hr1, _⟩ := hr
    have hr0 := of_decide_eq_true hr0
    have key : ∀ i, i < len0 → ∃ x : List Value, x.length = P.cellsOf e ∧ (∀ j, j < P.cellsOf e → W.cell? ((a.add (i * P.cellsOf e)).add j) = x[j]?) ∧ ∃ (n : Nat) (y : DataW H × List MemPlace), DataW.trod enc P W 0 (fun _ => true) true n e x = some y ∧ Reached P e y.1 := by
      intro i hi
      obtain ⟨x, h1, h2⟩ := hel i (by omega)
      simp only [World.cells?, Nat.zero_le, if_true] at h1
      obtain ⟨hl, hc⟩ := mapM_cells h1
      exact ⟨x, hl, hc, n, _, h2, reached_all hr1 _ (List.mem_map.2 ⟨i, by simpa using hi, rfl⟩)⟩
    obtain ⟨X, hX⟩ := Go.Deep.choose_lt key
    have hlen : ((List.range len0).map X).length = len0 := by simp
    have hfl : ∀ n, n ≤ len0 → (((List.range n).map X).flatten).length = n * P.cellsOf e := by
      intro n
      induction n with
      | zero => simp
      | succ n ih =>
        intro hn
        rw [List.range_succ, List.map_append, List.flatten_append, List.length_append, ih (by omega)]
        simp [(hX n (by omega)).1, Nat.succ_mul]
    have hget : ∀ n i j, n ≤ len0 → i < n → j < P.cellsOf e → (((List.range n).map X).flatten)[i * P.cellsOf e + j]? = (X i)[j]? := by
      intro n
      induction n with
      | zero => intro i j _ hi; omega
      | succ n ih =>
        intro i j hn hi hj
        rw [List.range_succ, List.map_append, List.flatten_append]
        by_cases hin : i < n
        · rw [List.getElem?_append_left, ih i j (by omega) hin hj]
          rw [hfl n (by omega)]
          have : (i + 1) * P.cellsOf e ≤ n * P.cellsOf e := Nat.mul_le_mul_right _ (by omega)
          rw [Nat.succ_mul] at this
          omega
        · obtain rfl : i = n := by omega
          rw [List.getElem?_append_right (by rw [hfl i (by omega)]; omega), hfl i (by omega)]
          simp
    refine ⟨some a, cp, (List.range len0).map X, by rw [hlen], ?_, ?_, ?_, by rw [hlen]; omega, ?_⟩
    · rw [hlen]
      refine ⟨hfl len0 (Nat.le_refl _), some a, cp, rfl, ?_⟩
      by_cases h0 : len0 = 0
      · exact .inl h0
      · right
        obtain ⟨b, off, spot⟩ := a
        have hspot : spot = none := by
          obtain ⟨hl, hc, _⟩ := hX 0 (by omega)
          have := hc 0 hpos
          have hs : (X 0)[0]? = some ((X 0)[0]'(by omega)) := List.getElem?_eq_getElem _
          rw [hs] at this
          simpa [Addr.add] using World.cell?_spot this
        subst hspot
        refine ⟨b, off, rfl, fun j hj => ?_⟩
        have hdiv : j / P.cellsOf e < len0 := Nat.div_lt_of_lt_mul (by rw [Nat.mul_comm]; exact hj)
        have hmod := Nat.mod_lt j hpos
        have e1 := hget len0 (j / P.cellsOf e) (j % P.cellsOf e) (Nat.le_refl _) hdiv hmod
        have e2 := (hX (j / P.cellsOf e) hdiv).2.1 (j % P.cellsOf e) hmod
        rw [Nat.mul_comm, Nat.div_add_mod] at e1
        rw [e1, ← e2, Go.Deep.add_add, Nat.mul_comm, Nat.div_add_mod]
        by_cases hj0 : j = 0
        · subst hj0; simp [Addr.add]
        · simp [Addr.add, hj0]
    · intro b hb
      by_cases h0 : len0 = 0
      · exact .inr (by simpa using h0)
      · left
        simp only [abl_some, List.mem_singleton] at hb
        subst hb
        obtain ⟨hl, hc, _⟩ := hX 0 (by omega)
        have := hc 0 hpos
        have hs : (X 0)[0]? = some ((X 0)[0]'(by omega)) := List.getElem?_eq_getElem _
        rw [hs] at this
        have hlt := World.block_lt_of_cell? W _ this
        simpa [Addr.add] using hlt
    · rw [hlen]
      have : len0 * P.bytesOf e ≤ (((List.range len0).map D).length + ((List.range (cp - len0)).map fun j => D (len0 + j)).length) * P.bytesOf e := Nat.mul_le_mul_right _ (by simp)
      omega
    · intro x hx
      obtain ⟨i, hi, rfl⟩ := List.mem_map.1 hx
      obtain ⟨h1, _, h2⟩ := hX i (by simpa using hi)
      exact ⟨h1, h2⟩
end
end Go.Proofs.YtlcoibhbdgdfcaaGreatDoor
