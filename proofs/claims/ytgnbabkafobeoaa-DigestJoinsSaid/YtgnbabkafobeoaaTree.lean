/-
  The walks of layer 16 (tree), but Level and Range. Conditions: the form's own reach.
-/
import Derived.Test.YtgnbabkafobeoaaPlainDg
import Derived.Laws.Bits64
namespace Go.Proofs.Ytgnbabkafobeoaa
open Go.RowKit

theorem bits_xor_i64_nat (a b : Nat) (ha : a < 9223372036854775808) (hb : b < 9223372036854775808) :
    bits .xor .i64 (a : Int) (b : Int) = ((a ^^^ b : Nat) : Int) := by
  have hx : a ^^^ b < 2 ^ 63 := Nat.xor_lt_two_pow (by omega) (by omega)
  have h1 : (BitVec.ofInt 64 (a : Int)).toNat = a := by
    rw [BitVec.ofInt_natCast, BitVec.toNat_ofNat]; exact Nat.mod_eq_of_lt (by omega)
  have h2 : (BitVec.ofInt 64 (b : Int)).toNat = b := by
    rw [BitVec.ofInt_natCast, BitVec.toNat_ofNat]; exact Nat.mod_eq_of_lt (by omega)
  show IntKind.i64.wrap ((BitVec.ofInt 64 (a : Int) ^^^ BitVec.ofInt 64 (b : Int)).toNat : Int) = _
  rw [BitVec.toNat_xor, h1, h2]
  have hw : ∀ n : Int, IntKind.i64.wrap n = (n + 9223372036854775808) % 18446744073709551616 - 9223372036854775808 := fun n => by simp [IntKind.wrap, IntKind.bits, IntKind.signed]; split <;> omega
  rw [hw]
  omega
theorem xor_one (a : Nat) : a ^^^ 1 = if a % 2 = 1 then a - 1 else a + 1 := by
  have h1 : (a ^^^ 1) / 2 = a / 2 := by
    have := Nat.xor_div_two_pow (a := a) (b := 1) (n := 1)
    simpa using this
  have h2 : (a ^^^ 1) % 2 = (a + 1) % 2 := by
    have := Nat.xor_mod_two_pow (a := a) (b := 1) (n := 1)
    rw [Nat.pow_one] at this
    have e0 : (0 : Nat) ^^^ 1 % 2 = 1 := by decide
    have e1 : (1 : Nat) ^^^ 1 % 2 = 0 := by decide
    rcases Nat.mod_two_eq_zero_or_one a with h | h
    · rw [h, e0] at this; omega
    · rw [h, e1] at this; omega
  split <;> omega
theorem bes_xor {v : Int} (h : 2 ≤ v) (h2 : v < 9223372036854775808) : bits .xor .i64 v 1 = bes v := by
  obtain ⟨n, rfl⟩ := Int.eq_ofNat_of_zero_le (show 0 ≤ v by omega)
  have e := bits_xor_i64_nat n 1 (by omega) (by omega)
  rw [show ((1 : Nat) : Int) = 1 from rfl] at e
  rw [e, xor_one]
  unfold bes
  split <;> split <;> omega
theorem depths {d : Nat} (h1 : 1 ≤ d) (h2 : d ≤ 24) : d = 1 ∨ d = 2 ∨ d = 3 ∨ d = 4 ∨ d = 5 ∨ d = 6 ∨ d = 7 ∨ d = 8 ∨ d = 9 ∨ d = 10 ∨ d = 11 ∨ d = 12 ∨ d = 13 ∨ d = 14 ∨ d = 15 ∨ d = 16 ∨ d = 17 ∨ d = 18 ∨ d = 19 ∨ d = 20 ∨ d = 21 ∨ d = 22 ∨ d = 23 ∨ d = 24 := by omega
theorem two_d {d : Nat} (h1 : 1 ≤ d) (h2 : d ≤ 24) : 2 ≤ 2 ^ d ∧ 2 ^ d ≤ 16777216 ∧ 2 ^ d % 2 = 0 := by
  rcases depths h1 h2 with rfl | rfl | rfl | rfl | rfl | rfl | rfl | rfl | rfl | rfl | rfl | rfl | rfl | rfl | rfl | rfl | rfl | rfl | rfl | rfl | rfl | rfl | rfl | rfl <;> decide
set_option maxRecDepth 100000 in
theorem tree_leaves (w : World) (d P : Nat) (h1 : 1 ≤ d) (h2 : d ≤ 24) (hP : P = 2 ^ d) :
    Calls Try.prog 50 #[.agg #[.int .i64 (d : Nat)]] w fun e w' => e = .returned (.int .i64 (P : Nat)) ∧ Chg [] w w' := by
  have hc := (Chg.refl [] w).alloc (.cells #[.int .i64 (d : Nat)] 76)
  have hb := Blk.alloc_new w #[.int .i64 (d : Nat)] 76
  have b0 := hb.cell 0
  subst hP
  rcases depths h1 h2 with rfl | rfl | rfl | rfl | rfl | rfl | rfl | rfl | rfl | rfl | rfl | rfl | rfl | rfl | rfl | rfl | rfl | rfl | rfl | rfl | rfl | rfl | rfl | rfl
  all_goals
    go_enter Try.func50, Try.ntmps50
    go_wp2
    go_ret
    exact ⟨rfl, hc⟩

set_option maxRecDepth 100000 in
set_option maxHeartbeats 1000000 in
theorem tree_good (w : World) (d P : Nat) (h1 : 1 ≤ d) (h2 : d ≤ 24) (hP : P = 2 ^ d) (v : Int) (_hv : v < 9223372036854775808) :
    Calls Try.prog 49 #[.agg #[.int .i64 (d : Nat)], .int .i64 v] w fun e w' => e = .returned (.bool (decide (1 ≤ v ∧ v < 2 * (P : Int)))) ∧ Chg [] w w' := by
  obtain ⟨p1, p2, p3⟩ := two_d h1 h2
  rw [← hP] at p1 p2 p3
  have HLV := Lib.hid (fun u => tree_leaves u d P h1 h2 hP)
  have HB := Lib.hid (Blk.alloc_new w #[.int .i64 (d : Nat)] 76)
  have HC := Lib.hid ((Chg.refl [] w).alloc (.cells #[.int .i64 (d : Nat)] 76))
  have b0 := HB.out.cell 0
  clear hP h1 h2
  by_cases hv1 : 1 ≤ v
  · have d1 : decide ((1 : Int) ≤ v) = true := decide_eq_true hv1
    obtain ⟨Q, hQ⟩ : ∃ Q : Bool, Q = decide (1 ≤ v ∧ v < 2 * (P : Int)) := ⟨_, rfl⟩
    rw [← hQ]
    have d2 : decide (v < 2 * (P : Int)) = Q := by rw [hQ]; simp [hv1]
    have hw : IntKind.i64.wrap (2 * (P : Int)) = 2 * (P : Int) := by rw [IntKind.wrap_i64]; omega
    clear hQ
    go_enter Try.func49, Try.ntmps49
    go_wp2_with fail
    refine (HLV.out _).mono ?_
    rintro e w1 ⟨rfl, hc1⟩
    go_wp2_with fail
    go_ret
    exact ⟨rfl, HC.out.trans hc1⟩
  · have d1 : decide ((1 : Int) ≤ v) = false := decide_eq_false hv1
    have d2 : decide (1 ≤ v ∧ v < 2 * (P : Int)) = false := decide_eq_false (fun h => hv1 h.1)
    rw [d2]
    go_enter Try.func49, Try.ntmps49
    go_wp2_with fail
    go_ret
    exact ⟨rfl, HC.out⟩

set_option maxRecDepth 100000 in
set_option maxHeartbeats 1000000 in
theorem tree_leaf (w : World) (d P : Nat) (h1 : 1 ≤ d) (h2 : d ≤ 24) (hP : P = 2 ^ d) (x : Int) (hx : 0 ≤ x) (hx2 : x < P) :
    Calls Try.prog 44 #[.agg #[.int .i64 (d : Nat)], .int .i64 x] w fun e w' => e = .returned (.tuple #[.int .i64 ((P : Int) + x), .bool true]) ∧ Chg [] w w' := by
  obtain ⟨p1, p2, p3⟩ := two_d h1 h2
  rw [← hP] at p1 p2 p3
  have HLV := Lib.hid (fun u => tree_leaves u d P h1 h2 hP)
  have HB := Lib.hid (Blk.alloc_new w #[.int .i64 (d : Nat)] 76)
  have HC := Lib.hid ((Chg.refl [] w).alloc (.cells #[.int .i64 (d : Nat)] 76))
  have b0 := HB.out.cell 0
  clear hP h1 h2
  have d1 : decide (x < 0) = false := decide_eq_false (by omega)
  have d2 : decide ((P : Int) ≤ x) = false := decide_eq_false (by omega)
  have hw : IntKind.i64.wrap ((P : Int) + x) = (P : Int) + x := by rw [IntKind.wrap_i64]; omega
  go_enter Try.func44, Try.ntmps44
  go_wp2_with fail
  refine (HLV.out _).mono ?_
  rintro e w1 ⟨rfl, hc1⟩
  have b0' := (HB.out.chg hc1 (by simp)).cell 0
  simp only [List.getElem?_toArray, List.getElem?_cons_zero] at b0'
  go_wp2_with fail
  refine (HLV.out _).mono ?_
  rintro e w2 ⟨rfl, hc2⟩
  go_wp2_with fail
  go_ret2
  exact ⟨rfl, (HC.out.trans hc1).trans hc2⟩

set_option maxRecDepth 100000 in
set_option maxHeartbeats 1000000 in
theorem tree_leaf_out (w : World) (d P : Nat) (h1 : 1 ≤ d) (h2 : d ≤ 24) (hP : P = 2 ^ d) (x : Int) (hx : x < 0 ∨ P ≤ x) (hx2 : x < 9223372036854775808) :
    Calls Try.prog 44 #[.agg #[.int .i64 (d : Nat)], .int .i64 x] w fun e w' => e = .returned (.tuple #[.int .i64 0, .bool false]) ∧ Chg [] w w' := by
  obtain ⟨p1, p2, p3⟩ := two_d h1 h2
  rw [← hP] at p1 p2 p3
  have HLV := Lib.hid (fun u => tree_leaves u d P h1 h2 hP)
  have HB := Lib.hid (Blk.alloc_new w #[.int .i64 (d : Nat)] 76)
  have HC := Lib.hid ((Chg.refl [] w).alloc (.cells #[.int .i64 (d : Nat)] 76))
  have b0 := HB.out.cell 0
  clear hP h1 h2
  by_cases h0 : x < 0
  · have d1 : decide (x < 0) = true := decide_eq_true h0
    go_enter Try.func44, Try.ntmps44
    go_wp2_with fail
    go_ret2
    exact ⟨rfl, HC.out⟩
  · have d1 : decide (x < 0) = false := decide_eq_false h0
    have d2 : decide ((P : Int) ≤ x) = true := decide_eq_true (by omega)
    go_enter Try.func44, Try.ntmps44
    go_wp2_with fail
    refine (HLV.out _).mono ?_
    rintro e w1 ⟨rfl, hc1⟩
    go_wp2_with fail
    go_ret2
    exact ⟨rfl, HC.out.trans hc1⟩

set_option maxRecDepth 100000 in
set_option maxHeartbeats 1000000 in
theorem tree_up (w : World) (d P : Nat) (h1 : 1 ≤ d) (h2 : d ≤ 24) (hP : P = 2 ^ d) (v : Int) (hv : 1 ≤ v) (hv2 : v < 2 * (P : Int)) :
    Calls Try.prog 100 #[.agg #[.int .i64 (d : Nat)], .int .i64 v] w fun e w' => e = .returned (.int .i64 (v / 2)) ∧ Chg [] w w' := by
  obtain ⟨p1, p2, p3⟩ := two_d h1 h2
  rw [← hP] at p1 p2 p3
  have HLV := Lib.hid (fun u => tree_leaves u d P h1 h2 hP)
  have HB := Lib.hid (Blk.alloc_new w #[.int .i64 (d : Nat)] 76)
  have HC := Lib.hid ((Chg.refl [] w).alloc (.cells #[.int .i64 (d : Nat)] 76))
  have b0 := HB.out.cell 0
  have HGD := Lib.hid (fun u => tree_good u d P h1 h2 hP v (by omega))
  rw [decide_eq_true (show 1 ≤ v ∧ v < 2 * (P : Int) from ⟨hv, hv2⟩)] at HGD
  clear hP h1 h2
  have hq : v.tdiv 2 = v / 2 := Int.tdiv_eq_ediv_of_nonneg (by omega)
  have hw : IntKind.i64.wrap (v / 2) = v / 2 := by rw [IntKind.wrap_i64]; omega
  go_enter Try.func100, Try.ntmps100
  go_wp2_with fail
  refine (HGD.out _).mono ?_
  rintro e w1 ⟨rfl, hc1⟩
  go_wp2_with fail
  go_ret
  exact ⟨rfl, HC.out.trans hc1⟩

set_option maxRecDepth 100000 in
set_option maxHeartbeats 1000000 in
theorem tree_beside (w : World) (d P : Nat) (h1 : 1 ≤ d) (h2 : d ≤ 24) (hP : P = 2 ^ d) (v : Int) (hv : 2 ≤ v) (hv2 : v < 2 * (P : Int)) :
    Calls Try.prog 99 #[.agg #[.int .i64 (d : Nat)], .int .i64 v] w fun e w' => e = .returned (.int .i64 (bes v)) ∧ Chg [] w w' := by
  obtain ⟨p1, p2, p3⟩ := two_d h1 h2
  rw [← hP] at p1 p2 p3
  have HLV := Lib.hid (fun u => tree_leaves u d P h1 h2 hP)
  have HB := Lib.hid (Blk.alloc_new w #[.int .i64 (d : Nat)] 76)
  have HC := Lib.hid ((Chg.refl [] w).alloc (.cells #[.int .i64 (d : Nat)] 76))
  have b0 := HB.out.cell 0
  have HGD := Lib.hid (fun u => tree_good u d P h1 h2 hP v (by omega))
  rw [decide_eq_true (show 1 ≤ v ∧ v < 2 * (P : Int) from ⟨by omega, hv2⟩)] at HGD
  clear hP h1 h2
  have d1 : (v == 1) = false := by rw [beq_eq_false_iff_ne]; omega
  have HX := Lib.hid (bes_xor hv (by omega))
  go_enter Try.func99, Try.ntmps99
  go_wp2_with fail
  refine (HGD.out _).mono ?_
  rintro e w1 ⟨rfl, hc1⟩
  go_wp2_with fail
  go_ret
  rw [← HX.out]
  exact ⟨rfl, HC.out.trans hc1⟩

set_option maxRecDepth 100000 in
set_option maxHeartbeats 1000000 in
theorem tree_beside1 (w : World) (d P : Nat) (h1 : 1 ≤ d) (h2 : d ≤ 24) (hP : P = 2 ^ d) :
    Calls Try.prog 99 #[.agg #[.int .i64 (d : Nat)], .int .i64 1] w fun e w' => e = .returned (.int .i64 0) ∧ Chg [] w w' := by
  obtain ⟨p1, p2, p3⟩ := two_d h1 h2
  rw [← hP] at p1 p2 p3
  have HLV := Lib.hid (fun u => tree_leaves u d P h1 h2 hP)
  have HB := Lib.hid (Blk.alloc_new w #[.int .i64 (d : Nat)] 76)
  have HC := Lib.hid ((Chg.refl [] w).alloc (.cells #[.int .i64 (d : Nat)] 76))
  have b0 := HB.out.cell 0
  have HGD := Lib.hid (fun u => tree_good u d P h1 h2 hP 1 (by omega))
  rw [decide_eq_true (show (1 : Int) ≤ 1 ∧ (1 : Int) < 2 * (P : Int) from ⟨by omega, by omega⟩)] at HGD
  clear hP h1 h2
  go_enter Try.func99, Try.ntmps99
  go_wp2_with fail
  refine (HGD.out _).mono ?_
  rintro e w1 ⟨rfl, hc1⟩
  go_wp2_with fail
  go_ret
  exact ⟨rfl, HC.out.trans hc1⟩

set_option maxRecDepth 100000 in
theorem tree_new (w : World) (d : Int) :
    Calls Try.prog 52 #[.int .i64 d] w fun e w' => e = .returned (.tuple #[.agg #[.int .i64 (if 1 ≤ d ∧ d ≤ 24 then d else 0)], .int .i64 (if 1 ≤ d ∧ d ≤ 24 then 0 else 1)]) ∧ Chg [] w w' := by
  have hb := Blk.alloc_new w #[.int .i64 0] 76
  have f0 := hb.free 0
  have c0 := hb.cell 0
  have hc := (Chg.refl [] w).alloc (.cells #[.int .i64 0] 76)
  by_cases h1 : d < 1
  · have d1 : decide (d < 1) = true := decide_eq_true h1
    rw [if_neg (by omega), if_neg (by omega)]
    go_enter Try.func52, Try.ntmps52
    go_wp2_with fail
    refine bodyPost_ret (v := .tuple #[.agg #[.int .i64 0], .int .i64 1]) (by simp [results, Try.results52, go_sem, c0]) rfl ⟨rfl, ?_⟩
    with_reducible (repeat (first | exact hc | exact Chg.refl _ _ | apply Chg.alloc))
  · have d1 : decide (d < 1) = false := decide_eq_false h1
    by_cases h2 : d ≤ 24
    · have d2 : decide (24 < d) = false := decide_eq_false (by omega)
      rw [if_pos (by omega), if_pos (by omega)]
      go_enter Try.func52, Try.ntmps52
      go_wp2_with fail
      have y0 := (Blk.alloc_new w #[.int .i64 d] 76).cell 0
      refine bodyPost_ret (v := .tuple #[.agg #[.int .i64 d], .int .i64 0]) (by simp [results, Try.results52, go_sem, y0]) rfl ⟨rfl, ?_⟩
      with_reducible (repeat (first | exact hc | exact Chg.refl _ _ | apply Chg.alloc))
    · have d2 : decide (24 < d) = true := decide_eq_true (by omega)
      rw [if_neg (by omega), if_neg (by omega)]
      go_enter Try.func52, Try.ntmps52
      go_wp2_with fail
      refine bodyPost_ret (v := .tuple #[.agg #[.int .i64 0], .int .i64 1]) (by simp [results, Try.results52, go_sem, c0]) rfl ⟨rfl, ?_⟩
      with_reducible (repeat (first | exact hc | exact Chg.refl _ _ | apply Chg.alloc))
end Go.Proofs.Ytgnbabkafobeoaa
