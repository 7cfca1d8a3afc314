/-
  The walks of wide.Times, Over, Floor and tuples.Limit. Conditions: none.
-/
import Derived.Test.YtkcldhimjnehdaaBitsDiv
import Derived.Test.YtkcldhimjnehdaaBase2
namespace Go.Proofs.Ytkcldhimjnehdaa
open Go.RowKit

set_option maxRecDepth 100000 in
set_option maxHeartbeats 1000000 in
theorem wide_times (w : World) (x y hi lo : Nat) (hx : x < 18446744073709551616) (hy : y < 18446744073709551616) (hhi : x * y / 18446744073709551616 = hi) (hlo : x * y % 18446744073709551616 = lo) :
    Calls Try.prog 72 #[.int .u64 x, .int .u64 y] w fun e w' => e = .returned (.agg #[.int .u64 hi, .int .u64 lo]) ∧ Chg [] w w' := by
  have HM := Lib.hid (bits_mul (w.alloc (.cells #[.int .u64 0, .int .u64 0] 34)) x y hx hy)
  rw [hhi, hlo] at HM
  have hc := (Chg.refl [] w).alloc (.cells #[.int .u64 0, .int .u64 0] 34)
  have hbx := Blk.alloc_new w #[.int .u64 0, .int .u64 0] 34
  go_enter Try.func72, Try.ntmps72
  go_wp2_with fail
  refine HM.out.mono ?_
  rintro e w1 ⟨rfl, rfl⟩
  clear HM hhi hlo
  go_wp2
  have hb := Blk.alloc_new w #[.int .u64 hi, .int .u64 lo] 34
  have z0 := hb.cell 0
  have z1 := hb.cell 1
  refine bodyPost_ret (v := .agg #[.int .u64 hi, .int .u64 lo]) (by simp [results, Try.results72, go_sem, z0, z1]) rfl ⟨rfl, (Chg.refl [] w).alloc _⟩

/-- What is left of a division by words. -/
def overV (n y : Nat) : Value := if n < y * 18446744073709551616 then .tuple #[.int .u64 (n / y : Nat), .int .u64 (n % y : Nat), .bool true] else .tuple #[.int .u64 0, .int .u64 0, .bool false]

set_option maxRecDepth 100000 in
set_option maxHeartbeats 1000000 in
theorem wide_over (w : World) (hi lo y n : Nat) (hn : hi * 18446744073709551616 + lo = n) (hh : hi < 18446744073709551616) (hl : lo < 18446744073709551616) (hy : y < 18446744073709551616) :
    Calls Try.prog 71 #[.agg #[.int .u64 hi, .int .u64 lo], .int .u64 y] w fun e w' => e = .returned (overV n y) ∧ Chg [] w w' := by
  have hc := (Chg.refl [] w).alloc (.cells #[.int .u64 hi, .int .u64 lo] 34)
  have hbx := Blk.alloc_new w #[.int .u64 hi, .int .u64 lo] 34
  have c0 := hbx.cell 0
  have c1 := hbx.cell 1
  by_cases hlt : y ≤ hi
  · have HV := Lib.hid (show overV n y = .tuple #[.int .u64 0, .int .u64 0, .bool false] from if_neg (by
      have := Nat.mul_le_mul_right 18446744073709551616 hlt
      omega))
    have hd : decide (y ≤ hi) = true := decide_eq_true hlt
    clear hn
    go_enter Try.func71, Try.ntmps71
    go_wp2
    go_ret3
    rw [HV.out]
    exact ⟨rfl, hc⟩
  · have HV := Lib.hid (show overV n y = .tuple #[.int .u64 (n / y : Nat), .int .u64 (n % y : Nat), .bool true] from if_pos (by
      have := Nat.mul_le_mul_right 18446744073709551616 (show hi + 1 ≤ y by omega)
      omega))
    have hd : decide (y ≤ hi) = false := decide_eq_false hlt
    have HD : Hid (Calls Try.prog 89 #[.int .u64 hi, .int .u64 lo, .int .u64 y] (w.alloc (.cells #[.int .u64 hi, .int .u64 lo] 34)) fun e w' => e = .returned (.tuple #[.int .u64 (n / y : Nat), .int .u64 (n % y : Nat)]) ∧ Chg [] (w.alloc (.cells #[.int .u64 hi, .int .u64 lo] 34)) w') := by
      by_cases h0 : hi = 0
      · subst h0
        have hnl : n = lo := by omega
        rw [hnl]
        exact Lib.hid (bits_div_small _ lo y hl hy (by omega))
      · exact Lib.hid ((bits_div _ hi lo y n hn hl hy (by omega) (by omega)).mono fun e w' h => ⟨h.1, h.2 ▸ Chg.refl _ _⟩)
    generalize n / y = q at *
    generalize n % y = r at *
    go_enter Try.func71, Try.ntmps71
    go_wp2_with fail
    refine HD.out.mono ?_
    rintro e w1 ⟨rfl, hc1⟩
    go_wp2
    go_ret3
    rw [HV.out]
    exact ⟨rfl, hc.trans hc1⟩

/-- A product divided, rounded down. -/
def floorV (n y : Nat) : Value := if n < y * 18446744073709551616 then .tuple #[.int .u64 (n / y : Nat), .bool true] else .tuple #[.int .u64 0, .bool false]
set_option maxRecDepth 100000 in
set_option maxHeartbeats 1000000 in
theorem wide_floor (w : World) (a b y n : Nat) (hn : a * b = n) (ha : a < 18446744073709551616) (hb : b < 18446744073709551616) (hy : y < 18446744073709551616) :
    Calls Try.prog 47 #[.int .u64 a, .int .u64 b, .int .u64 y] w fun e w' => e = .returned (floorV n y) ∧ Chg [] w w' := by
  have hh : n / 18446744073709551616 < 18446744073709551616 := by
    rw [← hn, Nat.div_lt_iff_lt_mul (by decide)]
    exact Nat.mul_lt_mul'' ha hb
  have hl : n % 18446744073709551616 < 18446744073709551616 := Nat.mod_lt _ (by decide)
  have HT := Lib.hid (wide_times w a b (n / 18446744073709551616) (n % 18446744073709551616) ha hb (by rw [hn]) (by rw [hn]))
  have HO := Lib.hid (fun W => wide_over W (n / 18446744073709551616) (n % 18446744073709551616) y n (by omega) hh hl hy)
  generalize n / 18446744073709551616 = h at *
  generalize n % 18446744073709551616 = l at *
  by_cases hf : n < y * 18446744073709551616
  · have HV := Lib.hid (show floorV n y = .tuple #[.int .u64 (n / y : Nat), .bool true] from if_pos hf)
    have HV2 := Lib.hid (show overV n y = .tuple #[.int .u64 (n / y : Nat), .int .u64 (n % y : Nat), .bool true] from if_pos hf)
    clear hn hf
    generalize n / y = q at *
    generalize n % y = r at *
    go_enter Try.func47, Try.ntmps47
    go_wp2_with fail
    refine HT.out.mono ?_
    rintro e w1 ⟨rfl, hc1⟩
    go_wp2_with fail
    refine (HO.out w1).mono ?_
    rintro e w2 ⟨rfl, hc2⟩
    rw [HV2.out]
    go_wp2
    go_ret2
    rw [HV.out]
    exact ⟨rfl, hc1.trans hc2⟩
  · have HV := Lib.hid (show floorV n y = .tuple #[.int .u64 0, .bool false] from if_neg hf)
    have HV2 := Lib.hid (show overV n y = .tuple #[.int .u64 0, .int .u64 0, .bool false] from if_neg hf)
    clear hn hf
    go_enter Try.func47, Try.ntmps47
    go_wp2_with fail
    refine HT.out.mono ?_
    rintro e w1 ⟨rfl, hc1⟩
    go_wp2_with fail
    refine (HO.out w1).mono ?_
    rintro e w2 ⟨rfl, hc2⟩
    rw [HV2.out]
    go_wp2
    go_ret2
    rw [HV.out]
    exact ⟨rfl, hc1.trans hc2⟩

/-- How great step and slack together may be, of so many. -/
def limT (num n den : Nat) : Nat := if 2 * num * n < den * 18446744073709551616 then max (2 * num * n / den) 1 else n
set_option maxRecDepth 100000 in
set_option maxHeartbeats 1000000 in
theorem tup_limit (w : World) (num den n : Nat) (hN : 2 * num < 18446744073709551616) (hd : den < 18446744073709551616) (hn : n < 18446744073709551616) :
    Calls Try.prog 15 #[.agg #[.int .u64 num, .int .u64 den], .int .u64 n] w fun e w' => e = .returned (.int .u64 (limT num n den : Nat)) ∧ Chg [] w w' := by
  have hc := (Chg.refl [] w).alloc (.cells #[.int .u64 num, .int .u64 den] 25)
  have hbx := Blk.alloc_new w #[.int .u64 num, .int .u64 den] 25
  have c0 := hbx.cell 0
  have c1 := hbx.cell 1
  have HF := Lib.hid (wide_floor (w.alloc (.cells #[.int .u64 num, .int .u64 den] 25)) (2 * num) n den (2 * num * n) rfl hN hn hd)
  have e2 : IntKind.u64.wrap (2 * (num : Int)) = ((2 * num : Nat) : Int) := by rw [IntKind.wrap_u64]; omega
  by_cases hf : 2 * num * n < den * 18446744073709551616
  · have HL := Lib.hid (show limT num n den = max (2 * num * n / den) 1 from if_pos hf)
    have HF2 := Lib.hid (show floorV (2 * num * n) den = .tuple #[.int .u64 (2 * num * n / den : Nat), .bool true] from if_pos hf)
    clear hf
    generalize 2 * num * n / den = q at *
    generalize 2 * num = m at *
    go_enter Try.func15, Try.ntmps15
    go_wp2_with fail
    refine HF.out.mono ?_
    rintro e w1 ⟨rfl, hc1⟩
    rw [HF2.out]
    have hcc := hc.trans hc1
    clear HF
    go_wp2
    go_ret
    rw [HL.out]
    refine ⟨?_, hcc⟩
    rw [show ((max q 1 : Nat) : Int) = max (q : Int) 1 from by omega]
    rfl
  · have HL := Lib.hid (show limT num n den = n from if_neg hf)
    have HF2 := Lib.hid (show floorV (2 * num * n) den = .tuple #[.int .u64 0, .bool false] from if_neg hf)
    clear hf
    generalize 2 * num = m at *
    go_enter Try.func15, Try.ntmps15
    go_wp2_with fail
    refine HF.out.mono ?_
    rintro e w1 ⟨rfl, hc1⟩
    rw [HF2.out]
    go_wp2
    go_ret
    rw [HL.out]
    exact ⟨rfl, hc.trans hc1⟩
end Go.Proofs.Ytkcldhimjnehdaa
