/-
  The walks of wide.Times and Over. Conditions: none.
-/
import Derived.Test.YtgnbabkafobeoaaBitsDiv
import Derived.Test.YtgnbabkafobeoaaBase
namespace Go.Proofs.Ytgnbabkafobeoaa
open Go.RowKit

set_option maxRecDepth 100000 in
set_option maxHeartbeats 1000000 in
theorem wide_times (w : World) (x y hi lo : Nat) (hx : x < 18446744073709551616) (hy : y < 18446744073709551616) (hhi : x * y / 18446744073709551616 = hi) (hlo : x * y % 18446744073709551616 = lo) :
    Calls Try.prog 77 #[.int .u64 x, .int .u64 y] w fun e w' => e = .returned (.agg #[.int .u64 hi, .int .u64 lo]) ∧ Chg [] w w' := by
  have HM := Lib.hid (bits_mul (w.alloc (.cells #[.int .u64 0, .int .u64 0] 106)) x y hx hy)
  rw [hhi, hlo] at HM
  have hc := (Chg.refl [] w).alloc (.cells #[.int .u64 0, .int .u64 0] 106)
  have hbx := Blk.alloc_new w #[.int .u64 0, .int .u64 0] 106
  go_enter Try.func77, Try.ntmps77
  go_wp2_with fail
  refine HM.out.mono ?_
  rintro e w1 ⟨rfl, rfl⟩
  clear HM hhi hlo
  go_wp2
  have hb := Blk.alloc_new w #[.int .u64 hi, .int .u64 lo] 106
  have z0 := hb.cell 0
  have z1 := hb.cell 1
  refine bodyPost_ret (v := .agg #[.int .u64 hi, .int .u64 lo]) (by simp [results, Try.results77, go_sem, z0, z1]) rfl ⟨rfl, (Chg.refl [] w).alloc _⟩

/-- What is left of a division by words. -/
def overV (n y : Nat) : Value := if n < y * 18446744073709551616 then .tuple #[.int .u64 (n / y : Nat), .int .u64 (n % y : Nat), .bool true] else .tuple #[.int .u64 0, .int .u64 0, .bool false]

set_option maxRecDepth 100000 in
set_option maxHeartbeats 1000000 in
theorem wide_over (w : World) (hi lo y n : Nat) (hn : hi * 18446744073709551616 + lo = n) (hh : hi < 18446744073709551616) (hl : lo < 18446744073709551616) (hy : y < 18446744073709551616) :
    Calls Try.prog 76 #[.agg #[.int .u64 hi, .int .u64 lo], .int .u64 y] w fun e w' => e = .returned (overV n y) ∧ Chg [] w w' := by
  have hc := (Chg.refl [] w).alloc (.cells #[.int .u64 hi, .int .u64 lo] 106)
  have hbx := Blk.alloc_new w #[.int .u64 hi, .int .u64 lo] 106
  have c0 := hbx.cell 0
  have c1 := hbx.cell 1
  by_cases hlt : y ≤ hi
  · have HV := Lib.hid (show overV n y = .tuple #[.int .u64 0, .int .u64 0, .bool false] from if_neg (by
      have := Nat.mul_le_mul_right 18446744073709551616 hlt
      omega))
    have hd : decide (y ≤ hi) = true := decide_eq_true hlt
    clear hn
    go_enter Try.func76, Try.ntmps76
    go_wp2
    go_ret3
    rw [HV.out]
    exact ⟨rfl, hc⟩
  · have HV := Lib.hid (show overV n y = .tuple #[.int .u64 (n / y : Nat), .int .u64 (n % y : Nat), .bool true] from if_pos (by
      have := Nat.mul_le_mul_right 18446744073709551616 (show hi + 1 ≤ y by omega)
      omega))
    have hd : decide (y ≤ hi) = false := decide_eq_false hlt
    have HD : Hid (Calls Try.prog 86 #[.int .u64 hi, .int .u64 lo, .int .u64 y] (w.alloc (.cells #[.int .u64 hi, .int .u64 lo] 106)) fun e w' => e = .returned (.tuple #[.int .u64 (n / y : Nat), .int .u64 (n % y : Nat)]) ∧ Chg [] (w.alloc (.cells #[.int .u64 hi, .int .u64 lo] 106)) w') := by
      by_cases h0 : hi = 0
      · subst h0
        have hnl : n = lo := by omega
        rw [hnl]
        exact Lib.hid (bits_div_small _ lo y hl hy (by omega))
      · exact Lib.hid ((bits_div _ hi lo y n hn hl hy (by omega) (by omega)).mono fun e w' h => ⟨h.1, h.2 ▸ Chg.refl _ _⟩)
    generalize n / y = q at *
    generalize n % y = r at *
    go_enter Try.func76, Try.ntmps76
    go_wp2_with fail
    refine HD.out.mono ?_
    rintro e w1 ⟨rfl, hc1⟩
    go_wp2
    go_ret3
    rw [HV.out]
    exact ⟨rfl, hc.trans hc1⟩
end Go.Proofs.Ytgnbabkafobeoaa
