/-
  The walks of wide.Floor and tuples.Limit. Conditions: none.
-/
import Derived.Test.YtkcldhimjnehdaaWide0
namespace Go.Proofs.Ytkcldhimjnehdaa
open Go.RowKit

/-- A product divided, rounded down. -/
def floorV (n y : Nat) : Value := if n < y * 18446744073709551616 then .tuple #[.int .u64 (n / y : Nat), .bool true] else .tuple #[.int .u64 0, .bool false]
set_option maxRecDepth 100000 in
set_option maxHeartbeats 1000000 in
theorem wide_floor (w : World) (a b y n : Nat) (hn : a * b = n) (ha : a < 18446744073709551616) (hb : b < 18446744073709551616) (hy : y < 18446744073709551616) :
    Calls Try.prog 47 #[.int .u64 a, .int .u64 b, .int .u64 y] w fun e w' => e = .returned (floorV n y) ∧ Chg [] w w' := by
  have hh : n / 18446744073709551616 < 18446744073709551616 := by
    rw [← hn, Nat.div_lt_iff_lt_mul (by decide)]
    exact Nat.mul_lt_mul'' ha hb
  have hl : n % 18446744073709551616 < 18446744073709551616 := Nat.mod_lt _ (by decide)
  have HT := Lib.hid (wide_times w a b (n / 18446744073709551616) (n % 18446744073709551616) ha hb (by rw [hn]) (by rw [hn]))
  have HO := Lib.hid (fun W => wide_over W (n / 18446744073709551616) (n % 18446744073709551616) y n (by omega) hh hl hy)
  generalize n / 18446744073709551616 = h at *
  generalize n % 18446744073709551616 = l at *
  by_cases hf : n < y * 18446744073709551616
  · have HV := Lib.hid (show floorV n y = .tuple #[.int .u64 (n / y : Nat), .bool true] from if_pos hf)
    have HV2 := Lib.hid (show overV n y = .tuple #[.int .u64 (n / y : Nat), .int .u64 (n % y : Nat), .bool true] from if_pos hf)
    clear hn hf
    generalize n / y = q at *
    generalize n % y = r at *
    go_enter Try.func47, Try.ntmps47
    go_wp2_with fail
    refine HT.out.mono ?_
    rintro e w1 ⟨rfl, hc1⟩
    go_wp2_with fail
    refine (HO.out w1).mono ?_
    rintro e w2 ⟨rfl, hc2⟩
    rw [HV2.out]
    go_wp2
    go_ret2
    rw [HV.out]
    exact ⟨rfl, hc1.trans hc2⟩
  · have HV := Lib.hid (show floorV n y = .tuple #[.int .u64 0, .bool false] from if_neg hf)
    have HV2 := Lib.hid (show overV n y = .tuple #[.int .u64 0, .int .u64 0, .bool false] from if_neg hf)
    clear hn hf
    go_enter Try.func47, Try.ntmps47
    go_wp2_with fail
    refine HT.out.mono ?_
    rintro e w1 ⟨rfl, hc1⟩
    go_wp2_with fail
    refine (HO.out w1).mono ?_
    rintro e w2 ⟨rfl, hc2⟩
    rw [HV2.out]
    go_wp2
    go_ret2
    rw [HV.out]
    exact ⟨rfl, hc1.trans hc2⟩

/-- How great step and slack together may be, of so many. -/
def limT (num n den : Nat) : Nat := if 2 * num * n < den * 18446744073709551616 then max (2 * num * n / den) 1 else n
set_option maxRecDepth 100000 in
set_option maxHeartbeats 1000000 in
theorem tup_limit (w : World) (num den n : Nat) (hN : 2 * num < 18446744073709551616) (hd : den < 18446744073709551616) (hn : n < 18446744073709551616) :
    Calls Try.prog 15 #[.agg #[.int .u64 num, .int .u64 den], .int .u64 n] w fun e w' => e = .returned (.int .u64 (limT num n den : Nat)) ∧ Chg [] w w' := by
  have hc := (Chg.refl [] w).alloc (.cells #[.int .u64 num, .int .u64 den] 25)
  have hbx := Blk.alloc_new w #[.int .u64 num, .int .u64 den] 25
  have c0 := hbx.cell 0
  have c1 := hbx.cell 1
  have HF := Lib.hid (wide_floor (w.alloc (.cells #[.int .u64 num, .int .u64 den] 25)) (2 * num) n den (2 * num * n) rfl hN hn hd)
  have e2 : IntKind.u64.wrap (2 * (num : Int)) = ((2 * num : Nat) : Int) := by rw [IntKind.wrap_u64]; omega
  by_cases hf : 2 * num * n < den * 18446744073709551616
  · have HL := Lib.hid (show limT num n den = max (2 * num * n / den) 1 from if_pos hf)
    have HF2 := Lib.hid (show floorV (2 * num * n) den = .tuple #[.int .u64 (2 * num * n / den : Nat), .bool true] from if_pos hf)
    clear hf
    generalize 2 * num * n / den = q at *
    generalize 2 * num = m at *
    go_enter Try.func15, Try.ntmps15
    go_wp2_with fail
    refine HF.out.mono ?_
    rintro e w1 ⟨rfl, hc1⟩
    rw [HF2.out]
    have hcc := hc.trans hc1
    clear HF
    go_wp2
    go_ret
    rw [HL.out]
    refine ⟨?_, hcc⟩
    rw [show ((max q 1 : Nat) : Int) = max (q : Int) 1 from by omega]
    rfl
  · have HL := Lib.hid (show limT num n den = n from if_neg hf)
    have HF2 := Lib.hid (show floorV (2 * num * n) den = .tuple #[.int .u64 0, .bool false] from if_neg hf)
    clear hf
    generalize 2 * num = m at *
    go_enter Try.func15, Try.ntmps15
    go_wp2_with fail
    refine HF.out.mono ?_
    rintro e w1 ⟨rfl, hc1⟩
    rw [HF2.out]
    go_wp2
    go_ret
    rw [HL.out]
    exact ⟨rfl, hc.trans hc1⟩
end Go.Proofs.Ytkcldhimjnehdaa
