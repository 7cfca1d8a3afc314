/-
  The walks of share.Good, Place, wide.Ceil, and the reference's Ceil, Good and Place. Conditions: none.
-/
import Derived.Test.YtlcoibhbdgdfcaaGreatDoorCoreLumpsB29
import Derived.Laws.Externs
namespace Go.Proofs.YtlcoibhbdgdfcaaGreatDoor
open Go.RowKit

theorem add64_run (q : Nat) (hq : q < 18446744073709551615) (w : World) :
    (callFunc 195 #[.int .u64 (q : Nat), .int .u64 1, .int .u64 0]).run Tryz.prog w = .ok (.value (.tuple #[.int .u64 ((q + 1 : Nat) : Int), .int .u64 0])) w := by
  rw [run_callFunc_extern Tryz.func195 (by kernel_rfl) (by kernel_rfl) (by kernel_rfl) (e := add64Entry) (by kernel_rfl), run_add64 q 1 0 (by omega) (by omega) (by omega) (by omega)]
  simp only [Result.andThen]
  rw [show ((q : Int) + 1 + 0) % 18446744073709551616 = ((q + 1 : Nat) : Int) from by omega, show ((q : Int) + 1 + 0) / 18446744073709551616 = 0 from by omega]

/-- A product divided, rounded up. -/
def ceilT (n y : Nat) : Nat := if n % y = 0 then n / y else n / y + 1
theorem ceilT_le {n y b : Nat} (hy : 0 < y) (h : n ≤ y * b) : ceilT n y ≤ b := by
  unfold ceilT
  have h1 := Nat.div_add_mod n y
  have h2 := Nat.mod_lt n hy
  split
  · next h0 =>
    have h3 : y * (n / y) ≤ y * b := by omega
    exact Nat.le_of_mul_le_mul_left h3 hy
  · next h0 =>
    have h3 : y * (n / y) < y * b := by omega
    exact Nat.lt_of_mul_lt_mul_left h3

set_option maxRecDepth 100000 in
set_option maxHeartbeats 1000000 in
theorem wide_ceil (w : World) (a b y n q : Nat) (hn : a * b = n) (ha : a < 18446744073709551616) (hb : b < 18446744073709551616) (hy : y < 18446744073709551616) (hy0 : 0 < y) (hle : n ≤ y * b) (hq : q = ceilT n y) :
    Calls Tryz.prog 191 #[.int .u64 a, .int .u64 b, .int .u64 y] w fun e w' => e = .returned (.tuple #[.int .u64 (q : Nat), .bool true]) ∧ Chg [] w w' := by
  have hqb := ceilT_le hy0 hle
  rw [← hq] at hqb
  have hh : n / 18446744073709551616 < 18446744073709551616 := by
    rw [← hn, Nat.div_lt_iff_lt_mul (by decide)]
    exact Nat.mul_lt_mul'' ha hb
  have hl : n % 18446744073709551616 < 18446744073709551616 := Nat.mod_lt _ (by decide)
  have hf : n < y * 18446744073709551616 := Nat.lt_of_le_of_lt hle (Nat.mul_lt_mul_of_pos_left hb hy0)
  have HT := Lib.hid (wide_times w a b (n / 18446744073709551616) (n % 18446744073709551616) ha hb (by rw [hn]) (by rw [hn]))
  have HO := Lib.hid (fun W => wide_over W (n / 18446744073709551616) (n % 18446744073709551616) y n (by omega) hh hl hy)
  have HV2 := Lib.hid (show overV n y = .tuple #[.int .u64 (n / y : Nat), .int .u64 (n % y : Nat), .bool true] from if_pos hf)
  unfold ceilT at hq
  clear hf hle hn
  generalize n / 18446744073709551616 = h at *
  generalize n % 18446744073709551616 = l at *
  generalize n / y = d at *
  generalize n % y = r at *
  go_enter Tryz.func191, Tryz.ntmps191
  go_wp2_with fail
  refine HT.out.mono ?_
  rintro e w1 ⟨rfl, hc1⟩
  go_wp2_with fail
  refine (HO.out w1).mono ?_
  rintro e w2 ⟨rfl, hc2⟩
  have HC := Lib.hid (hc1.trans hc2)
  rw [HV2.out]
  clear HT HO HV2 hc1 hc2
  by_cases h0 : r = 0
  · subst h0
    rw [if_pos rfl] at hq
    subst hq
    go_wp2
    go_ret2
    exact ⟨rfl, HC.out⟩
  · have hr : ((r : Int) == 0) = false := by rw [beq_eq_false_iff_ne]; omega
    rw [if_neg h0] at hq
    subst hq
    have ha := add64_run d (by omega)
    go_wp2
    go_ret2
    exact ⟨rfl, HC.out⟩

/-- Can a part be? -/
def goodR (num den : Nat) : Bool := decide (0 < den ∧ num ≤ den)
set_option maxRecDepth 100000 in
theorem share_good (w : World) (num den : Nat) :
    Calls Tryz.prog 190 #[.agg #[.int .u64 (num : Nat), .int .u64 (den : Nat)]] w fun e w' => e = .returned (.bool (goodR num den)) ∧ Chg [] w w' := by
  have HG := Lib.hid (show goodR num den = decide (0 < den ∧ num ≤ den) from rfl)
  generalize goodR num den = G at *
  have hc := (Chg.refl [] w).alloc (.cells #[.int .u64 num, .int .u64 den] 27)
  have hbx := Blk.alloc_new w #[.int .u64 num, .int .u64 den] 27
  have c0 := hbx.cell 0
  have c1 := hbx.cell 1
  by_cases h1 : 0 < den
  · have d1 : decide ((0 : Int) < (den : Int)) = true := decide_eq_true (by omega)
    have d1' : decide (0 < den) = true := decide_eq_true h1
    have e1 : G = decide (num ≤ den) := by rw [HG.out]; simp [h1]
    subst e1
    clear HG
    go_enter Tryz.func190, Tryz.ntmps190
    go_wp2
    go_ret
    exact ⟨rfl, hc⟩
  · have d1 : decide ((0 : Int) < (den : Int)) = false := decide_eq_false (by omega)
    have d1' : decide (0 < den) = false := decide_eq_false h1
    have e1 : G = false := by rw [HG.out]; simp; omega
    subst e1
    clear HG
    go_enter Tryz.func190, Tryz.ntmps190
    go_wp2
    go_ret
    exact ⟨rfl, hc⟩

set_option maxRecDepth 100000 in
theorem ref03_good (w : World) (num den : Nat) :
    Calls Tryz.prog 13 #[.agg #[.int .u64 (num : Nat), .int .u64 (den : Nat)]] w fun e w' => e = .returned (.bool (goodR num den)) ∧ Chg [] w w' := by
  have HG := Lib.hid (show goodR num den = decide (0 < den ∧ num ≤ den) from rfl)
  generalize goodR num den = G at *
  have hc := (Chg.refl [] w).alloc (.cells #[.int .u64 num, .int .u64 den] 27)
  have hbx := Blk.alloc_new w #[.int .u64 num, .int .u64 den] 27
  have c0 := hbx.cell 0
  have c1 := hbx.cell 1
  by_cases h1 : 0 < den
  · have d1 : ((den : Int) != 0) = true := by rw [bne_iff_ne]; omega
    have e1 : G = !decide (den < num) := by rw [HG.out]; by_cases h2 : den < num <;> simp [h1, h2] <;> omega
    subst e1
    clear HG
    go_enter Tryz.func13, Tryz.ntmps13
    go_wp2
    go_ret
    exact ⟨rfl, hc⟩
  · have d1 : ((den : Int) != 0) = false := by rw [bne_eq_false_iff_eq]; omega
    have e1 : G = false := by rw [HG.out]; simp; omega
    subst e1
    clear HG
    go_enter Tryz.func13, Tryz.ntmps13
    go_wp2
    go_ret
    exact ⟨rfl, hc⟩

/-- The error of a place, and the place. -/
def placeE (num den n : Nat) : Nat := if goodR num den then (if n = 0 then 5 else 0) else 1
def placeT (num den n : Nat) : Nat := if placeE num den n = 0 then max (ceilT (num * n) den) 1 else 0
theorem placeT_of {num den n : Nat} (h : placeE num den n = 0) : 1 ≤ placeT num den n ∧ placeT num den n ≤ n := by
  unfold placeT
  rw [if_pos h]
  unfold placeE at h
  split at h
  · next hg =>
    split at h
    · omega
    · next hn =>
      have hg' : 0 < den ∧ num ≤ den := by simpa [goodR] using hg
      have := ceilT_le hg'.1 (Nat.mul_le_mul_right n hg'.2)
      omega
  · omega

set_option maxRecDepth 100000 in
set_option maxHeartbeats 1000000 in
theorem share_place (w : World) (num den n : Nat) (hn : num < 18446744073709551616) (hd : den < 18446744073709551616) (hN : n < 18446744073709551616) (T E : Nat) (hT : T = placeT num den n) (hE : E = placeE num den n) :
    Calls Tryz.prog 184 #[.agg #[.int .u64 (num : Nat), .int .u64 (den : Nat)], .int .u64 (n : Nat)] w fun e w' => e = .returned (.tuple #[.int .u64 (T : Nat), .int .i64 (E : Nat)]) ∧ Chg [] w w' := by
  have hc := (Chg.refl [] w).alloc (.cells #[.int .u64 num, .int .u64 den] 27)
  have hbx := Blk.alloc_new w #[.int .u64 num, .int .u64 den] 27
  have c0 := hbx.cell 0
  have c1 := hbx.cell 1
  have HG := Lib.hid (fun u => share_good u num den)
  have HC := Lib.hid hc
  have HB := Lib.hid hbx
  by_cases hg : goodR num den = true
  · have hg' : 0 < den ∧ num ≤ den := by simpa [goodR] using hg
    by_cases h0 : n = 0
    · have e1 : placeE num den n = 5 := by rw [placeE, if_pos hg, if_pos h0]
      have e2 : placeT num den n = 0 := by rw [placeT, e1]; rfl
      rw [e1] at hE
      rw [e2] at hT
      subst hE hT h0
      rw [hg] at HG
      clear hg' hg e1 e2 hc hbx
      go_enter Tryz.func184, Tryz.ntmps184
      go_wp2_with fail
      refine (HG.out _).mono ?_
      rintro e w1 ⟨rfl, hc1⟩
      go_wp2
      go_ret2
      exact ⟨rfl, HC.out.trans hc1⟩
    · have e1 : placeE num den n = 0 := by rw [placeE, if_pos hg, if_neg h0]
      have e2 : placeT num den n = max (ceilT (num * n) den) 1 := by rw [placeT, if_pos e1]
      rw [e1] at hE
      rw [e2] at hT
      subst hE
      have HL := Lib.hid (fun u => wide_ceil u num n den (num * n) (ceilT (num * n) den) rfl hn hN hd hg'.1 (Nat.mul_le_mul_right n hg'.2) rfl)
      have hz : ((n : Int) == 0) = false := by rw [beq_eq_false_iff_ne]; omega
      rw [hg] at HG
      have HTT := Lib.hid hT
      generalize ceilT (num * n) den = q at *
      clear hg' hg e1 e2 hc hbx hT h0
      go_enter Tryz.func184, Tryz.ntmps184
      go_wp2_with fail
      refine (HG.out _).mono ?_
      rintro e w1 ⟨rfl, hc1⟩
      have hb1 := HB.out.chg hc1 (by simp)
      have c0 := hb1.cell 0
      have c1 := hb1.cell 1
      have HC1 := Lib.hid (HC.out.trans hc1)
      clear hc1 hb1 HG
      go_wp2_with fail
      refine (HL.out _).mono ?_
      rintro e w2 ⟨rfl, hc2⟩
      clear HL
      go_wp2
      go_ret2
      rw [HTT.out]
      refine ⟨?_, HC1.out.trans hc2⟩
      rw [show ((max q 1 : Nat) : Int) = max (q : Int) 1 from by omega]
      rfl
  · have e1 : placeE num den n = 1 := by rw [placeE, if_neg hg]
    have e2 : placeT num den n = 0 := by rw [placeT, e1]; rfl
    rw [e1] at hE
    rw [e2] at hT
    subst hE hT
    have hg2 : goodR num den = false := by simpa using hg
    rw [hg2] at HG
    clear hg hg2 e1 e2 hc hbx
    go_enter Tryz.func184, Tryz.ntmps184
    go_wp2_with fail
    refine (HG.out _).mono ?_
    rintro e w1 ⟨rfl, hc1⟩
    go_wp2
    go_ret2
    exact ⟨rfl, HC.out.trans hc1⟩

end Go.Proofs.YtlcoibhbdgdfcaaGreatDoor
