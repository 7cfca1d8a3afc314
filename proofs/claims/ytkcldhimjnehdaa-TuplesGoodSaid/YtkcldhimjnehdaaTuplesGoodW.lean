/-
  The walk of the law TuplesGood. Conditions: the form's own reach.
-/
import Derived.Test.YtkcldhimjnehdaaTupAlive
import Derived.Test.YtkcldhimjnehdaaRefOver
import Derived.Test.YtkcldhimjnehdaaRefTimes
namespace Go.Proofs.Ytkcldhimjnehdaa
open Go.RowKit

def headB (l : List Tp) : Bool := (l.getD 0 default).st == 1 && (l.getD 0 default).sl == 0
def canT (l : List Tp) (n k : Nat) : Bool := okTo l n k && (k == 0 || headB l)
theorem canT_succ (l : List Tp) (n k : Nat) : canT l n (k + 1) = (canT l n k && (okT l n k && (decide (0 < k) || headB l))) := by
  unfold canT
  rw [okTo_succ]
  cases k with
  | zero => cases okTo l n 0 <;> cases okT l n 0 <;> cases headB l <;> rfl
  | succ k =>
    have e1 : (k + 1 + 1 == 0) = false := rfl
    have e2 : (k + 1 == 0) = false := rfl
    have e3 : decide (0 < k + 1) = true := decide_eq_true (by omega)
    rw [e1, e2, e3]
    cases okTo l n (k + 1) <;> cases okT l n (k + 1) <;> cases headB l <;> rfl
theorem canT_good (l : List Tp) : (decide ((stps l).sum ≤ 9223372036854775807) && canT l (stps l).sum l.length) = goodT l := by
  rw [goodT, canT, headOk, Bool.and_assoc]
  rfl
theorem ret_bool {a b : Bool} (h : a = b) : Ending.returned (.bool a) = .returned (.bool b) := by rw [h]

set_option maxRecDepth 100000 in
set_option maxHeartbeats 40000000 in
theorem law_TuplesGood (w : World) (ao : Option Addr) (cap : Nat) (l : List Tp) (hr : Rd w 3 (.slice ao l.length cap) l.length (tpCells l)) (hl : l.length * 24 ≤ 140737488351232) (hk : ∀ p ∈ l, p.ok)
    (num den : Nat) (hnum : num < 18446744073709551616) (hden : den < 18446744073709551616) (N : Nat) (hN : N < 18446744073709551616) :
    Calls Try.prog 3 #[.slice ao l.length cap, .agg #[.int .u64 num, .int .u64 den], .int .u64 N] w fun e w' => e = .returned (.bool true) ∧ Chg [] w w' := by
  have hst : ∀ p ∈ l, p.st < 18446744073709551616 := fun p hp => (hk p hp).2.2.1
  have hsl : ∀ p ∈ l, p.sl < 18446744073709551616 := fun p hp => (hk p hp).2.2.2
  have HTT := Lib.hid (fun W hr => tup_total W ao cap l hst hr (by omega))
  have HGD := Lib.hid (fun W hr => tup_good W ao cap l hst hr (by omega))
  have HST := Lib.hid hst
  have HSL := Lib.hid hsl
  have HD64 := Lib.hid hden
  have HN64 := Lib.hid hN
  clear hst hsl hk hden hN
  go_enter Try.func3, Try.ntmps3
  go_wp2_with fail
  refine (law18_alive _).mono ?_
  rintro e w1 ⟨rfl, hc1⟩
  have hbx := (Blk.alloc_new w #[.int .u64 num, .int .u64 den] 25).chg hc1 (by simp)
  have HR1 := Lib.hid ((hr.alloc _).chg hc1 (by simp))
  have hc1 := ((Chg.refl [] w).alloc _).trans hc1
  have a0 := hbx.cell 0
  have a1 := hbx.cell 1
  by_cases h60 : 60 < l.length
  · have hd : decide ((60 : Int) < (l.length : Int)) = true := decide_eq_true (by omega)
    clear h60
    go_wp2
    go_ret
    exact ⟨rfl, hc1⟩
  have hd : decide ((60 : Int) < (l.length : Int)) = false := decide_eq_false (by omega)
  by_cases h31 : 2147483648 < num
  · have hd2 : decide ((2147483648 : Int) < (num : Int)) = true := decide_eq_true (by omega)
    clear h31
    go_wp2
    go_ret
    exact ⟨rfl, hc1⟩
  have hd2 : decide ((2147483648 : Int) < (num : Int)) = false := decide_eq_false (by omega)
  have hl60 : l.length ≤ 60 := by omega
  have hnum31 : num ≤ 2147483648 := by omega
  have HB1 := Lib.hid hbx
  have HC1 := Lib.hid hc1
  clear h60 h31 hc1 hbx hr hnum
  go_wp2
  go_loopw [7, 8, 33] (fun sv fv iv wx => ∃ (k s : Nat) (fits : Bool), k ≤ l.length ∧ iv = .int .i64 (k : Nat) ∧ sv = .int .u64 (s : Nat) ∧ fv = .bool fits ∧ s ≤ 9223372036854775807 ∧
    Hid (fits = decide (sumTo (stps l) k ≤ 9223372036854775807) ∧ (fits = true → s = sumTo (stps l) k)) ∧ Chg [] w1 wx) (fun _ _ iv _ => l.length - (intOf iv).toNat)
  case atStart => exact ⟨0, 0, true, Nat.zero_le _, rfl, rfl, rfl, by omega, Lib.hid ⟨rfl, fun _ => rfl⟩, Chg.refl _ _⟩
  case round =>
    obtain ⟨k, s, fits, hk, rfl, rfl, rfl, hs, HI, hch⟩ := hrel
    by_cases hlt : k < l.length
    · obtain ⟨b, o, rfl, hc⟩ := (HR1.out.chg hch (by simp)).addr (by omega)
      obtain ⟨c0, c1, c2⟩ := tp_at hc hlt
      have hst := HST.out l[k] (List.getElem_mem _)
      have hsucc := sumTo_succ (stps l) k (by simpa [stps] using hlt)
      rw [show (stps l)[k]'(by simpa [stps] using hlt) = l[k].st from by simp [stps]] at hsucc
      cases fits with
      | false =>
        have hi : ¬ sumTo (stps l) k ≤ 9223372036854775807 := of_decide_eq_false HI.out.1.symm
        have HI2 := Lib.hid (show false = decide (sumTo (stps l) (k + 1) ≤ 9223372036854775807) from (decide_eq_false (by omega)).symm)
        generalize l[k] = p at *
        clear hc hsucc hi
        go_wp2
        exact ⟨⟨k + 1, s, false, by omega, by go_num, rfl, rfl, hs, Lib.hid ⟨HI2.out, fun h => by cases h⟩, hch.alloc _⟩, by simp [intOf]; omega⟩
      | true =>
        have hi : sumTo (stps l) k ≤ 9223372036854775807 := of_decide_eq_true HI.out.1.symm
        have he := HI.out.2 rfl
        rw [← he] at hsucc hi
        by_cases hbig : l[k].st < 9223372036854775808
        · have hb1 : decide ((l[k].st : Int) < 9223372036854775808) = true := decide_eq_true (by omega)
          have hw : IntKind.u64.wrap ((s : Int) + (l[k].st : Int)) = ((s + l[k].st : Nat) : Int) := by rw [IntKind.wrap_u64]; omega
          by_cases hsum : s + l[k].st < 9223372036854775808
          · have hb2 : decide ((s : Int) + (l[k].st : Int) < 9223372036854775808) = true := decide_eq_true (by omega)
            have HI2 := Lib.hid (show true = decide (sumTo (stps l) (k + 1) ≤ 9223372036854775807) ∧ (true = true → s + l[k].st = sumTo (stps l) (k + 1)) from ⟨(decide_eq_true (by omega)).symm, fun _ => hsucc.symm⟩)
            have hs2 : s + l[k].st ≤ 9223372036854775807 := by omega
            generalize l[k] = p at *
            clear hc hsucc hi he hsum hbig
            go_wp2
            exact ⟨⟨k + 1, s + p.st, true, by omega, by go_num, by go_num, rfl, hs2, HI2, hch.alloc _⟩, by simp [intOf]; omega⟩
          · have hb2 : decide ((s : Int) + (l[k].st : Int) < 9223372036854775808) = false := decide_eq_false (by omega)
            have HI2 := Lib.hid (show false = decide (sumTo (stps l) (k + 1) ≤ 9223372036854775807) from (decide_eq_false (by omega)).symm)
            generalize l[k] = p at *
            clear hc hsucc hi he hsum hbig
            go_wp2
            exact ⟨⟨k + 1, s, false, by omega, by go_num, rfl, rfl, hs, Lib.hid ⟨HI2.out, fun h => by cases h⟩, hch.alloc _⟩, by simp [intOf]; omega⟩
        · have hb1 : decide ((l[k].st : Int) < 9223372036854775808) = false := decide_eq_false (by omega)
          have HI2 := Lib.hid (show false = decide (sumTo (stps l) (k + 1) ≤ 9223372036854775807) from (decide_eq_false (by omega)).symm)
          generalize l[k] = p at *
          clear hc hsucc hi he hbig
          go_wp2
          exact ⟨⟨k + 1, s, false, by omega, by go_num, rfl, rfl, hs, Lib.hid ⟨HI2.out, fun h => by cases h⟩, hch.alloc _⟩, by simp [intOf]; omega⟩
    · obtain rfl : k = l.length := by omega
      have hall : sumTo (stps l) l.length = (stps l).sum := by rw [sumTo, List.take_of_length_le (by simp [stps])]
      rw [hall] at HI
      have HLE := Lib.hid (sumTo_le (stps l))
      have HGG := Lib.hid (canT_good l)
      have HGS := Lib.hid (fun k => canT_succ l (stps l).sum k)
      have HPT := Lib.hid (rfl : plusV (stps l) = plusV (stps l))
      clear hall
      generalize hn : (stps l).sum = n at *
      have HNS := Lib.hid hn
      clear hn
      generalize hm : l.length = m at *
      have HM := Lib.hid hm
      clear hm
      go_wp2
      go_loopw [11, 12, 59] (fun cv av iv wx => ∃ (k a : Nat) (can : Bool), k ≤ m ∧ iv = .int .i64 (k : Nat) ∧ av = .int .u64 (a : Nat) ∧ cv = .bool can ∧ a < 18446744073709551616 ∧
        Hid (a = sumTo (stps l) k % 18446744073709551616 ∧ can = (fits && canT l n k)) ∧ Chg [] w1 wx) (fun _ _ iv _ => m - (intOf iv).toNat)
      case atStart => exact ⟨0, 0, fits, Nat.zero_le _, rfl, rfl, rfl, by omega, Lib.hid ⟨rfl, by simp [canT, okTo]⟩, hch⟩
      case round =>
        obtain ⟨k, a, can, hk, rfl, rfl, rfl, ha, HJ, hch⟩ := hrel
        by_cases hlt : k < m
        · obtain ⟨b, o, rfl, hc⟩ := (HR1.out.chg hch (by simp)).addr (by omega)
          have hkl : k < l.length := by have := HM.out; omega
          rw [← HM.out] at hc
          obtain ⟨c0, c1, c2⟩ := tp_at hc hkl
          have hst := HST.out l[k] (List.getElem_mem _)
          have hsl := HSL.out l[k] (List.getElem_mem _)
          have hsucc := sumTo_succ (stps l) k (by simpa [stps] using hkl)
          rw [show (stps l)[k]'(by simpa [stps] using hkl) = l[k].st from by simp [stps]] at hsucc
          have hs1 := HLE.out (k + 1)
          have hcs := HGS.out k
          obtain ⟨a2, ha2⟩ : ∃ a2, a2 = sumTo (stps l) (k + 1) % 18446744073709551616 := ⟨_, rfl⟩
          have haw : IntKind.u64.wrap ((a : Int) + (l[k].st : Int)) = (a2 : Int) := by rw [IntKind.wrap_u64]; have := HJ.out.1; omega
          have ha2M : a2 < 18446744073709551616 := by omega
          have HA2 := Lib.hid ha2
          cases can with
          | false =>
            have HC := Lib.hid (show false = (fits && canT l n (k + 1)) from by
              have := HJ.out.2
              rw [hcs, ← Bool.and_assoc, ← this]; rfl)
            generalize l[k] = p at *
            clear hc hsucc hs1 hcs ha2
            go_wp2
            go_quiet (fail)
            go_wp2
            exact ⟨⟨k + 1, a2, false, by omega, by go_num, rfl, rfl, ha2M, Lib.hid ⟨HA2.out, HC.out⟩, (hch.alloc _).drewN _⟩, by simp [intOf]; omega⟩
          | true =>
            have hft : fits = true := by
              cases fits with
              | true => rfl
              | false => exact absurd (show true = false from HJ.out.2) (by decide)
            subst hft
            have hnb : n ≤ 9223372036854775807 := of_decide_eq_true HI.out.1.symm
            have hsn : s = n := HI.out.2 rfl
            subst hsn
            have hct : canT l s k = true := by have := HJ.out.2; simpa using this.symm
            rw [hct, Bool.true_and] at hcs
            have haS : a2 = sumTo (stps l) (k + 1) := by omega
            rw [okT, show l.getD k default = l[k] from by simp [List.getD, hkl], ← haS] at hcs
            have hwr : IntKind.u64.wrap ((s : Int) - (a2 : Int)) = ((s - a2 : Nat) : Int) := by rw [IntKind.wrap_u64]; omega
            by_cases hz : l[k].st = 0
            · have HC := Lib.hid (show false = (true && canT l s (k + 1)) from by rw [hcs]; simp; omega)
              have hz2 : decide (0 < l[k].st) = false := decide_eq_false (by omega)
              generalize l[k] = p at *
              clear hc hsucc hs1 hcs ha2 hz haS hct
              go_wp2
              go_quiet (fail)
              go_wp2
              exact ⟨⟨k + 1, a2, false, by omega, by go_num, rfl, rfl, ha2M, Lib.hid ⟨HA2.out, HC.out⟩, (hch.alloc _).drewN _⟩, by simp [intOf]; omega⟩
            have hz2 : decide (0 < l[k].st) = true := decide_eq_true (by omega)
            by_cases hz3 : l[k].sl ≤ s - a2
            · have hz4 : decide (l[k].sl ≤ s - a2) = true := decide_eq_true hz3
              cases k with
              | zero =>
                by_cases hy1 : l[0].st = 1
                · have hy2 : ((l[0].st : Int) == 1) = true := by rw [beq_iff_eq]; omega
                  by_cases hy3 : l[0].sl = 0
                  · have hy4 : ((l[0].sl : Int) == 0) = true := by rw [beq_iff_eq]; omega
                    have HC := Lib.hid (show true = (true && canT l s (0 + 1)) from by
                      rw [hcs, headB, show l.getD 0 default = l[0] from by simp [List.getD, hkl]]
                      simp [hy1, hy3])
                    generalize l[0] = p at *
                    simp only [Nat.zero_mul, Nat.add_zero] at c0 c1 c2
                    clear hc hsucc hs1 hcs ha2 hz haS hct hz3 hy1 hy3
                    go_wp2
                    go_quiet (fail)
                    go_wp2
                    exact ⟨⟨1, a2, true, by omega, by go_num, rfl, rfl, ha2M, Lib.hid ⟨HA2.out, HC.out⟩, (hch.alloc _).drewN _⟩, by simp [intOf]; omega⟩
                  · have hy4 : ((l[0].sl : Int) == 0) = false := by rw [beq_eq_false_iff_ne]; omega
                    have HC := Lib.hid (show false = (true && canT l s (0 + 1)) from by
                      rw [hcs, headB, show l.getD 0 default = l[0] from by simp [List.getD, hkl]]
                      simp [hy3])
                    generalize l[0] = p at *
                    simp only [Nat.zero_mul, Nat.add_zero] at c0 c1 c2
                    clear hc hsucc hs1 hcs ha2 hz haS hct hz3 hy1 hy3
                    go_wp2
                    go_quiet (fail)
                    go_wp2
                    exact ⟨⟨1, a2, false, by omega, by go_num, rfl, rfl, ha2M, Lib.hid ⟨HA2.out, HC.out⟩, (hch.alloc _).drewN _⟩, by simp [intOf]; omega⟩
                · have hy2 : ((l[0].st : Int) == 1) = false := by rw [beq_eq_false_iff_ne]; omega
                  have HC := Lib.hid (show false = (true && canT l s (0 + 1)) from by
                    rw [hcs, headB, show l.getD 0 default = l[0] from by simp [List.getD, hkl]]
                    simp [hy1])
                  generalize l[0] = p at *
                  simp only [Nat.zero_mul, Nat.add_zero] at c0 c1 c2
                  clear hc hsucc hs1 hcs ha2 hz haS hct hz3 hy1
                  go_wp2
                  go_quiet (fail)
                  go_wp2
                  exact ⟨⟨1, a2, false, by omega, by go_num, rfl, rfl, ha2M, Lib.hid ⟨HA2.out, HC.out⟩, (hch.alloc _).drewN _⟩, by simp [intOf]; omega⟩
              | succ k =>
                obtain ⟨d0, d1, d2'⟩ := tp_at hc (show k < l.length by omega)
                have hk1 : (k : Int) + 1 - 1 = (k : Int) := by omega
                have hkw : IntKind.i64.wrap (k : Int) = (k : Int) := IntWalk.i64_in _ (by omega)
                have hk0 : (0 : Int) ≤ (k : Int) := by omega
                have hkm : (k : Int) < (m : Int) := by omega
                have hz5 : decide ((0 : Int) < (k : Int) + 1) = true := decide_eq_true (by omega)
                have hz6 : ((k : Int) + 1 == 0) = false := by rw [beq_eq_false_iff_ne]; omega
                have hgk : l.getD (k + 1 - 1) default = l[k] := by simp [List.getD, show k < l.length by omega]
                rw [hgk] at hcs
                have hcs2 : canT l s (k + 1 + 1) = decide (l[k].x ≤ l[k + 1].x) := by
                  rw [hcs, show decide (0 < k + 1) = true from decide_eq_true (by omega), Bool.true_or, Bool.and_true]
                  congr 1
                  rw [eq_iff_iff]
                  constructor
                  · intro h; exact h.2.2 (by omega)
                  · intro h; exact ⟨by omega, hz3, fun _ => h⟩
                have HC := Lib.hid hcs2
                clear hcs hcs2 hgk
                by_cases hle : l[k].x ≤ l[k + 1].x
                · have hqq : decide (l[k].x ≤ l[k + 1].x) = true := decide_eq_true hle
                  rw [hqq] at HC
                  generalize l[k + 1] = p at *
                  generalize l[k] = q at *
                  have d2 := ((Chg.refl [] wr).alloc (.cells #[.int .i64 p.x, .int .u64 p.st, .int .u64 p.sl] 28)).cell d0 (by simp)
                  clear hc hsucc hs1 ha2 hz haS hct hz3 hle d1 d2'
                  go_wp2
                  go_quiet (fail)
                  go_wp2
                  exact ⟨⟨k + 1 + 1, a2, true, by omega, by go_num, rfl, rfl, ha2M, Lib.hid ⟨HA2.out, by rw [HC.out]; rfl⟩, (hch.alloc _).drewN _⟩, by simp [intOf]; omega⟩
                · have hqq : decide (l[k].x ≤ l[k + 1].x) = false := decide_eq_false hle
                  rw [hqq] at HC
                  generalize l[k + 1] = p at *
                  generalize l[k] = q at *
                  have d2 := ((Chg.refl [] wr).alloc (.cells #[.int .i64 p.x, .int .u64 p.st, .int .u64 p.sl] 28)).cell d0 (by simp)
                  clear hc hsucc hs1 ha2 hz haS hct hz3 hle d1 d2'
                  go_wp2
                  go_quiet (fail)
                  go_wp2
                  exact ⟨⟨k + 1 + 1, a2, false, by omega, by go_num, rfl, rfl, ha2M, Lib.hid ⟨HA2.out, by rw [HC.out]; rfl⟩, (hch.alloc _).drewN _⟩, by simp [intOf]; omega⟩
            · have hz4 : decide (l[k].sl ≤ s - a2) = false := decide_eq_false hz3
              have HC := Lib.hid (show false = (true && canT l s (k + 1)) from by rw [hcs]; simp; omega)
              generalize l[k] = p at *
              clear hc hsucc hs1 hcs ha2 hz haS hct hz3
              go_wp2
              go_quiet (fail)
              go_wp2
              exact ⟨⟨k + 1, a2, false, by omega, by go_num, rfl, rfl, ha2M, Lib.hid ⟨HA2.out, HC.out⟩, (hch.alloc _).drewN _⟩, by simp [intOf]; omega⟩
        · obtain rfl : k = m := by omega
          have HGF := Lib.hid (show can = goodT l from by rw [HJ.out.2, ← HGG.out, HI.out.1])
          have HR2 := Lib.hid (HR1.out.chg hch (by simp))
          have HB2 := Lib.hid (HB1.out.chg hch (by simp))
          have HC2 := Lib.hid (HC1.out.trans hch)
          have a0 := HB2.out.cell 0
          have a1 := HB2.out.cell 1
          clear HJ HST HSL HLE HGG HGS HB1 HC1 HR1 hch hc1
          cases fits with
          | false =>
            have hnb : ¬ n ≤ 9223372036854775807 := of_decide_eq_false HI.out.1.symm
            have HPV := Lib.hid (show plusV (stps l) = .tuple #[.int .u64 0, .bool false] from if_neg (by rw [HNS.out]; exact hnb))
            clear hnb
            go_wp2_with fail
            refine (HTT.out _ HR2.out).mono ?_
            rintro e w3 ⟨rfl, hc3⟩
            rw [HPV.out]
            have HR3 := Lib.hid (HR2.out.chg hc3 (by simp))
            have HB3 := Lib.hid (HB2.out.chg hc3 (by simp))
            have HC3 := Lib.hid (HC2.out.trans hc3)
            clear HR2 HB2 HC2 hc3 a0 a1 HTT
            have a0 := HB3.out.cell 0
            have a1 := HB3.out.cell 1
            have HLIM := Lib.hid (fun W => tup_limit W num den N (by omega) HD64.out HN64.out)
            obtain ⟨M, hM⟩ : ∃ M, M = 2 * num * N := ⟨_, rfl⟩
            have hwn : IntKind.u64.wrap (2 * (num : Int)) = ((2 * num : Nat) : Int) := by rw [IntKind.wrap_u64]; omega
            have hMb : M < 18446744073709551616 * 18446744073709551616 := by rw [hM]; exact Nat.mul_lt_mul'' (by omega) HN64.out
            have HTI := Lib.hid (fun W => ref01_times W (2 * num) N M hM.symm (by omega) HN64.out)
            have HOV := Lib.hid (fun W => ref01_over W (M / 18446744073709551616) (M % 18446744073709551616) den M (by rw [Nat.mul_comm]; exact Nat.div_add_mod _ _) ((Nat.div_lt_iff_lt_mul (by decide)).2 hMb) (Nat.mod_lt _ (by decide)) HD64.out)
            clear hMb
            have hLd : limT num N den = if M < den * 18446744073709551616 then max (M / den) 1 else N := by rw [hM]; rfl
            obtain ⟨MH, hMH⟩ : ∃ z, z = M / 18446744073709551616 := ⟨_, rfl⟩
            obtain ⟨ML, hML⟩ : ∃ z, z = M % 18446744073709551616 := ⟨_, rfl⟩
            rw [← hMH, ← hML] at HTI HOV
            obtain ⟨N2, hN2⟩ : ∃ z, z = 2 * num := ⟨_, rfl⟩
            rw [← hN2] at hwn HTI
            clear hMH hML hM hN2
            by_cases hf : M < den * 18446744073709551616
            · obtain ⟨q, hq⟩ : ∃ q, q = M / den := ⟨_, rfl⟩
              have HOVV := Lib.hid (show overV M den = .tuple #[.int .u64 (q : Nat), .int .u64 (M % den : Nat), .bool true] from by rw [hq]; exact if_pos hf)
              have HLV := Lib.hid (show limT num N den = max q 1 from by rw [hq, hLd]; exact if_pos hf)
              generalize M % den = rr at *
              clear hf hLd hq
              go_wp2_with fail
              go_region_with (first | (go_at_call 13; refine (HTI.out _).mono ?_; rintro e w' ⟨rfl, hcA⟩; (have hq4 : Blk w' w.heap.size #[.int .u64 num, .int .u64 den] 25 := by first | exact HB3.out.chg hcA (by simp) | exact HB3.out.drew.chg hcA (by simp) | exact HB3.out.drew.drew.chg hcA (by simp)); have a0' := hq4.cell 0; have a1' := hq4.cell 1; clear hq4) | (go_at_call 12; refine (HOV.out _).mono ?_; rintro e w4 ⟨rfl, hcB⟩; rw [HOVV.out]))
              all_goals
                have hcut : Chg [] w3 w4 := by with_reducible (repeat (first | exact Chg.refl _ _ | assumption | apply Chg.drew | refine Chg.trans ?_ (by assumption)))
                have HR4 := Lib.hid (HR3.out.chg hcut (by simp))
                have HB4 := Lib.hid (HB3.out.chg hcut (by simp))
                have HC4 := Lib.hid (HC3.out.trans hcut)
                clear a0 a1 a0' a1' HR3 HB3 HC3 hcut HTI HOV HOVV hcA hcB
                have a0 := HB4.out.cell 0
                have a1 := HB4.out.cell 1
                go_wp2_with fail
                refine (HGD.out _ HR4.out).mono ?_
                rintro e w5 ⟨rfl, hc5⟩
                have HB5 := HB4.out.chg hc5 (by simp)
                have a0 := HB5.cell 0
                have a1 := HB5.cell 1
                rw [← HGF.out]
                go_wp2_with fail
                refine (HLIM.out _).mono ?_
                rintro e w6 ⟨rfl, hc6⟩
                rw [HLV.out]
                have hmx : ((max q 1 : Nat) : Int) = max (q : Int) 1 := by omega
                rw [hmx]
                have hcc := (HC4.out.trans hc5).trans hc6
                go_wp2
                go_ret
                exact ⟨ret_bool (by simp), hcc⟩
            · have HOVV := Lib.hid (show overV M den = .tuple #[.int .u64 0, .int .u64 0, .bool false] from if_neg hf)
              have HLV := Lib.hid (show limT num N den = N from by rw [hLd]; exact if_neg hf)
              clear hf hLd
              go_wp2_with fail
              go_region_with (first | (go_at_call 13; refine (HTI.out _).mono ?_; rintro e w' ⟨rfl, hcA⟩; (have hq4 : Blk w' w.heap.size #[.int .u64 num, .int .u64 den] 25 := by first | exact HB3.out.chg hcA (by simp) | exact HB3.out.drew.chg hcA (by simp) | exact HB3.out.drew.drew.chg hcA (by simp)); have a0' := hq4.cell 0; have a1' := hq4.cell 1; clear hq4) | (go_at_call 12; refine (HOV.out _).mono ?_; rintro e w4 ⟨rfl, hcB⟩; rw [HOVV.out]))
              all_goals
                have hcut : Chg [] w3 w4 := by with_reducible (repeat (first | exact Chg.refl _ _ | assumption | apply Chg.drew | refine Chg.trans ?_ (by assumption)))
                have HR4 := Lib.hid (HR3.out.chg hcut (by simp))
                have HB4 := Lib.hid (HB3.out.chg hcut (by simp))
                have HC4 := Lib.hid (HC3.out.trans hcut)
                clear a0 a1 a0' a1' HR3 HB3 HC3 hcut HTI HOV HOVV hcA hcB
                have a0 := HB4.out.cell 0
                have a1 := HB4.out.cell 1
                go_wp2_with fail
                refine (HGD.out _ HR4.out).mono ?_
                rintro e w5 ⟨rfl, hc5⟩
                have HB5 := HB4.out.chg hc5 (by simp)
                have a0 := HB5.cell 0
                have a1 := HB5.cell 1
                rw [← HGF.out]
                go_wp2_with fail
                refine (HLIM.out _).mono ?_
                rintro e w6 ⟨rfl, hc6⟩
                rw [HLV.out]
                have hcc := (HC4.out.trans hc5).trans hc6
                go_wp2
                go_ret
                exact ⟨ret_bool (by simp), hcc⟩
          | true =>
            have hnb : n ≤ 9223372036854775807 := of_decide_eq_true HI.out.1.symm
            have HPV := Lib.hid (show plusV (stps l) = .tuple #[.int .u64 n, .bool true] from by rw [plusV, HNS.out]; exact if_pos hnb)
            obtain rfl : s = n := HI.out.2 rfl
            go_wp2_with fail
            refine (HTT.out _ HR2.out).mono ?_
            rintro e w3 ⟨rfl, hc3⟩
            rw [HPV.out]
            have HR3 := Lib.hid (HR2.out.chg hc3 (by simp))
            have HB3 := Lib.hid (HB2.out.chg hc3 (by simp))
            have HC3 := Lib.hid (HC2.out.trans hc3)
            clear HR2 HB2 HC2 hc3 a0 a1 HTT
            have a0 := HB3.out.cell 0
            have a1 := HB3.out.cell 1
            have HLIM := Lib.hid (fun W => tup_limit W num den N (by omega) HD64.out HN64.out)
            obtain ⟨M, hM⟩ : ∃ M, M = 2 * num * N := ⟨_, rfl⟩
            have hwn : IntKind.u64.wrap (2 * (num : Int)) = ((2 * num : Nat) : Int) := by rw [IntKind.wrap_u64]; omega
            have hMb : M < 18446744073709551616 * 18446744073709551616 := by rw [hM]; exact Nat.mul_lt_mul'' (by omega) HN64.out
            have HTI := Lib.hid (fun W => ref01_times W (2 * num) N M hM.symm (by omega) HN64.out)
            have HOV := Lib.hid (fun W => ref01_over W (M / 18446744073709551616) (M % 18446744073709551616) den M (by rw [Nat.mul_comm]; exact Nat.div_add_mod _ _) ((Nat.div_lt_iff_lt_mul (by decide)).2 hMb) (Nat.mod_lt _ (by decide)) HD64.out)
            clear hMb
            have hLd : limT num N den = if M < den * 18446744073709551616 then max (M / den) 1 else N := by rw [hM]; rfl
            obtain ⟨MH, hMH⟩ : ∃ z, z = M / 18446744073709551616 := ⟨_, rfl⟩
            obtain ⟨ML, hML⟩ : ∃ z, z = M % 18446744073709551616 := ⟨_, rfl⟩
            rw [← hMH, ← hML] at HTI HOV
            obtain ⟨N2, hN2⟩ : ∃ z, z = 2 * num := ⟨_, rfl⟩
            rw [← hN2] at hwn HTI
            clear hMH hML hM hN2
            by_cases hf : M < den * 18446744073709551616
            · obtain ⟨q, hq⟩ : ∃ q, q = M / den := ⟨_, rfl⟩
              have HOVV := Lib.hid (show overV M den = .tuple #[.int .u64 (q : Nat), .int .u64 (M % den : Nat), .bool true] from by rw [hq]; exact if_pos hf)
              have HLV := Lib.hid (show limT num N den = max q 1 from by rw [hq, hLd]; exact if_pos hf)
              generalize M % den = rr at *
              clear hf hLd hq
              go_wp2_with fail
              go_region_with (first | (go_at_call 13; refine (HTI.out _).mono ?_; rintro e w' ⟨rfl, hcA⟩; (have hq4 : Blk w' w.heap.size #[.int .u64 num, .int .u64 den] 25 := by first | exact HB3.out.chg hcA (by simp) | exact HB3.out.drew.chg hcA (by simp) | exact HB3.out.drew.drew.chg hcA (by simp)); have a0' := hq4.cell 0; have a1' := hq4.cell 1; clear hq4) | (go_at_call 12; refine (HOV.out _).mono ?_; rintro e w4 ⟨rfl, hcB⟩; rw [HOVV.out]))
              all_goals
                have hcut : Chg [] w3 w4 := by with_reducible (repeat (first | exact Chg.refl _ _ | assumption | apply Chg.drew | refine Chg.trans ?_ (by assumption)))
                have HR4 := Lib.hid (HR3.out.chg hcut (by simp))
                have HB4 := Lib.hid (HB3.out.chg hcut (by simp))
                have HC4 := Lib.hid (HC3.out.trans hcut)
                clear a0 a1 a0' a1' HR3 HB3 HC3 hcut HTI HOV HOVV hcA hcB
                have a0 := HB4.out.cell 0
                have a1 := HB4.out.cell 1
                go_wp2_with fail
                refine (HGD.out _ HR4.out).mono ?_
                rintro e w5 ⟨rfl, hc5⟩
                have HB5 := HB4.out.chg hc5 (by simp)
                have a0 := HB5.cell 0
                have a1 := HB5.cell 1
                rw [← HGF.out]
                go_wp2_with fail
                refine (HLIM.out _).mono ?_
                rintro e w6 ⟨rfl, hc6⟩
                rw [HLV.out]
                have hmx : ((max q 1 : Nat) : Int) = max (q : Int) 1 := by omega
                rw [hmx]
                have hcc := (HC4.out.trans hc5).trans hc6
                go_wp2
                go_ret
                exact ⟨ret_bool (by simp), hcc⟩
            · have HOVV := Lib.hid (show overV M den = .tuple #[.int .u64 0, .int .u64 0, .bool false] from if_neg hf)
              have HLV := Lib.hid (show limT num N den = N from by rw [hLd]; exact if_neg hf)
              clear hf hLd
              go_wp2_with fail
              go_region_with (first | (go_at_call 13; refine (HTI.out _).mono ?_; rintro e w' ⟨rfl, hcA⟩; (have hq4 : Blk w' w.heap.size #[.int .u64 num, .int .u64 den] 25 := by first | exact HB3.out.chg hcA (by simp) | exact HB3.out.drew.chg hcA (by simp) | exact HB3.out.drew.drew.chg hcA (by simp)); have a0' := hq4.cell 0; have a1' := hq4.cell 1; clear hq4) | (go_at_call 12; refine (HOV.out _).mono ?_; rintro e w4 ⟨rfl, hcB⟩; rw [HOVV.out]))
              all_goals
                have hcut : Chg [] w3 w4 := by with_reducible (repeat (first | exact Chg.refl _ _ | assumption | apply Chg.drew | refine Chg.trans ?_ (by assumption)))
                have HR4 := Lib.hid (HR3.out.chg hcut (by simp))
                have HB4 := Lib.hid (HB3.out.chg hcut (by simp))
                have HC4 := Lib.hid (HC3.out.trans hcut)
                clear a0 a1 a0' a1' HR3 HB3 HC3 hcut HTI HOV HOVV hcA hcB
                have a0 := HB4.out.cell 0
                have a1 := HB4.out.cell 1
                go_wp2_with fail
                refine (HGD.out _ HR4.out).mono ?_
                rintro e w5 ⟨rfl, hc5⟩
                have HB5 := HB4.out.chg hc5 (by simp)
                have a0 := HB5.cell 0
                have a1 := HB5.cell 1
                rw [← HGF.out]
                go_wp2_with fail
                refine (HLIM.out _).mono ?_
                rintro e w6 ⟨rfl, hc6⟩
                rw [HLV.out]
                have hcc := (HC4.out.trans hc5).trans hc6
                go_wp2
                go_ret
                exact ⟨ret_bool (by simp), hcc⟩
end Go.Proofs.Ytkcldhimjnehdaa
