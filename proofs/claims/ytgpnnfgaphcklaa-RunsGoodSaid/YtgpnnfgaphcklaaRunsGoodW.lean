/-
  The walk of the law RunsGood. Conditions: the form's own reach.
-/
import Derived.Test.YtgpnnfgaphcklaaRunsAlive
import Derived.Test.YtgpnnfgaphcklaaRunsTot
namespace Go.Proofs.Ytgpnnfgaphcklaa
open Go.RowKit

set_option maxRecDepth 100000 in
set_option maxHeartbeats 2000000 in
theorem law_RunsGood (w : World) (ao : Option Addr) (cap : Nat) (l : List Pr) (hok : ∀ p ∈ l, p.ok) (hr : Rd w 2 (.slice ao l.length cap) l.length (prCells l)) (_ho : Old w.heap.size (.slice ao l.length cap) l.length) (hl : l.length * 16 ≤ 140737488351232) (most : Int) (_h0 : -9223372036854775808 ≤ most) (_h1 : most < 9223372036854775808) :
    Calls Try.prog 6 #[.slice ao l.length cap, .int .i64 most] w fun e w' => e = .returned (.bool true) ∧ Chg [] w w' := by
  clear _h0 _h1 _ho
  go_enter Try.func6, Try.ntmps6
  go_wp2_with fail
  refine (law06_alive w).mono ?_
  rintro e w1 ⟨rfl, hc1⟩
  have hr1 := hr.chg hc1 (by simp)
  clear hr
  by_cases h100 : 100 < l.length
  · have hd : decide ((100 : Int) < (l.length : Int)) = true := decide_eq_true (by omega)
    go_wp2
    go_ret
    exact ⟨rfl, hc1⟩
  have hd : decide ((100 : Int) < (l.length : Int)) = false := decide_eq_false (by omega)
  have hcl : (cnts l).length = l.length := by simp [cnts]
  have HCL := Lib.hid hcl
  clear hcl
  go_wp2
  go_loopw [5, 6, 18] (fun n f i wx => ∃ (k s : Nat), k ≤ l.length ∧ i = .int .i64 (k : Nat) ∧ n = .int .u64 (s : Nat) ∧ f = .bool (decide (sumTo (cnts l) k ≤ 9223372036854775807)) ∧ s ≤ 9223372036854775807 ∧ (sumTo (cnts l) k ≤ 9223372036854775807 → s = sumTo (cnts l) k) ∧ Chg [] w1 wx) (fun _ _ i _ => l.length - (intOf i).toNat)
  case atStart => exact ⟨0, 0, Nat.zero_le _, rfl, rfl, rfl, by omega, fun _ => by simp [sumTo], Chg.refl _ _⟩
  case round =>
    obtain ⟨k, s, hk, rfl, rfl, rfl, hs9, hs, hch⟩ := hrel
    by_cases hlt : k < l.length
    · have hr2 := hr1.chg hch (by simp)
      obtain ⟨b, o, rfl, hc⟩ := hr2.addr (by omega)
      obtain ⟨c0, c1⟩ := pr_at hc hlt
      have hok1 := (hok l[k] (List.getElem_mem _)).2.2
      have hsucc := sumTo_succ (cnts l) k (by rw [HCL.out]; omega)
      rw [show (cnts l)[k]'(by rw [HCL.out]; omega) = l[k].c from by simp [cnts]] at hsucc
      by_cases hin : sumTo (cnts l) k ≤ 9223372036854775807
      · obtain rfl := hs hin
        have HS := Lib.hid hsucc
        rw [decide_eq_true hin]
        generalize hse : sumTo (cnts l) k = s at *
        have HE := Lib.hid hse
        generalize l[k] = p at *
        clear hsucc hc hok hr1 hr2 hse hs
        by_cases hbig : 9223372036854775807 < p.c
        · have hb1 : decide ((p.c : Int) < 9223372036854775808) = false := decide_eq_false (by omega)
          have HX := Lib.hid (show decide (sumTo (cnts l) (k + 1) ≤ 9223372036854775807) = false from decide_eq_false (by rw [HS.out]; omega))
          clear hbig
          go_wp2
          exact ⟨⟨k + 1, s, by omega, by go_num, rfl, by rw [HX.out], hin, fun h => absurd h (of_decide_eq_false HX.out), hch.alloc _⟩, by simp [intOf]; omega⟩
        · have hb1 : decide ((p.c : Int) < 9223372036854775808) = true := decide_eq_true (by omega)
          have hw : IntKind.u64.wrap ((s : Int) + (p.c : Int)) = (s : Int) + (p.c : Int) := IntWalk.u64_in _ (by omega)
          by_cases hbig2 : 9223372036854775807 < s + p.c
          · have hb2 : decide ((s : Int) + (p.c : Int) < 9223372036854775808) = false := decide_eq_false (by omega)
            have HX := Lib.hid (show decide (sumTo (cnts l) (k + 1) ≤ 9223372036854775807) = false from decide_eq_false (by rw [HS.out]; omega))
            clear hbig hbig2
            go_wp2
            exact ⟨⟨k + 1, s, by omega, by go_num, rfl, by rw [HX.out], hin, fun h => absurd h (of_decide_eq_false HX.out), hch.alloc _⟩, by simp [intOf]; omega⟩
          · have hb2 : decide ((s : Int) + (p.c : Int) < 9223372036854775808) = true := decide_eq_true (by omega)
            have HX := Lib.hid (show decide (sumTo (cnts l) (k + 1) ≤ 9223372036854775807) = true from decide_eq_true (by rw [HS.out]; omega))
            have HY := Lib.hid (show s + p.c ≤ 9223372036854775807 from by omega)
            clear hbig hbig2
            go_wp2
            exact ⟨⟨k + 1, s + p.c, by omega, by go_num, by go_num, by rw [HX.out], HY.out, fun _ => HS.out.symm, hch.alloc _⟩, by simp [intOf]; omega⟩
      · have HX := Lib.hid (show decide (sumTo (cnts l) (k + 1) ≤ 9223372036854775807) = false from decide_eq_false (by rw [hsucc]; omega))
        rw [decide_eq_false hin]
        generalize l[k] = p at *
        clear hsucc hc hok hr1 hr2 hs hin
        go_wp2
        exact ⟨⟨k + 1, s, by omega, by go_num, rfl, by rw [HX.out], hs9, fun h => absurd h (of_decide_eq_false HX.out), hch.alloc _⟩, by simp [intOf]; omega⟩
    · obtain rfl : k = l.length := by omega
      have hr2 := hr1.chg hch (by simp)
      have HR := Lib.hid hr2
      have HOK := Lib.hid hok
      have hf : sumTo (cnts l) l.length = (cnts l).sum := by rw [← HCL.out, sumTo, List.take_length]
      rw [hf] at hs
      rw [hf]
      have HL := Lib.hid (show l.length ≤ 140737488351232 by omega)
      clear hok hr1 hr2 hf hl
      by_cases hin : (cnts l).sum ≤ 9223372036854775807
      · obtain rfl := hs hin
        have HP := Lib.hid (show plusV (cnts l) = .tuple #[.int .u64 ((cnts l).sum : Nat), .bool true] from if_pos hin)
        rw [decide_eq_true hin]
        clear hs hs9
        generalize (cnts l).sum = s at *
        go_wp2_with fail
        refine (runs_total wr ao cap l HOK.out HR.out HL.out).mono ?_
        rintro e w3 ⟨rfl, hc3⟩
        rw [HP.out]
        go_wp2_with fail
        refine (runs_good w3 ao cap l most HOK.out (HR.out.chg hc3 (by simp)) HL.out).mono ?_
        rintro e w4 ⟨rfl, hc4⟩
        go_wp2_with fail
        refine (ref06_good w4 ao cap l HOK.out ((HR.out.chg hc3 (by simp)).chg hc4 (by simp)) HL.out).mono ?_
        rintro e w5 ⟨rfl, hc5⟩
        have HC := Lib.hid ((((hc1.trans hch).trans hc3).trans hc4).trans hc5)
        generalize goodP l = g at *
        cases g
        · go_wp2
          go_ret
          exact ⟨rfl, HC.out⟩
        · rw [Bool.true_and]
          by_cases hm : (l.length : Int) ≤ most
          · rw [decide_eq_true hm]
            go_wp2
            go_ret
            exact ⟨rfl, HC.out⟩
          · have hmb := decide_eq_false hm
            rw [hmb]
            go_wp2
            go_ret
            exact ⟨rfl, HC.out⟩
      · have HP := Lib.hid (show plusV (cnts l) = .tuple #[.int .u64 0, .bool false] from if_neg hin)
        rw [decide_eq_false hin]
        clear hs hs9 hin
        go_wp2_with fail
        refine (runs_total wr ao cap l HOK.out HR.out HL.out).mono ?_
        rintro e w3 ⟨rfl, hc3⟩
        rw [HP.out]
        go_wp2_with fail
        refine (runs_good w3 ao cap l most HOK.out (HR.out.chg hc3 (by simp)) HL.out).mono ?_
        rintro e w4 ⟨rfl, hc4⟩
        go_wp2_with fail
        refine (ref06_good w4 ao cap l HOK.out ((HR.out.chg hc3 (by simp)).chg hc4 (by simp)) HL.out).mono ?_
        rintro e w5 ⟨rfl, hc5⟩
        have HC := Lib.hid ((((hc1.trans hch).trans hc3).trans hc4).trans hc5)
        generalize goodP l = g at *
        cases g
        · go_wp2
          go_ret
          exact ⟨rfl, HC.out⟩
        · rw [Bool.true_and]
          by_cases hm : (l.length : Int) ≤ most
          · rw [decide_eq_true hm]
            go_wp2
            go_ret
            exact ⟨rfl, HC.out⟩
          · have hmb := decide_eq_false hm
            rw [hmb]
            go_wp2
            go_ret
            exact ⟨rfl, HC.out⟩
end Go.Proofs.Ytgpnnfgaphcklaa
