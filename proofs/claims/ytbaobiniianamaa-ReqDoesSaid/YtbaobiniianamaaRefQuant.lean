/-
  The walk of the reference's Quantile (layer 21). Conditions: the form's own reach.
-/
import Derived.Test.YtbaobiniianamaaRefRank
import Derived.Test.YtbaobiniianamaaPlace
import Derived.Test.YtbaobiniianamaaReqQuant
namespace Go.Proofs.Ytbaobiniianamaa
open Go.RowKit

theorem bestF_app (P : Int → Bool) (b : Int) (l m : List Int) : bestF P b (l ++ m) = bestF P (bestF P b l) m := by
  simp [bestF, List.foldl_append]
theorem bestF_one (P : Int → Bool) (b y : Int) : bestF P b [y] = if y < b ∧ P y = true then y else b := rfl
theorem bestF_step (P : Int → Bool) (b : Int) (l : List Int) (k : Nat) (h : k < l.length) : bestF P b (l.take (k + 1)) = if l[k] < bestF P b (l.take k) ∧ P l[k] = true then l[k] else bestF P b (l.take k) := by
  rw [List.take_succ_eq_append_getElem h, bestF_app, bestF_one]
theorem flat_step (l : List (List Int)) (k : Nat) (h : k < l.length) : (l.take (k + 1)).flatten = (l.take k).flatten ++ l[k] := by
  rw [List.take_succ_eq_append_getElem h, List.flatten_append]
  simp

set_option maxRecDepth 100000 in
set_option maxHeartbeats 4000000 in
theorem ref21_quantile (w : World) (p : Nat) (rv : Value) (vs : List Value) (W word used : Nat) (rows : List (List Int)) (ht : RT w p rv vs W word used rows) (num den : Nat) (hnum : num < 18446744073709551616) (hden : den < 18446744073709551616)
    (hN : rows.flatten.length ≤ 100000) (hR : rows.length ≤ 40) (n0 : Nat) (htot : rankR 9223372036854775807 rows = n0) (ht62 : totR rows ≤ 4611686018427387904)
    (T E : Nat) (hT : T = placeT num den n0) (hE : E = placeE num den n0) (V : Int) (hV : V = if E = 0 then quantR T rows else 0) :
    Calls Try.prog 38 #[.pointer (some ⟨p, 0, none⟩), .agg #[.int .u64 (num : Nat), .int .u64 (den : Nat)]] w fun e w' => e = .returned (.tuple #[.int .i64 V, .int .i64 (E : Nat)]) ∧ Chg [] w w' := by
  have HT := Lib.hid ht
  have hc := (Chg.refl [] w).alloc (.cells #[.int .u64 num, .int .u64 den] 64)
  have hbx := Blk.alloc_new w #[.int .u64 num, .int .u64 den] 64
  have b0 := hbx.cell 0
  have b1 := hbx.cell 1
  have hn62 : n0 ≤ 4611686018427387904 := by rw [← htot]; exact Nat.le_trans (rankR_le _ _) ht62
  obtain ⟨Ei, hEi⟩ : ∃ z : Int, z = (E : Nat) := ⟨_, rfl⟩
  have HPL := Lib.hid (fun u => show Calls Try.prog 42 #[.agg #[.int .u64 (num : Nat), .int .u64 (den : Nat)], .int .u64 (n0 : Nat)] u fun e w' => e = .returned (.tuple #[.int .u64 (T : Nat), .int .i64 Ei]) ∧ Chg [] u w' from by rw [hEi]; exact ref03_place u num den n0 hnum hden (by omega) T E hT hE)
  rw [← hEi]
  have HEI := Lib.hid hEi
  have HTO := Lib.hid (fun u (hu : Chg [] w u) => ref21_total u p rv vs W word used rows (HT.out.chg hu (by simp)) hN hR ht62 n0 htot.symm)
  have HRK := Lib.hid (fun x u (hu : Chg [] w u) => ref21_rank u p rv vs W word used rows (HT.out.chg hu (by simp)) hN hR x ht62 (rankR x rows) rfl)
  have HRL2 := Lib.hid (show ∀ x, rankR x rows ≤ 4611686018427387904 from fun x => Nat.le_trans (rankR_le x rows) ht62)
  have HC := Lib.hid hc
  have HB := Lib.hid hbx
  have HV := Lib.hid hV
  clear ht hc hbx hV hT hE hEi htot
  go_enter Try.func38, Try.ntmps38
  go_wp2_with fail
  go_cut [6, 7] (fun a b wx => a = .int .u64 (T : Nat) ∧ b = .int .i64 Ei ∧ Chg [] w wx)
  case first =>
    go_region_with (first | (go_at_call 55; refine (HTO.out _ (by with_reducible (repeat (first | exact HC.out | apply Chg.drew | apply Chg.drewN)))).mono ?_; rintro e w1 ⟨rfl, hc1⟩; (have hb1 := Blk.chg (by first | exact HB.out | exact HB.out.drew | exact HB.out.drew.drew) hc1 (by simp)); have q0 := hb1.cell 0; have q1 := hb1.cell 1) | (go_at_call 42; refine (HPL.out _).mono ?_; rintro e w2 ⟨rfl, hc2⟩))
    all_goals
      go_wp2_with fail
      go_meet
      refine ⟨rfl, rfl, ?_⟩
      with_reducible (repeat (first | exact HC.out | apply Chg.drew | (refine Chg.trans ?_ hc2) | (refine Chg.trans ?_ hc1)))
  case rest =>
    obtain ⟨rfl, rfl, hc1⟩ := hcut
    clear HPL HTO HC HB b0 b1
    by_cases hE : E = 0
    · subst hE
      obtain rfl : Ei = 0 := HEI.out
      clear HEI
      have HT1 := Lib.hid (HT.out.chg hc1 (by simp))
      have HW1 := Lib.hid hc1
      have hv := HV.out
      rw [if_pos rfl] at hv
      have HVV := Lib.hid hv
      obtain ⟨-, -, -, c3⟩ := HT1.out.cells
      obtain ⟨ro, rc, hrv⟩ := HT1.out.own.shape
      subst hrv
      have hvl := Lib.hid HT1.out.len
      have HNN := Lib.hid hN
      generalize hrl : rows.length = n at *
      have HRL := Lib.hid hrl
      clear hrl hN hv HV hc1 ht62
      obtain ⟨PB, hPB⟩ : ∃ PB : Int → Bool, PB = fun x => decide (T ≤ rankR x rows) := ⟨_, rfl⟩
      have HPB := Lib.hid hPB
      clear hPB
      go_wp2_with fail
      go_loopw [8, 28] (fun s i wx => ∃ (k : Nat) (B : Int), k ≤ n ∧ i = .int .i64 (k : Nat) ∧ s = .int .i64 B ∧ Hid (B = bestF PB 9223372036854775807 (rows.take k).flatten) ∧ Chg [] wc wx) (fun _ i _ => n - (intOf i).toNat)
      case atStart => exact ⟨0, 9223372036854775807, Nat.zero_le _, rfl, rfl, Lib.hid (by simp [bestF]), Chg.refl _ _⟩
      case round =>
        obtain ⟨k, B, hk, rfl, rfl, HBB, hch⟩ := hrel
        by_cases hlt : k < n
        · have hkr : k < rows.length := by have := HRL.out; omega
          have hkv : k < vs.length := by have := hvl.out; have := HRL.out; omega
          have HT2 := HT1.out.chg hch (by simp)
          obtain ⟨g, o, cp, hsl, d0, -, -⟩ := HT2.own.at1 (j := k) hkr hkv
          rw [HRL.out] at hsl
          simp only [Value.slice.injEq, true_and] at hsl
          obtain ⟨rfl, rfl⟩ := hsl
          have hrow := HT2.rd k hkv hkr
          obtain ⟨so, sc, hsv⟩ := hrow.shape
          rw [hsv] at d0 hrow
          have HFS := Lib.hid (flat_step rows k hkr)
          have hrn : rows[k].length ≤ 100000 := by
            have h1 := congrArg List.length HFS.out
            have h2 := flat_take_le rows (k + 1)
            have h3 := HNN.out
            rw [List.length_append] at h1
            omega
          have HRW0 := Lib.hid (show ∀ u, Chg [] wc u → Rd u 1 (.slice so rows[k].length sc) rows[k].length (ints rows[k]) from fun u hu => by
            have h1 := HT1.out.rd k hkv hkr
            rw [hsv] at h1
            exact h1.chg hu (by simp))
          generalize rows[k] = r at *
          obtain ⟨m, hm⟩ : ∃ m, m = r.length := ⟨_, rfl⟩
          rw [← hm] at d0 HRW0 hrn
          have HM := Lib.hid hm
          have HCH := Lib.hid hch
          clear hsv hm hrow HT2 hch
          go_wp2_with fail
          go_loopw [8, 34] (fun s i wx => ∃ (q : Nat) (C : Int), q ≤ m ∧ i = .int .i64 (q : Nat) ∧ s = .int .i64 C ∧ Hid (C = bestF PB B (r.take q)) ∧ Chg [] wc wx) (fun _ i _ => m - (intOf i).toNat)
          case atStart => exact ⟨0, B, Nat.zero_le _, rfl, rfl, Lib.hid (by simp [bestF]), HCH.out⟩
          case round =>
            obtain ⟨q, C, hq, rfl, rfl, HCC, hch⟩ := hrel
            by_cases hqm : q < m
            · have hqr : q < r.length := by have := HM.out; omega
              have hcs0 := HRW0.out wr hch
              obtain ⟨b, o2, rfl, hcs⟩ := hcs0.addr (by omega)
              have y0 := ints_at (l := r) (fun j hj => hcs j (by rw [HM.out]; exact hj)) q hqr
              have HQS := Lib.hid (bestF_step PB B r q hqr)
              have HRY := Lib.hid (fun u (hu : Chg [] wc u) => HRK.out r[q] u (HW1.out.trans hu))
              have HRZ := HRL2.out r[q]
              have HPY := Lib.hid (show PB r[q] = decide (T ≤ rankR r[q] rows) from by rw [HPB.out])
              generalize rankR r[q] rows = Y at *
              generalize r[q] = y at *
              have HCH2 := Lib.hid hch
              clear hcs hcs0 hch
              rw [← HCC.out] at HQS
              by_cases hyc : y < C
              · have d1 : decide (y < C) = true := decide_eq_true hyc
                go_wp2_with fail
                refine (HRY.out _ HCH2.out).mono ?_
                rintro e w3 ⟨rfl, hc3⟩
                by_cases hTY : T ≤ Y
                · have d2 : decide ((T : Int) ≤ (Y : Int)) = true := decide_eq_true (by omega)
                  have d2' : decide (T ≤ Y) = true := decide_eq_true hTY
                  have HN := Lib.hid (show y = bestF PB B (r.take (q + 1)) from by rw [HQS.out, if_pos ⟨hyc, by rw [HPY.out]; exact d2'⟩])
                  go_wp2_with fail
                  exact ⟨⟨q + 1, y, by omega, by go_num, rfl, HN, HCH2.out.trans hc3⟩, by simp [intOf]; omega⟩
                · have d2 : decide ((T : Int) ≤ (Y : Int)) = false := decide_eq_false (by omega)
                  have d2' : decide (T ≤ Y) = false := decide_eq_false hTY
                  have HN := Lib.hid (show C = bestF PB B (r.take (q + 1)) from by rw [HQS.out, if_neg (fun h => by rw [HPY.out, d2'] at h; exact absurd h.2 (by decide))])
                  go_wp2_with fail
                  exact ⟨⟨q + 1, C, by omega, by go_num, rfl, HN, HCH2.out.trans hc3⟩, by simp [intOf]; omega⟩
              · have d1 : decide (y < C) = false := decide_eq_false hyc
                have HN := Lib.hid (show C = bestF PB B (r.take (q + 1)) from by rw [HQS.out, if_neg (fun h => hyc h.1)])
                go_wp2_with fail
                exact ⟨⟨q + 1, C, by omega, by go_num, rfl, HN, HCH2.out⟩, by simp [intOf]; omega⟩
            · obtain rfl : q = m := by omega
              have HN := Lib.hid (show C = bestF PB 9223372036854775807 (rows.take (k + 1)).flatten from by rw [HFS.out, bestF_app, ← HBB.out, HCC.out, List.take_of_length_le (l := r) (by have := HM.out; omega)])
              go_wp2_with fail
              exact ⟨⟨k + 1, C, by omega, by go_num, rfl, HN, hch⟩, by simp [intOf]; omega⟩
        · obtain rfl : k = n := by omega
          have HR := Lib.hid (show B = V from by
            have h1 := HBB.out
            rw [List.take_of_length_le (by have := HRL.out; omega)] at h1
            rw [h1, HVV.out, HPB.out]
            rfl)
          go_wp2_with fail
          go_ret2
          rw [HR.out]
          exact ⟨rfl, HW1.out.trans hch⟩
    · have hne : decide (0 < Ei) = true := decide_eq_true (by have := HEI.out; omega)
      have hv := HV.out
      rw [if_neg hE] at hv
      subst hv
      go_wp2_with fail
      go_ret2
      exact ⟨rfl, hc1⟩
end Go.Proofs.Ytbaobiniianamaa
