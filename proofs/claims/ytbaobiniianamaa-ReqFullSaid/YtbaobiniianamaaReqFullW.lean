/-
  The walk of the law ReqFull. Conditions: the form's own reach.
-/
import Derived.Test.YtbaobiniianamaaReqAlive
namespace Go.Proofs.Ytbaobiniianamaa
open Go.RowKit

set_option maxRecDepth 100000 in
set_option maxHeartbeats 4000000 in
theorem req_put_full (w : World) (p tp : Nat) (rv : Value) (vs : List Value) (D : TwD) (ht : Tow w p tp rv vs D) (hW2 : D.W ≤ 64) (x : Int) (hroom : D.total = D.W * 1024) :
    Calls Try.prog 26 #[.pointer (some ⟨p, 0, none⟩), .int .i64 x, .int .u64 1] w fun e w' => e = .returned (.int .i64 6) ∧ Chg [] w w' := by
  have HMO := Lib.hid (fun W hc => req_most W p tp rv vs D (ht.chg (F := []) hc (by simp)) hW2)
  obtain ⟨c0, c1, c2, c3, c4, c5, c6⟩ := ht.cells
  go_enter Try.func26, Try.ntmps26
  go_wp2_with fail
  rw [← hroom] at HMO
  have hb : D.total ≤ 65536 := by omega
  have e3 : decide (IntKind.u64.wrap ((D.total : Int) - (D.total : Int)) < 1) = true := decide_eq_true (by rw [IntKind.wrap_u64]; omega)
  have e4 : IntKind.u64.wrap ((D.total : Int) - (D.total : Int)) = 0 := by rw [IntKind.wrap_u64]; omega
  clear hroom
  generalize D.total = T at *
  go_quiet (first | (go_at_call 25; exact (HMO.out _ (by with_reducible (repeat (first | exact Chg.refl _ _ | apply Chg.drew | apply Chg.drewN)))).mono fun e w' ⟨he, hw⟩ => ⟨he, _, hw.symm⟩))
  go_wp2
  go_ret
  exact ⟨rfl, (Chg.refl [] w).drewN nq⟩

set_option maxRecDepth 100000 in
set_option maxHeartbeats 4000000 in
theorem law_ReqFull (w : World) (W : Int) (word : Nat) (hw2 : word < 18446744073709551616) (x : Int) (_hx1 : -9223372036854775808 ≤ x) (_hx2 : x < 9223372036854775808) (step : Int) (_hs1 : -9223372036854775808 ≤ step) (_hs2 : step < 9223372036854775808) :
    Calls Try.prog 6 #[.agg #[.int .i64 W, .int .u64 word], .int .i64 x, .int .i64 step] w fun e w' => e = .returned (.bool true) ∧ Chg [] w w' := by
  have HAL := Lib.hid law21_alive
  have hB0 := Blk.alloc_new w #[.int .i64 W, .int .u64 word] 37
  have hC0 := (Chg.refl [] w).alloc (.cells #[.int .i64 W, .int .u64 word] 37)
  go_enter Try.func6, Try.ntmps6
  go_wp2_with fail
  refine (HAL.out _).mono ?_
  rintro e w1 ⟨rfl, hc1⟩
  have hB1 := hB0.chg hc1 (by simp)
  have HC1 := Lib.hid (hC0.trans' hc1 (by simp))
  obtain ⟨b0, hb0⟩ : ∃ b, b = w.heap.size := ⟨_, rfl⟩
  rw [← hb0] at hB1 ⊢
  have HB0 := Lib.hid hb0
  have HB1 := Lib.hid hB1
  have c0 : w1.cell? ⟨b0, 0, none⟩ = some (.int .i64 W) := hB1.cell 0
  have c1 : w1.cell? ⟨b0, 1, none⟩ = some (.int .u64 word) := hB1.cell 1
  clear hB0 hC0 hc1 hB1 HAL hb0
  by_cases hW : W = 4 ∨ W = 8
  · by_cases s1 : step < -1048576
    · have d1 : decide (step < -1048576) = true := decide_eq_true s1
      rcases hW with rfl | rfl
      all_goals
        go_wp2
        go_ret
        exact ⟨rfl, HC1.out⟩
    have d1 : decide (step < -1048576) = false := decide_eq_false s1
    by_cases s2 : 1048576 < step
    · have d2 : decide (1048576 < step) = true := decide_eq_true s2
      rcases hW with rfl | rfl
      all_goals
        go_wp2
        go_ret
        exact ⟨rfl, HC1.out⟩
    have d2 : decide (1048576 < step) = false := decide_eq_false s2
    by_cases s3 : x < -1099511627776
    · have d3 : decide (x < -1099511627776) = true := decide_eq_true s3
      rcases hW with rfl | rfl
      all_goals
        go_wp2
        go_ret
        exact ⟨rfl, HC1.out⟩
    have d3 : decide (x < -1099511627776) = false := decide_eq_false s3
    by_cases s4 : 1099511627776 < x
    · have d4 : decide (1099511627776 < x) = true := decide_eq_true s4
      rcases hW with rfl | rfl
      all_goals
        go_wp2
        go_ret
        exact ⟨rfl, HC1.out⟩
    have d4 : decide (1099511627776 < x) = false := decide_eq_false s4
    have hsp : ∃ Wn : Nat, W = (Wn : Int) ∧ 4 ≤ Wn ∧ Wn ≤ 8 ∧ Wn % 4 = 0 := by
      rcases hW with rfl | rfl
      · exact ⟨4, rfl, by omega, by omega, by omega⟩
      · exact ⟨8, rfl, by omega, by omega, by omega⟩
    obtain ⟨Wn, hWc, hW1, hW2, hW3⟩ := hsp
    have HN := Lib.hid (req_new w1 Wn word (by omega) (by omega) hW3)
    rw [← hWc] at HN
    have HWC := Lib.hid hWc
    clear hWc
    rcases hW with rfl | rfl
    all_goals
      have HCC := Lib.hid c0
      go_wp2_with fail
      rw [HWC.out] at HCC HB1
      refine HN.out.mono ?_
      rintro e w2 ⟨p, tp, rv, rfl, ht, hc2, hf2⟩
      have HT2 := Lib.hid ht
      have HC2 := Lib.hid hc2
      have HF2 := Lib.hid hf2
      clear ht hc2 hf2 HN c0 c1 d1 d2 d3 d4
      go_wp2
      go_loopw [9] (fun i wx => ∃ (j : Nat) (rv' : Value) (vs' : List Value) (D : TwD), j * 512 ≤ Wn * 1024 ∧ i = .int .u64 ((j * 512 : Nat) : Int) ∧ Tow wx p tp rv' vs' D ∧ Hid (D.ok Wn word (j * 512)) ∧ Mv (fp p tp rv [.slice none 0 0]) w2 (fp p tp rv' vs') wx) (fun i _ => Wn * 1024 + 512 - (intOf i).toNat)
      case atStart => exact ⟨0, rv, _, _, by omega, rfl, HT2.out, Lib.hid (TwD.new_ok (by omega)), Mv.refl _ _⟩
      case round =>
        obtain ⟨j, rv', vs', D, hj, rfl, ht', HOK, hm'⟩ := hrel
        have HMO := Lib.hid (req_most wr p tp rv' vs' D ht' (by rw [HOK.out.W_eq]; omega))
        rw [HOK.out.W_eq] at HMO
        have HT := Lib.hid ht'
        have HM := Lib.hid hm'
        clear ht' hm'
        obtain ⟨J, hJ⟩ : ∃ J, J = j * 512 := ⟨_, rfl⟩
        have HJ := Lib.hid hJ
        rw [← hJ] at hj HOK ⊢
        clear hJ
        obtain ⟨Wm, hWm⟩ : ∃ Wm, Wm = Wn * 1024 := ⟨_, rfl⟩
        rw [← hWm] at hj HMO ⊢
        have hWb : Wm ≤ 8192 := by omega
        have HWM := Lib.hid hWm
        clear hWm
        by_cases hlt : J < Wm
        · have hJ2 : J + 512 ≤ Wm := by have h1 := HJ.out; have h2 := HWM.out; omega
          go_wp2_with fail
          refine HMO.out.mono ?_
          rintro e w3 ⟨rfl, rfl⟩
          go_wp2_with fail
          have hyb : wrap64 (x + wrap64 ((J : Int) * step)) ≤ 9223372036854775807 := by unfold wrap64; omega
          have HOK2 := Lib.hid (TwD.putN_ok (by omega) (TwD.ends_ok HOK.out (wrap64 (x + wrap64 ((J : Int) * step))) (wrap64 (x + wrap64 ((J : Int) * step)))) hyb 512)
          refine (req_put wr p tp rv' vs' D HT.out (by rw [HOK.out.W_eq]; omega) (by rw [HOK.out.W_eq]; omega) (by rw [HOK.out.word_eq]; exact hw2) J HOK.out.fit (by omega) _ 512 (by omega) (by omega) (by rw [HOK.out.tot, HOK.out.W_eq, ← HWM.out]; exact hJ2)).mono ?_
          rintro e w3 ⟨rfl, rv2, vs2, ht2, hm2⟩
          generalize wrap64 (x + wrap64 ((J : Int) * step)) = y at *
          have HT2 := Lib.hid ht2
          have HM2 := Lib.hid (HM.out.trans hm2)
          clear ht2 hm2
          go_wp2
          have e512 : J + 512 = (j + 1) * 512 := by have := HJ.out; omega
          exact ⟨⟨j + 1, rv2, vs2, _, by rw [← e512]; exact hJ2, by rw [← e512]; go_num, HT2.out, Lib.hid (by rw [← e512]; exact HOK2.out), HM2.out⟩, by simp [intOf]; omega⟩
        · obtain rfl : J = Wm := by omega
          have HMW := Lib.hid (fun W hc => req_most W p tp rv' vs' D (HT.out.chg (F := []) (w1 := W) hc (by simp)) (by rw [HOK.out.W_eq]; omega))
          have HTT := Lib.hid (fun W hc => req_total W p tp rv' vs' D (HT.out.chg (F := []) (w1 := W) hc (by simp)))
          have hLen := HOK.out.fit.2.1
          have hFl := HOK.out.fit.2.2
          have hSum := HOK.out.sum
          have hFew := rows_few HOK.out.full
          have hR13 : D.rows.length ≤ 13 := by
            by_cases h14 : 14 ≤ D.rows.length
            · have := Nat.pow_le_pow_right (n := 2) (by omega) h14
              omega
            · omega
          have HRK := Lib.hid (fun W hc => req_rank W p tp rv' vs' D (HT.out.chg (F := []) (w1 := W) hc (by simp)) (by omega) (by omega) 9223372036854775807 (by omega) (J) (by rw [rank_all HOK.out.low]; exact hSum.symm))
          have HPF := Lib.hid (fun W hc => req_put_full W p tp rv' vs' D (HT.out.chg (F := []) (w1 := W) hc (by simp)) (by rw [HOK.out.W_eq]; omega) x (by rw [HOK.out.tot, HOK.out.W_eq]; exact HWM.out))
          have HRW := Lib.hid (req_rows wr p tp rv' vs' D HT.out (by omega) (by omega))
          rw [HOK.out.W_eq, ← HWM.out] at HMW
          rw [HOK.out.tot] at HTT
          have HSH := Lib.hid HOK.out.short
          have HC3 := Lib.hid ((HC1.out.trans' HC2.out (by simp)).trans' HM.out.chg (fun b hb => .inr (by have h1 := HF2.out b hb; have h2 := HC1.out.size; omega)))
          have HB3 := Lib.hid ((HB1.out.chg HC2.out (by simp)).chg HM.out.chg (fun e => by have h1 := HF2.out b0 e; have h2 := HB1.out.lt; omega))
          clear hLen hFl hSum hFew
          go_wp2_with fail
          refine HMO.out.mono ?_
          rintro e w3 ⟨rfl, rfl⟩
          go_wp2_with fail
          refine HRW.out.mono ?_
          rintro e w4 ⟨ro, rc, vs4, rfl, ⟨ho, hw, -, -⟩, hc4⟩
          have HB4 := Lib.hid (HB3.out.chg hc4 (by simp))
          have HC4 := Lib.hid (HC3.out.trans' hc4 (by simp))
          have HC34 := Lib.hid hc4
          have HO := Lib.hid ho
          have HRR := Lib.hid hw
          have HV4 := Lib.hid (show vs4.length = D.rows.length from hw.1)
          clear ho hw hc4 HCC
          obtain ⟨L, hL⟩ : ∃ L, L = D.rows.length := ⟨_, rfl⟩
          rw [← hL] at hR13 HO HV4 ⊢
          have HL := Lib.hid hL
          clear hL
          go_wp2
          go_loopw [63] (fun i wx => ∃ k : Nat, k ≤ L ∧ i = .int .i64 (k : Nat) ∧ Chg [] w4 wx) (fun i _ => L - (intOf i).toNat)
          case atStart => exact ⟨0, by omega, rfl, Chg.refl _ _⟩
          case round =>
            obtain ⟨k, hk, rfl, hcx⟩ := hrel
            by_cases hkl : k < L
            · have hko : k < vs4.length := by rw [HV4.out]; exact hkl
              obtain ⟨g, o, cp, hsl, d0, f0, hcp⟩ := (HO.out.chg hcx (by simp)).at1 (j := k) hkl hko
              simp only [Value.slice.injEq, true_and] at hsl
              obtain ⟨rfl, rfl⟩ := hsl
              have hkd : k < D.rows.length := by rw [← HL.out]; exact hkl
              have hrow := HRR.out.2.1 k hko hkd
              obtain ⟨so, sc, hsv⟩ := hrow.shape
              rw [hsv] at d0
              have hsh := HSH.out D.rows[k] (List.getElem_mem hkd)
              obtain ⟨l0, hl0⟩ : ∃ l0, l0 = (D.rows[k]'hkd).length := ⟨_, rfl⟩
              rw [← hl0] at d0 hsh
              clear hrow hsv hl0 f0
              have c0 : wr.cell? ⟨b0, 0, none⟩ = some (.int .i64 (Wn : Nat)) := (HB4.out.chg hcx (by simp)).cell 0
              have HX := Lib.hid hcx
              clear hcx
              have hd : decide ((Wn : Int) ≤ (l0 : Int)) = false := decide_eq_false (by omega)
              go_wp2
              exact ⟨⟨k + 1, hkl, by go_num, HX.out⟩, by simp [intOf]; omega⟩
            · obtain rfl : k = L := by omega
              have hX4 := Lib.hid (HC34.out.trans' hcx (by simp))
              have hX5 := Lib.hid (HC4.out.trans' hcx (by simp))
              clear hcx
              go_wp2_with fail
              refine (HPF.out _ hX4.out).mono ?_
              rintro e w6 ⟨rfl, hc6⟩
              have hX6 := Lib.hid (hX4.out.trans' hc6 (by simp))
              have hX7 := Lib.hid (hX5.out.trans' hc6 (by simp))
              clear hc6
              go_wp2_with fail
              refine (HTT.out _ hX6.out).mono ?_
              rintro e w7 ⟨rfl, rfl⟩
              go_wp2_with fail
              refine (HMW.out _ hX6.out).mono ?_
              rintro e w7 ⟨rfl, rfl⟩
              go_wp2_with fail
              refine (HRK.out _ hX6.out).mono ?_
              rintro e w7 ⟨rfl, rfl⟩
              go_wp2_with fail
              refine (HMW.out _ hX6.out).mono ?_
              rintro e w7 ⟨rfl, rfl⟩
              go_wp2
              go_ret
              exact ⟨rfl, hX7.out⟩
  · have e4 : ¬ W = 4 := by omega
    have e8 : ¬ W = 8 := by omega
    clear hW
    go_wp2
    go_ret
    exact ⟨rfl, HC1.out⟩
end Go.Proofs.Ytbaobiniianamaa
