/-
  The walk of the law GreenwaldErrors. Conditions: the form's own reach.
-/
import Derived.Test.YtkcldhimjnehdaaGkSame
import Derived.Test.YtkcldhimjnehdaaGkBuild
import Derived.Test.YtkcldhimjnehdaaGkNil
namespace Go.Proofs.Ytkcldhimjnehdaa
open Go.RowKit

theorem gk_newF (w : World) (num den : Nat) : Calls Try.prog 25 #[.agg #[.int .u64 (num : Nat), .int .u64 (den : Nat)]] w fun e w' => ∃ (pv : Value) (k : Int), e = .returned (.tuple #[pv, .int .i64 k]) ∧ (k == 0) = goodK num den ∧ Chg [] w w' ∧ (k = 1 ∨ k = 0 ∧ ∃ p, pv = .pointer (some ⟨p, 0, none⟩) ∧ Gk w' p (.slice none 0 0) (.slice none 0 0) (GkD.new num den)) := by
  cases hg : goodK num den with
  | false =>
    refine (gk_new_bad w num den hg).mono ?_
    rintro e w' ⟨rfl, hc⟩
    exact ⟨_, 1, rfl, rfl, hc, .inl rfl⟩
  | true =>
    refine (gk_new w num den hg).mono ?_
    rintro e w' ⟨p, rfl, ht, hc, -⟩
    exact ⟨_, 0, rfl, rfl, hc, .inr ⟨rfl, p, rfl, ht⟩⟩

set_option maxRecDepth 100000 in
set_option maxHeartbeats 4000000 in
theorem law_GreenwaldErrors (w : World) (num den : Nat) (_hnum : num < 18446744073709551616) (_hden : den < 18446744073709551616) (ao : Option Addr) (ca : Nat) (a : List Vl) (hra : Rd w 2 (.slice ao a.length ca) a.length (vlCells a)) (hla : a.length ≤ 140737488351232) (hka : ∀ i ∈ a, i.ok)
    (num2 den2 : Nat) (_hnum2 : num2 < 18446744073709551616) (_hden2 : den2 < 18446744073709551616) :
    Calls Try.prog 9 #[.agg #[.int .u64 (num : Nat), .int .u64 (den : Nat)], .slice ao a.length ca, .agg #[.int .u64 (num2 : Nat), .int .u64 (den2 : Nat)]] w fun e w' => e = .returned (.bool true) ∧ Chg [] w w' := by
  have HAL := Lib.hid law19_alive
  have HKA := Lib.hid hka
  have HRA := Lib.hid hra
  obtain ⟨n, hn⟩ : ∃ n, n = a.length := ⟨_, rfl⟩
  rw [← hn] at HRA hla ⊢
  have HN := Lib.hid hn
  clear hka hra hn
  have hc0 := ((Chg.refl [] w).alloc (.cells #[.int .u64 num, .int .u64 den] 25)).alloc (.cells #[.int .u64 num2, .int .u64 den2] 25)
  have hb0 := (Blk.alloc_new w #[.int .u64 num, .int .u64 den] 25).alloc (.cells #[.int .u64 num2, .int .u64 den2] 25)
  have hr0 := Blk.alloc_new (w.alloc (.cells #[.int .u64 num, .int .u64 den] 25)) #[.int .u64 num2, .int .u64 den2] 25
  rw [World.size_alloc] at hr0
  obtain ⟨bc, hbc⟩ : ∃ z, z = w.heap.size := ⟨_, rfl⟩
  rw [← hbc] at hb0 hr0
  have HC0 := Lib.hid hc0
  have HB := Lib.hid hb0
  have HR := Lib.hid hr0
  have HBA := Lib.hid (fun u (hu : Chg [] w u) => law19_build u num den ao ca n a HN.out (HRA.out.chg hu (by simp)) hla (fun v hv => (HKA.out v hv).2.2))
  have HNC := Lib.hid gk_nil_part
  have HNQ := Lib.hid (fun u => gk_nil_quantile u 0 1)
  have HG := Lib.hid (fun u => law19_good u num den)
  have HNW := Lib.hid (fun u => gk_newF u num den)
  have HNO := Lib.hid (fun u => gk_newF u num2 den2)
  clear hc0 hb0 hr0
  go_enter Try.func9, Try.ntmps9
  go_wp2_with fail
  rw [← hbc]
  clear hbc
  generalize (w.alloc (.cells #[.int .u64 num, .int .u64 den] 25)).alloc (.cells #[.int .u64 num2, .int .u64 den2] 25) = w0 at *
  refine (HAL.out _).mono ?_
  rintro e w1 ⟨rfl, hc1⟩
  have HC1 := Lib.hid (HC0.out.trans hc1)
  have HB1 := Lib.hid (HB.out.chg hc1 (by simp))
  have HR1 := Lib.hid (HR.out.chg hc1 (by simp))
  clear hc1 HB HR HC0 HAL
  go_wp2_with fail
  refine (gk_nil_flush _).mono ?_
  rintro e w2 ⟨rfl, rfl⟩
  go_wp2_with fail
  refine (gk_nil_ends _).mono ?_
  rintro e w2 ⟨rfl, rfl⟩
  go_wp2_with fail
  refine (HNQ.out _).mono ?_
  rintro e w2 ⟨rfl, hc2⟩
  have HC2 := Lib.hid (HC1.out.trans hc2)
  have HB2 := Lib.hid (HB1.out.chg hc2 (by simp))
  have HR2 := Lib.hid (HR1.out.chg hc2 (by simp))
  clear hc2 HB1 HR1 HC1 HNQ
  go_wp2_with fail
  refine (gk_nil_rank _ 1).mono ?_
  rintro e w' ⟨rfl, rfl⟩
  go_wp2_with fail
  refine (gk_nil_row _).mono ?_
  rintro e w' ⟨rfl, rfl⟩
  go_wp2_with (first | (go_at_call 26; refine (gk_nil_put _ 1 1).mono ?_; rintro e w' ⟨rfl, rfl⟩) | (go_at_call 38; refine (gk_nil_join _ _).mono ?_; rintro e w' ⟨rfl, rfl⟩) | (go_at_call 22; refine (gk_nil_total _).mono ?_; rintro e w' ⟨rfl, rfl⟩))
  refine (HNC.out _).mono ?_
  rintro e w3 ⟨rfl, hc3⟩
  have HC3 := Lib.hid (HC2.out.trans hc3)
  have HB3 := Lib.hid (HB2.out.chg hc3 (by simp))
  have HR3 := Lib.hid (HR2.out.chg hc3 (by simp))
  have x0 := HB3.out.cell 0
  have x1 := HB3.out.cell 1
  simp only [List.getElem?_toArray, List.getElem?_cons_zero, List.getElem?_cons_succ] at x0 x1
  have hneq := ratio_neq 0 0 0 0
  clear hc3 HB2 HR2 HC2 HNC
  go_wp2_with fail
  refine (HNW.out _).mono ?_
  clear hneq
  rintro e w4 ⟨pv, k, rfl, hk, hc4, -⟩
  have HK := Lib.hid hk
  have HC4 := Lib.hid (HC3.out.trans hc4)
  have HB4 := Lib.hid (HB3.out.chg hc4 (by simp))
  have HR4 := Lib.hid (HR3.out.chg hc4 (by simp))
  clear hk hc4 HB3 HR3 HC3 HNW x0 x1
  have x0 := HB4.out.cell 0
  have x1 := HB4.out.cell 1
  simp only [List.getElem?_toArray, List.getElem?_cons_zero, List.getElem?_cons_succ] at x0 x1
  go_wp2_with fail
  refine (HG.out _).mono ?_
  rintro e w5 ⟨rfl, hc5⟩
  have HC5 := Lib.hid (HC4.out.trans hc5)
  have HB5 := Lib.hid (HB4.out.chg hc5 (by simp))
  have HR5 := Lib.hid (HR4.out.chg hc5 (by simp))
  clear hc5 HC4 HB4 HR4 x0 x1
  have x0 := HB5.out.cell 0
  have x1 := HB5.out.cell 1
  simp only [List.getElem?_toArray, List.getElem?_cons_zero, List.getElem?_cons_succ] at x0 x1
  rw [← HK.out]
  clear HK HG
  generalize (k == 0) = kb at *
  have hkb : (kb != kb) = false := by simp
  have hkb2 : (!(kb == kb)) = false := by simp
  go_wp2_with fail
  refine (HBA.out _ HC5.out).mono ?_
  clear hkb hkb2 x0 x1
  rintro e w6 (⟨hbad, rfl, hc6⟩ | ⟨hok, p, rv, wv, q, sv, yv, rfl, ht6, hq6, hc6, -, -, -⟩)
  · go_wp2_with fail
    go_ret
    exact ⟨rfl, HC5.out.trans hc6⟩
  · have HC6 := Lib.hid (HC5.out.trans hc6)
    have HB6 := Lib.hid (HB5.out.chg hc6 (by simp))
    have HR6 := Lib.hid (HR5.out.chg hc6 (by simp))
    have HT6 := Lib.hid ht6
    have HQ6 := Lib.hid hq6
    have HOK := Lib.hid (valsG_ok num den a)
    obtain ⟨h1, h2, h3⟩ := valsG_same num den a
    have hs6 : (valsG num den a).total ≤ 30000 := by have := hok.2.2.1; omega
    have HS6 := Lib.hid hs6
    have H12 := Lib.hid (And.intro h1 h2)
    clear ht6 hq6 hc6 hok HB5 HR5 HC5 HBA h1 h2 h3 hs6
    generalize valsG num den a = D at *
    have r0 := HR6.out.cell 0
    have r1 := HR6.out.cell 1
    simp only [List.getElem?_toArray, List.getElem?_cons_zero, List.getElem?_cons_succ] at r0 r1
    go_wp2_with fail
    refine (HNO.out _).mono ?_
    clear HNO r0 r1
    rintro e w7 ⟨pv, k, rfl, -, hc7, hway⟩
    have HC7 := Lib.hid (HC6.out.trans hc7)
    have HB7 := Lib.hid (HB6.out.chg hc7 (by simp))
    have HR7 := Lib.hid (HR6.out.chg hc7 (by simp))
    have HT7 := Lib.hid (HT6.out.chg hc7 (by simp))
    have HQ7 := Lib.hid (HQ6.out.chg hc7 (by simp))
    have x0 := HB7.out.cell 0
    have x1 := HB7.out.cell 1
    have r0 := HR7.out.cell 0
    have r1 := HR7.out.cell 1
    simp only [List.getElem?_toArray, List.getElem?_cons_zero, List.getElem?_cons_succ] at x0 x1 r0 r1
    clear hc7 HB6 HR6 HC6 HT6 HQ6 HB7 HR7
    have HSA := Lib.hid (fun u (hu : Chg [] w7 u) => law19_same u p rv wv D (HT7.out.chg hu (by simp)) q sv yv (HQ7.out.chg hu (by simp)) HOK.out HS6.out)
    have hnq := ratio_neq (num2 : Nat) (num : Nat) (den2 : Nat) (den : Nat)
    rcases hway with rfl | ⟨rfl, p2, rfl, hg2⟩
    · clear hnq
      go_wp2_with fail
      refine (gk_put_zero _ _ 1).mono ?_
      rintro e w' ⟨rfl, rfl⟩
      go_wp2_with fail
      refine (gk_put_long _ _ 1).mono ?_
      rintro e w' ⟨rfl, rfl⟩
      go_wp2_with fail
      refine (gk_join_none _ _).mono ?_
      rintro e w' ⟨rfl, rfl⟩
      go_wp2_with fail
      refine (HSA.out _ (by with_reducible (repeat (first | exact Chg.refl _ _ | exact Chg.refl _ _ | apply Chg.drew | apply Chg.drewN)))).mono ?_
      rintro e wa ⟨rfl, hca⟩
      go_wp2_with fail
      go_ret
      exact ⟨rfl, HC7.out.trans (Chg.trans (by with_reducible (repeat (first | exact Chg.refl _ _ | exact Chg.refl _ _ | apply Chg.drew | apply Chg.drewN))) hca)⟩
    · by_cases hw : num2 = num ∧ den2 = den
      · have hn : (!((num2 : Int) == (num : Int) && (den2 : Int) == (den : Int))) = false := by rw [hw.1, hw.2]; simp
        rw [hn] at hnq
        clear hn
        go_wp2_with fail
        refine (gk_put_zero _ _ 1).mono ?_
        rintro e w' ⟨rfl, rfl⟩
        go_wp2_with fail
        refine (gk_put_long _ _ 1).mono ?_
        rintro e w' ⟨rfl, rfl⟩
        go_wp2_with fail
        refine (gk_join_none _ _).mono ?_
        rintro e w' ⟨rfl, rfl⟩
        go_wp2_with fail
        refine (HSA.out _ (by with_reducible (repeat (first | exact Chg.refl _ _ | exact Chg.refl _ _ | apply Chg.drew | apply Chg.drewN)))).mono ?_
        rintro e wa ⟨rfl, hca⟩
        go_wp2_with fail
        go_ret
        exact ⟨rfl, HC7.out.trans (Chg.trans (by with_reducible (repeat (first | exact Chg.refl _ _ | exact Chg.refl _ _ | apply Chg.drew | apply Chg.drewN))) hca)⟩
      · have hn : (!((num2 : Int) == (num : Int) && (den2 : Int) == (den : Int))) = true := by
          rw [Bool.not_eq_true', Bool.and_eq_false_iff, beq_eq_false_iff_ne, beq_eq_false_iff_ne]
          omega
        rw [hn] at hnq
        clear hn
        have HJ := Lib.hid (fun u (hu : Chg [] w7 u) => gk_join_match u p rv wv D (HT7.out.chg hu (by simp)) p2 _ _ _ (hg2.chg hu (by simp)) (fun e => hw ⟨by rw [← H12.out.1]; exact e.1.symm, by rw [← H12.out.2]; exact e.2.symm⟩))
        go_wp2_with fail
        refine (HJ.out _ (by with_reducible (repeat (first | exact Chg.refl _ _ | apply Chg.drew | apply Chg.drewN)))).mono ?_
        rintro e w8 ⟨rfl, hc8⟩
        have H78 := Lib.hid (Chg.trans (show Chg [] w7 _ from by with_reducible (repeat (first | exact Chg.refl _ _ | apply Chg.drew | apply Chg.drewN))) hc8)
        clear hc8
        go_wp2_with fail
        refine (gk_put_zero _ _ 1).mono ?_
        rintro e w' ⟨rfl, rfl⟩
        go_wp2_with fail
        refine (gk_put_long _ _ 1).mono ?_
        rintro e w' ⟨rfl, rfl⟩
        go_wp2_with fail
        refine (gk_join_none _ _).mono ?_
        rintro e w' ⟨rfl, rfl⟩
        go_wp2_with fail
        refine (HSA.out _ (by with_reducible (repeat (first | exact H78.out | exact Chg.refl _ _ | apply Chg.drew | apply Chg.drewN)))).mono ?_
        rintro e wa ⟨rfl, hca⟩
        go_wp2_with fail
        go_ret
        exact ⟨rfl, HC7.out.trans (Chg.trans (by with_reducible (repeat (first | exact H78.out | exact Chg.refl _ _ | apply Chg.drew | apply Chg.drewN))) hca)⟩
end Go.Proofs.Ytkcldhimjnehdaa
