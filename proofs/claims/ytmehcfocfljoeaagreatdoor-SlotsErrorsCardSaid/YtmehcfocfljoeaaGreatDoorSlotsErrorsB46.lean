/-
  The walk of the law SlotsErrors. Conditions: the document's tens.
-/
import Derived.Test.YtmehcfocfljoeaaGreatDoorSlotsErrorsB45
namespace Go.Proofs.YtmehcfocfljoeaaGreatDoor
open Go.RowKit

theorem atV_none {i : Int} : atV (List.replicate 16 none) i = (none, if i < 0 ∨ 16 ≤ i then 1 else 5) := by
  unfold atV
  by_cases h : i < 0 ∨ 16 ≤ i
  · rw [if_pos h, if_pos h]
  · rw [if_neg h, if_neg h]
    have : (List.replicate 16 (none : Option Addr)).getD i.toNat none = none := by
      simp only [List.getD, List.getElem?_replicate]
      split <;> rfl
    rw [this]
set_option maxRecDepth 100000 in
set_option maxHeartbeats 16000000 in
theorem law_SlotsErrors (w : World) (ht : Tens4 w) (i : Int) (c : Cf) :
    Calls Tryz.prog 3 #[.int .i64 i, c.val] w fun e w' => e = .returned (.bool true) ∧ Chg [] w w' := by
  have HAL := Lib.hid law24_alive
  have HNW := Lib.hid slots_new
  obtain ⟨b, hb⟩ : ∃ z, z = w.heap.size := ⟨_, rfl⟩
  have HB := Lib.hid (fun u (hu : Chg [] (w.alloc (.cells c.cells 28)) u) => cf_cells (show Blk u b c.cells 28 from Blk.chg (by rw [hb]; exact Blk.alloc_new _ _ _) hu (by simp)))
  have HC0 := Lib.hid ((Chg.refl [] w).alloc (.cells c.cells 28))
  have HT := Lib.hid (fun u (hu : Chg [] w u) => ht.chg hu)
  have HMK := Lib.hid (fun u (hu : Chg [] w u) g k (h : AtE u g i k) hk => make_err u (HT.out u hu) g i k h hk c)
  have HCE := Lib.hid (fun u => config_err u none i 2 (AtE.nil _ i))
  clear ht
  obtain ⟨q1, num, den, side, most, digits, limit, depth, factor, width, word⟩ := c
  simp only [Cf.val, Cf.cells, Cf.none] at HB HC0 HMK HCE ⊢
  go_enter Tryz.func3, Tryz.ntmps3
  go_wp2_with fail
  rw [← hb]
  clear hb
  generalize w.alloc (.cells #[.int .i64 q1, .int .u64 num, .int .u64 den, .int .i64 side, .int .i64 most, .int .i64 digits, .int .u64 limit, .int .i64 depth, .int .i64 factor, .int .i64 width, .int .u64 word] 28) = w0 at *
  refine (HAL.out w0).mono ?_
  rintro e w1 ⟨rfl, hc1⟩
  have HD := Lib.hid hc1
  clear hc1 HAL
  go_wp2_with fail
  refine (save_err _ none i 2 (AtE.nil _ i)).mono ?_
  rintro e w2 ⟨rfl, hc⟩
  have HD' := Lib.hid (HD.out.trans hc)
  clear hc HD
  rename Hid (Chg [] w0 w2) => HD
  go_wp2_with fail
  refine (quant_err _ none i 2 (AtE.nil _ i) 0 1).mono ?_
  rintro e w3 ⟨rfl, hc⟩
  have HD' := Lib.hid (HD.out.trans hc)
  clear hc HD
  rename Hid (Chg [] w0 w3) => HD
  go_wp2_with fail
  refine (rank_err _ none i 2 (AtE.nil _ i) 1).mono ?_
  rintro e w4 ⟨rfl, hc⟩
  have HD' := Lib.hid (HD.out.trans hc)
  clear hc HD
  rename Hid (Chg [] w0 w4) => HD
  go_wp2_with fail
  refine (total_err _ none i 2 (AtE.nil _ i)).mono ?_
  rintro e w5 ⟨rfl, hc⟩
  have HD' := Lib.hid (HD.out.trans hc)
  clear hc HD
  rename Hid (Chg [] w0 w5) => HD
  go_wp2_with fail
  refine (ends_err _ none i 2 (AtE.nil _ i)).mono ?_
  rintro e w6 ⟨rfl, hc⟩
  have HD' := Lib.hid (HD.out.trans hc)
  clear hc HD
  rename Hid (Chg [] w0 w6) => HD
  go_wp2_with fail
  refine (HCE.out _).mono ?_
  rintro e w7 ⟨rfl, hc⟩
  have HD' := Lib.hid (HD.out.trans hc)
  clear hc HD
  rename Hid (Chg [] w0 w7) => HD
  go_upto_region 10 with (fail)
  have HD8 := Lib.hid (HD.out.alloc (.cells #[.int .i64 0, .int .u64 0, .int .u64 0, .int .i64 0, .int .i64 0, .int .i64 0, .int .u64 0, .int .i64 0, .int .i64 0, .int .i64 0, .int .u64 0] 28))
  clear HD
  rename Hid (Chg [] w0 _) => HD
  obtain ⟨c0, c1, c2, c3, c4, c5, c6, c7, c8, c9, c10⟩ := HB.out _ HD.out
  go_wp2_with fail
  refine (HMK.out _ (HC0.out.trans HD.out) none 2 (AtE.nil _ i) (.inr rfl)).mono ?_
  rintro e w8 ⟨rfl, hc⟩
  have HD' := Lib.hid (HD.out.trans hc)
  clear hc HD c0 c1 c2 c3 c4 c5 c6 c7 c8 c9 c10
  rename Hid (Chg [] w0 w8) => HD
  go_wp2_with fail
  refine (drop_err _ none i 2 (AtE.nil _ i)).mono ?_
  rintro e w9 ⟨rfl, hc⟩
  have HD' := Lib.hid (HD.out.trans hc)
  clear hc HD
  rename Hid (Chg [] w0 w9) => HD
  go_wp2_with fail
  refine (reset_err _ none i 2 (AtE.nil _ i)).mono ?_
  rintro e w10 ⟨rfl, hc⟩
  have HD' := Lib.hid (HD.out.trans hc)
  clear hc HD
  rename Hid (Chg [] w0 w10) => HD
  go_wp2_with fail
  refine (putE_err _ none i 2 (AtE.nil _ i) 1 _).mono ?_
  rintro e w11 ⟨rfl, hc⟩
  have HD' := Lib.hid ((HD.out.alloc _).trans hc)
  clear hc HD
  rename Hid (Chg [] w0 w11) => HD
  go_wp2_with fail
  refine (joinE_err _ none i 2 (AtE.nil _ i) 0).mono ?_
  rintro e w12 ⟨rfl, hc⟩
  have HD' := Lib.hid (HD.out.trans hc)
  clear hc HD
  rename Hid (Chg [] w0 w12) => HD
  go_wp2_with fail
  refine (copyE_err _ none 0 2 (AtE.nil _ 0) i).mono ?_
  rintro e w13 ⟨rfl, hc⟩
  have HD' := Lib.hid (HD.out.trans hc)
  clear hc HD
  rename Hid (Chg [] w0 w13) => HD
  go_wp2_with fail
  refine (restore_err _ none i 2 (AtE.nil _ i) (.inr rfl) #[]).mono ?_
  rintro e w14 ⟨rfl, hc⟩
  have HD' := Lib.hid (HD.out.trans hc)
  clear hc HD
  rename Hid (Chg [] w0 w14) => HD
  go_wp2_with fail
  refine (foreign_err _ none i 2 (AtE.nil _ i)).mono ?_
  rintro e w15 ⟨rfl, hc⟩
  have HD' := Lib.hid (HD.out.trans hc)
  clear hc HD
  rename Hid (Chg [] w0 w15) => HD
  go_wp2_with fail
  refine (HNW.out _).mono ?_
  rintro e w16 ⟨g, rfl, hE, hc, -⟩
  have HD' := Lib.hid (HD.out.trans hc)
  have HE := Lib.hid hE
  clear hE hc HD HNW
  rename Hid (Chg [] w0 w16) => HD
  by_cases h1 : i < 0
  · have d1 : decide (i < 0) = true := decide_eq_true h1
    have HW : AtE w16 (some ⟨g, 0, none⟩) i 1 := AtE.eng HE.out i (by decide) (by rw [atV_none, if_pos (.inl h1)])
    clear h1
    have HA := Lib.hid HW
    clear HW HE
    go_wp2_with fail
    refine (save_err _ (some ⟨g, 0, none⟩) i 1 HA.out).mono ?_
    rintro e w17 ⟨rfl, hc⟩
    have HD' := Lib.hid (HD.out.trans hc)
    have HA' := Lib.hid (HA.out.chg hc)
    clear hc HD HA
    rename Hid (Chg [] w0 w17) => HD
    rename Hid (AtE w17 _ _ _) => HA
    go_wp2_with fail
    refine (quant_err _ (some ⟨g, 0, none⟩) i 1 HA.out 0 1).mono ?_
    rintro e w18 ⟨rfl, hc⟩
    have HD' := Lib.hid (HD.out.trans hc)
    have HA' := Lib.hid (HA.out.chg hc)
    clear hc HD HA
    rename Hid (Chg [] w0 w18) => HD
    rename Hid (AtE w18 _ _ _) => HA
    go_wp2_with fail
    refine (rank_err _ (some ⟨g, 0, none⟩) i 1 HA.out 1).mono ?_
    rintro e w19 ⟨rfl, hc⟩
    have HD' := Lib.hid (HD.out.trans hc)
    have HA' := Lib.hid (HA.out.chg hc)
    clear hc HD HA
    rename Hid (Chg [] w0 w19) => HD
    rename Hid (AtE w19 _ _ _) => HA
    go_wp2_with fail
    refine (total_err _ (some ⟨g, 0, none⟩) i 1 HA.out).mono ?_
    rintro e w20 ⟨rfl, hc⟩
    have HD' := Lib.hid (HD.out.trans hc)
    have HA' := Lib.hid (HA.out.chg hc)
    clear hc HD HA
    rename Hid (Chg [] w0 w20) => HD
    rename Hid (AtE w20 _ _ _) => HA
    go_wp2_with fail
    refine (ends_err _ (some ⟨g, 0, none⟩) i 1 HA.out).mono ?_
    rintro e w21 ⟨rfl, hc⟩
    have HD' := Lib.hid (HD.out.trans hc)
    have HA' := Lib.hid (HA.out.chg hc)
    clear hc HD HA
    rename Hid (Chg [] w0 w21) => HD
    rename Hid (AtE w21 _ _ _) => HA
    go_wp2_with fail
    refine (drop_err _ (some ⟨g, 0, none⟩) i 1 HA.out).mono ?_
    rintro e w22 ⟨rfl, hc⟩
    have HD' := Lib.hid (HD.out.trans hc)
    have HA' := Lib.hid (HA.out.chg hc)
    clear hc HD HA
    rename Hid (Chg [] w0 w22) => HD
    rename Hid (AtE w22 _ _ _) => HA
    go_wp2_with fail
    refine (reset_err _ (some ⟨g, 0, none⟩) i 1 HA.out).mono ?_
    rintro e w23 ⟨rfl, hc⟩
    have HD' := Lib.hid (HD.out.trans hc)
    have HA' := Lib.hid (HA.out.chg hc)
    clear hc HD HA
    rename Hid (Chg [] w0 w23) => HD
    rename Hid (AtE w23 _ _ _) => HA
    go_wp2_with fail
    refine (putE_err _ (some ⟨g, 0, none⟩) i 1 (HA.out.chg ((Chg.refl [] _).alloc _)) 1 _).mono ?_
    rintro e w24 ⟨rfl, hc⟩
    have HD' := Lib.hid ((HD.out.alloc _).trans hc)
    have HA' := Lib.hid ((HA.out.chg ((Chg.refl [] _).alloc _)).chg hc)
    clear hc HD HA
    rename Hid (Chg [] w0 w24) => HD
    rename Hid (AtE w24 _ _ _) => HA
    go_wp2_with fail
    refine (joinE_err _ (some ⟨g, 0, none⟩) i 1 HA.out 0).mono ?_
    rintro e w25 ⟨rfl, hc⟩
    have HD' := Lib.hid (HD.out.trans hc)
    have HA' := Lib.hid (HA.out.chg hc)
    clear hc HD HA
    rename Hid (Chg [] w0 w25) => HD
    rename Hid (AtE w25 _ _ _) => HA
    go_wp2_with fail
    refine (copyE_err _ (some ⟨g, 0, none⟩) i 1 HA.out 0).mono ?_
    rintro e w26 ⟨rfl, hc⟩
    have HD' := Lib.hid (HD.out.trans hc)
    have HA' := Lib.hid (HA.out.chg hc)
    clear hc HD HA
    rename Hid (Chg [] w0 w26) => HD
    rename Hid (AtE w26 _ _ _) => HA
    go_wp2_with fail
    refine (foreign_err _ (some ⟨g, 0, none⟩) i 1 HA.out).mono ?_
    rintro e w27 ⟨rfl, hc⟩
    have HD' := Lib.hid (HD.out.trans hc)
    have HA' := Lib.hid (HA.out.chg hc)
    clear hc HD HA
    rename Hid (Chg [] w0 w27) => HD
    rename Hid (AtE w27 _ _ _) => HA
    obtain ⟨c0, c1, c2, c3, c4, c5, c6, c7, c8, c9, c10⟩ := HB.out _ HD.out
    go_wp2_with fail
    refine (HMK.out _ (HC0.out.trans HD.out) (some ⟨g, 0, none⟩) 1 HA.out (.inl rfl)).mono ?_
    rintro e w28 ⟨rfl, hc⟩
    have HD' := Lib.hid (HD.out.trans hc)
    have HA' := Lib.hid (HA.out.chg hc)
    clear hc HD HA c0 c1 c2 c3 c4 c5 c6 c7 c8 c9 c10
    rename Hid (Chg [] w0 w28) => HD
    rename Hid (AtE w28 _ _ _) => HA
    go_wp2_with fail
    refine (restore_err _ (some ⟨g, 0, none⟩) i 1 HA.out (.inl rfl) #[]).mono ?_
    rintro e w29 ⟨rfl, hc⟩
    have HD' := Lib.hid (HD.out.trans hc)
    have HA' := Lib.hid (HA.out.chg hc)
    clear hc HD HA
    rename Hid (Chg [] w0 w29) => HD
    rename Hid (AtE w29 _ _ _) => HA
    go_wp2
    go_ret
    exact ⟨rfl, HC0.out.trans HD.out⟩
  have d1 : decide (i < 0) = false := decide_eq_false h1
  by_cases h2 : 15 < i
  · have d2 : decide (15 < i) = true := decide_eq_true h2
    have HW : AtE w16 (some ⟨g, 0, none⟩) i 1 := AtE.eng HE.out i (by decide) (by rw [atV_none, if_pos (.inr (by omega))])
    clear h1 h2
    have HA := Lib.hid HW
    clear HW HE
    go_wp2_with fail
    refine (save_err _ (some ⟨g, 0, none⟩) i 1 HA.out).mono ?_
    rintro e w17 ⟨rfl, hc⟩
    have HD' := Lib.hid (HD.out.trans hc)
    have HA' := Lib.hid (HA.out.chg hc)
    clear hc HD HA
    rename Hid (Chg [] w0 w17) => HD
    rename Hid (AtE w17 _ _ _) => HA
    go_wp2_with fail
    refine (quant_err _ (some ⟨g, 0, none⟩) i 1 HA.out 0 1).mono ?_
    rintro e w18 ⟨rfl, hc⟩
    have HD' := Lib.hid (HD.out.trans hc)
    have HA' := Lib.hid (HA.out.chg hc)
    clear hc HD HA
    rename Hid (Chg [] w0 w18) => HD
    rename Hid (AtE w18 _ _ _) => HA
    go_wp2_with fail
    refine (rank_err _ (some ⟨g, 0, none⟩) i 1 HA.out 1).mono ?_
    rintro e w19 ⟨rfl, hc⟩
    have HD' := Lib.hid (HD.out.trans hc)
    have HA' := Lib.hid (HA.out.chg hc)
    clear hc HD HA
    rename Hid (Chg [] w0 w19) => HD
    rename Hid (AtE w19 _ _ _) => HA
    go_wp2_with fail
    refine (total_err _ (some ⟨g, 0, none⟩) i 1 HA.out).mono ?_
    rintro e w20 ⟨rfl, hc⟩
    have HD' := Lib.hid (HD.out.trans hc)
    have HA' := Lib.hid (HA.out.chg hc)
    clear hc HD HA
    rename Hid (Chg [] w0 w20) => HD
    rename Hid (AtE w20 _ _ _) => HA
    go_wp2_with fail
    refine (ends_err _ (some ⟨g, 0, none⟩) i 1 HA.out).mono ?_
    rintro e w21 ⟨rfl, hc⟩
    have HD' := Lib.hid (HD.out.trans hc)
    have HA' := Lib.hid (HA.out.chg hc)
    clear hc HD HA
    rename Hid (Chg [] w0 w21) => HD
    rename Hid (AtE w21 _ _ _) => HA
    go_wp2_with fail
    refine (drop_err _ (some ⟨g, 0, none⟩) i 1 HA.out).mono ?_
    rintro e w22 ⟨rfl, hc⟩
    have HD' := Lib.hid (HD.out.trans hc)
    have HA' := Lib.hid (HA.out.chg hc)
    clear hc HD HA
    rename Hid (Chg [] w0 w22) => HD
    rename Hid (AtE w22 _ _ _) => HA
    go_wp2_with fail
    refine (reset_err _ (some ⟨g, 0, none⟩) i 1 HA.out).mono ?_
    rintro e w23 ⟨rfl, hc⟩
    have HD' := Lib.hid (HD.out.trans hc)
    have HA' := Lib.hid (HA.out.chg hc)
    clear hc HD HA
    rename Hid (Chg [] w0 w23) => HD
    rename Hid (AtE w23 _ _ _) => HA
    go_wp2_with fail
    refine (putE_err _ (some ⟨g, 0, none⟩) i 1 (HA.out.chg ((Chg.refl [] _).alloc _)) 1 _).mono ?_
    rintro e w24 ⟨rfl, hc⟩
    have HD' := Lib.hid ((HD.out.alloc _).trans hc)
    have HA' := Lib.hid ((HA.out.chg ((Chg.refl [] _).alloc _)).chg hc)
    clear hc HD HA
    rename Hid (Chg [] w0 w24) => HD
    rename Hid (AtE w24 _ _ _) => HA
    go_wp2_with fail
    refine (joinE_err _ (some ⟨g, 0, none⟩) i 1 HA.out 0).mono ?_
    rintro e w25 ⟨rfl, hc⟩
    have HD' := Lib.hid (HD.out.trans hc)
    have HA' := Lib.hid (HA.out.chg hc)
    clear hc HD HA
    rename Hid (Chg [] w0 w25) => HD
    rename Hid (AtE w25 _ _ _) => HA
    go_wp2_with fail
    refine (copyE_err _ (some ⟨g, 0, none⟩) i 1 HA.out 0).mono ?_
    rintro e w26 ⟨rfl, hc⟩
    have HD' := Lib.hid (HD.out.trans hc)
    have HA' := Lib.hid (HA.out.chg hc)
    clear hc HD HA
    rename Hid (Chg [] w0 w26) => HD
    rename Hid (AtE w26 _ _ _) => HA
    go_wp2_with fail
    refine (foreign_err _ (some ⟨g, 0, none⟩) i 1 HA.out).mono ?_
    rintro e w27 ⟨rfl, hc⟩
    have HD' := Lib.hid (HD.out.trans hc)
    have HA' := Lib.hid (HA.out.chg hc)
    clear hc HD HA
    rename Hid (Chg [] w0 w27) => HD
    rename Hid (AtE w27 _ _ _) => HA
    obtain ⟨c0, c1, c2, c3, c4, c5, c6, c7, c8, c9, c10⟩ := HB.out _ HD.out
    go_wp2_with fail
    refine (HMK.out _ (HC0.out.trans HD.out) (some ⟨g, 0, none⟩) 1 HA.out (.inl rfl)).mono ?_
    rintro e w28 ⟨rfl, hc⟩
    have HD' := Lib.hid (HD.out.trans hc)
    have HA' := Lib.hid (HA.out.chg hc)
    clear hc HD HA c0 c1 c2 c3 c4 c5 c6 c7 c8 c9 c10
    rename Hid (Chg [] w0 w28) => HD
    rename Hid (AtE w28 _ _ _) => HA
    go_wp2_with fail
    refine (restore_err _ (some ⟨g, 0, none⟩) i 1 HA.out (.inl rfl) #[]).mono ?_
    rintro e w29 ⟨rfl, hc⟩
    have HD' := Lib.hid (HD.out.trans hc)
    have HA' := Lib.hid (HA.out.chg hc)
    clear hc HD HA
    rename Hid (Chg [] w0 w29) => HD
    rename Hid (AtE w29 _ _ _) => HA
    go_wp2
    go_ret
    exact ⟨rfl, HC0.out.trans HD.out⟩
  · have d2 : decide (15 < i) = false := decide_eq_false h2
    have HW : AtE w16 (some ⟨g, 0, none⟩) i 5 := AtE.eng HE.out i (by decide) (by rw [atV_none, if_neg (by omega)])
    clear h1 h2
    have HA := Lib.hid HW
    clear HW HE
    go_wp2_with fail
    refine (save_err _ (some ⟨g, 0, none⟩) i 5 HA.out).mono ?_
    rintro e w17 ⟨rfl, hc⟩
    have HD' := Lib.hid (HD.out.trans hc)
    have HA' := Lib.hid (HA.out.chg hc)
    clear hc HD HA
    rename Hid (Chg [] w0 w17) => HD
    rename Hid (AtE w17 _ _ _) => HA
    go_wp2_with fail
    refine (quant_err _ (some ⟨g, 0, none⟩) i 5 HA.out 0 1).mono ?_
    rintro e w18 ⟨rfl, hc⟩
    have HD' := Lib.hid (HD.out.trans hc)
    have HA' := Lib.hid (HA.out.chg hc)
    clear hc HD HA
    rename Hid (Chg [] w0 w18) => HD
    rename Hid (AtE w18 _ _ _) => HA
    go_wp2_with fail
    refine (rank_err _ (some ⟨g, 0, none⟩) i 5 HA.out 1).mono ?_
    rintro e w19 ⟨rfl, hc⟩
    have HD' := Lib.hid (HD.out.trans hc)
    have HA' := Lib.hid (HA.out.chg hc)
    clear hc HD HA
    rename Hid (Chg [] w0 w19) => HD
    rename Hid (AtE w19 _ _ _) => HA
    go_wp2_with fail
    refine (total_err _ (some ⟨g, 0, none⟩) i 5 HA.out).mono ?_
    rintro e w20 ⟨rfl, hc⟩
    have HD' := Lib.hid (HD.out.trans hc)
    have HA' := Lib.hid (HA.out.chg hc)
    clear hc HD HA
    rename Hid (Chg [] w0 w20) => HD
    rename Hid (AtE w20 _ _ _) => HA
    go_wp2_with fail
    refine (ends_err _ (some ⟨g, 0, none⟩) i 5 HA.out).mono ?_
    rintro e w21 ⟨rfl, hc⟩
    have HD' := Lib.hid (HD.out.trans hc)
    have HA' := Lib.hid (HA.out.chg hc)
    clear hc HD HA
    rename Hid (Chg [] w0 w21) => HD
    rename Hid (AtE w21 _ _ _) => HA
    go_wp2_with fail
    refine (drop_err _ (some ⟨g, 0, none⟩) i 5 HA.out).mono ?_
    rintro e w22 ⟨rfl, hc⟩
    have HD' := Lib.hid (HD.out.trans hc)
    have HA' := Lib.hid (HA.out.chg hc)
    clear hc HD HA
    rename Hid (Chg [] w0 w22) => HD
    rename Hid (AtE w22 _ _ _) => HA
    go_wp2_with fail
    refine (reset_err _ (some ⟨g, 0, none⟩) i 5 HA.out).mono ?_
    rintro e w23 ⟨rfl, hc⟩
    have HD' := Lib.hid (HD.out.trans hc)
    have HA' := Lib.hid (HA.out.chg hc)
    clear hc HD HA
    rename Hid (Chg [] w0 w23) => HD
    rename Hid (AtE w23 _ _ _) => HA
    go_wp2_with fail
    refine (putE_err _ (some ⟨g, 0, none⟩) i 5 (HA.out.chg ((Chg.refl [] _).alloc _)) 1 _).mono ?_
    rintro e w24 ⟨rfl, hc⟩
    have HD' := Lib.hid ((HD.out.alloc _).trans hc)
    have HA' := Lib.hid ((HA.out.chg ((Chg.refl [] _).alloc _)).chg hc)
    clear hc HD HA
    rename Hid (Chg [] w0 w24) => HD
    rename Hid (AtE w24 _ _ _) => HA
    go_wp2_with fail
    refine (joinE_err _ (some ⟨g, 0, none⟩) i 5 HA.out 0).mono ?_
    rintro e w25 ⟨rfl, hc⟩
    have HD' := Lib.hid (HD.out.trans hc)
    have HA' := Lib.hid (HA.out.chg hc)
    clear hc HD HA
    rename Hid (Chg [] w0 w25) => HD
    rename Hid (AtE w25 _ _ _) => HA
    go_wp2_with fail
    refine (copyE_err _ (some ⟨g, 0, none⟩) i 5 HA.out 0).mono ?_
    rintro e w26 ⟨rfl, hc⟩
    have HD' := Lib.hid (HD.out.trans hc)
    have HA' := Lib.hid (HA.out.chg hc)
    clear hc HD HA
    rename Hid (Chg [] w0 w26) => HD
    rename Hid (AtE w26 _ _ _) => HA
    go_wp2_with fail
    refine (foreign_err _ (some ⟨g, 0, none⟩) i 5 HA.out).mono ?_
    rintro e w27 ⟨rfl, hc⟩
    have HD' := Lib.hid (HD.out.trans hc)
    have HA' := Lib.hid (HA.out.chg hc)
    clear hc HD HA
    rename Hid (Chg [] w0 w27) => HD
    rename Hid (AtE w27 _ _ _) => HA
    go_wp2_with fail
    all_goals first
      | (rename some undef = some (Value.bool _) => hu; exact absurd hu (by simp [undef]))
      | (go_ret; exact ⟨rfl, HC0.out.trans HD.out⟩)
      | (go_wp2; go_ret; exact ⟨rfl, HC0.out.trans HD.out⟩)
end Go.Proofs.YtmehcfocfljoeaaGreatDoor
