/-
  The walk of the law DigestErrors. Conditions: the form's own reach.
-/
import Derived.Test.YtgnbabkafobeoaaDgBuild
import Derived.Test.YtgnbabkafobeoaaDgNil
import Derived.Test.YtgnbabkafobeoaaPrSame
namespace Go.Proofs.Ytgnbabkafobeoaa
open Go.RowKit

theorem enters_enodes : ∀ (args : Array Value) (w : World), (callFunc 19 args).run Try.prog w = .ok (.enter 19 args) w := enters_of Try.func19 (by kernel_rfl) rfl
theorem enters_esame : ∀ (args : Array Value) (w : World), (callFunc 27 args).run Try.prog w = .ok (.enter 27 args) w := enters_of Try.func27 (by kernel_rfl) rfl
theorem enters_econfig : ∀ (args : Array Value) (w : World), (callFunc 32 args).run Try.prog w = .ok (.enter 32 args) w := enters_of Try.func32 (by kernel_rfl) rfl
theorem enters_emost : ∀ (args : Array Value) (w : World), (callFunc 31 args).run Try.prog w = .ok (.enter 31 args) w := enters_of Try.func31 (by kernel_rfl) rfl
theorem dg_newF (w : World) (d f : Int) : Calls Try.prog 33 #[.agg #[.int .i64 d, .int .i64 f]] w fun e w' => ∃ (pv : Value) (k : Int), e = .returned (.tuple #[pv, .int .i64 k]) ∧ (k == 0) = goodC d f ∧ Chg [] w w' ∧ (k = 1 ∨ k = 0 ∧ ∃ p s, pv = .pointer (some ⟨p, 0, none⟩) ∧ Dg w' p s (.slice none 0 0) (DgD.new d.toNat f.toNat) ∧ goodC d f = true) := by
  refine (dg_new w d f).mono ?_
  rintro e w' (⟨hg, rfl, hc⟩ | ⟨hg, p, s, rfl, h1, hc, -⟩)
  · exact ⟨_, 1, rfl, by rw [hg]; rfl, hc, .inl rfl⟩
  · exact ⟨_, 0, rfl, by rw [hg]; rfl, hc, .inr ⟨rfl, p, s, rfl, h1, hg⟩⟩

set_option maxRecDepth 100000 in
set_option maxHeartbeats 16000000 in
theorem law_DigestErrors (w : World) (d f : Int) (_hd1 : -9223372036854775808 ≤ d) (_hd2 : d < 9223372036854775808) (_hf1 : -9223372036854775808 ≤ f) (_hf2 : f < 9223372036854775808) (ao : Option Addr) (ca : Nat) (a : List Vl) (hra : Rd w 2 (.slice ao a.length ca) a.length (vlCells a)) (hla : a.length ≤ 140737488351232) (hka : ∀ i ∈ a, i.ok)
    (x : Int) (_hx1 : -9223372036854775808 ≤ x) (hx2 : x < 9223372036854775808) (d2 f2 : Int) (_hdd1 : -9223372036854775808 ≤ d2) (_hdd2 : d2 < 9223372036854775808) (_hff1 : -9223372036854775808 ≤ f2) (_hff2 : f2 < 9223372036854775808) :
    Calls Try.prog 8 #[.agg #[.int .i64 d, .int .i64 f], .slice ao a.length ca, .int .i64 x, .agg #[.int .i64 d2, .int .i64 f2]] w fun e w' => e = .returned (.bool true) ∧ Chg [] w w' := by
  have HAL := Lib.hid law17_alive
  have HKA := Lib.hid hka
  have HRA := Lib.hid hra
  have HX2 := Lib.hid hx2
  obtain ⟨n, hn⟩ : ∃ n, n = a.length := ⟨_, rfl⟩
  rw [← hn] at HRA hla ⊢
  have HN := Lib.hid hn
  clear hka hra hn _hd1 _hd2 _hf1 _hf2 _hx1 hx2 _hdd1 _hdd2 _hff1 _hff2
  have hc0 := ((Chg.refl [] w).alloc (.cells #[.int .i64 d, .int .i64 f] 23)).alloc (.cells #[.int .i64 d2, .int .i64 f2] 23)
  have hb0 := (Blk.alloc_new w #[.int .i64 d, .int .i64 f] 23).alloc (.cells #[.int .i64 d2, .int .i64 f2] 23)
  have hr0 := Blk.alloc_new (w.alloc (.cells #[.int .i64 d, .int .i64 f] 23)) #[.int .i64 d2, .int .i64 f2] 23
  rw [World.size_alloc] at hr0
  obtain ⟨bc, hbc⟩ : ∃ z, z = w.heap.size := ⟨_, rfl⟩
  rw [← hbc] at hb0 hr0
  have HC0 := Lib.hid hc0
  have HB := Lib.hid hb0
  have HR := Lib.hid hr0
  have HBA := Lib.hid (fun u (hu : Chg [] w u) => law17_build u d f ao ca n a HN.out (HRA.out.chg hu (by simp)) hla (fun v hv => (HKA.out v hv).2.2))
  have HNC := Lib.hid dg_nil_config
  have HNQ := Lib.hid (fun u => dg_nil_quantile u 0 1)
  have HNW := Lib.hid (fun u => dg_newF u d f)
  have HNO := Lib.hid (fun u => dg_newF u d2 f2)
  clear hc0 hb0 hr0
  go_enter Try.func8, Try.ntmps8
  go_wp2_with fail
  rw [← hbc]
  clear hbc
  generalize (w.alloc (.cells #[.int .i64 d, .int .i64 f] 23)).alloc (.cells #[.int .i64 d2, .int .i64 f2] 23) = w0 at *
  refine (HAL.out _).mono ?_
  rintro e w1 ⟨rfl, hc1⟩
  have HC1 := Lib.hid (HC0.out.trans hc1)
  have HB1 := Lib.hid (HB.out.chg hc1 (by simp))
  have HR1 := Lib.hid (HR.out.chg hc1 (by simp))
  clear hc1 HB HR HC0 HAL
  go_wp2_with fail
  refine (dg_nil_ends _).mono ?_
  rintro e w2 ⟨rfl, rfl⟩
  go_wp2_with fail
  refine (HNQ.out _).mono ?_
  rintro e w2 ⟨rfl, hc2⟩
  have HC2 := Lib.hid (HC1.out.trans hc2)
  have HB2 := Lib.hid (HB1.out.chg hc2 (by simp))
  have HR2 := Lib.hid (HR1.out.chg hc2 (by simp))
  clear hc2 HB1 HR1 HC1 HNQ
  go_wp2_with fail
  refine (dg_nil_rank _ 1).mono ?_
  rintro e w' ⟨rfl, rfl⟩
  go_wp2_with (first | (go_at_call 18; refine (dg_nil_put _ 1 1).mono ?_; rintro e w' ⟨rfl, rfl⟩) | (go_at_call 17; refine (dg_nil_join _ _).mono ?_; rintro e w' ⟨rfl, rfl⟩) | (go_at_call 15; refine (dg_nil_total _).mono ?_; rintro e w' ⟨rfl, rfl⟩) | (go_at_call 19; refine (dg_nil_nodes _).mono ?_; rintro e w' ⟨rfl, rfl⟩) | (go_at_call 31; refine (dg_nil_most _).mono ?_; rintro e w' ⟨rfl, rfl⟩))
  refine (HNC.out _).mono ?_
  rintro e w3 ⟨rfl, hc3⟩
  have HC3 := Lib.hid (HC2.out.trans hc3)
  have HB3 := Lib.hid (HB2.out.chg hc3 (by simp))
  have HR3 := Lib.hid (HR2.out.chg hc3 (by simp))
  have x0 := HB3.out.cell 0
  have x1 := HB3.out.cell 1
  simp only [List.getElem?_toArray, List.getElem?_cons_zero, List.getElem?_cons_succ] at x0 x1
  have hneq := dcfg_neq 0 0 0 0
  clear hc3 HB2 HR2 HC2 HNC
  go_wp2_with fail
  refine (HNW.out _).mono ?_
  clear hneq
  rintro e w4 ⟨pv, k, rfl, hk, hc4, -⟩
  have HK := Lib.hid hk
  have HC4 := Lib.hid (HC3.out.trans hc4)
  have HB4 := Lib.hid (HB3.out.chg hc4 (by simp))
  have HR4 := Lib.hid (HR3.out.chg hc4 (by simp))
  clear hk hc4 HB3 HR3 HC3 HNW x0 x1
  have x0 := HB4.out.cell 0
  have x1 := HB4.out.cell 1
  simp only [List.getElem?_toArray, List.getElem?_cons_zero, List.getElem?_cons_succ] at x0 x1
  go_upto_region 10 with (fail)
  go_cut [109] (fun v wx => v = .bool false ∧ wx = w4)
  case first =>
    obtain ⟨kb, hkb⟩ : ∃ z, z = (k == 0) := ⟨_, rfl⟩
    rw [HK.out] at hkb
    by_cases g1 : 1 ≤ d
    · have e1 : decide ((1 : Int) ≤ d) = true := decide_eq_true g1
      by_cases g2 : d ≤ 24
      · have e2 : decide (d ≤ 24) = true := decide_eq_true g2
        by_cases g3 : 1 ≤ f
        · have e3 : decide ((1 : Int) ≤ f) = true := decide_eq_true g3
          have e4 : (k == 0) = decide (f ≤ 64) := by rw [HK.out, goodC]; simp [g1, g2, g3]
          clear hkb
          go_wp2_with fail
          go_meet
          exact ⟨by first | rfl | (simp; exact e4) | simp [e4], rfl⟩
        · have e3 : decide ((1 : Int) ≤ f) = false := decide_eq_false g3
          have e4 : (k == 0) = false := by rw [HK.out, goodC]; simp; omega
          clear hkb
          go_wp2_with fail
          go_meet
          exact ⟨by first | rfl | simp, rfl⟩
      · have e2 : decide (d ≤ 24) = false := decide_eq_false g2
        have e4 : (k == 0) = false := by rw [HK.out, goodC]; simp; omega
        clear hkb
        go_wp2_with fail
        go_meet
        exact ⟨by first | rfl | simp, rfl⟩
    · have e1 : decide ((1 : Int) ≤ d) = false := decide_eq_false g1
      have e4 : (k == 0) = false := by rw [HK.out, goodC]; simp; omega
      clear hkb
      go_wp2_with fail
      go_meet
      exact ⟨by first | rfl | simp, rfl⟩
  case rest =>
    obtain ⟨rfl, rfl⟩ := hcut
    have HC5 := HC4
    go_wp2_with fail
    refine (HBA.out _ HC4.out).mono ?_
    clear x0 x1
    rintro e w5 (⟨hbad, rfl, hc5⟩ | ⟨hok, p, s, rv, q, sv, rfl, ht5, hq5, hc5, -, -, -⟩)
    · go_wp2_with fail
      go_ret
      exact ⟨rfl, HC4.out.trans hc5⟩
    have hd0 := hok.2.1
    have hf0 := hok.2.2.1
    obtain ⟨dn, rfl⟩ := Int.eq_ofNat_of_zero_le (show 0 ≤ d by omega)
    obtain ⟨fn, rfl⟩ := Int.eq_ofNat_of_zero_le (show 0 ≤ f by omega)
    have hvo := valsDg_ok (d := dn) (f := fn) hok
    rw [Int.toNat_natCast, Int.toNat_natCast] at ht5 hq5
    have HC6 := Lib.hid (HC4.out.trans hc5)
    have HB6 := Lib.hid (HB4.out.chg hc5 (by simp))
    have HR6 := Lib.hid (HR4.out.chg hc5 (by simp))
    have HT6 := Lib.hid ht5
    have HQ6 := Lib.hid hq5
    have HOK := Lib.hid hvo
    have hdn : dn ≤ 24 := by omega
    have hfn : fn ≤ 64 := by omega
    clear ht5 hq5 hc5 hok hvo HB4 HR4 HC4 HC5 HBA HK hd0 hf0
    generalize valsDg dn fn a = D at *
    obtain ⟨P, hP⟩ : ∃ P, P = 2 ^ dn := ⟨_, rfl⟩
    have HPP := Lib.hid hP
    have hp2 := two_d HOK.out.1.d1 HOK.out.1.d2
    rw [HOK.out.2.1, ← hP] at hp2
    have hshl : wrap64 ((2 : Int) ^ min dn 64) = (P : Int) := by
      have e : (2 : Int) ^ dn = (P : Int) := by rw [hP]; simp
      rw [show min dn 64 = dn from by omega, e]
      unfold wrap64
      omega
    have hshl2 : wrap64 ((2 : Int) ^ dn) = (P : Int) := by
      have h := hshl
      rw [show min dn 64 = dn from by omega] at h
      exact h
    obtain ⟨O, hO⟩ : ∃ O, O = decide (x < 0 ∨ (P : Int) ≤ x) := ⟨_, rfl⟩
    have HO := Lib.hid hO
    have x0 := HB6.out.cell 0
    have x1 := HB6.out.cell 1
    simp only [List.getElem?_toArray, List.getElem?_cons_zero, List.getElem?_cons_succ] at x0 x1
    clear hP hO
    go_upto_region 15 with (fail)
    go_cut [22] (fun v wx => v = .bool O ∧ wx = w5)
    case first =>
      by_cases g1 : x < 0
      · have e1 : decide (x < 0) = true := decide_eq_true g1
        obtain rfl : O = true := by rw [HO.out]; simp [g1]
        go_wp2_with fail
        go_meet
        exact ⟨rfl, rfl⟩
      · have e1 : decide (x < 0) = false := decide_eq_false g1
        have e2 : decide ((P : Int) ≤ x) = O := by rw [HO.out]; simp [g1]
        go_wp2_with fail
        go_meet
        exact ⟨by first | rfl | rw [e2], rfl⟩
    case rest =>
      obtain ⟨rfl, rfl⟩ := hcut
      have r0 := HR6.out.cell 0
      have r1 := HR6.out.cell 1
      simp only [List.getElem?_toArray, List.getElem?_cons_zero, List.getElem?_cons_succ] at r0 r1
      clear hshl hshl2 hp2 x0 x1
      go_wp2_with fail
      refine (HNO.out _).mono ?_
      clear HNO r0 r1
      rintro e w7 ⟨pv, k2, rfl, -, hc7, hway⟩
      have HC7 := Lib.hid (HC6.out.trans hc7)
      have HB7 := Lib.hid (HB6.out.chg hc7 (by simp))
      have HR7 := Lib.hid (HR6.out.chg hc7 (by simp))
      have HT7 := Lib.hid (HT6.out.chg hc7 (by simp))
      have HQ7 := Lib.hid (HQ6.out.chg hc7 (by simp))
      have HWAY := Lib.hid hway
      clear hc7 hway HC6 HB6 HR6 HT6 HQ6
      obtain ⟨T, hT⟩ : ∃ T, T = totP D.row := ⟨_, rfl⟩
      have htt := HOK.out.1.tot
      rw [← hT] at htt
      obtain ⟨c, hc⟩ : ∃ c, c + T = 9223372036854775808 := ⟨9223372036854775808 - T, by omega⟩
      have hwc : IntKind.u64.wrap (9223372036854775808 - (T : Int)) = (c : Int) := by rw [IntKind.wrap_u64]; omega
      have HTO := Lib.hid (fun u (hu : Chg [] w7 u) => dg_total u p s rv D (HT7.out.chg hu (by simp)))
      rw [← hT] at HTO
      have HFU := Lib.hid (fun u (hu : Chg [] w7 u) => dg_put_full u p s rv D (HT7.out.chg hu (by simp)) HOK.out.1 c (by rw [← hT]; exact hc))
      have HRG := Lib.hid (fun (hO : O = true) u (hu : Chg [] w7 u) => dg_put_range u p s rv D (HT7.out.chg hu (by simp)) HOK.out.1 x (by rw [HOK.out.2.1, ← HPP.out]; exact of_decide_eq_true (HO.out.symm.trans hO)) HX2.out)
      have hnq := dcfg_neq d2 (dn : Nat) f2 (fn : Nat)
      have HCL := Lib.hid (fun u (hu : Chg [] w7 u) => show (u.cell? ⟨bc, 0, none⟩ = some (.int .i64 (dn : Nat)) ∧ u.cell? ⟨bc, 1, none⟩ = some (.int .i64 (fn : Nat))) ∧ u.cell? ⟨bc + 1, 0, none⟩ = some (.int .i64 d2) ∧ u.cell? ⟨bc + 1, 1, none⟩ = some (.int .i64 f2) from ⟨⟨(HB7.out.chg hu (by simp)).cell 0, (HB7.out.chg hu (by simp)).cell 1⟩, (HR7.out.chg hu (by simp)).cell 0, (HR7.out.chg hu (by simp)).cell 1⟩)
      clear hT htt hc
      go_upto_region 17 with (fail)
      go_cut [172] (fun v wx => v = .bool false ∧ Chg [] w7 wx)
      case first =>
        rcases HWAY.out with rfl | ⟨rfl, p2, s2, rfl, hd2, hg2⟩
        · clear hnq
          cases O with
          | true =>
            go_wp2_with fail
            refine (dg_put_zero _ _ 0).mono ?_
            rintro e w' ⟨rfl, rfl⟩
            go_wp2_with fail
            refine (HRG.out (by first | rfl | trivial) _ (by with_reducible (repeat (first | exact Chg.refl _ _ | apply Chg.drew | apply Chg.drewN)))).mono ?_
            rintro e w8 ⟨rfl, hc8⟩
            have HCz := Lib.hid (show Chg [] w7 w8 from Chg.trans (by with_reducible (repeat (first | exact Chg.refl _ _ | apply Chg.drew | apply Chg.drewN))) hc8)
            clear hc8
            go_wp2_with fail
            refine (HTO.out _ (by with_reducible (repeat (first | exact HCz.out | exact Chg.refl _ _ | apply Chg.drew | apply Chg.drewN)))).mono ?_
            rintro e w' ⟨rfl, rfl⟩
            go_wp2_with fail
            refine (HFU.out _ (by with_reducible (repeat (first | exact HCz.out | exact Chg.refl _ _ | apply Chg.drew | apply Chg.drewN)))).mono ?_
            rintro e w9 ⟨rfl, hc9⟩
            have HC9 := Lib.hid (show Chg [] w7 w9 from Chg.trans (by with_reducible (repeat (first | exact HCz.out | exact Chg.refl _ _ | apply Chg.drew | apply Chg.drewN))) hc9)
            obtain ⟨⟨q0, q1⟩, q2, q3⟩ := HCL.out _ HC9.out
            clear hc9
            go_wp2_with fail
            refine (dg_join_none _ _).mono ?_
            rintro e w' ⟨rfl, rfl⟩
            go_wp2_with fail
            go_meet
            exact ⟨rfl, by with_reducible (repeat (first | exact HC9.out | apply Chg.drew | apply Chg.drewN))⟩
          | false =>
            go_wp2_with fail
            refine (dg_put_zero _ _ 0).mono ?_
            rintro e w' ⟨rfl, rfl⟩
            go_wp2_with fail
            have HCz := Lib.hid (Chg.refl [] w7)
            refine (HTO.out _ (by with_reducible (repeat (first | exact HCz.out | exact Chg.refl _ _ | apply Chg.drew | apply Chg.drewN)))).mono ?_
            rintro e w' ⟨rfl, rfl⟩
            go_wp2_with fail
            refine (HFU.out _ (by with_reducible (repeat (first | exact HCz.out | exact Chg.refl _ _ | apply Chg.drew | apply Chg.drewN)))).mono ?_
            rintro e w9 ⟨rfl, hc9⟩
            have HC9 := Lib.hid (show Chg [] w7 w9 from Chg.trans (by with_reducible (repeat (first | exact HCz.out | exact Chg.refl _ _ | apply Chg.drew | apply Chg.drewN))) hc9)
            obtain ⟨⟨q0, q1⟩, q2, q3⟩ := HCL.out _ HC9.out
            clear hc9
            go_wp2_with fail
            refine (dg_join_none _ _).mono ?_
            rintro e w' ⟨rfl, rfl⟩
            go_wp2_with fail
            go_meet
            exact ⟨rfl, by with_reducible (repeat (first | exact HC9.out | apply Chg.drew | apply Chg.drewN))⟩
        · have hgg := of_decide_eq_true hg2
          by_cases hsame : d2 = (dn : Int) ∧ f2 = (fn : Int)
          · have hn : (!(d2 == (dn : Int) && f2 == (fn : Int))) = false := by rw [hsame.1, hsame.2]; simp
            rw [hn] at hnq
            clear hn hsame hgg hg2
            cases O with
            | true =>
              go_wp2_with fail
              refine (dg_put_zero _ _ 0).mono ?_
              rintro e w' ⟨rfl, rfl⟩
              go_wp2_with fail
              refine (HRG.out (by first | rfl | trivial) _ (by with_reducible (repeat (first | exact Chg.refl _ _ | apply Chg.drew | apply Chg.drewN)))).mono ?_
              rintro e w8 ⟨rfl, hc8⟩
              have HCz := Lib.hid (show Chg [] w7 w8 from Chg.trans (by with_reducible (repeat (first | exact Chg.refl _ _ | apply Chg.drew | apply Chg.drewN))) hc8)
              clear hc8
              go_wp2_with fail
              refine (HTO.out _ (by with_reducible (repeat (first | exact HCz.out | exact Chg.refl _ _ | apply Chg.drew | apply Chg.drewN)))).mono ?_
              rintro e w' ⟨rfl, rfl⟩
              go_wp2_with fail
              refine (HFU.out _ (by with_reducible (repeat (first | exact HCz.out | exact Chg.refl _ _ | apply Chg.drew | apply Chg.drewN)))).mono ?_
              rintro e w9 ⟨rfl, hc9⟩
              have HC9 := Lib.hid (show Chg [] w7 w9 from Chg.trans (by with_reducible (repeat (first | exact HCz.out | exact Chg.refl _ _ | apply Chg.drew | apply Chg.drewN))) hc9)
              obtain ⟨⟨q0, q1⟩, q2, q3⟩ := HCL.out _ HC9.out
              clear hc9
              go_wp2_with fail
              refine (dg_join_none _ _).mono ?_
              rintro e w' ⟨rfl, rfl⟩
              go_wp2_with fail
              go_meet
              exact ⟨rfl, by with_reducible (repeat (first | exact HC9.out | apply Chg.drew | apply Chg.drewN))⟩
            | false =>
              go_wp2_with fail
              refine (dg_put_zero _ _ 0).mono ?_
              rintro e w' ⟨rfl, rfl⟩
              go_wp2_with fail
              have HCz := Lib.hid (Chg.refl [] w7)
              refine (HTO.out _ (by with_reducible (repeat (first | exact HCz.out | exact Chg.refl _ _ | apply Chg.drew | apply Chg.drewN)))).mono ?_
              rintro e w' ⟨rfl, rfl⟩
              go_wp2_with fail
              refine (HFU.out _ (by with_reducible (repeat (first | exact HCz.out | exact Chg.refl _ _ | apply Chg.drew | apply Chg.drewN)))).mono ?_
              rintro e w9 ⟨rfl, hc9⟩
              have HC9 := Lib.hid (show Chg [] w7 w9 from Chg.trans (by with_reducible (repeat (first | exact HCz.out | exact Chg.refl _ _ | apply Chg.drew | apply Chg.drewN))) hc9)
              obtain ⟨⟨q0, q1⟩, q2, q3⟩ := HCL.out _ HC9.out
              clear hc9
              go_wp2_with fail
              refine (dg_join_none _ _).mono ?_
              rintro e w' ⟨rfl, rfl⟩
              go_wp2_with fail
              go_meet
              exact ⟨rfl, by with_reducible (repeat (first | exact HC9.out | apply Chg.drew | apply Chg.drewN))⟩
          · have hn : (!(d2 == (dn : Int) && f2 == (fn : Int))) = true := by
              rw [Bool.not_eq_true', Bool.and_eq_false_iff, beq_eq_false_iff_ne, beq_eq_false_iff_ne]
              omega
            rw [hn] at hnq
            have HJM := Lib.hid (fun u (hu : Chg [] w7 u) => dg_join_match u p s rv D (HT7.out.chg hu (by simp)) p2 s2 _ _ (hd2.chg hu (by simp)) (fun e => hsame (by
              have h1 := e.1; have h2 := e.2; rw [HOK.out.2.1] at h1; rw [HOK.out.2.2.1] at h2; simp only [DgD.new] at h1 h2; omega)))
            clear hn hsame hgg hg2
            cases O with
            | true =>
              go_wp2_with fail
              refine (dg_put_zero _ _ 0).mono ?_
              rintro e w' ⟨rfl, rfl⟩
              go_wp2_with fail
              refine (HRG.out (by first | rfl | trivial) _ (by with_reducible (repeat (first | exact Chg.refl _ _ | apply Chg.drew | apply Chg.drewN)))).mono ?_
              rintro e w8 ⟨rfl, hc8⟩
              have HCz := Lib.hid (show Chg [] w7 w8 from Chg.trans (by with_reducible (repeat (first | exact Chg.refl _ _ | apply Chg.drew | apply Chg.drewN))) hc8)
              clear hc8
              go_wp2_with fail
              refine (HTO.out _ (by with_reducible (repeat (first | exact HCz.out | exact Chg.refl _ _ | apply Chg.drew | apply Chg.drewN)))).mono ?_
              rintro e w' ⟨rfl, rfl⟩
              go_wp2_with fail
              refine (HFU.out _ (by with_reducible (repeat (first | exact HCz.out | exact Chg.refl _ _ | apply Chg.drew | apply Chg.drewN)))).mono ?_
              rintro e w9 ⟨rfl, hc9⟩
              have HC9 := Lib.hid (show Chg [] w7 w9 from Chg.trans (by with_reducible (repeat (first | exact HCz.out | exact Chg.refl _ _ | apply Chg.drew | apply Chg.drewN))) hc9)
              obtain ⟨⟨q0, q1⟩, q2, q3⟩ := HCL.out _ HC9.out
              clear hc9
              go_wp2_with fail
              refine (dg_join_none _ _).mono ?_
              rintro e w' ⟨rfl, rfl⟩
              go_wp2_with fail
              refine (HJM.out _ (by with_reducible (repeat (first | exact HC9.out | apply Chg.drew | apply Chg.drewN)))).mono ?_
              rintro e w10 ⟨rfl, hc10⟩
              have HCa := Lib.hid (show Chg [] w7 w10 from Chg.trans (by with_reducible (repeat (first | exact HC9.out | apply Chg.drew | apply Chg.drewN))) hc10)
              go_wp2_with fail
              go_meet
              exact ⟨rfl, HCa.out⟩
            | false =>
              go_wp2_with fail
              refine (dg_put_zero _ _ 0).mono ?_
              rintro e w' ⟨rfl, rfl⟩
              go_wp2_with fail
              have HCz := Lib.hid (Chg.refl [] w7)
              refine (HTO.out _ (by with_reducible (repeat (first | exact HCz.out | exact Chg.refl _ _ | apply Chg.drew | apply Chg.drewN)))).mono ?_
              rintro e w' ⟨rfl, rfl⟩
              go_wp2_with fail
              refine (HFU.out _ (by with_reducible (repeat (first | exact HCz.out | exact Chg.refl _ _ | apply Chg.drew | apply Chg.drewN)))).mono ?_
              rintro e w9 ⟨rfl, hc9⟩
              have HC9 := Lib.hid (show Chg [] w7 w9 from Chg.trans (by with_reducible (repeat (first | exact HCz.out | exact Chg.refl _ _ | apply Chg.drew | apply Chg.drewN))) hc9)
              obtain ⟨⟨q0, q1⟩, q2, q3⟩ := HCL.out _ HC9.out
              clear hc9
              go_wp2_with fail
              refine (dg_join_none _ _).mono ?_
              rintro e w' ⟨rfl, rfl⟩
              go_wp2_with fail
              refine (HJM.out _ (by with_reducible (repeat (first | exact HC9.out | apply Chg.drew | apply Chg.drewN)))).mono ?_
              rintro e w10 ⟨rfl, hc10⟩
              have HCa := Lib.hid (show Chg [] w7 w10 from Chg.trans (by with_reducible (repeat (first | exact HC9.out | apply Chg.drew | apply Chg.drewN))) hc10)
              go_wp2_with fail
              go_meet
              exact ⟨rfl, HCa.out⟩
      case rest =>
        rename World => w8
        obtain ⟨rfl, hc8⟩ := hcut
        have HC8 := Lib.hid (HC7.out.trans hc8)
        have HT8 := Lib.hid (HT7.out.chg hc8 (by simp))
        have HQ8 := Lib.hid (HQ7.out.chg hc8 (by simp))
        have HB8 := Lib.hid (HB7.out.chg hc8 (by simp))
        clear hc8 HTO HFU HRG hnq HCL HT7 HQ7 HB7 HR7 HC7 HWAY hwc
        obtain ⟨so, sc, hsv⟩ := HQ8.out.row.shape
        subst hsv
        obtain ⟨nn, hnn⟩ : ∃ z, z = D.row.length := ⟨_, rfl⟩
        have hnl : nn ≤ 1000 := by have := HOK.out.1.len; omega
        have HNO := Lib.hid (fun u (hu : Chg [] w8 u) => dg_nodes u p s rv D (HT8.out.chg hu (by simp)) nn hnn hnl)
        have HSM := Lib.hid (fun u a3 c3 (hu : Chg [] w8 u) (ho : Own u 53 2 (.slice a3 nn c3) nn (prCells D.row)) => show Calls Try.prog 27 #[.slice a3 nn c3, .slice so nn sc] u fun e w' => e = .returned (.bool true) ∧ Chg [] u w' from by
          subst hnn
          exact (ref06_same u a3 c3 so sc D.row ho.rd (HQ8.out.chg hu (by simp)).row.rd (by omega)).mono fun e w' h => ⟨h.1, by first | exact h.2 | (rw [← h.2]; exact Chg.refl _ _)⟩)
        have HCF := Lib.hid (fun u (hu : Chg [] w8 u) => show Calls Try.prog 32 #[.pointer (some ⟨p, 0, none⟩)] u fun e w' => e = .returned (.agg #[.int .i64 (dn : Nat), .int .i64 (fn : Nat)]) ∧ Chg [] u w' from by
          have h := dg_config u p s rv D (HT8.out.chg hu (by simp))
          rw [HOK.out.2.1, HOK.out.2.2.1] at h
          exact h)
        have HMO := Lib.hid (fun u (hu : Chg [] w8 u) => show Calls Try.prog 31 #[.pointer (some ⟨p, 0, none⟩)] u fun e w' => e = .returned (.int .i64 ((4 * fn : Nat) : Int)) ∧ u = w' from by
          have h := dg_most u p s rv D (HT8.out.chg hu (by simp)) HOK.out.1.f2
          rw [HOK.out.2.2.1] at h
          exact h)
        have HS := Lib.hid (fun wx (hu : Chg [] w8 wx) => show Chg [] w8 wx ∧ wx.cell? ⟨q, 2, none⟩ = some (.slice so nn sc) ∧ wx.cell? ⟨bc, 0, none⟩ = some (.int .i64 (dn : Nat)) ∧ wx.cell? ⟨bc, 1, none⟩ = some (.int .i64 (fn : Nat)) from by
          have q2 := (HQ8.out.chg hu (by simp)).cells.2.2
          rw [← hnn] at q2
          exact ⟨hu, q2, (HB8.out.chg hu (by simp)).cell 0, (HB8.out.chg hu (by simp)).cell 1⟩)
        have hceq := dcfg_eql (dn : Nat) (dn : Nat) (fn : Nat) (fn : Nat)
        have e1 : ((dn : Int) == (dn : Int)) = true := by simp
        have e2 : ((fn : Int) == (fn : Int)) = true := by simp
        have hw4 : IntKind.i64.wrap (4 * (fn : Int)) = ((4 * fn : Nat) : Int) := by rw [IntKind.wrap_i64]; omega
        clear hnn HQ8
        go_upto_region 19 with (fail)
        have hSS := HS.out w8.drew (Chg.refl [] w8).drew
        refine startG (S := fun wx => Chg [] w8 wx ∧ wx.cell? ⟨q, 2, none⟩ = some (.slice so nn sc) ∧ wx.cell? ⟨bc, 0, none⟩ = some (.int .i64 (dn : Nat)) ∧ wx.cell? ⟨bc, 1, none⟩ = some (.int .i64 (fn : Nat))) (st := 21) (by kernel_rfl) hSS (fun hHeld => ?_)
        refine takeP (i := 0) (v := ?vz0) rfl (by kernel_rfl) (by kernel_rfl) (by kernel_rfl) (by decide) (fun _ _ _ h => h) (Or.inl ⟨by rfl, ?yz0⟩) hSS ?rz0
        case yz0 => (intro w _; go_simp; first | done | with_reducible rfl)
        try simp only [Act.put, List.setIfInBounds_toArray, List.set_cons_zero, List.set_cons_succ]
        refine takeP (i := 2) (v := ?vz2) rfl (by kernel_rfl) (by kernel_rfl) (by kernel_rfl) (by decide) (fun _ _ _ h => h) (Or.inl ⟨by rfl, ?yz2⟩) hSS ?rz2
        case yz2 => (intro w _; go_simp; first | done | with_reducible rfl)
        try simp only [Act.put, List.setIfInBounds_toArray, List.set_cons_zero, List.set_cons_succ]
        refine takeP (i := 3) (v := ?vz3) rfl (by kernel_rfl) (by kernel_rfl) (by kernel_rfl) (by decide) (fun _ _ _ h => h) (Or.inl ⟨by rfl, ?yz3⟩) hSS ?rz3
        case yz3 => (intro w _; go_simp; first | done | with_reducible rfl)
        try simp only [Act.put, List.setIfInBounds_toArray, List.set_cons_zero, List.set_cons_succ]
        refine takeP (i := 4) (v := ?vz4) rfl (by kernel_rfl) (by kernel_rfl) (by kernel_rfl) (by decide) (fun _ _ _ h => h) (Or.inl ⟨by rfl, ?yz4⟩) hSS ?rz4
        case yz4 => (intro w _; go_simp; first | done | with_reducible rfl)
        try simp only [Act.put, List.setIfInBounds_toArray, List.set_cons_zero, List.set_cons_succ]
        refine takeG (i := 5) (v := ?vz5) rfl (by kernel_rfl) (by kernel_rfl) (by kernel_rfl) (by decide) (by kernel_rfl) (by kernel_rfl) (fun _ _ _ h => h) (Or.inl ⟨by rfl, ?yz5⟩) hSS ?rz5
        case yz5 => (intro w hSw; (try dsimp only at hSw); go_simp; first | done | with_reducible rfl)
        try simp only [Act.put, List.setIfInBounds_toArray, List.set_cons_zero, List.set_cons_succ]
        refine readyG (rs := [1]) (by kernel_rfl) (by simp) (consG rfl (fun K hK => ?_) nilG)
        refine step_calls rfl 19 _ _ rfl enters_enodes _ #[.pointer (some ⟨p, 0, none⟩)] (by simp [Act.eval]) (HNO.out _ hSS.1) ?_; rintro e wA ⟨a3, c3, rfl, hoA, hcA, -⟩; refine ⟨_, rfl, ?_⟩
        have hSA := HS.out _ (hSS.1.trans hcA)
        have HOA := Lib.hid hoA
        clear hoA hcA
        refine hK.out _ _ (fun _ _ => hSA) (fun hHeld => ?_)
        clear hK K hHeld
        try simp only [Act.put, List.setIfInBounds_toArray, List.set_cons_zero, List.set_cons_succ]
        refine readyG (rs := [6]) (by kernel_rfl) (by simp) (consG rfl (fun K hK => ?_) nilG)
        refine step_calls rfl 27 _ _ rfl enters_esame _ #[.slice a3 nn c3, .slice so nn sc] (by simp [Act.eval]) (HSM.out _ _ _ hSA.1 HOA.out) ?_; rintro e wB ⟨rfl, hcB⟩; refine ⟨_, rfl, ?_⟩
        have hSB := HS.out _ (hSA.1.trans hcB)
        clear hcB
        refine hK.out _ _ (fun _ _ => hSB) (fun hHeld => ?_)
        clear hK K hHeld
        try simp only [Act.put, List.setIfInBounds_toArray, List.set_cons_zero, List.set_cons_succ]
        refine takeP (i := 7) (v := ?vz7) rfl (by kernel_rfl) (by kernel_rfl) (by kernel_rfl) (by decide) (fun _ _ _ h => h) (Or.inl ⟨by rfl, ?yz7⟩) hSB ?rz7
        case yz7 => (intro w _; go_simp; first | done | with_reducible rfl)
        try simp only [Act.put, List.setIfInBounds_toArray, List.set_cons_zero, List.set_cons_succ]
        refine takeP (i := 8) (v := ?vz8) rfl (by kernel_rfl) (by kernel_rfl) (by kernel_rfl) (by decide) (fun _ _ _ h => h) (Or.inl ⟨by rfl, ?yz8⟩) hSB ?rz8
        case yz8 => (intro w _; go_simp; first | done | with_reducible rfl)
        try simp only [Act.put, List.setIfInBounds_toArray, List.set_cons_zero, List.set_cons_succ]
        refine takeG (i := 10) (v := ?vz10) rfl (by kernel_rfl) (by kernel_rfl) (by kernel_rfl) (by decide) (by kernel_rfl) (by kernel_rfl) (fun _ _ _ h => h) (Or.inl ⟨by rfl, ?yz10⟩) hSB ?rz10
        case yz10 => (intro w hSw; (try dsimp only at hSw); go_simp; first | done | with_reducible rfl)
        try simp only [Act.put, List.setIfInBounds_toArray, List.set_cons_zero, List.set_cons_succ]
        refine readyG (rs := [9]) (by kernel_rfl) (by simp) (consG rfl (fun K hK => ?_) nilG)
        refine step_callsG (by rfl) 32 _ _ rfl enters_econfig _ #[.pointer (some ⟨p, 0, none⟩)] (by simp [Act.eval]) (HCF.out _ hSB.1) ?_; rintro e wC ⟨rfl, hcC⟩; refine ⟨_, rfl, ?_⟩
        have hSC := HS.out _ (hSB.1.trans hcC)
        clear hcC
        refine hK.out _ _ (fun _ _ => hSC) (fun hHeld => ?_)
        clear hK K hHeld
        try simp only [Act.put, List.setIfInBounds_toArray, List.set_cons_zero, List.set_cons_succ]
        refine takeP (i := 11) (v := ?vz11) rfl (by kernel_rfl) (by kernel_rfl) (by kernel_rfl) (by decide) (fun _ _ _ h => h) (Or.inl ⟨by rfl, ?yz11⟩) hSC ?rz11
        case yz11 => (intro w _; go_simp; first | done | with_reducible rfl)
        try simp only [Act.put, List.setIfInBounds_toArray, List.set_cons_zero, List.set_cons_succ]
        refine takeP (i := 12) (v := ?vz12) rfl (by kernel_rfl) (by kernel_rfl) (by kernel_rfl) (by decide) (fun _ _ _ h => h) (Or.inl ⟨by rfl, ?yz12⟩) hSC ?rz12
        case yz12 => (intro w _; go_simp; first | done | with_reducible rfl)
        try simp only [Act.put, List.setIfInBounds_toArray, List.set_cons_zero, List.set_cons_succ]
        refine takeP (i := 13) (v := ?vz13) rfl (by kernel_rfl) (by kernel_rfl) (by kernel_rfl) (by decide) (fun _ _ _ h => h) (Or.inl ⟨by rfl, ?yz13⟩) hSC ?rz13
        case yz13 => (intro w _; go_simp; first | done | with_reducible rfl)
        try simp only [Act.put, List.setIfInBounds_toArray, List.set_cons_zero, List.set_cons_succ]
        refine takeP (i := 14) (v := ?vz14) rfl (by kernel_rfl) (by kernel_rfl) (by kernel_rfl) (by decide) (fun _ _ _ h => h) (Or.inl ⟨by rfl, ?yz14⟩) hSC ?rz14
        case yz14 => (intro w _; go_simp; first | done | with_reducible rfl)
        try simp only [Act.put, List.setIfInBounds_toArray, List.set_cons_zero, List.set_cons_succ]
        refine takeP (i := 16) (v := ?vz16) rfl (by kernel_rfl) (by kernel_rfl) (by kernel_rfl) (by decide) (fun _ _ _ h => h) (Or.inl ⟨by rfl, ?yz16⟩) hSC ?rz16
        case yz16 => (intro w _; go_simp; first | done | with_reducible rfl)
        try simp only [Act.put, List.setIfInBounds_toArray, List.set_cons_zero, List.set_cons_succ]
        refine takeG (i := 17) (v := ?vz17) rfl (by kernel_rfl) (by kernel_rfl) (by kernel_rfl) (by decide) (by kernel_rfl) (by kernel_rfl) (fun _ _ _ h => h) (Or.inl ⟨by rfl, ?yz17⟩) hSC ?rz17
        case yz17 => (intro w hSw; (try dsimp only at hSw); go_simp; first | done | with_reducible rfl)
        try simp only [Act.put, List.setIfInBounds_toArray, List.set_cons_zero, List.set_cons_succ]
        refine takeP (i := 18) (v := ?vz18) rfl (by kernel_rfl) (by kernel_rfl) (by kernel_rfl) (by decide) (fun _ _ _ h => h) (Or.inl ⟨by rfl, ?yz18⟩) hSC ?rz18
        case yz18 => (intro w _; go_simp; first | done | with_reducible rfl)
        try simp only [Act.put, List.setIfInBounds_toArray, List.set_cons_zero, List.set_cons_succ]
        refine readyG (rs := [15]) (by kernel_rfl) (by simp) (consG rfl (fun K hK => ?_) nilG)
        refine step_callsG (by rfl) 31 _ _ rfl enters_emost _ #[.pointer (some ⟨p, 0, none⟩)] (by simp [Act.eval]) (HMO.out _ hSC.1) ?_; rintro e wD ⟨rfl, rfl⟩; refine ⟨_, rfl, ?_⟩
        refine hK.out _ _ (fun _ _ => hSC) (fun hHeld => ?_)
        clear hK K hHeld
        try simp only [Act.put, List.setIfInBounds_toArray, List.set_cons_zero, List.set_cons_succ]
        refine takeP (i := 19) (v := ?vz19) rfl (by kernel_rfl) (by kernel_rfl) (by kernel_rfl) (by decide) (fun _ _ _ h => h) (Or.inl ⟨by rfl, ?yz19⟩) hSC ?rz19
        case yz19 => (intro w _; go_simp; first | done | with_reducible rfl)
        try simp only [Act.put, List.setIfInBounds_toArray, List.set_cons_zero, List.set_cons_succ]
        refine takeP (i := 20) (v := ?vz20) rfl (by kernel_rfl) (by kernel_rfl) (by kernel_rfl) (by decide) (fun _ _ _ h => h) (Or.inl ⟨by rfl, ?yz20⟩) hSC ?rz20
        case yz20 => (intro w _; go_simp; first | done | with_reducible rfl)
        try simp only [Act.put, List.setIfInBounds_toArray, List.set_cons_zero, List.set_cons_succ]
        refine readyG (rs := [21]) (by kernel_rfl) (by simp) (consG rfl (fun K hK => ?_) nilG)
        go_simp
        refine hK.out _ _ (fun h => absurd rfl h) (fun hHeld => ?_)
        clear hK K hHeld
        try simp only [Act.put, List.setIfInBounds_toArray, List.set_cons_zero, List.set_cons_succ]
        refine doneG (by kernel_rfl) ?_ _
        have HEND := Lib.hid (HC8.out.trans hSC.1)
        clear hSS hSA hSB hSC HS
        go_wp2_with fail
        go_ret
        exact ⟨by first | rfl | simp, HEND.out⟩
end Go.Proofs.Ytgnbabkafobeoaa
