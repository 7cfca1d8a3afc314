/-
  The walk of the law ReqErrors. Conditions: the form's own reach.
-/
import Derived.Test.YtbaobiniianamaaReqLowW
import Derived.Test.YtbaobiniianamaaReqSame
import Derived.Test.YtbaobiniianamaaReqQuant
import Derived.Test.YtbaobiniianamaaReqNil
namespace Go.Proofs.Ytbaobiniianamaa
open Go.RowKit

theorem req_quantF (w : World) (p tp : Nat) (rv : Value) (vs : List Value) (D : TwD) (ht : Tow w p tp rv vs D) {W word n : Nat} (hd : D.fine W word n) (hn : n ≤ 500) (num den : Nat) (hnum : num < 18446744073709551616) (hden : den < 18446744073709551616)
    (T E : Nat) (hT : T = placeT num den n) (hE : E = placeE num den n) (V : Int) (hV : V = if E = 0 then quantR T D.rows else 0) :
    Calls Try.prog 37 #[.pointer (some ⟨p, 0, none⟩), .agg #[.int .u64 (num : Nat), .int .u64 (den : Nat)]] w fun e w' => e = .returned (.tuple #[.int .i64 V, .int .i64 (E : Nat)]) ∧ Chg [] w w' :=
  req_quantile w p tp rv vs D ht num den hnum hden (by have := hd.flat; omega) (by have := hd.few8 hn; omega) (by rw [hd.sum, hd.tot]) (by rw [hd.tot]; omega) hd.low T E (by rw [hd.tot]; exact hT) (by rw [hd.tot]; exact hE) V hV

set_option maxRecDepth 100000 in
set_option maxHeartbeats 4000000 in
theorem law_ReqErrors (w : World) (W : Int) (word : Nat) (hword : word < 18446744073709551616) (ao : Option Addr) (ca : Nat) (a : List Vl) (hra : Rd w 2 (.slice ao a.length ca) a.length (vlCells a)) (hla : a.length ≤ 140737488351232) (hka : ∀ i ∈ a, i.ok)
    (W2 : Int) (_h1 : -9223372036854775808 ≤ W2) (_h2 : W2 < 9223372036854775808) (num den : Nat) (hnum : num < 18446744073709551616) (hden : den < 18446744073709551616) :
    Calls Try.prog 12 #[.agg #[.int .i64 W, .int .u64 (word : Nat)], .slice ao a.length ca, .int .i64 W2, .agg #[.int .u64 (num : Nat), .int .u64 (den : Nat)]] w fun e w' => e = .returned (.bool true) ∧ Chg [] w w' := by
  have HAL := Lib.hid law21_alive
  have HKA := Lib.hid hka
  have HRA := Lib.hid hra
  obtain ⟨n, hn⟩ : ∃ n, n = a.length := ⟨_, rfl⟩
  rw [← hn] at HRA hla ⊢
  have HN := Lib.hid hn
  clear hka hra hn
  have hc0 := ((Chg.refl [] w).alloc (.cells #[.int .i64 W, .int .u64 (word : Nat)] 37)).alloc (.cells #[.int .u64 num, .int .u64 den] 64)
  have hb0 := (Blk.alloc_new w #[.int .i64 W, .int .u64 (word : Nat)] 37).alloc (.cells #[.int .u64 num, .int .u64 den] 64)
  have hr0 := Blk.alloc_new (w.alloc (.cells #[.int .i64 W, .int .u64 (word : Nat)] 37)) #[.int .u64 num, .int .u64 den] 64
  rw [World.size_alloc] at hr0
  obtain ⟨bc, hbc⟩ : ∃ z, z = w.heap.size := ⟨_, rfl⟩
  rw [← hbc] at hb0 hr0
  have HBC := Lib.hid hbc
  have HC0 := Lib.hid hc0
  have HB := Lib.hid hb0
  have HR := Lib.hid hr0
  have HBA := Lib.hid (fun u (hu : Chg [] w u) => law21_build u W word hword ao ca n a HN.out (HRA.out.chg hu (by simp)) hla (fun v hv => by have := (HKA.out v hv).2.1; omega) (fun v hv => (HKA.out v hv).2.2))
  have HNC := Lib.hid req_nil_config
  have HNQ := Lib.hid (fun u => req_nil_quantile u num den)
  have HG := Lib.hid (fun u => law21_good u W)
  have HNW := Lib.hid (fun u => req_newF u W word)
  have HNO := Lib.hid (fun u => req_newF u W2 0)
  clear hc0 hb0 hr0
  go_enter Try.func12, Try.ntmps12
  go_wp2_with fail
  rw [← hbc]
  clear hbc
  generalize (w.alloc (.cells #[.int .i64 W, .int .u64 (word : Nat)] 37)).alloc (.cells #[.int .u64 num, .int .u64 den] 64) = w0 at *
  refine (HAL.out _).mono ?_
  rintro e w1 ⟨rfl, hc1⟩
  have HC1 := Lib.hid (HC0.out.trans hc1)
  have HB1 := Lib.hid (HB.out.chg hc1 (by simp))
  have HR1 := Lib.hid (HR.out.chg hc1 (by simp))
  have r0 := HR1.out.cell 0
  have r1 := HR1.out.cell 1
  simp only [List.getElem?_toArray, List.getElem?_cons_zero, List.getElem?_cons_succ] at r0 r1
  clear hc1 HB HR HC0 HAL
  go_wp2_with fail
  refine (req_nil_ends _).mono ?_
  rintro e w2 ⟨rfl, rfl⟩
  go_wp2_with fail
  refine (HNQ.out _).mono ?_
  rintro e w2 ⟨rfl, hc2⟩
  have HC2 := Lib.hid (HC1.out.trans hc2)
  have HB2 := Lib.hid (HB1.out.chg hc2 (by simp))
  have HR2 := Lib.hid (HR1.out.chg hc2 (by simp))
  clear hc2 HB1 HR1 HC1 HNQ r0 r1
  go_wp2_with (first | (go_at_call 26; refine (req_nil_put _ 1 1).mono ?_; rintro e w' ⟨rfl, rfl⟩) | (go_at_call 29; refine (req_nil_join _ _).mono ?_; rintro e w' ⟨rfl, rfl⟩) | (go_at_call 28; refine (req_nil_total _).mono ?_; rintro e w' ⟨rfl, rfl⟩) | (go_at_call 25; refine (req_nil_most _).mono ?_; rintro e w' ⟨rfl, rfl⟩) | (go_at_call 23; refine (req_nil_rank _ _).mono ?_; rintro e w' ⟨rfl, rfl⟩) | (go_at_call 27; refine (req_nil_rows _).mono ?_; rintro e w' ⟨rfl, rfl⟩) | (go_at_call 21; refine (req_nil_used _).mono ?_; rintro e w' ⟨rfl, rfl⟩))
  refine (HNC.out _).mono ?_
  rintro e w3 ⟨rfl, hc3⟩
  have HC3 := Lib.hid (HC2.out.trans hc3)
  have HB3 := Lib.hid (HB2.out.chg hc3 (by simp))
  have HR3 := Lib.hid (HR2.out.chg hc3 (by simp))
  have x0 := HB3.out.cell 0
  have x1 := HB3.out.cell 1
  simp only [List.getElem?_toArray, List.getElem?_cons_zero, List.getElem?_cons_succ] at x0 x1
  have hneq := cfg_neq 0 0 0 0
  clear hc3 HB2 HR2 HC2 HNC
  go_wp2_with fail
  refine (HNW.out _).mono ?_
  intro e w4 hnew
  clear hneq
  have hnew' : ∃ (pv : Value) (k : Int), e = .returned (.tuple #[pv, .int .i64 k]) ∧ (k == 0) = goodW W ∧ Chg [] w3 w4 := by
    rcases hnew with ⟨h1, rfl, h3⟩ | ⟨h1, p, tp, rv, rfl, _, h3, _⟩
    · exact ⟨_, 1, rfl, by rw [h1]; rfl, h3⟩
    · exact ⟨_, 0, rfl, by rw [h1]; rfl, h3⟩
  clear hnew
  obtain ⟨pv, k, rfl, hk, hc4⟩ := hnew'
  have HK := Lib.hid hk
  have HC4 := Lib.hid (HC3.out.trans hc4)
  have HB4 := Lib.hid (HB3.out.chg hc4 (by simp))
  have HR4 := Lib.hid (HR3.out.chg hc4 (by simp))
  clear hk hc4 HB3 HR3 HC3 HNW x0 x1
  have x0 := HB4.out.cell 0
  have x1 := HB4.out.cell 1
  simp only [List.getElem?_toArray, List.getElem?_cons_zero, List.getElem?_cons_succ] at x0 x1
  go_wp2_with fail
  refine (HG.out _).mono ?_
  rintro e w5 ⟨rfl, rfl⟩
  rw [← HK.out]
  clear HK HG
  generalize (k == 0) = kb at *
  have hkb : (kb != kb) = false := by simp
  have hkb2 : (!(kb == kb)) = false := by simp
  go_wp2_with fail
  refine (HBA.out _ HC4.out).mono ?_
  clear hkb hkb2 x0 x1
  rintro e w5 (⟨hbad, rfl, hc5⟩ | ⟨hok, p, tp, rv, vs, q, qv, qs, rfl, ht5, hq5, hc5, hf5, hg5, hd5⟩)
  · go_wp2_with fail
    go_ret
    exact ⟨rfl, HC4.out.trans hc5⟩
  · obtain ⟨Wn, rfl, g1, g2, g4, hsa, ea, hoa⟩ := valsD_ok (word := word) hok HKA.out
    have HC5 := Lib.hid (HC4.out.trans hc5)
    have HB5 := Lib.hid (HB4.out.chg hc5 (by simp))
    have HR5 := Lib.hid (HR4.out.chg hc5 (by simp))
    have HT5 := Lib.hid (show Tow w5 p tp rv vs (valsD Wn word a) from ht5)
    have HQ5 := Lib.hid (show RT w5 q qv qs (valsD Wn word a).W (valsD Wn word a).word (valsD Wn word a).used (valsD Wn word a).rows from hq5)
    have HF := Lib.hid hoa.fine
    have hs5 : sumS a ≤ 500 := by omega
    generalize valsD Wn word a = D at *
    obtain ⟨N, hNN⟩ : ∃ N, N = sumS a := ⟨_, rfl⟩
    rw [← hNN] at HF hs5
    clear ht5 hq5 hc5 hf5 hg5 hd5 hok ea hoa hsa HB4 HR4 HC4 HBA hNN
    go_wp2_with fail
    refine (HNO.out _).mono ?_
    clear HNO
    have hw0 : Wn = (D.W : Nat) := HF.out.W_eq.symm
    obtain ⟨T, hT⟩ : ∃ T, T = placeT num den N := ⟨_, rfl⟩
    obtain ⟨E, hE⟩ : ∃ E, E = placeE num den N := ⟨_, rfl⟩
    obtain ⟨V, hV⟩ : ∃ V, V = if E = 0 then quantR T D.rows else 0 := ⟨_, rfl⟩
    obtain ⟨Ei, hEi⟩ : ∃ z : Int, z = (E : Nat) := ⟨_, rfl⟩
    have HQU := Lib.hid (fun u (hu : Tow u p tp rv vs D) => show Calls Try.prog 37 #[.pointer (some ⟨p, 0, none⟩), .agg #[.int .u64 (num : Nat), .int .u64 (den : Nat)]] u fun e w' => e = .returned (.tuple #[.int .i64 V, .int .i64 Ei]) ∧ Chg [] u w' from by rw [hEi]; exact req_quantF u p tp rv vs D hu HF.out hs5 num den hnum hden T E hT hE V hV)
    have HPL := Lib.hid (fun u => show Calls Try.prog 42 #[.agg #[.int .u64 (num : Nat), .int .u64 (den : Nat)], .int .u64 (N : Nat)] u fun e w' => e = .returned (.tuple #[.int .u64 (T : Nat), .int .i64 Ei]) ∧ Chg [] u w' from by rw [hEi]; exact ref03_place u num den N hnum hden (by omega) T E hT hE)
    have HTO := Lib.hid (fun u (hu : Chg [] w5 u) => show Calls Try.prog 28 #[.pointer (some ⟨p, 0, none⟩)] u fun e w' => e = .returned (.int .u64 (N : Nat)) ∧ u = w' from by have h := req_total u p tp rv vs D (HT5.out.chg hu (by simp)); rw [HF.out.tot] at h; exact h)
    have HSA := Lib.hid (fun u (hu : Chg [] w5 u) => law21_same u p tp rv vs D (HT5.out.chg hu (by simp)) q qv qs D.W D.word (HQ5.out.chg hu (by simp)) HF.out hs5)
    have HTW := Lib.hid (fun u (hu : Chg [] w5 u) => HT5.out.chg hu (by simp))
    have heq : (Ei == Ei) = true := by simp
    clear hT hE hV hEi HQ5
    intro e w6 hnew
    have hnew' : ∃ (pv : Value) (k : Int), e = .returned (.tuple #[pv, .int .i64 k]) ∧ Chg [] w5 w6 ∧ (k = 1 ∨ k = 0 ∧ (W2 = (D.W : Int) ∨ W2 ≠ (D.W : Int) ∧ ∃ p2, pv = .pointer (some ⟨p2, 0, none⟩) ∧ Hid (∀ u, Chg [] w6 u → Calls Try.prog 29 #[.pointer (some ⟨p, 0, none⟩), .pointer (some ⟨p2, 0, none⟩)] u fun e w' => e = .returned (.int .i64 8) ∧ Chg [] u w'))) := by
      rcases hnew with ⟨h1, rfl, h3⟩ | ⟨h1, p2, tp2, rv2, rfl, ht2, h3, _⟩
      · exact ⟨_, 1, rfl, h3, .inl rfl⟩
      · refine ⟨_, 0, rfl, h3, .inr ⟨rfl, ?_⟩⟩
        by_cases hww : W2 = (D.W : Int)
        · exact .inl hww
        · refine .inr ⟨hww, p2, rfl, Lib.hid fun u hu => req_join_match u p tp rv vs D (HTW.out u (h3.trans hu)) p2 tp2 rv2 _ _ (ht2.chg hu (by simp)) ?_⟩
          have hg : 4 ≤ W2 ∧ W2 ≤ 64 ∧ W2 % 4 = 0 := by simpa [goodW] using h1
          show D.W ≠ W2.toNat
          omega
    clear hnew
    obtain ⟨pv, k, rfl, hc6, hway⟩ := hnew'
    have HC6 := Lib.hid (HC5.out.trans hc6)
    have H56 := Lib.hid hc6
    have HB6 := Lib.hid (HB5.out.chg hc6 (by simp))
    have HR6 := Lib.hid (HR5.out.chg hc6 (by simp))
    have x0 := HB6.out.cell 0
    have x1 := HB6.out.cell 1
    simp only [List.getElem?_toArray, List.getElem?_cons_zero, List.getElem?_cons_succ] at x0 x1
    rw [hw0] at x0
    clear hc6 HB5 HR5 HC5
    have r0 := HR6.out.cell 0
    have r1 := HR6.out.cell 1
    simp only [List.getElem?_toArray, List.getElem?_cons_zero, List.getElem?_cons_succ] at r0 r1
    rcases hway with rfl | ⟨rfl, hw | ⟨hw, p2, rfl, HJ⟩⟩
    · go_wp2_with fail
      have H57 := H56
      have HC7 := HC6
      have HR7 := HR6
      clear r0 r1
      refine (HQU.out _ (HTW.out _ H57.out)).mono ?_
      rintro e w8 ⟨rfl, hc8⟩
      have HC8 := Lib.hid (HC7.out.trans hc8)
      have H58 := Lib.hid (H57.out.trans hc8)
      have HR8 := Lib.hid (HR7.out.chg hc8 (by simp))
      have r0 := HR8.out.cell 0
      have r1 := HR8.out.cell 1
      simp only [List.getElem?_toArray, List.getElem?_cons_zero, List.getElem?_cons_succ] at r0 r1
      clear hc8 HR7 HC7 H57 HQU
      go_wp2_with fail
      go_region_with (first | (go_at_call 28; refine (HTO.out _ (by with_reducible (repeat (first | exact H58.out | apply Chg.drew | apply Chg.drewN)))).mono ?_; rintro e w9 ⟨rfl, rfl⟩) | (go_at_call 42; refine (HPL.out _).mono ?_; rintro e w9 ⟨rfl, hc9⟩))
      all_goals
        have HC9 := Lib.hid ((HC8.out.drew).trans hc9)
        have H59 := Lib.hid ((H58.out.drew).trans hc9)
        clear hc9 r0 r1
        go_wp2_with fail
        refine (req_put_zero _ _ 1).mono ?_
        rintro e w' ⟨rfl, rfl⟩
        go_wp2_with fail
        refine (req_put_long _ _ 1).mono ?_
        rintro e w' ⟨rfl, rfl⟩
        go_wp2_with fail
        refine (req_join_none _ _).mono ?_
        rintro e w' ⟨rfl, rfl⟩
        go_wp2_with fail
        refine (HSA.out _ H59.out).mono ?_
        rintro e wa ⟨rfl, hca⟩
        go_wp2_with fail
        go_ret
        exact ⟨rfl, HC9.out.trans hca⟩
    · have d1 : (W2 != (D.W : Int)) = false := by rw [hw]; simp
      go_wp2_with fail
      have H57 := H56
      have HC7 := HC6
      have HR7 := HR6
      clear r0 r1
      refine (HQU.out _ (HTW.out _ H57.out)).mono ?_
      rintro e w8 ⟨rfl, hc8⟩
      have HC8 := Lib.hid (HC7.out.trans hc8)
      have H58 := Lib.hid (H57.out.trans hc8)
      have HR8 := Lib.hid (HR7.out.chg hc8 (by simp))
      have r0 := HR8.out.cell 0
      have r1 := HR8.out.cell 1
      simp only [List.getElem?_toArray, List.getElem?_cons_zero, List.getElem?_cons_succ] at r0 r1
      clear hc8 HR7 HC7 H57 HQU
      go_wp2_with fail
      go_region_with (first | (go_at_call 28; refine (HTO.out _ (by with_reducible (repeat (first | exact H58.out | apply Chg.drew | apply Chg.drewN)))).mono ?_; rintro e w9 ⟨rfl, rfl⟩) | (go_at_call 42; refine (HPL.out _).mono ?_; rintro e w9 ⟨rfl, hc9⟩))
      all_goals
        have HC9 := Lib.hid ((HC8.out.drew).trans hc9)
        have H59 := Lib.hid ((H58.out.drew).trans hc9)
        clear hc9 r0 r1
        go_wp2_with fail
        refine (req_put_zero _ _ 1).mono ?_
        rintro e w' ⟨rfl, rfl⟩
        go_wp2_with fail
        refine (req_put_long _ _ 1).mono ?_
        rintro e w' ⟨rfl, rfl⟩
        go_wp2_with fail
        refine (req_join_none _ _).mono ?_
        rintro e w' ⟨rfl, rfl⟩
        go_wp2_with fail
        refine (HSA.out _ H59.out).mono ?_
        rintro e wa ⟨rfl, hca⟩
        go_wp2_with fail
        go_ret
        exact ⟨rfl, HC9.out.trans hca⟩
    · have d1 : (W2 != (D.W : Int)) = true := by rw [bne_iff_ne]; exact hw
      go_wp2_with fail
      refine (HJ.out _ (Chg.refl _ _)).mono ?_
      rintro e w7 ⟨rfl, hc7⟩
      have H57 := Lib.hid (H56.out.trans hc7)
      have HC7 := Lib.hid (HC6.out.trans hc7)
      have HR7 := Lib.hid (HR6.out.chg hc7 (by simp))
      clear r0 r1 hc7
      have r0 := HR7.out.cell 0
      have r1 := HR7.out.cell 1
      simp only [List.getElem?_toArray, List.getElem?_cons_zero, List.getElem?_cons_succ] at r0 r1
      go_wp2_with fail
      clear r0 r1
      refine (HQU.out _ (HTW.out _ H57.out)).mono ?_
      rintro e w8 ⟨rfl, hc8⟩
      have HC8 := Lib.hid (HC7.out.trans hc8)
      have H58 := Lib.hid (H57.out.trans hc8)
      have HR8 := Lib.hid (HR7.out.chg hc8 (by simp))
      have r0 := HR8.out.cell 0
      have r1 := HR8.out.cell 1
      simp only [List.getElem?_toArray, List.getElem?_cons_zero, List.getElem?_cons_succ] at r0 r1
      clear hc8 HR7 HC7 H57 HQU
      go_wp2_with fail
      go_region_with (first | (go_at_call 28; refine (HTO.out _ (by with_reducible (repeat (first | exact H58.out | apply Chg.drew | apply Chg.drewN)))).mono ?_; rintro e w9 ⟨rfl, rfl⟩) | (go_at_call 42; refine (HPL.out _).mono ?_; rintro e w9 ⟨rfl, hc9⟩))
      all_goals
        have HC9 := Lib.hid ((HC8.out.drew).trans hc9)
        have H59 := Lib.hid ((H58.out.drew).trans hc9)
        clear hc9 r0 r1
        go_wp2_with fail
        refine (req_put_zero _ _ 1).mono ?_
        rintro e w' ⟨rfl, rfl⟩
        go_wp2_with fail
        refine (req_put_long _ _ 1).mono ?_
        rintro e w' ⟨rfl, rfl⟩
        go_wp2_with fail
        refine (req_join_none _ _).mono ?_
        rintro e w' ⟨rfl, rfl⟩
        go_wp2_with fail
        refine (HSA.out _ H59.out).mono ?_
        rintro e wa ⟨rfl, hca⟩
        go_wp2_with fail
        go_ret
        exact ⟨rfl, HC9.out.trans hca⟩
end Go.Proofs.Ytbaobiniianamaa
