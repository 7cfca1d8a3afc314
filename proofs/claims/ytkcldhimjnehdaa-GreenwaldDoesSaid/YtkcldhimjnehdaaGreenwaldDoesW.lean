/-
  The walk of the law GreenwaldDoes. Conditions: the form's own reach.
-/
import Derived.Test.YtkcldhimjnehdaaGkSame
import Derived.Test.YtkcldhimjnehdaaGkClose
import Derived.Test.YtkcldhimjnehdaaGkEnds
import Derived.Test.YtkcldhimjnehdaaGkNil
import Derived.Test.YtkcldhimjnehdaaRefGkQuant
namespace Go.Proofs.Ytkcldhimjnehdaa
open Go.RowKit

theorem gk_quantX (w : World) (p : Nat) (rv wv : Value) (D : GkD) (h : Gk w p rv wv D) (hok : D.ok) (hg : goodK D.num D.den = true) (hn : D.total ≤ 30000) (num den : Nat) (hnum : num < 18446744073709551616) (hden : den < 18446744073709551616)
    (T E : Nat) (hT : T = placeT num den D.total) (hE : E = placeE num den D.total) (V : Int) (hV : V = if E = 0 then foundX T D.flush.row else 0) (X : GkD) (hX : X = if E = 0 then D.flush else D) :
    Calls Try.prog 23 #[.pointer (some ⟨p, 0, none⟩), .agg #[.int .u64 (num : Nat), .int .u64 (den : Nat)]] w fun e w' =>
      e = .returned (.tuple #[.int .i64 V, .int .i64 (E : Nat)]) ∧ ∃ rv' wv', Gk w' p rv' wv' X ∧ Mv (fpK p rv wv) w (fpK p rv' wv') w' := by
  refine (gk_quantile w p rv wv D h hok hg hn num den hnum hden T E hT hE).mono ?_
  rintro e w' (⟨h0, rfl, h1, hc⟩ | ⟨rfl, rfl, rv', wv', h1, hm⟩)
  · rw [if_neg h0] at hV hX
    subst hV hX
    exact ⟨rfl, rv, wv, h1, Mv.of_chg hc.nil⟩
  · rw [if_pos rfl] at hV hX
    subst hV hX
    exact ⟨rfl, rv', wv', h1, hm⟩
theorem ref19_quantX (w : World) (p : Nat) (rv wv : Value) (D : GkD) (h : RG w p rv wv D) (hok : D.ok) (hg : goodK D.num D.den = true) (hn : D.total ≤ 30000) (num den : Nat) (hnum : num < 18446744073709551616) (hden : den < 18446744073709551616)
    (T E : Nat) (hT : T = placeT num den D.total) (hE : E = placeE num den D.total) (V : Int) (hV : V = if E = 0 then foundX T D.flush.row else 0) (X : GkD) (hX : X = if E = 0 then D.flush else D) :
    Calls Try.prog 34 #[.pointer (some ⟨p, 0, none⟩), .agg #[.int .u64 (num : Nat), .int .u64 (den : Nat)]] w fun e w' =>
      e = .returned (.tuple #[.int .i64 V, .int .i64 (E : Nat)]) ∧ ∃ rv' wv', RG w' p rv' wv' X ∧ Mv (fpS p rv wv) w (fpS p rv' wv') w' := by
  refine (ref19_quantile w p rv wv D h hok hg hn num den hnum hden T E hT hE).mono ?_
  rintro e w' (⟨h0, rfl, h1, hc⟩ | ⟨rfl, rfl, rv', wv', h1, hm⟩)
  · rw [if_neg h0] at hV hX
    subst hV hX
    exact ⟨rfl, rv, wv, h1, Mv.of_chg hc.nil⟩
  · rw [if_pos rfl] at hV hX
    subst hV hX
    exact ⟨rfl, rv', wv', h1, hm⟩
theorem valsG_facts {a : List Vl} {num den : Nat} (hok : okG a num den) : (valsG num den a).ok ∧ (valsG num den a).total ≤ 30000 ∧ goodK (valsG num den a).num (valsG num den a).den = true := by
  obtain ⟨h1, h2, h3⟩ := valsG_same num den a
  have h4 := hok.2.2.1
  have h5 := hok.2.2.2
  exact ⟨valsG_ok num den a, by omega, by rw [h1, h2]; exact h5⟩

theorem enters_dsame : ∀ (args : Array Value) (w : World), (callFunc 33 args).run Try.prog w = .ok (.enter 33 args) w := enters_of Try.func33 (by kernel_rfl) rfl
theorem enters_dpart : ∀ (args : Array Value) (w : World), (callFunc 35 args).run Try.prog w = .ok (.enter 35 args) w := enters_of Try.func35 (by kernel_rfl) rfl
set_option maxRecDepth 100000 in
set_option maxHeartbeats 8000000 in
theorem law_GreenwaldDoes (w : World) (num den : Nat) (_hnum : num < 18446744073709551616) (_hden : den < 18446744073709551616) (ao : Option Addr) (ca : Nat) (a : List Vl) (hra : Rd w 2 (.slice ao a.length ca) a.length (vlCells a)) (hla : a.length ≤ 140737488351232) (hka : ∀ i ∈ a, i.ok)
    (pn pd : Nat) (hpn : pn < 18446744073709551616) (hpd : pd < 18446744073709551616) :
    Calls Try.prog 6 #[.agg #[.int .u64 (num : Nat), .int .u64 (den : Nat)], .slice ao a.length ca, .agg #[.int .u64 (pn : Nat), .int .u64 (pd : Nat)]] w fun e w' => e = .returned (.bool true) ∧ Chg [] w w' := by
  have HAL := Lib.hid law19_alive
  have HKA := Lib.hid hka
  have HRA := Lib.hid hra
  have HPN := Lib.hid (And.intro hpn hpd)
  obtain ⟨n, hn⟩ : ∃ n, n = a.length := ⟨_, rfl⟩
  rw [← hn] at HRA hla ⊢
  have HN := Lib.hid hn
  clear hka hra hn hpn hpd
  have hc0 := ((Chg.refl [] w).alloc (.cells #[.int .u64 num, .int .u64 den] 25)).alloc (.cells #[.int .u64 pn, .int .u64 pd] 25)
  have hb0 := (Blk.alloc_new w #[.int .u64 num, .int .u64 den] 25).alloc (.cells #[.int .u64 pn, .int .u64 pd] 25)
  have hr0 := Blk.alloc_new (w.alloc (.cells #[.int .u64 num, .int .u64 den] 25)) #[.int .u64 pn, .int .u64 pd] 25
  rw [World.size_alloc] at hr0
  obtain ⟨bc, hbc⟩ : ∃ z, z = w.heap.size := ⟨_, rfl⟩
  rw [← hbc] at hb0 hr0
  have HC0 := Lib.hid hc0
  have HB := Lib.hid hb0
  have HR := Lib.hid hr0
  have HBA := Lib.hid (fun u (hu : Chg [] w u) => law19_build u num den ao ca n a HN.out (HRA.out.chg hu (by simp)) hla (fun v hv => (HKA.out v hv).2.2))
  have HG := Lib.hid (fun u => law19_good u num den)
  have HKG := Lib.hid (fun u => gk_good u num den)
  clear hc0 hb0 hr0
  go_enter Try.func6, Try.ntmps6
  go_wp2_with fail
  rw [← hbc]
  clear hbc
  generalize (w.alloc (.cells #[.int .u64 num, .int .u64 den] 25)).alloc (.cells #[.int .u64 pn, .int .u64 pd] 25) = w0 at *
  refine (HAL.out _).mono ?_
  rintro e w1 ⟨rfl, hc1⟩
  have HC1 := Lib.hid (HC0.out.trans hc1)
  have HB1 := Lib.hid (HB.out.chg hc1 (by simp))
  have HR1 := Lib.hid (HR.out.chg hc1 (by simp))
  have x0 := HB1.out.cell 0
  have x1 := HB1.out.cell 1
  simp only [List.getElem?_toArray, List.getElem?_cons_zero, List.getElem?_cons_succ] at x0 x1
  clear hc1 HB HR HC0 HAL
  go_wp2_with fail
  refine (HBA.out _ HC1.out).mono ?_
  clear x0 x1
  intro e w2 hbld
  have hpq : ∃ (pv qv : Value) (B : Bool), e = .returned (.tuple #[pv, qv, .bool B]) ∧ Chg [] w1 w2 ∧ ((B = false) ∨ (B = true ∧ okG a num den ∧ ∃ p rv wv q sv yv, pv = .pointer (some ⟨p, 0, none⟩) ∧ qv = .pointer (some ⟨q, 0, none⟩) ∧
    Gk w2 p rv wv (valsG num den a) ∧ RG w2 q sv yv (valsG num den a) ∧ (∀ b ∈ fpK p rv wv, w1.heap.size ≤ b) ∧ (∀ b ∈ fpS q sv yv, w1.heap.size ≤ b) ∧ ∀ b ∈ fpK p rv wv, b ∉ fpS q sv yv)) := by
    rcases hbld with ⟨hbad, rfl, hc2⟩ | ⟨hok, p, rv, wv, q, sv, yv, rfl, ht, hq, hc2, hf, hg, hd⟩
    · exact ⟨_, _, false, rfl, hc2, .inl rfl⟩
    · exact ⟨_, _, true, rfl, hc2, .inr ⟨rfl, hok, p, rv, wv, q, sv, yv, rfl, rfl, ht, hq, hf, hg, hd⟩⟩
  clear hbld
  obtain ⟨pv, qv, B, rfl, hc2, hway⟩ := hpq
  have HWAY := Lib.hid hway
  have HC2 := Lib.hid (HC1.out.trans hc2)
  have HB2 := Lib.hid (HB1.out.chg hc2 (by simp))
  have HR2 := Lib.hid (HR1.out.chg hc2 (by simp))
  have HS1 := Lib.hid (Nat.le_trans HC1.out.size (Nat.le_refl _))
  have HL1 := Lib.hid HR1.out.lt
  have HCL := Lib.hid (fun u (hu : Chg [] w2 u) => show u.cell? ⟨bc, 0, none⟩ = some (.int .u64 (num : Nat)) ∧ u.cell? ⟨bc, 1, none⟩ = some (.int .u64 (den : Nat)) from ⟨(HB2.out.chg hu (by simp)).cell 0, (HB2.out.chg hu (by simp)).cell 1⟩)
  obtain ⟨x0, x1⟩ := HCL.out _ (Chg.refl _ _)
  clear hway hc2 HBA HB1 HR1
  have e0 : (goodK num den != goodK num den) = false := by simp
  have e0' : (!(goodK num den == goodK num den)) = false := by simp
  generalize hgk : goodK num den = gk at HG HKG e0 e0'
  clear hgk
  go_upto_if 33 with (fail)
  go_cut [33] (fun a wx => a = .bool false ∧ Chg [] w2 wx)
  case first =>
    go_wp2_with fail
    go_region_with (first | (go_at_call 29; refine (HKG.out _).mono ?_; rintro e w3 ⟨rfl, hc3⟩; (have h3w : Chg [] w2 w3 := Chg.trans (by with_reducible (repeat (first | exact Chg.refl _ _ | apply Chg.drew))) hc3); obtain ⟨y0, y1⟩ := HCL.out _ h3w) | (go_at_call 30; refine (HG.out _).mono ?_; rintro e w4 ⟨rfl, hc4⟩))
    all_goals
      go_wp2_with fail
      go_meet
      exact ⟨rfl, Chg.trans (by with_reducible (repeat (first | exact h3w | apply Chg.drew))) hc4⟩
  case rest =>
    rename World => w3
    obtain ⟨rfl, hc3⟩ := hcut
    have HC3 := Lib.hid (HC2.out.trans hc3)
    rcases HWAY.out with rfl | ⟨rfl, hok, p, rv, wv, q, sv, yv, rfl, rfl, ht2, hq2, hf, hg, hd⟩
    · clear HWAY HCL x0 x1
      go_wp2_with fail
      go_ret
      exact ⟨rfl, HC3.out⟩
    have HB3 := Lib.hid (HB2.out.chg hc3 (by simp))
    have HR3 := Lib.hid (HR2.out.chg hc3 (by simp))
    have HT3 := Lib.hid (ht2.chg hc3 (by simp))
    have HQ3 := Lib.hid (hq2.chg hc3 (by simp))
    obtain ⟨f1, f2, f3⟩ := valsG_facts hok
    have HOK := Lib.hid f1
    have HNB := Lib.hid f2
    have HGD := Lib.hid f3
    obtain ⟨s1, s2, s3⟩ := valsG_same num den a
    have HSM := Lib.hid (And.intro s1 s2)
    have HTT := Lib.hid s3
    have HUP := Lib.hid (valsG_up num den a)
    have HA := Lib.hid (show ∀ v ∈ a, 1 ≤ v.n from fun v hv => (hok.1 v hv).1)
    have HFP := Lib.hid (show ∀ b ∈ fpK p rv wv, w.heap.size ≤ b ∧ bc + 1 < b from fun b hb => ⟨Nat.le_trans HC1.out.size (hf b hb), Nat.lt_of_lt_of_le HL1.out (hf b hb)⟩)
    have HFQ := Lib.hid (show ∀ b ∈ fpS q sv yv, w.heap.size ≤ b ∧ bc + 1 < b from fun b hb => ⟨Nat.le_trans HC1.out.size (hg b hb), Nat.lt_of_lt_of_le HL1.out (hg b hb)⟩)
    have HD := Lib.hid hd
    clear ht2 hq2 hf hg hd hok HWAY hc3 HB2 HR2 HCL HL1 HS1 f1 f2 f3 s1 s2 s3 x0 x1 HG HKG e0 e0'
    generalize valsG num den a = D at *
    obtain ⟨N, hN⟩ : ∃ N, N = D.total := ⟨_, rfl⟩
    obtain ⟨T, hT⟩ : ∃ T, T = placeT pn pd D.total := ⟨_, rfl⟩
    obtain ⟨E, hE⟩ : ∃ E, E = placeE pn pd D.total := ⟨_, rfl⟩
    obtain ⟨V, hV⟩ : ∃ V, V = if E = 0 then foundX T D.flush.row else 0 := ⟨_, rfl⟩
    obtain ⟨X, hX⟩ : ∃ X, X = if E = 0 then D.flush else D := ⟨_, rfl⟩
    obtain ⟨Ei, hEi⟩ : ∃ z : Int, z = (E : Nat) := ⟨_, rfl⟩
    obtain ⟨lo, hlo⟩ : ∃ z, z = loV a := ⟨_, rfl⟩
    obtain ⟨hi, hhi⟩ : ∃ z, z = hiV a := ⟨_, rfl⟩
    obtain ⟨bb, hbb⟩ : ∃ z, z = decide (a ≠ []) := ⟨_, rfl⟩
    have HXO := Lib.hid (show X.ok ∧ X.total ≤ 30000 ∧ X.num = num ∧ X.den = den from by
      obtain ⟨g1, g2, g3, -⟩ := D.flush_same
      rw [hX]
      split
      · exact ⟨GkD.flush_ok0 HOK.out, by rw [g3]; exact HNB.out, by rw [g1]; exact HSM.out.1, by rw [g2]; exact HSM.out.2⟩
      · exact ⟨HOK.out, HNB.out, HSM.out.1, HSM.out.2⟩)
    have HEN := Lib.hid (fun u (hu : Chg [] w3 u) => gk_Ends u p rv wv D (HT3.out.chg hu (by simp)) HOK.out HNB.out a HUP.out HTT.out HA.out lo hi bb hlo hhi hbb)
    have HRE := Lib.hid (fun u (hu : Chg [] w u) => ref14_ends u ao ca n a HN.out (HRA.out.chg hu (by simp)) hla lo hi bb hlo hhi hbb)
    have HSA := Lib.hid (fun u (hu : Chg [] w3 u) => law19_same u p rv wv D (HT3.out.chg hu (by simp)) q sv yv (HQ3.out.chg hu (by simp)) HOK.out HNB.out)
    have HQU := Lib.hid (fun u (hu : Chg [] w3 u) => gk_quantX u p rv wv D (HT3.out.chg hu (by simp)) HOK.out HGD.out HNB.out pn pd HPN.out.1 HPN.out.2 T E hT hE V hV X hX)
    have HRQ := Lib.hid (fun u (hu : RG u q sv yv D) => ref19_quantX u q sv yv D hu HOK.out HGD.out HNB.out pn pd HPN.out.1 HPN.out.2 T E hT hE V hV X hX)
    rw [← hEi] at HQU HRQ
    have e3 : (Ei == Ei) = true := by simp
    have e2 : (V == V) = true := by simp
    have e4 : (lo != lo) = false := by simp
    have e5 : (hi != hi) = false := by simp
    have e6 : (bb != bb) = false := by simp
    have e4' : (!(lo == lo)) = false := by simp
    have e5' : (!(hi == hi)) = false := by simp
    have e6' : (!(bb == bb)) = false := by simp
    have hceq := ratio_eql (num : Nat) (num : Nat) (den : Nat) (den : Nat)
    have e7 : ((num : Int) == (num : Int)) = true := by simp
    have e8 : ((den : Int) == (den : Int)) = true := by simp
    clear hN hT hE hV hX hEi hlo hhi hbb
    go_wp2_with fail
    refine (HEN.out _ (Chg.refl _ _)).mono ?_
    rintro e w4 ⟨rfl, hc4⟩
    have H34 := Lib.hid hc4
    clear hc4 HEN
    go_wp2_with fail
    refine (HRE.out _ (HC3.out.trans H34.out)).mono ?_
    rintro e w5 ⟨rfl, hc5⟩
    have H35 := Lib.hid (H34.out.trans hc5)
    clear hc5 HRE H34
    go_wp2_with fail
    refine (HSA.out _ H35.out).mono ?_
    rintro e w6 ⟨rfl, hc6⟩
    have H36 := Lib.hid (H35.out.trans hc6)
    have HR6 := Lib.hid (HR3.out.chg H36.out (by simp))
    have r0 := HR6.out.cell 0
    have r1 := HR6.out.cell 1
    simp only [List.getElem?_toArray, List.getElem?_cons_zero, List.getElem?_cons_succ] at r0 r1
    clear hc6 HSA H35
    go_wp2_with fail
    refine (HQU.out _ H36.out).mono ?_
    rintro e w7 ⟨rfl, rv2, wv2, ht7, hm7⟩
    have HC7 := Lib.hid ((HC3.out.trans H36.out).trans' hm7.chg (fun b hb => .inr (HFP.out b hb).1))
    have HR7 := Lib.hid (HR6.out.chg hm7.chg (fun e => by have := (HFP.out _ e).2; omega))
    have HB7 := Lib.hid ((HB3.out.chg H36.out (by simp)).chg hm7.chg (fun e => by have := (HFP.out _ e).2; omega))
    have HQ6 := Lib.hid (HQ3.out.chg H36.out (by simp))
    have HQ7 := Lib.hid (HQ6.out.chg hm7.chg (fun b hb e => HD.out b e hb))
    have HD7 := Lib.hid (show ∀ b ∈ fpK p rv2 wv2, b ∉ fpS q sv yv from fun b hb e => by
      rcases hm7.fr b hb with h | h
      · exact HD.out b h e
      · have := HQ6.out.lt b e
        omega)
    have HT7 := Lib.hid ht7
    clear ht7 hm7 r0 r1 HQU
    have r0 := HR7.out.cell 0
    have r1 := HR7.out.cell 1
    simp only [List.getElem?_toArray, List.getElem?_cons_zero, List.getElem?_cons_succ] at r0 r1
    go_wp2_with fail
    refine (HRQ.out _ HQ7.out).mono ?_
    rintro e w8 ⟨rfl, sv2, yv2, hq8, hm8⟩
    have HC8 := Lib.hid (HC7.out.trans' hm8.chg (fun b hb => .inr (HFQ.out b hb).1))
    have HB8 := Lib.hid (HB7.out.chg hm8.chg (fun e => by have := (HFQ.out _ e).2; omega))
    have HT8 := Lib.hid (HT7.out.chg hm8.chg (fun b hb e => HD7.out b hb e))
    have HQ8 := Lib.hid hq8
    have HSX := Lib.hid (fun u (hu : Chg [] w8 u) => law19_same u p rv2 wv2 X (HT8.out.chg hu (by simp)) q sv2 yv2 (HQ8.out.chg hu (by simp)) HXO.out.1 HXO.out.2.1)
    have HPA := Lib.hid (fun u (hu : Chg [] w8 u) => show Calls Try.prog 35 #[.pointer (some ⟨p, 0, none⟩)] u fun e w' => e = .returned (.agg #[.int .u64 (num : Nat), .int .u64 (den : Nat)]) ∧ Chg [] u w' from by
      have h := gk_part u p rv2 wv2 X (HT8.out.chg hu (by simp))
      rw [HXO.out.2.2.1, HXO.out.2.2.2] at h
      exact h)
    have HCL := Lib.hid (fun u (hu : Chg [] w8 u) => show u.cell? ⟨bc, 0, none⟩ = some (.int .u64 (num : Nat)) ∧ u.cell? ⟨bc, 1, none⟩ = some (.int .u64 (den : Nat)) from ⟨(HB8.out.chg hu (by simp)).cell 0, (HB8.out.chg hu (by simp)).cell 1⟩)
    clear hq8 hm8 r0 r1 HRQ
    have HS := Lib.hid (fun wx (hu : Chg [] w8 wx) => show Chg [] w8 wx ∧ wx.cell? ⟨bc, 0, none⟩ = some (.int .u64 (num : Nat)) ∧ wx.cell? ⟨bc, 1, none⟩ = some (.int .u64 (den : Nat)) from ⟨hu, HCL.out _ hu⟩)
    go_upto_region 14 with (fail)
    have hSS := HS.out w8.drew (Chg.refl [] w8).drew
    refine startG (S := fun wx => Chg [] w8 wx ∧ wx.cell? ⟨bc, 0, none⟩ = some (.int .u64 (num : Nat)) ∧ wx.cell? ⟨bc, 1, none⟩ = some (.int .u64 (den : Nat))) (st := 19) (by kernel_rfl) hSS (fun hHeld => ?_)
    refine takeP (i := 0) (v := ?vz0) rfl (by kernel_rfl) (by kernel_rfl) (by kernel_rfl) (by decide) (fun _ _ _ h => h) (Or.inl ⟨by rfl, ?yz0⟩) hSS ?rz0
    case yz0 => (intro w _; go_simp; first | done | with_reducible rfl)
    try simp only [Act.put, List.setIfInBounds_toArray, List.set_cons_zero, List.set_cons_succ]
    refine takeP (i := 1) (v := ?vz1) rfl (by kernel_rfl) (by kernel_rfl) (by kernel_rfl) (by decide) (fun _ _ _ h => h) (Or.inl ⟨by rfl, ?yz1⟩) hSS ?rz1
    case yz1 => (intro w _; go_simp; first | done | with_reducible rfl)
    try simp only [Act.put, List.setIfInBounds_toArray, List.set_cons_zero, List.set_cons_succ]
    refine takeP (i := 2) (v := ?vz2) rfl (by kernel_rfl) (by kernel_rfl) (by kernel_rfl) (by decide) (fun _ _ _ h => h) (Or.inl ⟨by rfl, ?yz2⟩) hSS ?rz2
    case yz2 => (intro w _; go_simp; first | done | with_reducible rfl)
    try simp only [Act.put, List.setIfInBounds_toArray, List.set_cons_zero, List.set_cons_succ]
    refine takeP (i := 3) (v := ?vz3) rfl (by kernel_rfl) (by kernel_rfl) (by kernel_rfl) (by decide) (fun _ _ _ h => h) (Or.inl ⟨by rfl, ?yz3⟩) hSS ?rz3
    case yz3 => (intro w _; go_simp; first | done | with_reducible rfl)
    try simp only [Act.put, List.setIfInBounds_toArray, List.set_cons_zero, List.set_cons_succ]
    refine takeP (i := 4) (v := ?vz4) rfl (by kernel_rfl) (by kernel_rfl) (by kernel_rfl) (by decide) (fun _ _ _ h => h) (Or.inl ⟨by rfl, ?yz4⟩) hSS ?rz4
    case yz4 => (intro w _; go_simp; first | done | with_reducible rfl)
    try simp only [Act.put, List.setIfInBounds_toArray, List.set_cons_zero, List.set_cons_succ]
    refine takeP (i := 5) (v := ?vz5) rfl (by kernel_rfl) (by kernel_rfl) (by kernel_rfl) (by decide) (fun _ _ _ h => h) (Or.inl ⟨by rfl, ?yz5⟩) hSS ?rz5
    case yz5 => (intro w _; go_simp; first | done | with_reducible rfl)
    try simp only [Act.put, List.setIfInBounds_toArray, List.set_cons_zero, List.set_cons_succ]
    refine takeP (i := 6) (v := ?vz6) rfl (by kernel_rfl) (by kernel_rfl) (by kernel_rfl) (by decide) (fun _ _ _ h => h) (Or.inl ⟨by rfl, ?yz6⟩) hSS ?rz6
    case yz6 => (intro w _; go_simp; first | done | with_reducible rfl)
    try simp only [Act.put, List.setIfInBounds_toArray, List.set_cons_zero, List.set_cons_succ]
    refine takeP (i := 7) (v := ?vz7) rfl (by kernel_rfl) (by kernel_rfl) (by kernel_rfl) (by decide) (fun _ _ _ h => h) (Or.inl ⟨by rfl, ?yz7⟩) hSS ?rz7
    case yz7 => (intro w _; go_simp; first | done | with_reducible rfl)
    try simp only [Act.put, List.setIfInBounds_toArray, List.set_cons_zero, List.set_cons_succ]
    refine takeP (i := 8) (v := ?vz8) rfl (by kernel_rfl) (by kernel_rfl) (by kernel_rfl) (by decide) (fun _ _ _ h => h) (Or.inl ⟨by rfl, ?yz8⟩) hSS ?rz8
    case yz8 => (intro w _; go_simp; first | done | with_reducible rfl)
    try simp only [Act.put, List.setIfInBounds_toArray, List.set_cons_zero, List.set_cons_succ]
    refine takeP (i := 9) (v := ?vz9) rfl (by kernel_rfl) (by kernel_rfl) (by kernel_rfl) (by decide) (fun _ _ _ h => h) (Or.inl ⟨by rfl, ?yz9⟩) hSS ?rz9
    case yz9 => (intro w _; go_simp; first | done | with_reducible rfl)
    try simp only [Act.put, List.setIfInBounds_toArray, List.set_cons_zero, List.set_cons_succ]
    refine takeP (i := 10) (v := ?vz10) rfl (by kernel_rfl) (by kernel_rfl) (by kernel_rfl) (by decide) (fun _ _ _ h => h) (Or.inl ⟨by rfl, ?yz10⟩) hSS ?rz10
    case yz10 => (intro w _; go_simp; first | done | with_reducible rfl)
    try simp only [Act.put, List.setIfInBounds_toArray, List.set_cons_zero, List.set_cons_succ]
    refine readyG (rs := [11]) (by kernel_rfl) (by simp) (consG rfl (fun K hK => ?_) nilG)
    refine step_callsG (by rfl) 33 _ _ rfl enters_dsame _ #[.pointer (some ⟨p, 0, none⟩), .pointer (some ⟨q, 0, none⟩)] (by simp [Act.eval]) (HSX.out _ hSS.1) ?_; rintro e w9 ⟨rfl, hc9⟩; refine ⟨_, rfl, ?_⟩
    have hS9 := HS.out _ (hSS.1.trans hc9)
    clear hc9
    refine hK.out _ _ (fun _ _ => hS9) (fun hHeld => ?_)
    clear hK K hHeld
    try simp only [Act.put, List.setIfInBounds_toArray, List.set_cons_zero, List.set_cons_succ]
    refine takeP (i := 12) (v := ?vz12) rfl (by kernel_rfl) (by kernel_rfl) (by kernel_rfl) (by decide) (fun _ _ _ h => h) (Or.inl ⟨by rfl, ?yz12⟩) hS9 ?rz12
    case yz12 => (intro w _; go_simp; first | done | with_reducible rfl)
    try simp only [Act.put, List.setIfInBounds_toArray, List.set_cons_zero, List.set_cons_succ]
    refine takeP (i := 13) (v := ?vz13) rfl (by kernel_rfl) (by kernel_rfl) (by kernel_rfl) (by decide) (fun _ _ _ h => h) (Or.inl ⟨by rfl, ?yz13⟩) hS9 ?rz13
    case yz13 => (intro w _; go_simp; first | done | with_reducible rfl)
    try simp only [Act.put, List.setIfInBounds_toArray, List.set_cons_zero, List.set_cons_succ]
    refine takeP (i := 14) (v := ?vz14) rfl (by kernel_rfl) (by kernel_rfl) (by kernel_rfl) (by decide) (fun _ _ _ h => h) (Or.inl ⟨by rfl, ?yz14⟩) hS9 ?rz14
    case yz14 => (intro w _; go_simp; first | done | with_reducible rfl)
    try simp only [Act.put, List.setIfInBounds_toArray, List.set_cons_zero, List.set_cons_succ]
    refine takeG (i := 16) (v := ?vz16) rfl (by kernel_rfl) (by kernel_rfl) (by kernel_rfl) (by decide) (by kernel_rfl) (by kernel_rfl) (fun _ _ _ h => h) (Or.inl ⟨by rfl, ?yz16⟩) hS9 ?rz16
    case yz16 => (intro w hSw; (try dsimp only at hSw); go_simp; first | done | with_reducible rfl)
    try simp only [Act.put, List.setIfInBounds_toArray, List.set_cons_zero, List.set_cons_succ]
    refine readyG (rs := [15]) (by kernel_rfl) (by simp) (consG rfl (fun K hK => ?_) nilG)
    refine step_callsG (by rfl) 35 _ _ rfl enters_dpart _ #[.pointer (some ⟨p, 0, none⟩)] (by simp [Act.eval]) (HPA.out _ hS9.1) ?_; rintro e wa ⟨rfl, hca⟩; refine ⟨_, rfl, ?_⟩
    have hSa := HS.out _ (hS9.1.trans hca)
    clear hca
    refine hK.out _ _ (fun _ _ => hSa) (fun hHeld => ?_)
    clear hK K hHeld
    try simp only [Act.put, List.setIfInBounds_toArray, List.set_cons_zero, List.set_cons_succ]
    refine takeP (i := 17) (v := ?vz17) rfl (by kernel_rfl) (by kernel_rfl) (by kernel_rfl) (by decide) (fun _ _ _ h => h) (Or.inl ⟨by rfl, ?yz17⟩) hSa ?rz17
    case yz17 => (intro w _; go_simp; first | done | with_reducible rfl)
    try simp only [Act.put, List.setIfInBounds_toArray, List.set_cons_zero, List.set_cons_succ]
    refine takeP (i := 18) (v := ?vz18) rfl (by kernel_rfl) (by kernel_rfl) (by kernel_rfl) (by decide) (fun _ _ _ h => h) (Or.inl ⟨by rfl, ?yz18⟩) hSa ?rz18
    case yz18 => (intro w _; go_simp; first | done | with_reducible rfl)
    try simp only [Act.put, List.setIfInBounds_toArray, List.set_cons_zero, List.set_cons_succ]
    refine readyG (rs := [19]) (by kernel_rfl) (by simp) (consG rfl (fun K hK => ?_) nilG)
    go_simp
    refine hK.out _ _ (fun h => absurd rfl h) (fun hHeld => ?_)
    clear hK K hHeld
    try simp only [Act.put, List.setIfInBounds_toArray, List.set_cons_zero, List.set_cons_succ]
    refine doneG (by kernel_rfl) ?_ _
    have HE := Lib.hid (HC8.out.trans hSa.1)
    clear hSS hS9 hSa HS
    go_wp2_with fail
    go_ret
    exact ⟨rfl, HE.out⟩
end Go.Proofs.Ytkcldhimjnehdaa
