/-
  The walk of the law GreenwaldJoins. Conditions: the form's own reach.
-/
import Derived.Test.YtkcldhimjnehdaaGkPair
import Derived.Test.YtkcldhimjnehdaaGkSame
import Derived.Test.YtkcldhimjnehdaaGkClose
import Derived.Test.YtkcldhimjnehdaaGkEnds
namespace Go.Proofs.Ytkcldhimjnehdaa
open Go.RowKit

theorem under_vals : Try.prog.underlying 39 = some (.slice 59) := by kernel_rfl
theorem info_val : (Try.prog.info? 59).map (fun i => (i.zero, i.size, i.bytes)) = some (some (.agg #[.int .i64 0, .int .u64 0]), 2, 16) := by kernel_rfl
theorem vlCells_app (a b : List Vl) : vlCells (a ++ b) = vlCells a ++ vlCells b := by simp [vlCells]
theorem sumS_pos2 {l : List Vl} (h : ∀ v ∈ l, 1 ≤ v.n) (hl : l ≠ []) : 1 ≤ sumS l := by
  cases l with
  | nil => exact absurd rfl hl
  | cons v l => have := h v (by simp); simp only [sumS]; omega
theorem enters_jgtotal : ∀ (args : Array Value) (w : World), (callFunc 22 args).run Try.prog w = .ok (.enter 22 args) w := enters_of Try.func22 (by kernel_rfl) rfl
theorem enters_jrplace : ∀ (args : Array Value) (w : World), (callFunc 21 args).run Try.prog w = .ok (.enter 21 args) w := enters_of Try.func21 (by kernel_rfl) rfl

set_option maxRecDepth 100000 in
set_option maxHeartbeats 16000000 in
theorem law_GreenwaldJoins (w : World) (num den : Nat) (_hnum : num < 18446744073709551616) (_hden : den < 18446744073709551616)
    (ao : Option Addr) (ca : Nat) (a : List Vl) (hra : Rd w 2 (.slice ao a.length ca) a.length (vlCells a)) (hla : a.length ≤ 140737488351232) (hka : ∀ i ∈ a, i.ok)
    (bo : Option Addr) (cb : Nat) (b : List Vl) (hrb : Rd w 2 (.slice bo b.length cb) b.length (vlCells b)) (hlb : b.length ≤ 140737488351232) (hkb : ∀ i ∈ b, i.ok)
    (co : Option Addr) (cc : Nat) (c : List Vl) (hrc : Rd w 2 (.slice co c.length cc) c.length (vlCells c)) (hlc : c.length ≤ 140737488351232) (hkc : ∀ i ∈ c, i.ok)
    (pn pd : Nat) (hpn : pn < 18446744073709551616) (hpd : pd < 18446744073709551616) :
    Calls Try.prog 8 #[.agg #[.int .u64 (num : Nat), .int .u64 (den : Nat)], .slice ao a.length ca, .slice bo b.length cb, .slice co c.length cc, .agg #[.int .u64 (pn : Nat), .int .u64 (pd : Nat)]] w fun e w' => e = .returned (.bool true) ∧ Chg [] w w' := by
  have HAL := Lib.hid law19_alive
  have HPN := Lib.hid (And.intro hpn hpd)
  have HKA := Lib.hid hka
  have HKB := Lib.hid hkb
  have HKC := Lib.hid hkc
  have HRA := Lib.hid hra
  have HRB := Lib.hid hrb
  have HRC := Lib.hid hrc
  obtain ⟨n, hn⟩ : ∃ n, n = a.length := ⟨_, rfl⟩
  obtain ⟨m, hm⟩ : ∃ n, n = b.length := ⟨_, rfl⟩
  obtain ⟨r, hr⟩ : ∃ n, n = c.length := ⟨_, rfl⟩
  rw [← hn] at HRA hla ⊢
  rw [← hm] at HRB hlb ⊢
  rw [← hr] at HRC hlc ⊢
  have HN := Lib.hid hn
  have HM := Lib.hid hm
  have HR := Lib.hid hr
  clear hka hkb hkc hra hrb hrc hn hm hr hpn hpd _hnum _hden
  have hc0 := ((Chg.refl [] w).alloc (.cells #[.int .u64 num, .int .u64 den] 25)).alloc (.cells #[.int .u64 pn, .int .u64 pd] 25)
  have hb0 := (Blk.alloc_new w #[.int .u64 num, .int .u64 den] 25).alloc (.cells #[.int .u64 pn, .int .u64 pd] 25)
  have hr0 := Blk.alloc_new (w.alloc (.cells #[.int .u64 num, .int .u64 den] 25)) #[.int .u64 pn, .int .u64 pd] 25
  rw [World.size_alloc] at hr0
  obtain ⟨bc, hbc⟩ : ∃ z, z = w.heap.size := ⟨_, rfl⟩
  rw [← hbc] at hb0 hr0
  have HC0 := Lib.hid hc0
  have HB0 := Lib.hid hb0
  have HQ0 := Lib.hid hr0
  have HBA := Lib.hid (fun u (hu : Chg [] w u) => law19_build u num den ao ca n a HN.out (HRA.out.chg hu (by simp)) hla (fun v hv => (HKA.out v hv).2.2))
  have HBB := Lib.hid (fun u (hu : Chg [] w u) => law19_build u num den bo cb m b HM.out (HRB.out.chg hu (by simp)) hlb (fun v hv => (HKB.out v hv).2.2))
  have HBC := Lib.hid (fun u (hu : Chg [] w u) => law19_build u num den co cc r c HR.out (HRC.out.chg hu (by simp)) hlc (fun v hv => (HKC.out v hv).2.2))
  clear hc0 hb0 hr0
  go_enter Try.func8, Try.ntmps8
  go_wp2_with fail
  rw [← hbc]
  clear hbc
  generalize (w.alloc (.cells #[.int .u64 num, .int .u64 den] 25)).alloc (.cells #[.int .u64 pn, .int .u64 pd] 25) = w0 at *
  refine (HAL.out _).mono ?_
  rintro e w1 ⟨rfl, hc1⟩
  have HC1 := Lib.hid (HC0.out.trans hc1)
  have HB1 := Lib.hid (HB0.out.chg hc1 (by simp))
  have HQ1 := Lib.hid (HQ0.out.chg hc1 (by simp))
  obtain ⟨L, hL⟩ : ∃ L, L = w1.heap.size := ⟨_, rfl⟩
  have HLO := Lib.hid (show w.heap.size ≤ L ∧ bc + 1 < L from by rw [hL]; exact ⟨HC1.out.size, HQ1.out.lt⟩)
  have HL1 := Lib.hid (show L ≤ w1.heap.size from by rw [hL]; exact Nat.le_refl _)
  clear hc1 HB0 HQ0 HC0 HAL hL
  have x0 := HB1.out.cell 0
  have x1 := HB1.out.cell 1
  simp only [List.getElem?_toArray, List.getElem?_cons_zero, List.getElem?_cons_succ] at x0 x1
  go_wp2_with fail
  refine (HBA.out _ HC1.out).mono ?_
  clear x0 x1
  intro e w2 hbld
  obtain ⟨pv1, qv1, B1, rfl, hc, HW1⟩ := BuildP.of hbld
  have HS1 := Lib.hid hc
  have HC2 := Lib.hid (HC1.out.trans hc)
  have HB2 := Lib.hid (HB1.out.chg hc (by simp))
  have HQ2 := Lib.hid (HQ1.out.chg hc (by simp))
  have HL2 := Lib.hid (Nat.le_trans HL1.out hc.size)
  clear hbld hc HBA HB1 HQ1
  have x0 := HB2.out.cell 0
  have x1 := HB2.out.cell 1
  simp only [List.getElem?_toArray, List.getElem?_cons_zero, List.getElem?_cons_succ] at x0 x1
  go_wp2_with fail
  refine (HBB.out _ HC2.out).mono ?_
  clear x0 x1
  intro e w3 hbld
  obtain ⟨pv2, qv2, B2, rfl, hc, HW2⟩ := BuildP.of hbld
  have HS2 := Lib.hid hc
  have HC3 := Lib.hid (HC2.out.trans hc)
  have HB3 := Lib.hid (HB2.out.chg hc (by simp))
  have HQ3 := Lib.hid (HQ2.out.chg hc (by simp))
  have HL3 := Lib.hid (Nat.le_trans HL2.out hc.size)
  clear hbld hc HBB HB2 HQ2
  have x0 := HB3.out.cell 0
  have x1 := HB3.out.cell 1
  simp only [List.getElem?_toArray, List.getElem?_cons_zero, List.getElem?_cons_succ] at x0 x1
  go_wp2_with fail
  refine (HBC.out _ HC3.out).mono ?_
  clear x0 x1
  intro e w4 hbld
  obtain ⟨pv3, qv3, B3, rfl, hc, HW3⟩ := BuildP.of hbld
  have HS3 := Lib.hid hc
  have HC4 := Lib.hid (HC3.out.trans hc)
  have HB4 := Lib.hid (HB3.out.chg hc (by simp))
  have HQ4 := Lib.hid (HQ3.out.chg hc (by simp))
  have HL4 := Lib.hid (Nat.le_trans HL3.out hc.size)
  clear hbld hc HBC HB3 HQ3
  rcases HW1.out with rfl | ⟨rfl, hok1, p1, rv1, wv1, q1, sv1, yv1, rfl, rfl, hp1, hf1⟩
  · go_wp2_with fail
    go_ret
    exact ⟨rfl, HC4.out⟩
  rcases HW2.out with rfl | ⟨rfl, hok2, p2, rv2, wv2, q2, sv2, yv2, rfl, rfl, hp2, hf2⟩
  · go_wp2_with fail
    go_ret
    exact ⟨rfl, HC4.out⟩
  rcases HW3.out with rfl | ⟨rfl, hok3, p3, rv3, wv3, q3, sv3, yv3, rfl, rfl, hp3, hf3⟩
  · go_wp2_with fail
    go_ret
    exact ⟨rfl, HC4.out⟩
  have HX1 := Lib.hid ((hp1.chg HS2.out (by simp)).chg HS3.out (by simp))
  have HX2 := Lib.hid (hp2.chg HS3.out (by simp))
  have HX3 := Lib.hid hp3
  have H12 := Lib.hid (show ∀ x ∈ fp2 p1 rv1 wv1 q1 sv1 yv1, x ∉ fp2 p2 rv2 wv2 q2 sv2 yv2 from fun x hx e => by have h1 := hp1.lt x hx; have h2 := hf2 x e; omega)
  have H13 := Lib.hid (show ∀ x ∈ fp2 p1 rv1 wv1 q1 sv1 yv1, x ∉ fp2 p3 rv3 wv3 q3 sv3 yv3 from fun x hx e => by have h1 := hp1.lt x hx; have h2 := hf3 x e; have h3 := HS2.out.size; omega)
  have H23 := Lib.hid (show ∀ x ∈ fp2 p2 rv2 wv2 q2 sv2 yv2, x ∉ fp2 p3 rv3 wv3 q3 sv3 yv3 from fun x hx e => by have h1 := hp2.lt x hx; have h2 := hf3 x e; omega)
  have HF1 := Lib.hid (show ∀ x ∈ fp2 p1 rv1 wv1 q1 sv1 yv1, L ≤ x from fun x hx => Nat.le_trans HL1.out (hf1 x hx))
  have HF2 := Lib.hid (show ∀ x ∈ fp2 p2 rv2 wv2 q2 sv2 yv2, L ≤ x from fun x hx => Nat.le_trans HL2.out (hf2 x hx))
  obtain ⟨a1, a2, a3⟩ := valsG_same num den a
  obtain ⟨b1, b2, b3⟩ := valsG_same num den b
  obtain ⟨c1, c2, c3⟩ := valsG_same num den c
  have HG := Lib.hid hok1.2.2.2
  have hsa := hok1.2.2.1
  have hsb := hok2.2.2.1
  have hsc := hok3.2.2.1
  have HPO := Lib.hid (show (∀ v ∈ a, 1 ≤ v.n) ∧ (∀ v ∈ b, 1 ≤ v.n) ∧ (∀ v ∈ c, 1 ≤ v.n) ∧ n ≤ 60 ∧ m ≤ 60 ∧ r ≤ 60 from ⟨fun v hv => (hok1.1 v hv).1, fun v hv => (hok2.1 v hv).1, fun v hv => (hok3.1 v hv).1, by rw [HN.out]; exact hok1.2.1, by rw [HM.out]; exact hok2.2.1, by rw [HR.out]; exact hok3.2.1⟩)
  have HSU := Lib.hid (show sumS a ≤ 150 ∧ sumS b ≤ 150 ∧ sumS c ≤ 150 from ⟨hsa, hsb, hsc⟩)
  have HO1 := Lib.hid (valsG_ok num den a)
  have HO2 := Lib.hid (valsG_ok num den b)
  have HO3 := Lib.hid (valsG_ok num den c)
  have HV1 := Lib.hid (valsG_up num den a)
  have HV2 := Lib.hid (valsG_up num den b)
  have HV3 := Lib.hid (valsG_up num den c)
  clear hp1 hp2 hp3 hf1 hf2 hf3 HS1 HS2 HS3 HW1 HW2 HW3 hok1 hok2 hok3 HC1 HC2 HC3 HL1 HL2 HL3
  generalize valsG num den a = D1 at *
  generalize valsG num den b = D2 at *
  generalize valsG num den c = D3 at *
  obtain ⟨D4, hD4⟩ : ∃ D, D = D2.join D3 := ⟨_, rfl⟩
  obtain ⟨D5, hD5⟩ : ∃ D, D = D1.join D4 := ⟨_, rfl⟩
  obtain ⟨d1, d2, d3⟩ := GkD.join_same HO2.out HO3.out
  have HO4 := Lib.hid (show D4.ok from by rw [hD4]; exact GkD.join_ok HO2.out HO3.out (by rw [b1, c1]) (by rw [b2, c2]))
  rw [← hD4, b1] at d1
  rw [← hD4, b2] at d2
  rw [← hD4, b3, c3] at d3
  obtain ⟨e1, e2, e3⟩ := GkD.join_same HO1.out HO4.out
  have HO5 := Lib.hid (show D5.ok from by rw [hD5]; exact GkD.join_ok HO1.out HO4.out (by rw [a1, d1]) (by rw [a2, d2]))
  rw [← hD5, a1] at e1
  rw [← hD5, a2] at e2
  rw [← hD5, a3, d3] at e3
  have HV5 := Lib.hid (show ∀ x, upC D5.all x = upS x (a ++ b ++ c) from fun x => by rw [hD5, GkD.join_all, hD4, GkD.join_all, HV1.out, HV2.out, HV3.out, upS_app, upS_app]; omega)
  have HE := Lib.hid (show D5.num = num ∧ D5.den = den ∧ D5.total = sumS (a ++ b ++ c) ∧ D5.total ≤ 450 from ⟨e1, e2, by rw [e3, sumS_app, sumS_app]; omega, by omega⟩)
  have HD4 := Lib.hid hD4
  have HD5 := Lib.hid hD5
  have HJ2 := Lib.hid (pr_gkjoin w4 p2 rv2 wv2 q2 sv2 yv2 D2 D2 HX2.out HO2.out (by rw [b1, b2]; exact HG.out) p3 rv3 wv3 q3 sv3 yv3 D3 D3 HX3.out HO3.out (by rw [b1, b2, c1, c2]; exact ⟨rfl, rfl⟩) (by omega) H23.out)
  have HK2 := Lib.hid (fun w rv wv (x : PrG w p2 rv wv q2 sv2 yv2 D4 D2) (y : PrG w p3 rv3 wv3 q3 sv3 yv3 D3 D3) hd => pr_refjoin w p2 rv wv q2 sv2 yv2 D4 D2 x HO2.out (by rw [b1, b2]; exact HG.out) p3 rv3 wv3 q3 sv3 yv3 D3 D3 y HO3.out (by rw [b1, b2, c1, c2]; exact ⟨rfl, rfl⟩) (by omega) hd)
  have HJ1 := Lib.hid (fun w rv wv sv yv (x : PrG w p1 rv1 wv1 q1 sv1 yv1 D1 D1) (y : PrG w p2 rv wv q2 sv yv D4 D4) hd => pr_gkjoin w p1 rv1 wv1 q1 sv1 yv1 D1 D1 x HO1.out (by rw [a1, a2]; exact HG.out) p2 rv wv q2 sv yv D4 D4 y HO4.out (by rw [a1, a2, d1, d2]; exact ⟨rfl, rfl⟩) (by omega) hd)
  have HK1 := Lib.hid (fun w rv1 wv1 rv wv sv yv (x : PrG w p1 rv1 wv1 q1 sv1 yv1 D5 D1) (y : PrG w p2 rv wv q2 sv yv D4 D4) hd => pr_refjoin w p1 rv1 wv1 q1 sv1 yv1 D5 D1 x HO1.out (by rw [a1, a2]; exact HG.out) p2 rv wv q2 sv yv D4 D4 y HO4.out (by rw [a1, a2, d1, d2]; exact ⟨rfl, rfl⟩) (by omega) hd)
  have HS3 := Lib.hid (fun u (hu : PrG u p3 rv3 wv3 q3 sv3 yv3 D3 D3) => law19_same u p3 rv3 wv3 D3 hu.gk q3 sv3 yv3 hu.rg HO3.out (by omega))
  have HS4 := Lib.hid (fun u rv wv sv yv (hu : PrG u p2 rv wv q2 sv yv D4 D4) => law19_same u p2 rv wv D4 hu.gk q2 sv yv hu.rg HO4.out (by omega))
  rw [← hD4] at HJ2 HK2
  rw [← hD5] at HJ1 HK1
  clear a1 a2 a3 b1 b2 b3 c1 c2 c3 d1 d2 d3 e1 e2 e3 hsa hsb hsc hD4 hD5
  go_wp2_with fail
  refine HJ2.out.mono ?_
  rintro e w5 ⟨rfl, rv4, wv4, hx, hm⟩
  have HX2a := Lib.hid hx
  have HX1a := Lib.hid (HX1.out.chg hm.chg (fun b hb e => H12.out b hb e))
  have HX3a := Lib.hid (HX3.out.chg hm.chg (fun b hb e => H23.out b e hb))
  have H12a := Lib.hid (show ∀ x ∈ fp2 p1 rv1 wv1 q1 sv1 yv1, x ∉ fp2 p2 rv4 wv4 q2 sv2 yv2 from fun x hx e => hm.away HX1.out.lt (fun b hb e => H12.out b e hb) x e hx)
  have H23a := Lib.hid (show ∀ x ∈ fp2 p2 rv4 wv4 q2 sv2 yv2, x ∉ fp2 p3 rv3 wv3 q3 sv3 yv3 from hm.away HX3.out.lt H23.out)
  have HF2a := Lib.hid (show ∀ x ∈ fp2 p2 rv4 wv4 q2 sv2 yv2, L ≤ x from hm.low HL4.out HF2.out)
  have HC5 := Lib.hid (HC4.out.trans' hm.chg (fun b hb => .inr (Nat.le_trans HLO.out.1 (HF2.out b hb))))
  have HB5 := Lib.hid (HB4.out.chg hm.chg (fun e => by have h1 := HF2.out _ e; have h2 := HLO.out.2; omega))
  have HQ5 := Lib.hid (HQ4.out.chg hm.chg (fun e => by have h1 := HF2.out _ e; have h2 := HLO.out.2; omega))
  have HL5 := Lib.hid (Nat.le_trans HL4.out hm.chg.size)
  clear hx hm HJ2 HX1 HX2 HX3 H12 H23 H13 HF2 HC4 HB4 HQ4 HL4
  go_wp2_with fail
  refine (HK2.out _ _ _ HX2a.out HX3a.out H23a.out).mono ?_
  rintro e w6 ⟨rfl, sv4, yv4, hx, hm⟩
  have HX2b := Lib.hid hx
  have HX1b := Lib.hid (HX1a.out.chg hm.chg (fun b hb e => H12a.out b hb e))
  have HX3b := Lib.hid (HX3a.out.chg hm.chg (fun b hb e => H23a.out b e hb))
  have H12b := Lib.hid (show ∀ x ∈ fp2 p1 rv1 wv1 q1 sv1 yv1, x ∉ fp2 p2 rv4 wv4 q2 sv4 yv4 from fun x hx e => hm.away HX1a.out.lt (fun b hb e => H12a.out b e hb) x e hx)
  have HF2b := Lib.hid (show ∀ x ∈ fp2 p2 rv4 wv4 q2 sv4 yv4, L ≤ x from hm.low HL5.out HF2a.out)
  have HC6 := Lib.hid (HC5.out.trans' hm.chg (fun b hb => .inr (Nat.le_trans HLO.out.1 (HF2a.out b hb))))
  have HB6 := Lib.hid (HB5.out.chg hm.chg (fun e => by have h1 := HF2a.out _ e; have h2 := HLO.out.2; omega))
  have HQ6 := Lib.hid (HQ5.out.chg hm.chg (fun e => by have h1 := HF2a.out _ e; have h2 := HLO.out.2; omega))
  have HL6 := Lib.hid (Nat.le_trans HL5.out hm.chg.size)
  clear hx hm HK2 HX1a HX2a HX3a H12a H23a HF2a HC5 HB5 HQ5 HL5
  go_wp2_with fail
  refine (HS3.out _ HX3b.out).mono ?_
  rintro e w7 ⟨rfl, hc⟩
  have HX1c := Lib.hid (HX1b.out.chg hc (by simp))
  have HX2c := Lib.hid (HX2b.out.chg hc (by simp))
  have HC7 := Lib.hid (HC6.out.trans hc)
  have HB7 := Lib.hid (HB6.out.chg hc (by simp))
  have HQ7 := Lib.hid (HQ6.out.chg hc (by simp))
  have HL7 := Lib.hid (Nat.le_trans HL6.out hc.size)
  clear hc HS3 HX1b HX2b HX3b HC6 HB6 HQ6 HL6
  go_wp2_with fail
  refine (HJ1.out _ _ _ _ _ HX1c.out HX2c.out H12b.out).mono ?_
  rintro e w8 ⟨rfl, rv5, wv5, hx, hm⟩
  have HX1d := Lib.hid hx
  have HX2d := Lib.hid (HX2c.out.chg hm.chg (fun b hb e => H12b.out b e hb))
  have H12d := Lib.hid (show ∀ x ∈ fp2 p1 rv5 wv5 q1 sv1 yv1, x ∉ fp2 p2 rv4 wv4 q2 sv4 yv4 from hm.away HX2c.out.lt H12b.out)
  have HF1a := Lib.hid (show ∀ x ∈ fp2 p1 rv5 wv5 q1 sv1 yv1, L ≤ x from hm.low HL7.out HF1.out)
  have HC8 := Lib.hid (HC7.out.trans' hm.chg (fun b hb => .inr (Nat.le_trans HLO.out.1 (HF1.out b hb))))
  have HB8 := Lib.hid (HB7.out.chg hm.chg (fun e => by have h1 := HF1.out _ e; have h2 := HLO.out.2; omega))
  have HQ8 := Lib.hid (HQ7.out.chg hm.chg (fun e => by have h1 := HF1.out _ e; have h2 := HLO.out.2; omega))
  have HL8 := Lib.hid (Nat.le_trans HL7.out hm.chg.size)
  clear hx hm HJ1 HX1c HX2c H12b HF1 HC7 HB7 HQ7 HL7
  go_wp2_with fail
  refine (HK1.out _ _ _ _ _ _ _ HX1d.out HX2d.out H12d.out).mono ?_
  rintro e w9 ⟨rfl, sv5, yv5, hx, hm⟩
  have HX1 := Lib.hid hx
  have HX2 := Lib.hid (HX2d.out.chg hm.chg (fun b hb e => H12d.out b e hb))
  have HF1 := Lib.hid (show ∀ x ∈ fp2 p1 rv5 wv5 q1 sv5 yv5, L ≤ x from hm.low HL8.out HF1a.out)
  have HC9 := Lib.hid (HC8.out.trans' hm.chg (fun b hb => .inr (Nat.le_trans HLO.out.1 (HF1a.out b hb))))
  have HB9 := Lib.hid (HB8.out.chg hm.chg (fun e => by have h1 := HF1a.out _ e; have h2 := HLO.out.2; omega))
  have HQ9 := Lib.hid (HQ8.out.chg hm.chg (fun e => by have h1 := HF1a.out _ e; have h2 := HLO.out.2; omega))
  have HL9 := Lib.hid (Nat.le_trans HL8.out hm.chg.size)
  clear hx hm HK1 HX1d HX2d H12d HF1a HC8 HB8 HQ8 HL8
  have HRX := Lib.hid (fun u (hu : Chg [] w9 u) => And.intro ((HRA.out.chg HC9.out (by simp)).chg hu (by simp)) (And.intro ((HRB.out.chg HC9.out (by simp)).chg hu (by simp)) ((HRC.out.chg HC9.out (by simp)).chg hu (by simp))))
  obtain ⟨-, -, -, hn60, hm60, hr60⟩ := HPO.out
  have hlk1 : 0 + n ≤ maxLen := by unfold maxLen; omega
  have hlk2 : n + m ≤ maxLen := by unfold maxLen; omega
  have hlk3 : (n + m) + r ≤ maxLen := by unfold maxLen; omega
  go_wp2_with (at_builtin; go_must (first
    | (refine wpList_append_src _ rfl (.tmp 84) (.tmp 85) 39 39 rfl 59 _ 2 16 under_vals info_val rfl (by decide) (.slice (some ⟨w9.heap.size, 0, none⟩) 0 0) 0 [] rfl (Own.lit w9 59 2 0 #[] rfl (by decide)) (.slice ao n ca) n (vlCells a) rfl (Src.of_rd under_vals (HRX.out _ ((Chg.refl [] w9).alloc _)).1) (vlCells_oneCell _) hlk1 (by omega) ?_; intro a7 c7 wa ho7 hg7 hf7; have hca : Chg [] w9 wa := ((Chg.refl [] w9).alloc _).trans' hg7 (fun b hb => .inr (by simp at hb; omega)); have ho7' : Own wa 59 2 (.slice a7 n c7) n (vlCells a) := by rw [Nat.zero_add] at ho7; exact ho7)
    | (refine wpList_append_src _ rfl (.tmp 86) (.tmp 87) 39 39 rfl 59 _ 2 16 under_vals info_val rfl (by decide) (.slice a7 n c7) n (vlCells a) rfl ho7' (.slice bo m cb) m (vlCells b) rfl (Src.of_rd under_vals (HRX.out _ hca).2.1) (vlCells_oneCell _) hlk2 (by omega) ?_; intro a8 c8 wb ho8 hg8 hf8; have hf7' : ∀ b ∈ abl a7, w9.heap.size ≤ b := (fun b hb => by rcases hf7 b (by simpa using hb) with h | h <;> (simp at h; omega)); have hcb : Chg [] w9 wb := hca.trans' hg8 (fun b hb => .inr (hf7' b (by simpa using hb))))
    | (refine wpList_append_src _ rfl (.tmp 88) (.tmp 89) 39 39 rfl 59 _ 2 16 under_vals info_val rfl (by decide) (.slice a8 (n + m) c8) (n + m) (vlCells a ++ vlCells b) rfl ho8 (.slice co r cc) r (vlCells c) rfl (Src.of_rd under_vals (HRX.out _ hcb).2.2) (vlCells_oneCell _) hlk3 (by omega) ?_; intro a9 c9 wc ho9 hg9 hf9)))
  have hf8' : ∀ b ∈ abl a8, w9.heap.size ≤ b := (fun b hb => by
    rcases hf8 b (by simpa using hb) with h | h
    · exact hf7' b (by simpa using h)
    · have := hca.size; omega)
  have hcc : Chg [] w9 wc := hcb.trans' hg9 (fun b hb => .inr (hf8' b (by simpa using hb)))
  have hf9' : ∀ b ∈ abl a9, w9.heap.size ≤ b := (fun b hb => by
    rcases hf9 b (by simpa using hb) with h | h
    · exact hf8' b (by simpa using h)
    · have := hcb.size; omega)
  have HF9 := Lib.hid hf9'
  have HALL := Lib.hid (show Own wc 59 2 (.slice a9 ((n + m) + r) c9) ((n + m) + r) (vlCells (a ++ b ++ c)) from by rw [vlCells_app, vlCells_app]; exact ho9)
  have HX1c := Lib.hid (HX1.out.chg hcc (by simp))
  have HX2c := Lib.hid (HX2.out.chg hcc (by simp))
  have HC10 := Lib.hid (HC9.out.trans hcc)
  have HB10 := Lib.hid (HB9.out.chg hcc (by simp))
  have HQ10 := Lib.hid (HQ9.out.chg hcc (by simp))
  have HL10 := Lib.hid (Nat.le_trans HL9.out hcc.size)
  have HFA := Lib.hid (show ∀ x ∈ abl a9, x ∉ fp2 p1 rv5 wv5 q1 sv5 yv5 from fun x hx e => by have h1 := hf9' x hx; have h2 := HX1.out.lt x e; omega)
  have HNA := Lib.hid (show (n + m) + r = (a ++ b ++ c).length from by rw [List.length_append, List.length_append, ← HN.out, ← HM.out, ← HR.out])
  clear hf7 hf7' hf8 hf8' hf9 hf9' hca hcb hcc ho7 ho7' ho8 ho9 hg7 hg8 hg9 HX1 HX2 HC9 HB9 HQ9 HL9 HRX hlk1 hlk2 hlk3 HRA HRB HRC
  obtain ⟨l, hl⟩ : ∃ l, l = a ++ b ++ c := ⟨_, rfl⟩
  have HPL := Lib.hid (show (∀ v ∈ l, 1 ≤ v.n) ∧ (∀ v ∈ l, v.x ≤ 9223372036854775807) from by
    obtain ⟨h1, h2, h3, -⟩ := HPO.out
    rw [hl]
    refine ⟨fun v hv => ?_, fun v hv => ?_⟩
    · rcases List.mem_append.1 hv with hv | hv
      · rcases List.mem_append.1 hv with hv | hv
        · exact h1 v hv
        · exact h2 v hv
      · exact h3 v hv
    · rcases List.mem_append.1 hv with hv | hv
      · rcases List.mem_append.1 hv with hv | hv
        · have := (HKA.out v hv).2.1; omega
        · have := (HKB.out v hv).2.1; omega
      · have := (HKC.out v hv).2.1; omega)
  obtain ⟨N, hN⟩ : ∃ N, N = sumS l := ⟨_, rfl⟩
  rw [← hl] at HALL HNA HV5 HE
  rw [← hN] at HE
  have HNN := Lib.hid hN
  obtain ⟨k, hk⟩ : ∃ k, k = (n + m) + r := ⟨_, rfl⟩
  rw [← hk] at HALL HNA ⊢
  have hk180 : k ≤ 180 := by omega
  clear hl hN hk HKA HKB HKC HPO HD5 HD4 HN HM HR HV1 HV2 HV3 hn60 hm60 hr60
  generalize a ++ b ++ c = lz at *
  obtain ⟨lo, hlo⟩ : ∃ z, z = loV l := ⟨_, rfl⟩
  obtain ⟨hi, hhi⟩ : ∃ z, z = hiV l := ⟨_, rfl⟩
  obtain ⟨bb, hbb⟩ : ∃ z, z = decide (l ≠ []) := ⟨_, rfl⟩
  have hNb : N ≤ 450 := by obtain ⟨-, -, h3, h4⟩ := HE.out; omega
  have HEN := Lib.hid (fun u (hu : Chg [] wc u) => gk_Ends u p1 rv5 wv5 D5 (HX1c.out.chg hu (by simp)).gk HO5.out (by obtain ⟨-, -, -, h4⟩ := HE.out; omega) l HV5.out (by obtain ⟨-, -, h3, -⟩ := HE.out; rw [h3]; exact HNN.out) HPL.out.1 lo hi bb hlo hhi hbb)
  have HRE := Lib.hid (fun u (hu : Chg [] wc u) => ref14_ends u a9 c9 k l HNA.out (HALL.out.chg hu (by simp)).rd (by omega) lo hi bb hlo hhi hbb)
  have HS1 := Lib.hid (fun u (hu : Chg [] wc u) => law19_same u p1 rv5 wv5 D5 (HX1c.out.chg hu (by simp)).gk q1 sv5 yv5 (HX1c.out.chg hu (by simp)).rg HO5.out (by obtain ⟨-, -, -, h4⟩ := HE.out; omega))
  have HS2 := Lib.hid (fun u (hu : Chg [] wc u) => HS4.out u rv4 wv4 sv4 yv4 (HX2c.out.chg hu (by simp)))
  have e4 : (lo != lo) = false := by simp
  have e5 : (hi != hi) = false := by simp
  have e4' : (!(lo == lo)) = false := by simp
  have e5' : (!(hi == hi)) = false := by simp
  have HGP := Lib.hid (fun u => ref03_good u pn pd)
  clear hlo hhi hbb
  go_wp2_with fail
  refine (HEN.out _ (Chg.refl _ _)).mono ?_
  rintro e w11 ⟨rfl, hc11⟩
  have H11 := Lib.hid hc11
  clear hc11 HEN
  go_wp2_with fail
  refine (HRE.out _ H11.out).mono ?_
  rintro e w12 ⟨rfl, hc12⟩
  have H12 := Lib.hid (H11.out.trans hc12)
  clear hc12 HRE H11
  go_wp2_with fail
  refine (HS1.out _ H12.out).mono ?_
  rintro e w13 ⟨rfl, hc13⟩
  have H13 := Lib.hid (H12.out.trans hc13)
  clear hc13 HS1 H12
  go_wp2_with fail
  refine (HS2.out _ H13.out).mono ?_
  rintro e w14 ⟨rfl, hc14⟩
  have H14 := Lib.hid (H13.out.trans hc14)
  have HQ14 := Lib.hid (HQ10.out.chg H14.out (by simp))
  have y0 := HQ14.out.cell 0
  have y1 := HQ14.out.cell 1
  simp only [List.getElem?_toArray, List.getElem?_cons_zero, List.getElem?_cons_succ] at y0 y1
  clear hc14 HS2 H13 HS4
  go_wp2_with fail
  refine (HGP.out _).mono ?_
  rintro e w15 ⟨rfl, hc15⟩
  have H15 := Lib.hid (H14.out.trans hc15)
  clear hc15 y0 y1 H14
  by_cases hp : goodP pn pd = true
  case neg =>
    have hp' : goodP pn pd = false := by simpa using hp
    clear hp
    go_wp2_with fail
    go_ret
    exact ⟨rfl, HC10.out.trans H15.out⟩
  by_cases hz : k = 0
  · have hz' : ((k : Int) == 0) = true := by rw [beq_iff_eq]; omega
    clear hz
    go_wp2_with fail
    go_ret
    exact ⟨rfl, HC10.out.trans H15.out⟩
  have hz' : ((k : Int) == 0) = false := by rw [beq_eq_false_iff_ne]; omega
  have hN1 : 1 ≤ N := by rw [HNN.out]; exact sumS_pos2 HPL.out.1 (fun e => by have := HNA.out; rw [e] at this; exact hz this)
  have hE : placeE pn pd N = 0 := by unfold placeE; rw [if_pos hp, if_neg (by omega)]
  obtain ⟨hT1, hT2⟩ := placeT_of hE
  obtain ⟨T, hT⟩ : ∃ T, T = placeT pn pd N := ⟨_, rfl⟩
  rw [← hT] at hT1 hT2
  have HPC := Lib.hid (fun u => ref03_place u pn pd N HPN.out.1 HPN.out.2 (by omega) T 0 hT hE.symm)
  have htt : D5.total = N := HE.out.2.2.1
  have HTO := Lib.hid (fun u (hu : Chg [] wc u) => show Calls Try.prog 22 #[.pointer (some ⟨p1, 0, none⟩)] u fun e w' => e = .returned (.int .u64 (N : Nat)) ∧ u = w' from by rw [← htt]; exact gk_total u p1 rv5 wv5 D5 (HX1c.out.chg hu (by simp)).gk)
  have HQU := Lib.hid (fun u (hu : Chg [] wc u) => gk_quantile u p1 rv5 wv5 D5 (HX1c.out.chg hu (by simp)).gk HO5.out (by rw [HE.out.1, HE.out.2.1]; exact HG.out) (by omega) pn pd HPN.out.1 HPN.out.2 T 0 (by rw [htt]; exact hT) (by rw [htt]; exact hE.symm))
  obtain ⟨n1, n2⟩ := GkD.near_is HO5.out hT1 (show T ≤ D5.total from by rw [htt]; exact hT2)
  rw [HE.out.1, HE.out.2.1, htt, HV5.out, HV5.out] at n2
  rw [HV5.out, HV5.out] at n1
  obtain ⟨V, hV⟩ : ∃ V, V = foundX T D5.flush.row := ⟨_, rfl⟩
  rw [← hV] at HQU n1 n2
  have HNE := Lib.hid (fun u (hr : Rd u 2 (.slice a9 k c9) k (vlCells l)) => law19_near u a9 c9 k l HNA.out hr (by omega) (by rw [← HNN.out]; omega) HPL.out.2 V T (by omega) num den HG.out n1 (by rw [← HNN.out]; exact n2))
  have HQ15 := Lib.hid (HQ10.out.chg H15.out (by simp))
  have y0 := HQ15.out.cell 0
  have y1 := HQ15.out.cell 1
  simp only [List.getElem?_toArray, List.getElem?_cons_zero, List.getElem?_cons_succ] at y0 y1
  clear hN1 hE hT1 hT2 hT htt n1 n2 hV hz HQ14
  go_upto_region 21 with (fail)
  have hSS : Chg [] wc w15.drew ∧ w15.drew.cell? ⟨bc + 1, 0, none⟩ = some (.int .u64 (pn : Nat)) ∧ w15.drew.cell? ⟨bc + 1, 1, none⟩ = some (.int .u64 (pd : Nat)) := ⟨H15.out.drew, y0, y1⟩
  refine startG (S := fun wx => Chg [] wc wx ∧ wx.cell? ⟨bc + 1, 0, none⟩ = some (.int .u64 (pn : Nat)) ∧ wx.cell? ⟨bc + 1, 1, none⟩ = some (.int .u64 (pd : Nat))) (st := 8) (by kernel_rfl) hSS (fun hHeld => ?_)
  refine takeG (i := 0) (v := ?vz0) rfl (by kernel_rfl) (by kernel_rfl) (by kernel_rfl) (by decide) (by kernel_rfl) (by kernel_rfl) (fun _ _ _ h => h) (Or.inl ⟨by rfl, ?yz0⟩) hSS ?rz0
  case yz0 => (intro w hSw; (try dsimp only at hSw); go_simp; first | done | with_reducible rfl)
  try simp only [Act.put, List.setIfInBounds_toArray, List.set_cons_zero, List.set_cons_succ]
  refine takeP (i := 1) (v := ?vz1) rfl (by kernel_rfl) (by kernel_rfl) (by kernel_rfl) (by decide) (fun _ _ _ h => h) (Or.inl ⟨by rfl, ?yz1⟩) hSS ?rz1
  case yz1 => (intro w _; go_simp; first | done | with_reducible rfl)
  try simp only [Act.put, List.setIfInBounds_toArray, List.set_cons_zero, List.set_cons_succ]
  refine readyG (rs := [2]) (by kernel_rfl) (by simp) (consG rfl (fun K hK => ?_) nilG)
  refine step_calls rfl 22 _ _ rfl enters_jgtotal _ #[.pointer (some ⟨p1, 0, none⟩)] (by simp [Act.eval]) (HTO.out _ hSS.1) ?_; rintro e wq ⟨rfl, rfl⟩; refine ⟨_, rfl, ?_⟩
  refine hK.out _ _ (fun _ _ => hSS) (fun hHeld => ?_)
  clear hK K hHeld
  try simp only [Act.put, List.setIfInBounds_toArray, List.set_cons_zero, List.set_cons_succ]
  refine readyG (rs := [3]) (by kernel_rfl) (by simp) (consG rfl (fun K hK => ?_) nilG)
  refine step_calls rfl 21 _ _ rfl enters_jrplace _ #[.agg #[.int .u64 (pn : Nat), .int .u64 (pd : Nat)], .int .u64 (N : Nat)] (by simp [Act.eval]) (HPC.out _) ?_; rintro e wy ⟨rfl, hcy⟩; refine ⟨_, rfl, ?_⟩
  have hS9 : Chg [] wc wy ∧ wy.cell? ⟨bc + 1, 0, none⟩ = some (.int .u64 (pn : Nat)) ∧ wy.cell? ⟨bc + 1, 1, none⟩ = some (.int .u64 (pd : Nat)) := ⟨hSS.1.trans hcy, hcy.cell hSS.2.1 (by simp), hcy.cell hSS.2.2 (by simp)⟩
  clear hcy
  refine hK.out _ _ (fun _ _ => hS9) (fun hHeld => ?_)
  clear hK K hHeld
  try simp only [Act.put, List.setIfInBounds_toArray, List.set_cons_zero, List.set_cons_succ]
  refine takeP (i := 4) (v := ?vz4) rfl (by kernel_rfl) (by kernel_rfl) (by kernel_rfl) (by decide) (fun _ _ _ h => h) (Or.inl ⟨by rfl, ?yz4⟩) hS9 ?rz4
  case yz4 => (intro w _; go_simp; first | done | with_reducible rfl)
  try simp only [Act.put, List.setIfInBounds_toArray, List.set_cons_zero, List.set_cons_succ]
  refine takeP (i := 5) (v := ?vz5) rfl (by kernel_rfl) (by kernel_rfl) (by kernel_rfl) (by decide) (fun _ _ _ h => h) (Or.inl ⟨by rfl, ?yz5⟩) hS9 ?rz5
  case yz5 => (intro w _; go_simp; first | done | with_reducible rfl)
  try simp only [Act.put, List.setIfInBounds_toArray, List.set_cons_zero, List.set_cons_succ]
  refine takeP (i := 6) (v := ?vz6) rfl (by kernel_rfl) (by kernel_rfl) (by kernel_rfl) (by decide) (fun _ _ _ h => h) (Or.inl ⟨by rfl, ?yz6⟩) hS9 ?rz6
  case yz6 => (intro w _; go_simp; first | done | with_reducible rfl)
  try simp only [Act.put, List.setIfInBounds_toArray, List.set_cons_zero, List.set_cons_succ]
  refine takeP (i := 7) (v := ?vz7) rfl (by kernel_rfl) (by kernel_rfl) (by kernel_rfl) (by decide) (fun _ _ _ h => h) (Or.inl ⟨by rfl, ?yz7⟩) hS9 ?rz7
  case yz7 => (intro w _; go_simp; first | done | with_reducible rfl)
  try simp only [Act.put, List.setIfInBounds_toArray, List.set_cons_zero, List.set_cons_succ]
  refine readyG (rs := [8]) (by kernel_rfl) (by simp) (consG rfl (fun K hK => ?_) nilG)
  go_simp
  refine hK.out _ _ (fun h => absurd rfl h) (fun hHeld => ?_)
  clear hK K hHeld
  try simp only [Act.put, List.setIfInBounds_toArray, List.set_cons_zero, List.set_cons_succ]
  refine doneG (by kernel_rfl) ?_ _
  have H16 := Lib.hid hS9.1
  have y0 := hS9.2.1
  have y1 := hS9.2.2
  clear hSS hS9
  go_wp2_with fail
  refine (HQU.out _ H16.out).mono ?_
  rintro e w17 (⟨h, -⟩ | ⟨-, rfl, rv6, wv6, ht17, hm17⟩)
  · exact absurd rfl h
  have hFK := fun b (hb : b ∈ fpK p1 rv5 wv5) => HF1.out b (List.mem_append.2 (.inl hb))
  have HC17 := Lib.hid ((HC10.out.trans H16.out).trans' hm17.chg (fun b hb => .inr (Nat.le_trans HLO.out.1 (hFK b hb))))
  have HB17 := Lib.hid ((HB10.out.chg H16.out (by simp)).chg hm17.chg (fun e => by have h1 := hFK _ e; have h2 := HLO.out.2; omega))
  have HR17 := Lib.hid ((HALL.out.chg H16.out (by simp)).chg hm17.chg (fun b hb e => HFA.out b (by simpa using hb) (List.mem_append.2 (.inl e)))).rd
  have z0 := HB17.out.cell 0
  have z1 := HB17.out.cell 1
  simp only [List.getElem?_toArray, List.getElem?_cons_zero, List.getElem?_cons_succ] at z0 z1
  clear ht17 hm17 y0 y1 hFK
  go_wp2_with fail
  refine (HNE.out _ HR17.out).mono ?_
  rintro e w18 ⟨rfl, hc18⟩
  have HEND := Lib.hid (HC17.out.trans hc18)
  clear hc18
  go_wp2
  go_ret
  exact ⟨rfl, HEND.out⟩
end Go.Proofs.Ytkcldhimjnehdaa
