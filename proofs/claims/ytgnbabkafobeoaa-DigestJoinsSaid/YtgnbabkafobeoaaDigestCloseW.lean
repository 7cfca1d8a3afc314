/-
  The walk of the law DigestClose. Conditions: the form's own reach.
-/
import Derived.Test.YtgnbabkafobeoaaDigestFewW
import Derived.Test.YtgnbabkafobeoaaDgVals
namespace Go.Proofs.Ytgnbabkafobeoaa
open Go.RowKit

theorem enters_cup : ∀ (args : Array Value) (w : World), (callFunc 12 args).run Try.prog w = .ok (.enter 12 args) w := enters_of Try.func12 (by kernel_rfl) rfl
theorem enters_cplace : ∀ (args : Array Value) (w : World), (callFunc 14 args).run Try.prog w = .ok (.enter 14 args) w := enters_of Try.func14 (by kernel_rfl) rfl
set_option maxRecDepth 100000 in
set_option maxHeartbeats 16000000 in
theorem law_DigestClose (w : World) (d f : Int) (_hd1 : -9223372036854775808 ≤ d) (_hd2 : d < 9223372036854775808) (_hf1 : -9223372036854775808 ≤ f) (_hf2 : f < 9223372036854775808)
    (ao : Option Addr) (ca : Nat) (a : List Vl) (hra : Rd w 2 (.slice ao a.length ca) a.length (vlCells a)) (hla : a.length ≤ 140737488351232) (hka : ∀ i ∈ a, i.ok)
    (num den : Nat) (hnum : num < 18446744073709551616) (hden : den < 18446744073709551616) (x : Int) (_hx1 : -9223372036854775808 ≤ x) (_hx2 : x < 9223372036854775808) :
    Calls Try.prog 3 #[.agg #[.int .i64 d, .int .i64 f], .slice ao a.length ca, .agg #[.int .u64 (num : Nat), .int .u64 (den : Nat)], .int .i64 x] w fun e w' => e = .returned (.bool true) ∧ Chg [] w w' := by
  have HAL := Lib.hid law17_alive
  have HKA := Lib.hid hka
  have HRA := Lib.hid hra
  obtain ⟨n, hn⟩ : ∃ n, n = a.length := ⟨_, rfl⟩
  rw [← hn] at HRA hla ⊢
  have HN := Lib.hid hn
  have HND := Lib.hid (And.intro hnum hden)
  clear hka hra hn _hd1 _hd2 _hf1 _hf2 hnum hden _hx1 _hx2
  have hc0 := (((Chg.refl [] w).alloc (.cells #[.int .i64 d, .int .i64 f] 23)).alloc (.cells #[.int .u64 (num : Nat), .int .u64 (den : Nat)] 27))
  have hb0 := (Blk.alloc_new w #[.int .i64 d, .int .i64 f] 23).alloc (.cells #[.int .u64 (num : Nat), .int .u64 (den : Nat)] 27)
  have hb1 := Blk.alloc_new (w.alloc (.cells #[.int .i64 d, .int .i64 f] 23)) #[.int .u64 (num : Nat), .int .u64 (den : Nat)] 27
  rw [World.size_alloc] at hb1
  obtain ⟨bc, hbc⟩ : ∃ z, z = w.heap.size := ⟨_, rfl⟩
  rw [← hbc] at hb0 hb1
  have HBC := Lib.hid hbc
  have HC0 := Lib.hid hc0
  have HB := Lib.hid hb0
  have HE := Lib.hid hb1
  have HBA := Lib.hid (fun u (hu : Chg [] w u) => law17_build u d f ao ca n a HN.out (HRA.out.chg hu (by simp)) hla (fun v hv => (HKA.out v hv).2.2))
  clear hc0 hb0 hb1
  go_enter Try.func3, Try.ntmps3
  go_wp2_with fail
  rw [← hbc]
  clear hbc
  generalize (w.alloc (.cells #[.int .i64 d, .int .i64 f] 23)).alloc (.cells #[.int .u64 (num : Nat), .int .u64 (den : Nat)] 27) = w0 at *
  refine (HAL.out _).mono ?_
  rintro e w1 ⟨rfl, hc1⟩
  have HC1 := Lib.hid (HC0.out.trans hc1)
  have HB1 := Lib.hid (HB.out.chg hc1 (by simp))
  have HE1 := Lib.hid (HE.out.chg hc1 (by simp))
  have x0 := HB1.out.cell 0
  have x1 := HB1.out.cell 1
  simp only [List.getElem?_toArray, List.getElem?_cons_zero, List.getElem?_cons_succ] at x0 x1
  clear hc1 HB HE HC0 HAL
  go_wp2_with fail
  refine (HBA.out _ HC1.out).mono ?_
  rintro e w2 hb2
  clear x0 x1
  rcases hb2 with ⟨-, rfl, hc2⟩ | ⟨hok, p, s, rv, q, sv, rfl, ht2, hq2, hc2, hf2, hg2, -⟩
  · go_wp2
    go_ret
    exact ⟨rfl, HC1.out.trans hc2⟩
  have hd0 := hok.2.1
  have hf0 := hok.2.2.1
  obtain ⟨dn, rfl⟩ := Int.eq_ofNat_of_zero_le (show 0 ≤ d by omega)
  obtain ⟨fn, rfl⟩ := Int.eq_ofNat_of_zero_le (show 0 ≤ f by omega)
  have HVO := Lib.hid (valsDg_ok (d := dn) (f := fn) hok)
  have HVF := Lib.hid (valsDg_few (d := dn) (f := fn) hok)
  have HVE := Lib.hid (valsDg_of (d := dn) (f := fn) hok)
  have HPOS := Lib.hid (show ∀ v ∈ a, 1 ≤ v.n from fun v hv => (hok.2.2.2 v hv).1)
  have HSB := Lib.hid (show sumS a ≤ 60 * 1125899906842624 ∧ a.length ≤ 60 from by
    have h1 := sumS_bound a hok.2.2.2
    have h2 := hok.1
    exact ⟨Nat.le_trans h1 (Nat.mul_le_mul_right _ h2), h2⟩)
  rw [Int.toNat_natCast, Int.toNat_natCast] at ht2 hq2
  have HT2 := Lib.hid ht2
  have HQ2 := Lib.hid hq2
  have HC2 := Lib.hid (HC1.out.trans hc2)
  have HB2 := Lib.hid (HB1.out.chg hc2 (by simp))
  have HE2 := Lib.hid (HE1.out.chg hc2 (by simp))
  clear ht2 hq2 hc2 hf2 hg2 hok HB1 HE1 HC1 HBA
  have hn60 : n ≤ 60 := by have := HN.out; have := HSB.out; omega
  generalize valsDg dn fn a = D at *
  obtain ⟨M, hM⟩ : ∃ M, M = totP D.row := ⟨_, rfl⟩
  obtain ⟨A, hA⟩ : ∃ A, A = rankLo D.depth D.row x := ⟨_, rfl⟩
  obtain ⟨B, hB⟩ : ∃ B, B = rankHi D.depth D.row x := ⟨_, rfl⟩
  obtain ⟨U, hU⟩ : ∃ U, U = upS x a := ⟨_, rfl⟩
  have hAU : A ≤ U ∧ U ≤ B := by
    have h := HVE.out.fit x
    rw [← hA, ← hB, ← hU] at h
    exact h
  have HRD := Lib.hid (fun u (hu : Chg [] w2 u) => dg_rank u p s rv D (HT2.out.chg hu (by simp)) HVO.out.1 x A B hA hB)
  have HUP := Lib.hid (fun u (hu : Chg [] w2 u) y V (hV : V = upS y a) => ref13_up u ao ca n a HN.out (HRA.out.chg (HC2.out.trans hu) (by simp)) hla (by have := HSB.out.1; omega) y V hV)
  have HTO := Lib.hid (fun u (hu : Chg [] w2 u) => dg_total u p s rv D (HT2.out.chg hu (by simp)))
  rw [← hM] at HTO
  have HMS := Lib.hid (show M = sumS a from by rw [hM]; exact HVO.out.2.2.2.1)
  have HM := Lib.hid hM
  have HRAT := Lib.hid (fun wx (hu : Chg [] w2 wx) => show wx.cell? ⟨bc + 1, 0, none⟩ = some (.int .u64 (num : Nat)) ∧ wx.cell? ⟨bc + 1, 1, none⟩ = some (.int .u64 (den : Nat)) from ⟨(HE2.out.chg hu (by simp)).cell 0, (HE2.out.chg hu (by simp)).cell 1⟩)
  have HU := Lib.hid hU
  have HDF := Lib.hid (show (1 ≤ dn ∧ dn ≤ 24) ∧ 1 ≤ fn ∧ fn ≤ 64 from by omega)
  clear hA hB hU hM hd0 hf0
  go_wp2_with fail
  refine (HRD.out _ (Chg.refl _ _)).mono ?_
  rintro e w3 ⟨rfl, hc3⟩
  have HC3 := Lib.hid hc3
  clear hc3 HRD
  go_wp2_with fail
  refine (HUP.out _ HC3.out x U HU.out).mono ?_
  rintro e w4 ⟨rfl, hc4⟩
  have HC4 := Lib.hid (HC3.out.trans hc4)
  clear hc4 HC3
  have d1 : decide ((U : Int) < (A : Int)) = false := decide_eq_false (by omega)
  have d1' : decide (U < A) = false := decide_eq_false (by omega)
  have d2 : decide ((B : Int) < (U : Int)) = false := decide_eq_false (by omega)
  have d2' : decide (B < U) = false := decide_eq_false (by omega)
  obtain ⟨y0, y1⟩ := HRAT.out _ HC4.out
  clear hAU
  go_wp2_with fail
  refine (ref03_good w4 num den).mono ?_
  rintro e w5 ⟨rfl, hc5⟩
  have HC5 := Lib.hid (show Chg [] w2 w5 from by first | exact HC4.out.trans hc5 | exact hc5 ▸ HC4.out)
  clear hc5 y0 y1 HC4
  cases hg : goodR num den with
  | false =>
    go_wp2_with fail
    go_ret
    exact ⟨rfl, HC2.out.trans HC5.out⟩
  | true =>
    by_cases hz : n = 0
    · have dz : ((n : Int) == 0) = true := by rw [beq_iff_eq]; omega
      have dz' : (n == 0) = true := by rw [beq_iff_eq]; exact hz
      subst hz
      go_wp2_with fail
      go_ret
      exact ⟨rfl, HC2.out.trans HC5.out⟩
    have dz : ((n : Int) == 0) = false := by rw [beq_eq_false_iff_ne]; omega
    have dz' : (n == 0) = false := by rw [beq_eq_false_iff_ne]; exact hz
    have hM1 : 1 ≤ M := by
      have h1 := HMS.out
      rcases ha : a with _ | ⟨v, l⟩
      · have := HN.out; rw [ha] at this; simp at this; omega
      · have h2 := HPOS.out v (by rw [ha]; simp)
        rw [ha] at h1
        simp only [sumS] at h1
        omega
    have hE0 : placeE num den M = 0 := by unfold placeE; rw [hg, if_pos rfl, if_neg (by omega)]
    obtain ⟨T, hT⟩ : ∃ T, T = placeT num den M := ⟨_, rfl⟩
    obtain ⟨t1, t2⟩ := placeT_of hE0
    rw [← hT] at t1 t2
    obtain ⟨X, hX⟩ : ∃ X : Int, X = quantD D.depth D.row T := ⟨_, rfl⟩
    obtain ⟨n1, n2, n3, n4⟩ := D.near HVO.out.1 HVF.out HVE.out t1 (by rw [← HM.out]; exact t2)
    rw [← hX] at n1 n2 n3 n4
    rw [← HM.out, HVO.out.2.1, HVO.out.2.2.1] at n4
    have HPL := Lib.hid (fun u => ref03_place u num den M HND.out.1 HND.out.2 (by have := HMS.out; have := HSB.out.1; omega) T 0 hT hE0.symm)
    have HQD := Lib.hid (fun u (hu : Chg [] w2 u) => dg_quantile u p s rv D (HT2.out.chg hu (by simp)) HVO.out.1 num den HND.out.1 HND.out.2 T 0 (by rw [← HM.out]; exact hT) (by rw [← HM.out]; exact hE0.symm) X (by rw [if_pos rfl]; exact hX))
    have hMB : M ≤ 60 * 1125899906842624 := by have := HMS.out; have := HSB.out.1; omega
    obtain ⟨U1, hU1⟩ : ∃ z, z = upS X a := ⟨_, rfl⟩
    obtain ⟨U2, hU2⟩ : ∃ z, z = upS (X - 1) a := ⟨_, rfl⟩
    rw [← hU1] at n3
    rw [← hU2] at n4
    have HU1 := Lib.hid (fun u (hu : Chg [] w2 u) => HUP.out u hu X U1 hU1)
    have HU2 := Lib.hid (fun u (hu : Chg [] w2 u) => HUP.out u hu (X - 1) U2 hU2)
    obtain ⟨L, hL⟩ : ∃ L, L = M / fn := ⟨_, rfl⟩
    rw [← hL] at n4
    have hff := HDF.out
    have hll : L ≤ M := by rw [hL]; exact Nat.div_le_self _ _
    obtain ⟨K, hK⟩ : ∃ K, K = dn * L := ⟨_, rfl⟩
    rw [← hK] at n4
    have hkb : K ≤ 24 * (60 * 1125899906842624) := by rw [hK]; exact Nat.mul_le_mul hff.1.2 (by omega)
    obtain ⟨Z, hZ⟩ : ∃ Z, Z = T + K := ⟨_, rfl⟩
    have hz : ((fn : Int) == 0) = false := by rw [beq_eq_false_iff_ne]; omega
    have hz2 : ¬ fn = 0 := by omega
    have hwf : IntKind.u64.wrap (fn : Int) = (fn : Int) := IntWalk.u64_in _ (by omega)
    have hwd : IntKind.u64.wrap (dn : Int) = (dn : Int) := IntWalk.u64_in _ (by omega)
    have hqq : (M : Int).tdiv (fn : Int) = (L : Int) := by rw [Int.tdiv_eq_ediv_of_nonneg (by omega), hL]; rfl
    have hqq2 : (M : Int) / (fn : Int) = (L : Int) := by rw [hL]; rfl
    have hwl : IntKind.u64.wrap (L : Int) = (L : Int) := IntWalk.u64_in _ (by omega)
    have hwk : IntKind.u64.wrap ((dn : Int) * (L : Int)) = (K : Int) := by
      have e : (dn : Int) * (L : Int) = (K : Int) := by rw [hK]; push_cast; rfl
      rw [e]; exact IntWalk.u64_in _ (by omega)
    have hwz : IntKind.u64.wrap ((T : Int) + (K : Int)) = (Z : Int) := by rw [IntKind.wrap_u64]; omega
    have hwx : IntKind.i64.wrap (X - 1) = X - 1 := by rw [IntKind.wrap_i64]; omega
    have g1 : decide ((T : Int) ≤ (U1 : Int)) = true := decide_eq_true (by omega)
    have g1' : decide (T ≤ U1) = true := decide_eq_true n3
    have g2 : decide ((U2 : Int) ≤ (Z : Int)) = true := decide_eq_true (by omega)
    have g2' : decide (U2 ≤ Z) = true := decide_eq_true (by omega)
    have HS := Lib.hid (fun wx (hu : Chg [] w2 wx) => show Chg [] w2 wx ∧ wx.cell? ⟨bc, 0, none⟩ = some (.int .i64 (dn : Nat)) ∧ wx.cell? ⟨bc, 1, none⟩ = some (.int .i64 (fn : Nat)) ∧ wx.cell? ⟨bc + 1, 0, none⟩ = some (.int .u64 (num : Nat)) ∧ wx.cell? ⟨bc + 1, 1, none⟩ = some (.int .u64 (den : Nat)) from ⟨hu, (HB2.out.chg hu (by simp)).cell 0, (HB2.out.chg hu (by simp)).cell 1, (HRAT.out _ hu).1, (HRAT.out _ hu).2⟩)
    clear hE0 hT t1 t2 hX n1 n2 n3 n4 hMB hU1 hU2 hL hff hll hK hkb hZ hM1 HUP
    go_upto_region 12 with (fail)
    have hSS := HS.out w5.drew HC5.out.drew
    refine startN (S := fun wx => Chg [] w2 wx ∧ wx.cell? ⟨bc, 0, none⟩ = some (.int .i64 (dn : Nat)) ∧ wx.cell? ⟨bc, 1, none⟩ = some (.int .i64 (fn : Nat)) ∧ wx.cell? ⟨bc + 1, 0, none⟩ = some (.int .u64 (num : Nat)) ∧ wx.cell? ⟨bc + 1, 1, none⟩ = some (.int .u64 (den : Nat))) (by kernel_rfl) hSS (fun hHeld => ?_)
    refine takeN (i := 0) (v := ?vb0) rfl (by kernel_rfl) (by kernel_rfl) (by kernel_rfl) (fun _ _ _ h => h) (Or.inl ⟨by rfl, ?yb0⟩) hSS ?rb0
    case yb0 => (intro w hSw; (try dsimp only at hSw); go_simp; first | done | with_reducible rfl)
    try simp only [Act.put, List.setIfInBounds_toArray, List.set_cons_zero, List.set_cons_succ]
    refine takeN (i := 1) (v := ?vb1) rfl (by kernel_rfl) (by kernel_rfl) (by kernel_rfl) (fun _ _ _ h => h) (Or.inl ⟨by rfl, ?yb1⟩) hSS ?rb1
    case yb1 => (intro w hSw; (try dsimp only at hSw); go_simp; first | done | with_reducible rfl)
    try simp only [Act.put, List.setIfInBounds_toArray, List.set_cons_zero, List.set_cons_succ]
    refine readyN (rs := [2]) (by kernel_rfl) (by simp) (consN rfl (fun K hK => ?_) nilN)
    refine step_callsG (by rfl) 15 _ _ rfl enters_ftotal _ #[.pointer (some ⟨p, 0, none⟩)] (by simp [Act.eval]) (HTO.out _ hSS.1) ?_; rintro e w' ⟨rfl, rfl⟩; refine ⟨_, rfl, ?_⟩
    refine hK.out _ _ hSS (fun hHeld => ?_)
    clear hK K hHeld
    try simp only [Act.put, List.setIfInBounds_toArray, List.set_cons_zero, List.set_cons_succ]
    refine readyN (rs := [3]) (by kernel_rfl) (by simp) (consN rfl (fun K hK => ?_) nilN)
    refine step_callsG (by rfl) 14 _ _ rfl enters_cplace _ #[.agg #[.int .u64 (num : Nat), .int .u64 (den : Nat)], .int .u64 (M : Nat)] (by simp [Act.eval]) (HPL.out _) ?_; rintro e w6 ⟨rfl, hc6⟩; refine ⟨_, rfl, ?_⟩
    have hSA := HS.out w6 (hSS.1.trans hc6)
    clear hc6
    refine hK.out _ _ hSA (fun hHeld => ?_)
    clear hK K hHeld
    try simp only [Act.put, List.setIfInBounds_toArray, List.set_cons_zero, List.set_cons_succ]
    refine takeN (i := 4) (v := ?vb4) rfl (by kernel_rfl) (by kernel_rfl) (by kernel_rfl) (fun _ _ _ h => h) (Or.inl ⟨by rfl, ?yb4⟩) hSA ?rb4
    case yb4 => (intro w hSw; (try dsimp only at hSw); go_simp; first | done | with_reducible rfl)
    try simp only [Act.put, List.setIfInBounds_toArray, List.set_cons_zero, List.set_cons_succ]
    refine takeN (i := 5) (v := ?vb5) rfl (by kernel_rfl) (by kernel_rfl) (by kernel_rfl) (fun _ _ _ h => h) (Or.inl ⟨by rfl, ?yb5⟩) hSA ?rb5
    case yb5 => (intro w hSw; (try dsimp only at hSw); go_simp; first | done | with_reducible rfl)
    try simp only [Act.put, List.setIfInBounds_toArray, List.set_cons_zero, List.set_cons_succ]
    refine takeN (i := 6) (v := ?vb6) rfl (by kernel_rfl) (by kernel_rfl) (by kernel_rfl) (fun _ _ _ h => h) (Or.inl ⟨by rfl, ?yb6⟩) hSA ?rb6
    case yb6 => (intro w hSw; (try dsimp only at hSw); go_simp; first | done | with_reducible rfl)
    try simp only [Act.put, List.setIfInBounds_toArray, List.set_cons_zero, List.set_cons_succ]
    refine takeN (i := 7) (v := ?vb7) rfl (by kernel_rfl) (by kernel_rfl) (by kernel_rfl) (fun _ _ _ h => h) (Or.inl ⟨by rfl, ?yb7⟩) hSA ?rb7
    case yb7 => (intro w hSw; (try dsimp only at hSw); go_simp; first | done | with_reducible rfl)
    try simp only [Act.put, List.setIfInBounds_toArray, List.set_cons_zero, List.set_cons_succ]
    refine takeN (i := 8) (v := ?vb8) rfl (by kernel_rfl) (by kernel_rfl) (by kernel_rfl) (fun _ _ _ h => h) (Or.inl ⟨by rfl, ?yb8⟩) hSA ?rb8
    case yb8 => (intro w hSw; (try dsimp only at hSw); go_simp; first | done | with_reducible rfl)
    try simp only [Act.put, List.setIfInBounds_toArray, List.set_cons_zero, List.set_cons_succ]
    refine doneN (by kernel_rfl) ?_ _
    have HC6 := Lib.hid hSA.1
    obtain ⟨y0, y1⟩ := HRAT.out _ HC6.out
    clear hSS hSA
    go_wp2_with fail
    refine (HQD.out _ HC6.out).mono ?_
    rintro e w7 ⟨rfl, hc7⟩
    have HC7 := Lib.hid (HC6.out.trans hc7)
    clear hc7 y0 y1 HQD HC6
    go_upto_region 14 with (fail)
    have hSS := HS.out w7.drew HC7.out.drew
    refine startN (S := fun wx => Chg [] w2 wx ∧ wx.cell? ⟨bc, 0, none⟩ = some (.int .i64 (dn : Nat)) ∧ wx.cell? ⟨bc, 1, none⟩ = some (.int .i64 (fn : Nat)) ∧ wx.cell? ⟨bc + 1, 0, none⟩ = some (.int .u64 (num : Nat)) ∧ wx.cell? ⟨bc + 1, 1, none⟩ = some (.int .u64 (den : Nat))) (by kernel_rfl) hSS (fun hHeld => ?_)
    refine takeN (i := 0) (v := ?vc0) rfl (by kernel_rfl) (by kernel_rfl) (by kernel_rfl) (fun _ _ _ h => h) (Or.inl ⟨by rfl, ?yc0⟩) hSS ?rc0
    case yc0 => (intro w hSw; (try dsimp only at hSw); go_simp; first | done | with_reducible rfl)
    try simp only [Act.put, List.setIfInBounds_toArray, List.set_cons_zero, List.set_cons_succ]
    refine takeN (i := 1) (v := ?vc1) rfl (by kernel_rfl) (by kernel_rfl) (by kernel_rfl) (fun _ _ _ h => h) (Or.inl ⟨by rfl, ?yc1⟩) hSS ?rc1
    case yc1 => (intro w hSw; (try dsimp only at hSw); go_simp; first | done | with_reducible rfl)
    try simp only [Act.put, List.setIfInBounds_toArray, List.set_cons_zero, List.set_cons_succ]
    refine takeN (i := 2) (v := ?vc2) rfl (by kernel_rfl) (by kernel_rfl) (by kernel_rfl) (fun _ _ _ h => h) (Or.inl ⟨by rfl, ?yc2⟩) hSS ?rc2
    case yc2 => (intro w hSw; (try dsimp only at hSw); go_simp; first | done | with_reducible rfl)
    try simp only [Act.put, List.setIfInBounds_toArray, List.set_cons_zero, List.set_cons_succ]
    refine takeN (i := 3) (v := ?vc3) rfl (by kernel_rfl) (by kernel_rfl) (by kernel_rfl) (fun _ _ _ h => h) (Or.inl ⟨by rfl, ?yc3⟩) hSS ?rc3
    case yc3 => (intro w hSw; (try dsimp only at hSw); go_simp; first | done | with_reducible rfl)
    try simp only [Act.put, List.setIfInBounds_toArray, List.set_cons_zero, List.set_cons_succ]
    refine takeN (i := 4) (v := ?vc4) rfl (by kernel_rfl) (by kernel_rfl) (by kernel_rfl) (fun _ _ _ h => h) (Or.inl ⟨by rfl, ?yc4⟩) hSS ?rc4
    case yc4 => (intro w hSw; (try dsimp only at hSw); go_simp; first | done | with_reducible rfl)
    try simp only [Act.put, List.setIfInBounds_toArray, List.set_cons_zero, List.set_cons_succ]
    refine takeN (i := 6) (v := ?vc6) rfl (by kernel_rfl) (by kernel_rfl) (by kernel_rfl) (fun _ _ _ h => h) (Or.inl ⟨by rfl, ?yc6⟩) hSS ?rc6
    case yc6 => (intro w hSw; (try dsimp only at hSw); go_simp; first | done | with_reducible rfl)
    try simp only [Act.put, List.setIfInBounds_toArray, List.set_cons_zero, List.set_cons_succ]
    refine readyN (rs := [5]) (by kernel_rfl) (by simp) (consN rfl (fun K hK => ?_) nilN)
    refine step_callsG (by rfl) 12 _ _ rfl enters_cup _ #[.slice ao n ca, .int .i64 X] (by simp [Act.eval]) (HU1.out _ hSS.1) ?_; rintro e w8 ⟨rfl, hc8⟩; refine ⟨_, rfl, ?_⟩
    have hSA := HS.out w8 (hSS.1.trans hc8)
    clear hc8
    refine hK.out _ _ hSA (fun hHeld => ?_)
    clear hK K hHeld
    try simp only [Act.put, List.setIfInBounds_toArray, List.set_cons_zero, List.set_cons_succ]
    refine takeN (i := 7) (v := ?vc7) rfl (by kernel_rfl) (by kernel_rfl) (by kernel_rfl) (fun _ _ _ h => h) (Or.inl ⟨by rfl, ?yc7⟩) hSA ?rc7
    case yc7 => (intro w hSw; (try dsimp only at hSw); go_simp; first | done | with_reducible rfl)
    try simp only [Act.put, List.setIfInBounds_toArray, List.set_cons_zero, List.set_cons_succ]
    refine takeN (i := 8) (v := ?vc8) rfl (by kernel_rfl) (by kernel_rfl) (by kernel_rfl) (fun _ _ _ h => h) (Or.inl ⟨by rfl, ?yc8⟩) hSA ?rc8
    case yc8 => (intro w hSw; (try dsimp only at hSw); go_simp; first | done | with_reducible rfl)
    try simp only [Act.put, List.setIfInBounds_toArray, List.set_cons_zero, List.set_cons_succ]
    refine takeN (i := 9) (v := ?vc9) rfl (by kernel_rfl) (by kernel_rfl) (by kernel_rfl) (fun _ _ _ h => h) (Or.inl ⟨by rfl, ?yc9⟩) hSA ?rc9
    case yc9 => (intro w hSw; (try dsimp only at hSw); go_simp; first | done | with_reducible rfl)
    try simp only [Act.put, List.setIfInBounds_toArray, List.set_cons_zero, List.set_cons_succ]
    refine takeN (i := 10) (v := ?vc10) rfl (by kernel_rfl) (by kernel_rfl) (by kernel_rfl) (fun _ _ _ h => h) (Or.inl ⟨by rfl, ?yc10⟩) hSA ?rc10
    case yc10 => (intro w hSw; (try dsimp only at hSw); go_simp; first | done | with_reducible rfl)
    try simp only [Act.put, List.setIfInBounds_toArray, List.set_cons_zero, List.set_cons_succ]
    refine takeN (i := 11) (v := ?vc11) rfl (by kernel_rfl) (by kernel_rfl) (by kernel_rfl) (fun _ _ _ h => h) (Or.inl ⟨by rfl, ?yc11⟩) hSA ?rc11
    case yc11 => (intro w hSw; (try dsimp only at hSw); go_simp; first | done | with_reducible rfl)
    try simp only [Act.put, List.setIfInBounds_toArray, List.set_cons_zero, List.set_cons_succ]
    refine takeN (i := 12) (v := ?vc12) rfl (by kernel_rfl) (by kernel_rfl) (by kernel_rfl) (fun _ _ _ h => h) (Or.inl ⟨by rfl, ?yc12⟩) hSA ?rc12
    case yc12 => (intro w hSw; (try dsimp only at hSw); go_simp; first | done | with_reducible rfl)
    try simp only [Act.put, List.setIfInBounds_toArray, List.set_cons_zero, List.set_cons_succ]
    refine takeN (i := 14) (v := ?vc14) rfl (by kernel_rfl) (by kernel_rfl) (by kernel_rfl) (fun _ _ _ h => h) (Or.inl ⟨by rfl, ?yc14⟩) hSA ?rc14
    case yc14 => (intro w hSw; (try dsimp only at hSw); go_simp; first | done | with_reducible rfl)
    try simp only [Act.put, List.setIfInBounds_toArray, List.set_cons_zero, List.set_cons_succ]
    refine takeN (i := 15) (v := ?vc15) rfl (by kernel_rfl) (by kernel_rfl) (by kernel_rfl) (fun _ _ _ h => h) (Or.inl ⟨by rfl, ?yc15⟩) hSA ?rc15
    case yc15 => (intro w hSw; (try dsimp only at hSw); go_simp; first | done | with_reducible rfl)
    try simp only [Act.put, List.setIfInBounds_toArray, List.set_cons_zero, List.set_cons_succ]
    refine takeN (i := 16) (v := ?vc16) rfl (by kernel_rfl) (by kernel_rfl) (by kernel_rfl) (fun _ _ _ h => h) (Or.inl ⟨by rfl, ?yc16⟩) hSA ?rc16
    case yc16 => (intro w hSw; (try dsimp only at hSw); go_simp; first | done | with_reducible rfl)
    try simp only [Act.put, List.setIfInBounds_toArray, List.set_cons_zero, List.set_cons_succ]
    refine takeN (i := 17) (v := ?vc17) rfl (by kernel_rfl) (by kernel_rfl) (by kernel_rfl) (fun _ _ _ h => h) (Or.inl ⟨by rfl, ?yc17⟩) hSA ?rc17
    case yc17 => (intro w hSw; (try dsimp only at hSw); go_simp; first | done | with_reducible rfl)
    try simp only [Act.put, List.setIfInBounds_toArray, List.set_cons_zero, List.set_cons_succ]
    refine takeN (i := 18) (v := ?vc18) rfl (by kernel_rfl) (by kernel_rfl) (by kernel_rfl) (fun _ _ _ h => h) (Or.inl ⟨by rfl, ?yc18⟩) hSA ?rc18
    case yc18 => (intro w hSw; (try dsimp only at hSw); go_simp; first | done | with_reducible rfl)
    try simp only [Act.put, List.setIfInBounds_toArray, List.set_cons_zero, List.set_cons_succ]
    refine takeN (i := 20) (v := ?vc20) rfl (by kernel_rfl) (by kernel_rfl) (by kernel_rfl) (fun _ _ _ h => h) (Or.inl ⟨by rfl, ?yc20⟩) hSA ?rc20
    case yc20 => (intro w hSw; (try dsimp only at hSw); go_simp; first | done | with_reducible rfl)
    try simp only [Act.put, List.setIfInBounds_toArray, List.set_cons_zero, List.set_cons_succ]
    refine takeN (i := 21) (v := ?vc21) rfl (by kernel_rfl) (by kernel_rfl) (by kernel_rfl) (fun _ _ _ h => h) (Or.inl ⟨by rfl, ?yc21⟩) hSA ?rc21
    case yc21 => (intro w hSw; (try dsimp only at hSw); go_simp; first | done | with_reducible rfl)
    try simp only [Act.put, List.setIfInBounds_toArray, List.set_cons_zero, List.set_cons_succ]
    refine takeN (i := 22) (v := ?vc22) rfl (by kernel_rfl) (by kernel_rfl) (by kernel_rfl) (fun _ _ _ h => h) (Or.inl ⟨by rfl, ?yc22⟩) hSA ?rc22
    case yc22 => (intro w hSw; (try dsimp only at hSw); go_simp; first | done | with_reducible rfl)
    try simp only [Act.put, List.setIfInBounds_toArray, List.set_cons_zero, List.set_cons_succ]
    refine readyN (rs := [13]) (by kernel_rfl) (by simp) (consN rfl (fun K hK => ?_) nilN)
    refine step_callsG (by rfl) 12 _ _ rfl enters_cup _ #[.slice ao n ca, .int .i64 (X - 1)] (by simp [Act.eval]) (HU2.out _ hSA.1) ?_; rintro e w9 ⟨rfl, hc9⟩; refine ⟨_, rfl, ?_⟩
    have hSB := HS.out w9 (hSA.1.trans hc9)
    clear hc9
    refine hK.out _ _ hSB (fun hHeld => ?_)
    clear hK K hHeld
    try simp only [Act.put, List.setIfInBounds_toArray, List.set_cons_zero, List.set_cons_succ]
    refine readyN (rs := [19]) (by kernel_rfl) (by simp) (consN rfl (fun K hK => ?_) nilN)
    refine step_callsG (by rfl) 15 _ _ rfl enters_ftotal _ #[.pointer (some ⟨p, 0, none⟩)] (by simp [Act.eval]) (HTO.out _ hSB.1) ?_; rintro e w' ⟨rfl, rfl⟩; refine ⟨_, rfl, ?_⟩
    refine hK.out _ _ hSB (fun hHeld => ?_)
    clear hK K hHeld
    try simp only [Act.put, List.setIfInBounds_toArray, List.set_cons_zero, List.set_cons_succ]
    refine takeN (i := 23) (v := ?vc23) rfl (by kernel_rfl) (by kernel_rfl) (by kernel_rfl) (fun _ _ _ h => h) (Or.inl ⟨by rfl, ?yc23⟩) hSB ?rc23
    case yc23 => (intro w hSw; (try dsimp only at hSw); go_simp; first | done | with_reducible rfl)
    try simp only [Act.put, List.setIfInBounds_toArray, List.set_cons_zero, List.set_cons_succ]
    refine takeN (i := 24) (v := ?vc24) rfl (by kernel_rfl) (by kernel_rfl) (by kernel_rfl) (fun _ _ _ h => h) (Or.inl ⟨by rfl, ?yc24⟩) hSB ?rc24
    case yc24 => (intro w hSw; (try dsimp only at hSw); go_simp; first | done | with_reducible rfl)
    try simp only [Act.put, List.setIfInBounds_toArray, List.set_cons_zero, List.set_cons_succ]
    refine takeN (i := 25) (v := ?vc25) rfl (by kernel_rfl) (by kernel_rfl) (by kernel_rfl) (fun _ _ _ h => h) (Or.inl ⟨by rfl, ?yc25⟩) hSB ?rc25
    case yc25 => (intro w hSw; (try dsimp only at hSw); go_simp; first | done | with_reducible rfl)
    try simp only [Act.put, List.setIfInBounds_toArray, List.set_cons_zero, List.set_cons_succ]
    refine takeN (i := 26) (v := ?vc26) rfl (by kernel_rfl) (by kernel_rfl) (by kernel_rfl) (fun _ _ _ h => h) (Or.inl ⟨by rfl, ?yc26⟩) hSB ?rc26
    case yc26 => (intro w hSw; (try dsimp only at hSw); go_simp; first | done | with_reducible rfl)
    try simp only [Act.put, List.setIfInBounds_toArray, List.set_cons_zero, List.set_cons_succ]
    refine takeN (i := 27) (v := ?vc27) rfl (by kernel_rfl) (by kernel_rfl) (by kernel_rfl) (fun _ _ _ h => h) (Or.inl ⟨by rfl, ?yc27⟩) hSB ?rc27
    case yc27 => (intro w hSw; (try dsimp only at hSw); go_simp; first | done | with_reducible rfl)
    try simp only [Act.put, List.setIfInBounds_toArray, List.set_cons_zero, List.set_cons_succ]
    refine takeN (i := 28) (v := ?vc28) rfl (by kernel_rfl) (by kernel_rfl) (by kernel_rfl) (fun _ _ _ h => h) (Or.inl ⟨by rfl, ?yc28⟩) hSB ?rc28
    case yc28 => (intro w hSw; (try dsimp only at hSw); go_simp; first | done | with_reducible rfl)
    try simp only [Act.put, List.setIfInBounds_toArray, List.set_cons_zero, List.set_cons_succ]
    refine doneN (by kernel_rfl) ?_ _
    have HEND := Lib.hid (HC2.out.trans hSB.1)
    clear hSS hSA hSB HS
    go_wp2_with fail
    go_ret
    first | exact ⟨rfl, HEND.out⟩ | exact ⟨by simp, HEND.out⟩
end Go.Proofs.Ytgnbabkafobeoaa
