/-
  The walk of the law DigestDoes. Conditions: the form's own reach.
-/
import Derived.Test.YtgnbabkafobeoaaDigestLoadsW
import Derived.Test.YtgnbabkafobeoaaDgVals
import Derived.Test.YtgnbabkafobeoaaRefDgQ
import Derived.Test.YtgnbabkafobeoaaDigestFewW
namespace Go.Proofs.Ytgnbabkafobeoaa
open Go.RowKit

set_option maxRecDepth 100000 in
set_option maxHeartbeats 16000000 in
theorem law_DigestDoes (w : World) (d f : Int) (_hd1 : -9223372036854775808 ≤ d) (_hd2 : d < 9223372036854775808) (_hf1 : -9223372036854775808 ≤ f) (_hf2 : f < 9223372036854775808)
    (ao : Option Addr) (ca : Nat) (a : List Vl) (hra : Rd w 2 (.slice ao a.length ca) a.length (vlCells a)) (hla : a.length ≤ 140737488351232) (hka : ∀ i ∈ a, i.ok)
    (num den : Nat) (hnum : num < 18446744073709551616) (hden : den < 18446744073709551616) (x : Int) (_hx1 : -9223372036854775808 ≤ x) (_hx2 : x < 9223372036854775808) :
    Calls Try.prog 5 #[.agg #[.int .i64 d, .int .i64 f], .slice ao a.length ca, .agg #[.int .u64 (num : Nat), .int .u64 (den : Nat)], .int .i64 x] w fun e w' => e = .returned (.bool true) ∧ Chg [] w w' := by
  have HAL := Lib.hid law17_alive
  have HKA := Lib.hid hka
  have HRA := Lib.hid hra
  obtain ⟨n, hn⟩ : ∃ n, n = a.length := ⟨_, rfl⟩
  rw [← hn] at HRA hla ⊢
  have HN := Lib.hid hn
  have HND := Lib.hid (And.intro hnum hden)
  clear hka hra hn _hd1 _hd2 _hf1 _hf2 hnum hden _hx1 _hx2
  have hc0 := (((Chg.refl [] w).alloc (.cells #[.int .i64 d, .int .i64 f] 23)).alloc (.cells #[.int .u64 (num : Nat), .int .u64 (den : Nat)] 27))
  have hb0 := (Blk.alloc_new w #[.int .i64 d, .int .i64 f] 23).alloc (.cells #[.int .u64 (num : Nat), .int .u64 (den : Nat)] 27)
  have hb1 := Blk.alloc_new (w.alloc (.cells #[.int .i64 d, .int .i64 f] 23)) #[.int .u64 (num : Nat), .int .u64 (den : Nat)] 27
  rw [World.size_alloc] at hb1
  obtain ⟨bc, hbc⟩ : ∃ z, z = w.heap.size := ⟨_, rfl⟩
  rw [← hbc] at hb0 hb1
  have HBC := Lib.hid hbc
  have HC0 := Lib.hid hc0
  have HB := Lib.hid hb0
  have HE := Lib.hid hb1
  have HBA := Lib.hid (fun u (hu : Chg [] w u) => law17_build u d f ao ca n a HN.out (HRA.out.chg hu (by simp)) hla (fun v hv => (HKA.out v hv).2.2))
  clear hc0 hb0 hb1
  go_enter Try.func5, Try.ntmps5
  go_wp2_with fail
  rw [← hbc]
  clear hbc
  generalize (w.alloc (.cells #[.int .i64 d, .int .i64 f] 23)).alloc (.cells #[.int .u64 (num : Nat), .int .u64 (den : Nat)] 27) = w0 at *
  refine (HAL.out _).mono ?_
  rintro e w1 ⟨rfl, hc1⟩
  have HC1 := Lib.hid (HC0.out.trans hc1)
  have HB1 := Lib.hid (HB.out.chg hc1 (by simp))
  have HE1 := Lib.hid (HE.out.chg hc1 (by simp))
  have x0 := HB1.out.cell 0
  have x1 := HB1.out.cell 1
  simp only [List.getElem?_toArray, List.getElem?_cons_zero, List.getElem?_cons_succ] at x0 x1
  clear hc1 HB HE HC0 HAL
  go_wp2_with fail
  refine (HBA.out _ HC1.out).mono ?_
  rintro e w2 hb2
  clear x0 x1
  rcases hb2 with ⟨-, rfl, hc2⟩ | ⟨hok, p, s, rv, q, sv, rfl, ht2, hq2, hc2, hf2, hg2, -⟩
  · go_wp2
    go_ret
    exact ⟨rfl, HC1.out.trans hc2⟩
  have hd0 := hok.2.1
  have hf0 := hok.2.2.1
  obtain ⟨dn, rfl⟩ := Int.eq_ofNat_of_zero_le (show 0 ≤ d by omega)
  obtain ⟨fn, rfl⟩ := Int.eq_ofNat_of_zero_le (show 0 ≤ f by omega)
  have HVO := Lib.hid (valsDg_ok (d := dn) (f := fn) hok)
  have HVF := Lib.hid (valsDg_few (d := dn) (f := fn) hok)
  have HVE := Lib.hid (valsDg_of (d := dn) (f := fn) hok)
  have HPOS := Lib.hid (show ∀ v ∈ a, 1 ≤ v.n from fun v hv => (hok.2.2.2 v hv).1)
  have HSB := Lib.hid (show sumS a ≤ 60 * 1125899906842624 ∧ a.length ≤ 60 from by
    have h1 := sumS_bound a hok.2.2.2
    have h2 := hok.1
    exact ⟨Nat.le_trans h1 (Nat.mul_le_mul_right _ h2), h2⟩)
  rw [Int.toNat_natCast, Int.toNat_natCast] at ht2 hq2
  have HT2 := Lib.hid ht2
  have HQ2 := Lib.hid hq2
  have HC2 := Lib.hid (HC1.out.trans hc2)
  have HB2 := Lib.hid (HB1.out.chg hc2 (by simp))
  have HE2 := Lib.hid (HE1.out.chg hc2 (by simp))
  clear ht2 hq2 hc2 hf2 hg2 hok HB1 HE1 HC1 HBA
  have hn60 : n ≤ 60 := by have := HN.out; have := HSB.out; omega
  generalize valsDg dn fn a = D at *
  obtain ⟨M, hM⟩ : ∃ M, M = totP D.row := ⟨_, rfl⟩
  obtain ⟨T, hT⟩ : ∃ T, T = placeT num den M := ⟨_, rfl⟩
  obtain ⟨E, hE⟩ : ∃ E, E = placeE num den M := ⟨_, rfl⟩
  obtain ⟨X, hX⟩ : ∃ X : Int, X = if E = 0 then quantD D.depth D.row T else 0 := ⟨_, rfl⟩
  obtain ⟨A, hA⟩ : ∃ A, A = rankLo D.depth D.row x := ⟨_, rfl⟩
  obtain ⟨B, hB⟩ : ∃ B, B = rankHi D.depth D.row x := ⟨_, rfl⟩
  have HQD := Lib.hid (fun u (hu : Chg [] w2 u) => dg_quantile u p s rv D (HT2.out.chg hu (by simp)) HVO.out.1 num den HND.out.1 HND.out.2 T E (by rw [← hM]; exact hT) (by rw [← hM]; exact hE) X hX)
  have HQR := Lib.hid (fun u (hu : Chg [] w2 u) => ref17_quantile u q sv D (HQ2.out.chg hu (by simp)) HVO.out.1 num den HND.out.1 HND.out.2 T E (by rw [← hM]; exact hT) (by rw [← hM]; exact hE) X hX)
  have HRD := Lib.hid (fun u (hu : Chg [] w2 u) => dg_rank u p s rv D (HT2.out.chg hu (by simp)) HVO.out.1 x A B hA hB)
  have HRR := Lib.hid (fun u (hu : Chg [] w2 u) => ref17_rank u q sv D (HQ2.out.chg hu (by simp)) HVO.out.1 x A B hA hB)
  have HEN := Lib.hid (fun u (hu : Chg [] w2 u) => show Calls Try.prog 25 #[.pointer (some ⟨p, 0, none⟩)] u fun e w' => e = .returned (.tuple #[.int .i64 (loV a), .int .i64 (hiV a), .bool (decide (a ≠ []))]) ∧ Chg [] u w' from by
    have h := dg_endsR u p s rv D (HT2.out.chg hu (by simp)) M hM
    have e1 : (if M = 0 then 0 else D.least) = loV a := by
      split
      · next h => rw [HVE.out.nil.1 (by omega)]; rfl
      · exact HVE.out.least
    have e2 : (if M = 0 then 0 else D.most) = hiV a := by
      split
      · next h => rw [HVE.out.nil.1 (by omega)]; rfl
      · exact HVE.out.most
    have e3 : (!decide (M = 0)) = decide (a ≠ []) := by
      have := HVE.out.nil
      rw [← hM] at this
      rw [← decide_not, decide_eq_decide, this]
    rw [e1, e2, e3] at h
    exact h)
  have HEV := Lib.hid (fun u (hu : Chg [] w2 u) => ref14_ends u ao ca n a HN.out (HRA.out.chg (HC2.out.trans hu) (by simp)) hla (loV a) (hiV a) (decide (a ≠ [])) rfl rfl rfl)
  have HTO := Lib.hid (fun u (hu : Chg [] w2 u) => dg_total u p s rv D (HT2.out.chg hu (by simp)))
  rw [← hM] at HTO
  have HMS := Lib.hid (show M = sumS a from by rw [hM]; exact HVO.out.2.2.2.1)
  have HRAT := Lib.hid (fun wx (hu : Chg [] w2 wx) => show wx.cell? ⟨bc + 1, 0, none⟩ = some (.int .u64 (num : Nat)) ∧ wx.cell? ⟨bc + 1, 1, none⟩ = some (.int .u64 (den : Nat)) from ⟨(HE2.out.chg hu (by simp)).cell 0, (HE2.out.chg hu (by simp)).cell 1⟩)
  generalize loV a = lo at *
  generalize hiV a = hi at *
  generalize decide (a ≠ []) = has at *
  clear hT hE hX hA hB hM hd0 hf0
  obtain ⟨y0, y1⟩ := HRAT.out _ (Chg.refl _ _)
  go_wp2_with fail
  refine (HQD.out _ (Chg.refl _ _)).mono ?_
  rintro e w3 ⟨rfl, hc3⟩
  have HC3 := Lib.hid hc3
  clear hc3 y0 y1 HQD
  obtain ⟨y0, y1⟩ := HRAT.out _ HC3.out
  go_wp2_with fail
  refine (HQR.out _ HC3.out).mono ?_
  rintro e w4 ⟨rfl, hc4⟩
  have HC4 := Lib.hid (HC3.out.trans hc4)
  clear hc4 y0 y1 HQR HC3
  go_wp2_with fail
  refine (HRD.out _ HC4.out).mono ?_
  rintro e w5 ⟨rfl, hc5⟩
  have HC5 := Lib.hid (HC4.out.trans hc5)
  clear hc5 HRD HC4
  go_wp2_with fail
  refine (HRR.out _ HC5.out).mono ?_
  rintro e w6 ⟨rfl, hc6⟩
  have HC6 := Lib.hid (HC5.out.trans hc6)
  clear hc6 HRR HC5
  go_wp2_with fail
  refine (HEN.out _ HC6.out).mono ?_
  rintro e w7 ⟨rfl, hc7⟩
  have HC7 := Lib.hid (HC6.out.trans hc7)
  clear hc7 HEN HC6
  go_wp2_with fail
  refine (HEV.out _ HC7.out).mono ?_
  rintro e w8 ⟨rfl, hc8⟩
  have HC8 := Lib.hid (HC7.out.trans hc8)
  clear hc8 HEV HC7
  go_wp2_with fail
  go_loopw [26, 78] (fun t i wx => ∃ (k S : Nat), k ≤ n ∧ i = .int .i64 (k : Nat) ∧ t = .int .u64 (S : Nat) ∧ Chg [] w2 wx ∧ Hid (S = sumS (a.take k))) (fun _ i _ => n - (intOf i).toNat)
  case atStart => exact ⟨0, 0, Nat.zero_le _, rfl, rfl, HC8.out, Lib.hid rfl⟩
  case round =>
    obtain ⟨k, S, hk, rfl, rfl, hch, HSS⟩ := hrel
    have HCH := Lib.hid hch
    clear hch
    by_cases hlt : k < n
    · have hkl : k < a.length := by have := HN.out; omega
      obtain ⟨b, o, rfl, hcc⟩ := (HRA.out.chg (HC2.out.trans HCH.out) (by simp)).addr (by omega)
      obtain ⟨z0, z1⟩ := vl_at (l := a) (fun j hj => hcc j (by rw [HN.out]; exact hj)) hkl
      have hst := sumS_take a k hkl
      have hsl := sumS_take_le a (k + 1)
      obtain ⟨S2, hS2⟩ : ∃ z, z = S + a[k].n := ⟨_, rfl⟩
      have HS2 := Lib.hid (show S2 = sumS (a.take (k + 1)) from by rw [hS2, hst, ← HSS.out])
      have hsb : S2 ≤ 60 * 1125899906842624 := by have := HS2.out; have := HSB.out.1; omega
      generalize a[k] = v at *
      have hw : IntKind.u64.wrap ((S : Int) + (v.n : Int)) = (S2 : Int) := by rw [IntKind.wrap_u64]; omega
      clear hcc hst hsl hS2 hsb
      go_wp2_with fail
      exact ⟨⟨k + 1, S2, by omega, by go_num, rfl, HCH.out.alloc _, HS2⟩, by simp [intOf]; omega⟩
    obtain rfl : k = n := by omega
    have HSM := Lib.hid (show S = M from by rw [HSS.out, HMS.out, List.take_of_length_le (by have := HN.out; omega)])
    obtain rfl : S = M := HSM.out
    obtain ⟨so, sc, hsv⟩ := HQ2.out.row.shape
    subst hsv
    obtain ⟨nn, hnn⟩ : ∃ z, z = D.row.length := ⟨_, rfl⟩
    have hnl : nn ≤ 1000 := by have := HVO.out.1.len; omega
    have HNO := Lib.hid (fun u (hu : Chg [] w2 u) => dg_nodes u p s rv D (HT2.out.chg hu (by simp)) nn hnn hnl)
    have HSA := Lib.hid (fun u a3 c3 (hu : Chg [] w2 u) (ho : Own u 53 2 (.slice a3 nn c3) nn (prCells D.row)) => show Calls Try.prog 27 #[.slice a3 nn c3, .slice so nn sc] u fun e w' => e = .returned (.bool true) ∧ Chg [] u w' from by
      subst hnn
      exact ref06_same u a3 c3 so sc D.row ho.rd (HQ2.out.chg hu (by simp)).row.rd (by omega))
    have HS := Lib.hid (fun wx (hu : Chg [] w2 wx) => show Chg [] w2 wx ∧ wx.cell? ⟨q, 2, none⟩ = some (.slice so nn sc) from by
      have q2 := (HQ2.out.chg hu (by simp)).cells.2.2
      rw [← hnn] at q2
      exact ⟨hu, q2⟩)
    have e1 : (X == X) = true := by simp
    have e2 : ((E : Int) == (E : Int)) = true := by simp
    have e3 : ((A : Int) == (A : Int)) = true := by simp
    have e4 : ((B : Int) == (B : Int)) = true := by simp
    have e5 : (lo == lo) = true := by simp
    have e6 : (hi == hi) = true := by simp
    have e7 : (has == has) = true := by simp
    have e8 : ((S : Int) == (S : Int)) = true := by simp
    clear hnn
    go_upto_region 18 with (fail)
    have hSS := HS.out wr.drew HCH.out.drew
    refine startN (S := fun wx => Chg [] w2 wx ∧ wx.cell? ⟨q, 2, none⟩ = some (.slice so nn sc)) (by kernel_rfl) hSS (fun hHeld => ?_)
    refine takeN (i := 0) (v := ?va0) rfl (by kernel_rfl) (by kernel_rfl) (by kernel_rfl) (fun _ _ _ h => h) (Or.inl ⟨by rfl, ?ya0⟩) hSS ?ra0
    case ya0 => (intro w hSw; (try dsimp only at hSw); go_simp; first | done | with_reducible rfl)
    try simp only [Act.put, List.setIfInBounds_toArray, List.set_cons_zero, List.set_cons_succ]
    refine takeN (i := 2) (v := ?va2) rfl (by kernel_rfl) (by kernel_rfl) (by kernel_rfl) (fun _ _ _ h => h) (Or.inl ⟨by rfl, ?ya2⟩) hSS ?ra2
    case ya2 => (intro w hSw; (try dsimp only at hSw); go_simp; first | done | with_reducible rfl)
    try simp only [Act.put, List.setIfInBounds_toArray, List.set_cons_zero, List.set_cons_succ]
    refine takeN (i := 3) (v := ?va3) rfl (by kernel_rfl) (by kernel_rfl) (by kernel_rfl) (fun _ _ _ h => h) (Or.inl ⟨by rfl, ?ya3⟩) hSS ?ra3
    case ya3 => (intro w hSw; (try dsimp only at hSw); go_simp; first | done | with_reducible rfl)
    try simp only [Act.put, List.setIfInBounds_toArray, List.set_cons_zero, List.set_cons_succ]
    refine takeN (i := 4) (v := ?va4) rfl (by kernel_rfl) (by kernel_rfl) (by kernel_rfl) (fun _ _ _ h => h) (Or.inl ⟨by rfl, ?ya4⟩) hSS ?ra4
    case ya4 => (intro w hSw; (try dsimp only at hSw); go_simp; first | done | with_reducible rfl)
    try simp only [Act.put, List.setIfInBounds_toArray, List.set_cons_zero, List.set_cons_succ]
    refine takeN (i := 5) (v := ?va5) rfl (by kernel_rfl) (by kernel_rfl) (by kernel_rfl) (fun _ _ _ h => h) (Or.inl ⟨by rfl, ?ya5⟩) hSS ?ra5
    case ya5 => (intro w hSw; (try dsimp only at hSw); go_simp; first | done | with_reducible rfl)
    try simp only [Act.put, List.setIfInBounds_toArray, List.set_cons_zero, List.set_cons_succ]
    refine readyN (rs := [1]) (by kernel_rfl) (by simp) (consN rfl (fun K hK => ?_) nilN)
    refine step_callsG (by rfl) 19 _ _ rfl enters_lnodes _ #[.pointer (some ⟨p, 0, none⟩)] (by simp [Act.eval]) (HNO.out _ hSS.1) ?_; rintro e wa ⟨a3, c3, rfl, hoA, hcA, -⟩; refine ⟨_, rfl, ?_⟩
    have hSA := HS.out wa (hSS.1.trans hcA)
    have HOA := Lib.hid hoA
    clear hoA hcA
    refine hK.out _ _ hSA (fun hHeld => ?_)
    clear hK K hHeld
    try simp only [Act.put, List.setIfInBounds_toArray, List.set_cons_zero, List.set_cons_succ]
    refine readyN (rs := [6]) (by kernel_rfl) (by simp) (consN rfl (fun K hK => ?_) nilN)
    refine step_callsG (by rfl) 27 _ _ rfl enters_lsame _ #[.slice a3 nn c3, .slice so nn sc] (by simp [Act.eval]) (HSA.out _ _ _ hSA.1 HOA.out) ?_; rintro e wb ⟨rfl, hcB⟩; refine ⟨_, rfl, ?_⟩
    have hSB := HS.out wb (hSA.1.trans hcB)
    clear hcB
    refine hK.out _ _ hSB (fun hHeld => ?_)
    clear hK K hHeld
    try simp only [Act.put, List.setIfInBounds_toArray, List.set_cons_zero, List.set_cons_succ]
    refine takeN (i := 7) (v := ?va7) rfl (by kernel_rfl) (by kernel_rfl) (by kernel_rfl) (fun _ _ _ h => h) (Or.inl ⟨by rfl, ?ya7⟩) hSB ?ra7
    case ya7 => (intro w hSw; (try dsimp only at hSw); go_simp; first | done | with_reducible rfl)
    try simp only [Act.put, List.setIfInBounds_toArray, List.set_cons_zero, List.set_cons_succ]
    refine takeN (i := 8) (v := ?va8) rfl (by kernel_rfl) (by kernel_rfl) (by kernel_rfl) (fun _ _ _ h => h) (Or.inl ⟨by rfl, ?ya8⟩) hSB ?ra8
    case ya8 => (intro w hSw; (try dsimp only at hSw); go_simp; first | done | with_reducible rfl)
    try simp only [Act.put, List.setIfInBounds_toArray, List.set_cons_zero, List.set_cons_succ]
    refine takeN (i := 9) (v := ?va9) rfl (by kernel_rfl) (by kernel_rfl) (by kernel_rfl) (fun _ _ _ h => h) (Or.inl ⟨by rfl, ?ya9⟩) hSB ?ra9
    case ya9 => (intro w hSw; (try dsimp only at hSw); go_simp; first | done | with_reducible rfl)
    try simp only [Act.put, List.setIfInBounds_toArray, List.set_cons_zero, List.set_cons_succ]
    refine takeN (i := 10) (v := ?va10) rfl (by kernel_rfl) (by kernel_rfl) (by kernel_rfl) (fun _ _ _ h => h) (Or.inl ⟨by rfl, ?ya10⟩) hSB ?ra10
    case ya10 => (intro w hSw; (try dsimp only at hSw); go_simp; first | done | with_reducible rfl)
    try simp only [Act.put, List.setIfInBounds_toArray, List.set_cons_zero, List.set_cons_succ]
    refine takeN (i := 11) (v := ?va11) rfl (by kernel_rfl) (by kernel_rfl) (by kernel_rfl) (fun _ _ _ h => h) (Or.inl ⟨by rfl, ?ya11⟩) hSB ?ra11
    case ya11 => (intro w hSw; (try dsimp only at hSw); go_simp; first | done | with_reducible rfl)
    try simp only [Act.put, List.setIfInBounds_toArray, List.set_cons_zero, List.set_cons_succ]
    refine takeN (i := 12) (v := ?va12) rfl (by kernel_rfl) (by kernel_rfl) (by kernel_rfl) (fun _ _ _ h => h) (Or.inl ⟨by rfl, ?ya12⟩) hSB ?ra12
    case ya12 => (intro w hSw; (try dsimp only at hSw); go_simp; first | done | with_reducible rfl)
    try simp only [Act.put, List.setIfInBounds_toArray, List.set_cons_zero, List.set_cons_succ]
    refine takeN (i := 13) (v := ?va13) rfl (by kernel_rfl) (by kernel_rfl) (by kernel_rfl) (fun _ _ _ h => h) (Or.inl ⟨by rfl, ?ya13⟩) hSB ?ra13
    case ya13 => (intro w hSw; (try dsimp only at hSw); go_simp; first | done | with_reducible rfl)
    try simp only [Act.put, List.setIfInBounds_toArray, List.set_cons_zero, List.set_cons_succ]
    refine takeN (i := 14) (v := ?va14) rfl (by kernel_rfl) (by kernel_rfl) (by kernel_rfl) (fun _ _ _ h => h) (Or.inl ⟨by rfl, ?ya14⟩) hSB ?ra14
    case ya14 => (intro w hSw; (try dsimp only at hSw); go_simp; first | done | with_reducible rfl)
    try simp only [Act.put, List.setIfInBounds_toArray, List.set_cons_zero, List.set_cons_succ]
    refine takeN (i := 15) (v := ?va15) rfl (by kernel_rfl) (by kernel_rfl) (by kernel_rfl) (fun _ _ _ h => h) (Or.inl ⟨by rfl, ?ya15⟩) hSB ?ra15
    case ya15 => (intro w hSw; (try dsimp only at hSw); go_simp; first | done | with_reducible rfl)
    try simp only [Act.put, List.setIfInBounds_toArray, List.set_cons_zero, List.set_cons_succ]
    refine takeN (i := 16) (v := ?va16) rfl (by kernel_rfl) (by kernel_rfl) (by kernel_rfl) (fun _ _ _ h => h) (Or.inl ⟨by rfl, ?ya16⟩) hSB ?ra16
    case ya16 => (intro w hSw; (try dsimp only at hSw); go_simp; first | done | with_reducible rfl)
    try simp only [Act.put, List.setIfInBounds_toArray, List.set_cons_zero, List.set_cons_succ]
    refine takeN (i := 17) (v := ?va17) rfl (by kernel_rfl) (by kernel_rfl) (by kernel_rfl) (fun _ _ _ h => h) (Or.inl ⟨by rfl, ?ya17⟩) hSB ?ra17
    case ya17 => (intro w hSw; (try dsimp only at hSw); go_simp; first | done | with_reducible rfl)
    try simp only [Act.put, List.setIfInBounds_toArray, List.set_cons_zero, List.set_cons_succ]
    refine takeN (i := 18) (v := ?va18) rfl (by kernel_rfl) (by kernel_rfl) (by kernel_rfl) (fun _ _ _ h => h) (Or.inl ⟨by rfl, ?ya18⟩) hSB ?ra18
    case ya18 => (intro w hSw; (try dsimp only at hSw); go_simp; first | done | with_reducible rfl)
    try simp only [Act.put, List.setIfInBounds_toArray, List.set_cons_zero, List.set_cons_succ]
    refine takeN (i := 19) (v := ?va19) rfl (by kernel_rfl) (by kernel_rfl) (by kernel_rfl) (fun _ _ _ h => h) (Or.inl ⟨by rfl, ?ya19⟩) hSB ?ra19
    case ya19 => (intro w hSw; (try dsimp only at hSw); go_simp; first | done | with_reducible rfl)
    try simp only [Act.put, List.setIfInBounds_toArray, List.set_cons_zero, List.set_cons_succ]
    refine takeN (i := 20) (v := ?va20) rfl (by kernel_rfl) (by kernel_rfl) (by kernel_rfl) (fun _ _ _ h => h) (Or.inl ⟨by rfl, ?ya20⟩) hSB ?ra20
    case ya20 => (intro w hSw; (try dsimp only at hSw); go_simp; first | done | with_reducible rfl)
    try simp only [Act.put, List.setIfInBounds_toArray, List.set_cons_zero, List.set_cons_succ]
    refine takeN (i := 21) (v := ?va21) rfl (by kernel_rfl) (by kernel_rfl) (by kernel_rfl) (fun _ _ _ h => h) (Or.inl ⟨by rfl, ?ya21⟩) hSB ?ra21
    case ya21 => (intro w hSw; (try dsimp only at hSw); go_simp; first | done | with_reducible rfl)
    try simp only [Act.put, List.setIfInBounds_toArray, List.set_cons_zero, List.set_cons_succ]
    refine takeN (i := 22) (v := ?va22) rfl (by kernel_rfl) (by kernel_rfl) (by kernel_rfl) (fun _ _ _ h => h) (Or.inl ⟨by rfl, ?ya22⟩) hSB ?ra22
    case ya22 => (intro w hSw; (try dsimp only at hSw); go_simp; first | done | with_reducible rfl)
    try simp only [Act.put, List.setIfInBounds_toArray, List.set_cons_zero, List.set_cons_succ]
    refine takeN (i := 23) (v := ?va23) rfl (by kernel_rfl) (by kernel_rfl) (by kernel_rfl) (fun _ _ _ h => h) (Or.inl ⟨by rfl, ?ya23⟩) hSB ?ra23
    case ya23 => (intro w hSw; (try dsimp only at hSw); go_simp; first | done | with_reducible rfl)
    try simp only [Act.put, List.setIfInBounds_toArray, List.set_cons_zero, List.set_cons_succ]
    refine takeN (i := 24) (v := ?va24) rfl (by kernel_rfl) (by kernel_rfl) (by kernel_rfl) (fun _ _ _ h => h) (Or.inl ⟨by rfl, ?ya24⟩) hSB ?ra24
    case ya24 => (intro w hSw; (try dsimp only at hSw); go_simp; first | done | with_reducible rfl)
    try simp only [Act.put, List.setIfInBounds_toArray, List.set_cons_zero, List.set_cons_succ]
    refine takeN (i := 25) (v := ?va25) rfl (by kernel_rfl) (by kernel_rfl) (by kernel_rfl) (fun _ _ _ h => h) (Or.inl ⟨by rfl, ?ya25⟩) hSB ?ra25
    case ya25 => (intro w hSw; (try dsimp only at hSw); go_simp; first | done | with_reducible rfl)
    try simp only [Act.put, List.setIfInBounds_toArray, List.set_cons_zero, List.set_cons_succ]
    refine takeN (i := 26) (v := ?va26) rfl (by kernel_rfl) (by kernel_rfl) (by kernel_rfl) (fun _ _ _ h => h) (Or.inl ⟨by rfl, ?ya26⟩) hSB ?ra26
    case ya26 => (intro w hSw; (try dsimp only at hSw); go_simp; first | done | with_reducible rfl)
    try simp only [Act.put, List.setIfInBounds_toArray, List.set_cons_zero, List.set_cons_succ]
    refine takeN (i := 27) (v := ?va27) rfl (by kernel_rfl) (by kernel_rfl) (by kernel_rfl) (fun _ _ _ h => h) (Or.inl ⟨by rfl, ?ya27⟩) hSB ?ra27
    case ya27 => (intro w hSw; (try dsimp only at hSw); go_simp; first | done | with_reducible rfl)
    try simp only [Act.put, List.setIfInBounds_toArray, List.set_cons_zero, List.set_cons_succ]
    refine takeN (i := 28) (v := ?va28) rfl (by kernel_rfl) (by kernel_rfl) (by kernel_rfl) (fun _ _ _ h => h) (Or.inl ⟨by rfl, ?ya28⟩) hSB ?ra28
    case ya28 => (intro w hSw; (try dsimp only at hSw); go_simp; first | done | with_reducible rfl)
    try simp only [Act.put, List.setIfInBounds_toArray, List.set_cons_zero, List.set_cons_succ]
    refine takeN (i := 29) (v := ?va29) rfl (by kernel_rfl) (by kernel_rfl) (by kernel_rfl) (fun _ _ _ h => h) (Or.inl ⟨by rfl, ?ya29⟩) hSB ?ra29
    case ya29 => (intro w hSw; (try dsimp only at hSw); go_simp; first | done | with_reducible rfl)
    try simp only [Act.put, List.setIfInBounds_toArray, List.set_cons_zero, List.set_cons_succ]
    refine takeN (i := 30) (v := ?va30) rfl (by kernel_rfl) (by kernel_rfl) (by kernel_rfl) (fun _ _ _ h => h) (Or.inl ⟨by rfl, ?ya30⟩) hSB ?ra30
    case ya30 => (intro w hSw; (try dsimp only at hSw); go_simp; first | done | with_reducible rfl)
    try simp only [Act.put, List.setIfInBounds_toArray, List.set_cons_zero, List.set_cons_succ]
    refine takeN (i := 31) (v := ?va31) rfl (by kernel_rfl) (by kernel_rfl) (by kernel_rfl) (fun _ _ _ h => h) (Or.inl ⟨by rfl, ?ya31⟩) hSB ?ra31
    case ya31 => (intro w hSw; (try dsimp only at hSw); go_simp; first | done | with_reducible rfl)
    try simp only [Act.put, List.setIfInBounds_toArray, List.set_cons_zero, List.set_cons_succ]
    refine takeN (i := 32) (v := ?va32) rfl (by kernel_rfl) (by kernel_rfl) (by kernel_rfl) (fun _ _ _ h => h) (Or.inl ⟨by rfl, ?ya32⟩) hSB ?ra32
    case ya32 => (intro w hSw; (try dsimp only at hSw); go_simp; first | done | with_reducible rfl)
    try simp only [Act.put, List.setIfInBounds_toArray, List.set_cons_zero, List.set_cons_succ]
    refine takeN (i := 33) (v := ?va33) rfl (by kernel_rfl) (by kernel_rfl) (by kernel_rfl) (fun _ _ _ h => h) (Or.inl ⟨by rfl, ?ya33⟩) hSB ?ra33
    case ya33 => (intro w hSw; (try dsimp only at hSw); go_simp; first | done | with_reducible rfl)
    try simp only [Act.put, List.setIfInBounds_toArray, List.set_cons_zero, List.set_cons_succ]
    refine takeN (i := 34) (v := ?va34) rfl (by kernel_rfl) (by kernel_rfl) (by kernel_rfl) (fun _ _ _ h => h) (Or.inl ⟨by rfl, ?ya34⟩) hSB ?ra34
    case ya34 => (intro w hSw; (try dsimp only at hSw); go_simp; first | done | with_reducible rfl)
    try simp only [Act.put, List.setIfInBounds_toArray, List.set_cons_zero, List.set_cons_succ]
    refine takeN (i := 35) (v := ?va35) rfl (by kernel_rfl) (by kernel_rfl) (by kernel_rfl) (fun _ _ _ h => h) (Or.inl ⟨by rfl, ?ya35⟩) hSB ?ra35
    case ya35 => (intro w hSw; (try dsimp only at hSw); go_simp; first | done | with_reducible rfl)
    try simp only [Act.put, List.setIfInBounds_toArray, List.set_cons_zero, List.set_cons_succ]
    refine takeN (i := 36) (v := ?va36) rfl (by kernel_rfl) (by kernel_rfl) (by kernel_rfl) (fun _ _ _ h => h) (Or.inl ⟨by rfl, ?ya36⟩) hSB ?ra36
    case ya36 => (intro w hSw; (try dsimp only at hSw); go_simp; first | done | with_reducible rfl)
    try simp only [Act.put, List.setIfInBounds_toArray, List.set_cons_zero, List.set_cons_succ]
    refine takeN (i := 37) (v := ?va37) rfl (by kernel_rfl) (by kernel_rfl) (by kernel_rfl) (fun _ _ _ h => h) (Or.inl ⟨by rfl, ?ya37⟩) hSB ?ra37
    case ya37 => (intro w hSw; (try dsimp only at hSw); go_simp; first | done | with_reducible rfl)
    try simp only [Act.put, List.setIfInBounds_toArray, List.set_cons_zero, List.set_cons_succ]
    refine takeN (i := 38) (v := ?va38) rfl (by kernel_rfl) (by kernel_rfl) (by kernel_rfl) (fun _ _ _ h => h) (Or.inl ⟨by rfl, ?ya38⟩) hSB ?ra38
    case ya38 => (intro w hSw; (try dsimp only at hSw); go_simp; first | done | with_reducible rfl)
    try simp only [Act.put, List.setIfInBounds_toArray, List.set_cons_zero, List.set_cons_succ]
    refine takeN (i := 39) (v := ?va39) rfl (by kernel_rfl) (by kernel_rfl) (by kernel_rfl) (fun _ _ _ h => h) (Or.inl ⟨by rfl, ?ya39⟩) hSB ?ra39
    case ya39 => (intro w hSw; (try dsimp only at hSw); go_simp; first | done | with_reducible rfl)
    try simp only [Act.put, List.setIfInBounds_toArray, List.set_cons_zero, List.set_cons_succ]
    refine takeN (i := 40) (v := ?va40) rfl (by kernel_rfl) (by kernel_rfl) (by kernel_rfl) (fun _ _ _ h => h) (Or.inl ⟨by rfl, ?ya40⟩) hSB ?ra40
    case ya40 => (intro w hSw; (try dsimp only at hSw); go_simp; first | done | with_reducible rfl)
    try simp only [Act.put, List.setIfInBounds_toArray, List.set_cons_zero, List.set_cons_succ]
    refine takeN (i := 41) (v := ?va41) rfl (by kernel_rfl) (by kernel_rfl) (by kernel_rfl) (fun _ _ _ h => h) (Or.inl ⟨by rfl, ?ya41⟩) hSB ?ra41
    case ya41 => (intro w hSw; (try dsimp only at hSw); go_simp; first | done | with_reducible rfl)
    try simp only [Act.put, List.setIfInBounds_toArray, List.set_cons_zero, List.set_cons_succ]
    refine takeN (i := 42) (v := ?va42) rfl (by kernel_rfl) (by kernel_rfl) (by kernel_rfl) (fun _ _ _ h => h) (Or.inl ⟨by rfl, ?ya42⟩) hSB ?ra42
    case ya42 => (intro w hSw; (try dsimp only at hSw); go_simp; first | done | with_reducible rfl)
    try simp only [Act.put, List.setIfInBounds_toArray, List.set_cons_zero, List.set_cons_succ]
    refine takeN (i := 43) (v := ?va43) rfl (by kernel_rfl) (by kernel_rfl) (by kernel_rfl) (fun _ _ _ h => h) (Or.inl ⟨by rfl, ?ya43⟩) hSB ?ra43
    case ya43 => (intro w hSw; (try dsimp only at hSw); go_simp; first | done | with_reducible rfl)
    try simp only [Act.put, List.setIfInBounds_toArray, List.set_cons_zero, List.set_cons_succ]
    refine takeN (i := 45) (v := ?va45) rfl (by kernel_rfl) (by kernel_rfl) (by kernel_rfl) (fun _ _ _ h => h) (Or.inl ⟨by rfl, ?ya45⟩) hSB ?ra45
    case ya45 => (intro w hSw; (try dsimp only at hSw); go_simp; first | done | with_reducible rfl)
    try simp only [Act.put, List.setIfInBounds_toArray, List.set_cons_zero, List.set_cons_succ]
    refine readyN (rs := [44]) (by kernel_rfl) (by simp) (consN rfl (fun K hK => ?_) nilN)
    refine step_callsG (by rfl) 15 _ _ rfl enters_ftotal _ #[.pointer (some ⟨p, 0, none⟩)] (by simp [Act.eval]) (HTO.out _ hSB.1) ?_; rintro e w' ⟨rfl, rfl⟩; refine ⟨_, rfl, ?_⟩
    refine hK.out _ _ hSB (fun hHeld => ?_)
    clear hK K hHeld
    try simp only [Act.put, List.setIfInBounds_toArray, List.set_cons_zero, List.set_cons_succ]
    refine takeN (i := 46) (v := ?va46) rfl (by kernel_rfl) (by kernel_rfl) (by kernel_rfl) (fun _ _ _ h => h) (Or.inl ⟨by rfl, ?ya46⟩) hSB ?ra46
    case ya46 => (intro w hSw; (try dsimp only at hSw); go_simp; first | done | with_reducible rfl)
    try simp only [Act.put, List.setIfInBounds_toArray, List.set_cons_zero, List.set_cons_succ]
    refine takeN (i := 47) (v := ?va47) rfl (by kernel_rfl) (by kernel_rfl) (by kernel_rfl) (fun _ _ _ h => h) (Or.inl ⟨by rfl, ?ya47⟩) hSB ?ra47
    case ya47 => (intro w hSw; (try dsimp only at hSw); go_simp; first | done | with_reducible rfl)
    try simp only [Act.put, List.setIfInBounds_toArray, List.set_cons_zero, List.set_cons_succ]
    refine takeN (i := 48) (v := ?va48) rfl (by kernel_rfl) (by kernel_rfl) (by kernel_rfl) (fun _ _ _ h => h) (Or.inl ⟨by rfl, ?ya48⟩) hSB ?ra48
    case ya48 => (intro w hSw; (try dsimp only at hSw); go_simp; first | done | with_reducible rfl)
    try simp only [Act.put, List.setIfInBounds_toArray, List.set_cons_zero, List.set_cons_succ]
    refine doneN (by kernel_rfl) ?_ _
    have HEND := Lib.hid (HC2.out.trans hSB.1)
    clear hSS hSA hSB HS
    go_wp2_with fail
    go_ret
    first | exact ⟨rfl, HEND.out⟩ | exact ⟨by simp, HEND.out⟩
end Go.Proofs.Ytgnbabkafobeoaa
