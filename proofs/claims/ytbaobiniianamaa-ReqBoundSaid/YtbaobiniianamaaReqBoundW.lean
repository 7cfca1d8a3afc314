/-
  The walk of the law ReqBound. Conditions: the form's own reach.
-/
import Derived.Test.YtbaobiniianamaaReqLowW
import Derived.Test.YtbaobiniianamaaStepCallG
namespace Go.Proofs.Ytbaobiniianamaa
open Go.RowKit

theorem enters_total : ∀ (args : Array Value) (w : World), (callFunc 28 args).run Try.prog w = .ok (.enter 28 args) w := enters_of Try.func28 (by kernel_rfl) rfl
theorem enters_rows : ∀ (args : Array Value) (w : World), (callFunc 27 args).run Try.prog w = .ok (.enter 27 args) w := enters_of Try.func27 (by kernel_rfl) rfl
theorem enters_rank : ∀ (args : Array Value) (w : World), (callFunc 23 args).run Try.prog w = .ok (.enter 23 args) w := enters_of Try.func23 (by kernel_rfl) rfl
theorem TwD.tells_near {D : TwD} {x : Int} {m W word n : Nat} (hW : W % 4 = 0) (hd : D.fine W word n) (h : D.tells x m) : (max (rankR x D.rows) m - min (rankR x D.rows) m) * W ≤ 2 * n * D.rows.length := by
  obtain ⟨h1, h2⟩ := h.2
  have h3 := aboveR_le D.rows
  rw [hd.sum] at h3
  rw [hd.W_eq] at h1 h2
  have h4 : (D.rows.length - 1) * n ≤ D.rows.length * n := Nat.mul_le_mul_right _ (by omega)
  have e1 : W = 2 * (W / 2) := by omega
  have e2 : 2 * n * D.rows.length = 2 * (D.rows.length * n) := by rw [Nat.mul_assoc, Nat.mul_comm n]
  rw [e2]
  have key : (max (rankR x D.rows) m - min (rankR x D.rows) m) * (W / 2) ≤ D.rows.length * n := by
    rcases Nat.le_total (rankR x D.rows) m with h5 | h5
    · rw [Nat.max_eq_right h5, Nat.min_eq_left h5, Nat.sub_mul]; omega
    · rw [Nat.max_eq_left h5, Nat.min_eq_right h5, Nat.sub_mul]; omega
  calc _ = (max (rankR x D.rows) m - min (rankR x D.rows) m) * (2 * (W / 2)) := by rw [← e1]
    _ = 2 * ((max (rankR x D.rows) m - min (rankR x D.rows) m) * (W / 2)) := by rw [Nat.mul_left_comm]
    _ ≤ _ := by omega

set_option maxRecDepth 100000 in
set_option maxHeartbeats 4000000 in
set_option linter.unusedSimpArgs false in
theorem law_ReqBound (w : World) (W : Int) (word : Nat) (hword : word < 18446744073709551616) (ao : Option Addr) (ca : Nat) (a : List Vl) (hra : Rd w 2 (.slice ao a.length ca) a.length (vlCells a)) (hla : a.length ≤ 140737488351232) (hka : ∀ i ∈ a, i.ok)
    (bo : Option Addr) (cb : Nat) (b : List Vl) (hrb : Rd w 2 (.slice bo b.length cb) b.length (vlCells b)) (hlb : b.length ≤ 140737488351232) (hkb : ∀ i ∈ b, i.ok) (x : Int) (_hx1 : -9223372036854775808 ≤ x) (_hx2 : x < 9223372036854775808) :
    Calls Try.prog 9 #[.agg #[.int .i64 W, .int .u64 word], .slice ao a.length ca, .slice bo b.length cb, .int .i64 x] w fun e w' => e = .returned (.bool true) ∧ Chg [] w w' := by
  have HAL := Lib.hid law21_alive
  have hB0 := Blk.alloc_new w #[.int .i64 W, .int .u64 word] 37
  have hC0 := (Chg.refl [] w).alloc (.cells #[.int .i64 W, .int .u64 word] 37)
  have HKA := Lib.hid hka
  have HKB := Lib.hid hkb
  have HRA := Lib.hid hra
  have HRB := Lib.hid hrb
  obtain ⟨n, hn⟩ : ∃ n, n = a.length := ⟨_, rfl⟩
  obtain ⟨m, hm⟩ : ∃ m, m = b.length := ⟨_, rfl⟩
  rw [← hn] at HRA hla ⊢
  rw [← hm] at HRB hlb ⊢
  have HN := Lib.hid hn
  have HM := Lib.hid hm
  clear hka hkb hra hrb hn hm
  go_enter Try.func9, Try.ntmps9
  go_wp2_with fail
  refine (HAL.out _).mono ?_
  rintro e w1 ⟨rfl, hc1⟩
  obtain ⟨b0, hb0⟩ : ∃ z, z = w.heap.size := ⟨_, rfl⟩
  have hB1 := hB0.chg hc1 (by simp)
  have HC1 := Lib.hid (hC0.trans' hc1 (by simp))
  rw [← hb0] at hB1 ⊢
  have x0 := hB1.cell 0
  have x1 := hB1.cell 1
  simp only [List.getElem?_toArray, List.getElem?_cons_zero, List.getElem?_cons_succ] at x0 x1
  have HB1 := Lib.hid hB1
  have HBL := Lib.hid hB1.lt
  clear hB0 hC0 hc1 HAL hb0 hB1
  have HBA := Lib.hid (law21_build w1 W word hword ao ca n a HN.out (HRA.out.chg HC1.out (by simp)) hla (fun v hv => by have := (HKA.out v hv).2.1; omega) (fun v hv => (HKA.out v hv).2.2))
  have HBB := Lib.hid (fun u (hu : Chg [] w1 u) => law21_build u W word hword bo cb m b HM.out ((HRB.out.chg HC1.out (by simp)).chg hu (by simp)) hlb (fun v hv => by have := (HKB.out v hv).2.1; omega) (fun v hv => (HKB.out v hv).2.2))
  go_wp2_with fail
  refine HBA.out.mono ?_
  rintro e w2 (⟨hbad, rfl, hc2⟩ | ⟨hok, p, tp, rv, vs, q, qv, qs, rfl, ht2, hq2, hc2, hf2, hg2, hd2⟩)
  · have hB2 := HB1.out.chg hc2 (by simp)
    have x0 := hB2.cell 0
    have x1 := hB2.cell 1
    simp only [List.getElem?_toArray, List.getElem?_cons_zero, List.getElem?_cons_succ] at x0 x1
    go_wp2_with fail
    refine (HBB.out _ hc2).mono ?_
    rintro e w3 (⟨-, rfl, hc3⟩ | ⟨-, p3, tp3, rv3, vs3, q3, qv3, qs3, rfl, -, -, hc3, -, -, -⟩)
    · go_wp2
      go_ret
      exact ⟨rfl, (HC1.out.trans hc2).trans hc3⟩
    · go_wp2
      go_ret
      exact ⟨rfl, (HC1.out.trans hc2).trans hc3⟩
  · have hB2 := HB1.out.chg hc2 (by simp)
    have HT2 := Lib.hid ht2
    have HC2 := Lib.hid hc2
    have x0 := hB2.cell 0
    have x1 := hB2.cell 1
    simp only [List.getElem?_toArray, List.getElem?_cons_zero, List.getElem?_cons_succ] at x0 x1
    have HB2 := Lib.hid hB2
    have HBX := Lib.hid (show ∀ b ∈ fp p tp rv vs, b0 < b from fun b hb => Nat.lt_of_lt_of_le HBL.out (hf2 b hb))
    have HFP := Lib.hid (show ∀ b ∈ fp p tp rv vs, w.heap.size ≤ b from fun b hb => Nat.le_trans HC1.out.size (hf2 b hb))
    clear ht2 hq2 hc2 hB2 hd2 hg2 hf2
    go_wp2_with fail
    refine (HBB.out _ HC2.out).mono ?_
    rintro e w3 (⟨-, rfl, hc3⟩ | ⟨hok3, p3, tp3, rv3, vs3, q3, qv3, qs3, rfl, ht3, hq3, hc3, hf3, hg3, hd3⟩)
    · go_wp2
      go_ret
      exact ⟨rfl, (HC1.out.trans HC2.out).trans hc3⟩
    · obtain ⟨Wn, rfl, g1, g2, g4, hsa, ea, hoa⟩ := valsD_ok (word := word) hok HKA.out
      obtain ⟨hsb, hob⟩ := valsD_ok2 (word := word) hok3 g1 HKB.out
      have HT2 := Lib.hid (show Tow w2 p tp rv vs (valsD Wn word a) from HT2.out)
      have ht3 : Tow w3 p3 tp3 rv3 vs3 (valsD Wn word b) := ht3
      have hob : (valsD Wn word b).ok Wn word (sumS b) := hob
      have HTA := Lib.hid (valsD_tells (word := word) x g1 g4 HKA.out)
      have HTB := Lib.hid (valsD_tells (word := word) x g1 g4 HKB.out)
      obtain ⟨D, hD⟩ : ∃ D, D = valsD Wn word a := ⟨_, rfl⟩
      obtain ⟨O, hO⟩ : ∃ O, O = valsD Wn word b := ⟨_, rfl⟩
      rw [← hD] at HT2 HTA hoa
      rw [← hO] at ht3 HTB hob
      clear hD hO ea hok hok3 hq3 hg3 hd3
      have HFA := Lib.hid hoa.fine
      have HFB := Lib.hid hob.fine
      have hus := hoa.fit.2.2
      have HDIS := Lib.hid (show ∀ b ∈ fp p tp rv vs, b ∉ fp p3 tp3 rv3 vs3 from fun b hb hb2 => by
        have h1 := HT2.out.lt b hb
        have h2 := hf3 b hb2
        omega)
      have HT3 := Lib.hid (HT2.out.chg hc3 (by simp))
      have HO3 := Lib.hid ht3
      have HC3 := Lib.hid ((HC1.out.trans HC2.out).trans hc3)
      have hB3 := HB2.out.chg hc3 (by simp)
      have x0' := hB3.cell 0
      have x1' := hB3.cell 1
      simp only [List.getElem?_toArray, List.getElem?_cons_zero, List.getElem?_cons_succ] at x0' x1'
      have HB3 := Lib.hid hB3
      obtain ⟨U, hU⟩ : ∃ U, U = upS x a := ⟨_, rfl⟩
      obtain ⟨V, hV⟩ : ∃ V, V = upS x b := ⟨_, rfl⟩
      have hU2 : U ≤ 200 := by have := upS_le x a; omega
      have hV2 : V ≤ 200 := by have := upS_le x b; omega
      have HUA := Lib.hid (fun u (hu : Chg [] w u) => ref13_up u ao ca n a HN.out (HRA.out.chg hu (by simp)) hla (by omega) x U hU)
      have HUB := Lib.hid (fun u (hu : Chg [] w u) => ref13_up u bo cb m b HM.out (HRB.out.chg hu (by simp)) hlb (by omega) x V hV)
      rw [← hU] at HTA
      rw [← hV] at HTB
      have HWU := Lib.hid (show IntKind.u64.wrap (Wn : Int) = (Wn : Int) from by rw [IntKind.wrap_u64]; omega)
      clear HBA HBB HT2 hc3 hf3 ht3 hB3 x0 x1 HB1 HB2 hoa hob hU hV x0' x1'
      have HJN := Lib.hid (req_joinZ w3 p tp rv vs D HT3.out p3 tp3 rv3 vs3 O HO3.out HDIS.out Wn word word _ _ HFA.out HFB.out g1 g2 hword (by omega) (by omega) (by omega))
      obtain ⟨J, hJ⟩ : ∃ J, J = D.joinZ O := ⟨_, rfl⟩
      rw [← hJ] at HJN
      have HFJ := Lib.hid (show J.fine Wn word (sumS a + sumS b) from hJ ▸ TwD.joinZ_fine g1 HFA.out HFB.out)
      have HTJ := Lib.hid (show J.tells x (U + V) from hJ ▸ TwD.joinZ_tells g1 g4 HFA.out HFB.out HTA.out HTB.out)
      obtain ⟨T, hT⟩ : ∃ T, T = sumS a + sumS b := ⟨_, rfl⟩
      rw [← hT] at HFJ
      have hT4 : T ≤ 400 := by omega
      clear hJ hT HFA HFB HTA HTB HT3 HO3
      go_wp2_with fail
      refine HJN.out.mono ?_
      rintro e w5 ⟨rfl, rv5, vs5, ht5, hm5⟩
      have HC5 := Lib.hid (HC3.out.trans' hm5.chg (fun b hb => .inr (HFP.out b hb)))
      have HT5 := Lib.hid ht5
      have hB5 := HB3.out.chg hm5.chg (fun e => by have h1 := HFP.out _ e; have h2 := HBX.out _ e; omega)
      have HB5 := Lib.hid hB5
      clear ht5 hm5 hB5 HJN
      have HL8 := HFJ.out.few8 (by omega)
      obtain ⟨R, hR⟩ : ∃ R, R = rankR x J.rows := ⟨_, rfl⟩
      have hRT : R ≤ 400 := by have := rankR_le x J.rows; rw [HFJ.out.sum] at this; omega
      have HNR := Lib.hid (TwD.tells_near g4 HFJ.out HTJ.out)
      rw [← hR] at HNR
      have HRK := Lib.hid (fun u (hu : Tow u p tp rv5 vs5 J) => req_rankF u p tp rv5 vs5 J hu HFJ.out (by omega) x R hR)
      have HRM := Lib.hid (fun u (hu : Tow u p tp rv5 vs5 J) => req_rankF u p tp rv5 vs5 J hu HFJ.out (by omega) 9223372036854775807 T (by rw [rank_all HFJ.out.low, HFJ.out.sum]))
      have HTO := Lib.hid (fun u (hu : Tow u p tp rv5 vs5 J) => req_total u p tp rv5 vs5 J hu)
      have HRW := Lib.hid (fun u (hu : Tow u p tp rv5 vs5 J) => req_rows u p tp rv5 vs5 J hu (by have := HFJ.out.flat; omega) (by omega))
      rw [HFJ.out.tot] at HTO
      obtain ⟨L, hL⟩ : ∃ L, L = J.rows.length := ⟨_, rfl⟩
      rw [← hL] at HNR HRW HL8
      clear hR hL
      go_wp2_with fail
      refine (HRK.out _ HT5.out).mono ?_
      rintro e w6 ⟨rfl, rfl⟩
      go_wp2_with fail
      refine (HUA.out _ HC5.out).mono ?_
      rintro e w6 ⟨rfl, hc6⟩
      have HC6 := Lib.hid (HC5.out.trans hc6)
      have HT6 := Lib.hid (HT5.out.chg hc6 (by simp))
      have HB6 := Lib.hid (HB5.out.chg hc6 (by simp))
      clear hc6
      go_wp2_with fail
      refine (HUB.out _ HC6.out).mono ?_
      rintro e w7 ⟨rfl, hc7⟩
      have HC7 := Lib.hid (HC6.out.trans hc7)
      have HT7 := Lib.hid (HT6.out.chg hc7 (by simp))
      have HB7 := Lib.hid (HB6.out.chg hc7 (by simp))
      clear hc7 HT6 HT5 HB6 HB5 HC6 HC5 HUA HUB
      have hcs : IntKind.u64.wrap ((U : Int) + (V : Int)) = ((U + V : Nat) : Int) := by rw [IntKind.wrap_u64]; omega
      have hM4 : U + V ≤ 400 := by omega
      obtain ⟨M, hM⟩ : ∃ M, M = U + V := ⟨_, rfl⟩
      rw [← hM] at hcs HNR hM4
      clear hM
      have hwc := HWU.out
      obtain ⟨E, hE⟩ : ∃ E, E = max R M - min R M := ⟨_, rfl⟩
      have hE4 : E ≤ 400 := by omega
      rw [← hE] at HNR
      have HEE := Lib.hid hE
      clear hE
      have HRMX := Lib.hid HRM.out
      obtain ⟨EW, hEW⟩ : ∃ EW, EW = E * Wn := ⟨_, rfl⟩
      obtain ⟨T2, hT2⟩ : ∃ T2, T2 = 2 * T := ⟨_, rfl⟩
      obtain ⟨TL, hTL⟩ : ∃ TL, TL = T2 * L := ⟨_, rfl⟩
      have hEW4 : EW ≤ 400 * 64 := by rw [hEW]; exact Nat.mul_le_mul hE4 g2
      have hTL4 : TL ≤ 800 * 8 := by rw [hTL]; exact Nat.mul_le_mul (by omega) HL8
      have hew : IntKind.u64.wrap ((E : Int) * (Wn : Int)) = (EW : Int) := by rw [← Int.natCast_mul, ← hEW, IntKind.wrap_u64]; omega
      have htt : IntKind.u64.wrap (2 * (T : Int)) = (T2 : Int) := by rw [IntKind.wrap_u64]; omega
      have htl : IntKind.u64.wrap ((T2 : Int) * (L : Int)) = (TL : Int) := by rw [← Int.natCast_mul, ← hTL, IntKind.wrap_u64]; omega
      have hll : IntKind.u64.wrap (L : Int) = (L : Int) := by rw [IntKind.wrap_u64]; omega
      have hcmp : EW ≤ TL := by rw [hEW, hTL, hT2]; exact HNR.out
      have hd1 : decide (EW ≤ TL) = true := decide_eq_true hcmp
      have hd2 : decide ((EW : Int) ≤ (TL : Int)) = true := decide_eq_true (by omega)
      have hd3 : (((T : Nat) : Int) == ((T : Nat) : Int)) = true := by simp
      have x7 : w7.cell? ⟨b0, 0, none⟩ = some (.int .i64 (Wn : Nat)) := HB7.out.cell 0
      have HEW := Lib.hid hEW
      clear hEW hTL hT2 HRM hcmp
      obtain ⟨X, hX⟩ : ∃ X, X = max R M := ⟨_, rfl⟩
      obtain ⟨Y, hY⟩ : ∃ Y, Y = min R M := ⟨_, rfl⟩
      have hmx : max (R : Int) (M : Int) = (X : Int) := by omega
      have hmn : min (R : Int) (M : Int) = (Y : Int) := by omega
      have hEe : (X : Int) - (Y : Int) = (E : Int) := by have := HEE.out; omega
      have hwE : IntKind.u64.wrap (E : Int) = (E : Int) := by rw [IntKind.wrap_u64]; omega
      clear hX hY
      go_wp2_with fail
      clear hEe hmx hmn
      refine startG (S := fun wx => wx.cell? ⟨b0, 0, none⟩ = some (.int .i64 (Wn : Nat))) (st := 21) (by kernel_rfl) x7 (fun hHeld => ?_)
      refine takeP (i := 0) (v := ?vz0) rfl (by kernel_rfl) (by kernel_rfl) (by kernel_rfl) (by decide) (fun _ _ _ h => h) (Or.inl ⟨by rfl, ?yz0⟩) (by assumption) ?rz0
      case yz0 => (intro w _; go_simp; first | done | with_reducible rfl)
      try simp only [Act.put, List.setIfInBounds_toArray, List.set_cons_zero, List.set_cons_succ]
      refine takeP (i := 1) (v := ?vz1) rfl (by kernel_rfl) (by kernel_rfl) (by kernel_rfl) (by decide) (fun _ _ _ h => h) (Or.inl ⟨by rfl, ?yz1⟩) (by assumption) ?rz1
      case yz1 => (intro w _; go_simp; first | done | with_reducible rfl)
      try simp only [Act.put, List.setIfInBounds_toArray, List.set_cons_zero, List.set_cons_succ]
      refine takeG (i := 2) (v := ?vz2) rfl (by kernel_rfl) (by kernel_rfl) (by kernel_rfl) (by decide) (by kernel_rfl) (by kernel_rfl) (fun _ _ _ h => h) (Or.inl ⟨by rfl, ?yz2⟩) (by assumption) ?rz2
      case yz2 => (intro w hSw; (try dsimp only at hSw); go_simp; first | done | with_reducible rfl)
      try simp only [Act.put, List.setIfInBounds_toArray, List.set_cons_zero, List.set_cons_succ]
      refine takeP (i := 3) (v := ?vz3) rfl (by kernel_rfl) (by kernel_rfl) (by kernel_rfl) (by decide) (fun _ _ _ h => h) (Or.inl ⟨by rfl, ?yz3⟩) (by assumption) ?rz3
      case yz3 => (intro w _; go_simp; first | done | with_reducible rfl)
      try simp only [Act.put, List.setIfInBounds_toArray, List.set_cons_zero, List.set_cons_succ]
      refine takeP (i := 4) (v := ?vz4) rfl (by kernel_rfl) (by kernel_rfl) (by kernel_rfl) (by decide) (fun _ _ _ h => h) (Or.inl ⟨by rfl, ?yz4⟩) (by assumption) ?rz4
      case yz4 => (intro w _; go_simp; first | done | with_reducible rfl)
      try simp only [Act.put, List.setIfInBounds_toArray, List.set_cons_zero, List.set_cons_succ]
      refine takeP (i := 5) (v := ?vz5) rfl (by kernel_rfl) (by kernel_rfl) (by kernel_rfl) (by decide) (fun _ _ _ h => h) (Or.inl ⟨by rfl, ?yz5⟩) (by assumption) ?rz5
      case yz5 => (intro w _; go_simp; first | done | with_reducible rfl)
      try simp only [Act.put, List.setIfInBounds_toArray, List.set_cons_zero, List.set_cons_succ]
      refine takeP (i := 8) (v := ?vz8) rfl (by kernel_rfl) (by kernel_rfl) (by kernel_rfl) (by decide) (fun _ _ _ h => h) (Or.inl ⟨by rfl, ?yz8⟩) (by assumption) ?rz8
      case yz8 => (intro w _; go_simp; first | done | with_reducible rfl)
      try simp only [Act.put, List.setIfInBounds_toArray, List.set_cons_zero, List.set_cons_succ]
      refine readyG (rs := [6]) (by kernel_rfl) (by simp) (consG rfl (fun K hK => ?_) nilG)
      refine step_calls rfl 28 _ _ rfl enters_total _ #[.pointer (some ⟨p, 0, none⟩)] (by simp [Act.eval, Act.put]) (HTO.out _ (HT7.out.chg (F := []) ((Chg.refl [] w7).drew) (by simp))) ?_; rintro e w8 ⟨rfl, rfl⟩; refine ⟨_, rfl, ?_⟩
      refine hK.out _ _ (fun _ _ => x7) (fun hHeld => ?_)
      clear hK K hHeld
      try simp only [Act.put, List.setIfInBounds_toArray, List.set_cons_zero, List.set_cons_succ]
      refine takeP (i := 7) (v := ?vz7) rfl (by kernel_rfl) (by kernel_rfl) (by kernel_rfl) (by decide) (fun _ _ _ h => h) (Or.inl ⟨by rfl, ?yz7⟩) x7 ?rz7
      case yz7 => (intro w _; go_simp; first | done | with_reducible rfl)
      try simp only [Act.put, List.setIfInBounds_toArray, List.set_cons_zero, List.set_cons_succ]
      refine readyG (rs := [9]) (by kernel_rfl) (by simp) (consG rfl (fun K hK => ?_) nilG)
      refine step_calls rfl 27 _ _ rfl enters_rows _ #[.pointer (some ⟨p, 0, none⟩)] (by simp [Act.eval, Act.put]) (HRW.out _ (HT7.out.chg (F := []) ((Chg.refl [] w7).drew) (by simp))) ?_; rintro e w8 ⟨ro8, rc8, us8, rfl, -, hc8'⟩; refine ⟨_, rfl, ?_⟩
      have hc8 : Chg [] w7 w8 := ((Chg.refl [] w7).drew).trans hc8'
      have x8 : w8.cell? ⟨b0, 0, none⟩ = some (.int .i64 (Wn : Nat)) := (HB7.out.chg hc8 (by simp)).cell 0
      have HT8 := Lib.hid (HT7.out.chg hc8 (by simp))
      refine hK.out _ _ (fun _ _ => x8) (fun hHeld => ?_)
      clear hK K hHeld
      try simp only [Act.put, List.setIfInBounds_toArray, List.set_cons_zero, List.set_cons_succ]
      refine takeP (i := 10) (v := ?vz10) rfl (by kernel_rfl) (by kernel_rfl) (by kernel_rfl) (by decide) (fun _ _ _ h => h) (Or.inl ⟨by rfl, ?yz10⟩) x8 ?rz10
      case yz10 => (intro w _; go_simp; first | done | with_reducible rfl)
      try simp only [Act.put, List.setIfInBounds_toArray, List.set_cons_zero, List.set_cons_succ]
      refine takeP (i := 11) (v := ?vz11) rfl (by kernel_rfl) (by kernel_rfl) (by kernel_rfl) (by decide) (fun _ _ _ h => h) (Or.inl ⟨by rfl, ?yz11⟩) x8 ?rz11
      case yz11 => (intro w _; go_simp; first | done | with_reducible rfl)
      try simp only [Act.put, List.setIfInBounds_toArray, List.set_cons_zero, List.set_cons_succ]
      refine takeP (i := 12) (v := ?vz12) rfl (by kernel_rfl) (by kernel_rfl) (by kernel_rfl) (by decide) (fun _ _ _ h => h) (Or.inl ⟨by rfl, ?yz12⟩) x8 ?rz12
      case yz12 => (intro w _; go_simp; first | done | with_reducible rfl)
      try simp only [Act.put, List.setIfInBounds_toArray, List.set_cons_zero, List.set_cons_succ]
      refine takeP (i := 13) (v := ?vz13) rfl (by kernel_rfl) (by kernel_rfl) (by kernel_rfl) (by decide) (fun _ _ _ h => h) (Or.inl ⟨by rfl, ?yz13⟩) x8 ?rz13
      case yz13 => (intro w _; go_simp; first | done | with_reducible rfl)
      try simp only [Act.put, List.setIfInBounds_toArray, List.set_cons_zero, List.set_cons_succ]
      refine takeP (i := 14) (v := ?vz14) rfl (by kernel_rfl) (by kernel_rfl) (by kernel_rfl) (by decide) (fun _ _ _ h => h) (Or.inl ⟨by rfl, ?yz14⟩) x8 ?rz14
      case yz14 => (intro w _; go_simp; first | done | with_reducible rfl)
      try simp only [Act.put, List.setIfInBounds_toArray, List.set_cons_zero, List.set_cons_succ]
      refine takeP (i := 15) (v := ?vz15) rfl (by kernel_rfl) (by kernel_rfl) (by kernel_rfl) (by decide) (fun _ _ _ h => h) (Or.inl ⟨by rfl, ?yz15⟩) x8 ?rz15
      case yz15 => (intro w _; go_simp; first | done | with_reducible rfl)
      try simp only [Act.put, List.setIfInBounds_toArray, List.set_cons_zero, List.set_cons_succ]
      refine takeP (i := 17) (v := ?vz17) rfl (by kernel_rfl) (by kernel_rfl) (by kernel_rfl) (by decide) (fun _ _ _ h => h) (Or.inl ⟨by rfl, ?yz17⟩) x8 ?rz17
      case yz17 => (intro w _; go_simp; first | done | with_reducible rfl)
      try simp only [Act.put, List.setIfInBounds_toArray, List.set_cons_zero, List.set_cons_succ]
      refine readyG (rs := [16]) (by kernel_rfl) (by simp) (consG rfl (fun K hK => ?_) nilG)
      refine step_callsG (by rfl) 23 _ _ rfl enters_rank _ #[.pointer (some ⟨p, 0, none⟩), .int .i64 9223372036854775807] (by simp [Act.eval, Act.put]) (HRMX.out _ HT8.out) ?_; rintro e w9 ⟨rfl, rfl⟩; refine ⟨_, rfl, ?_⟩
      refine hK.out _ _ (fun _ _ => x8) (fun hHeld => ?_)
      clear hK K hHeld
      try simp only [Act.put, List.setIfInBounds_toArray, List.set_cons_zero, List.set_cons_succ]
      refine readyG (rs := [18]) (by kernel_rfl) (by simp) (consG rfl (fun K hK => ?_) nilG)
      refine step_callsG (by rfl) 28 _ _ rfl enters_total _ #[.pointer (some ⟨p, 0, none⟩)] (by simp [Act.eval, Act.put]) (HTO.out _ HT8.out) ?_; rintro e w9 ⟨rfl, rfl⟩; refine ⟨_, rfl, ?_⟩
      refine hK.out _ _ (fun _ _ => x8) (fun hHeld => ?_)
      clear hK K hHeld
      try simp only [Act.put, List.setIfInBounds_toArray, List.set_cons_zero, List.set_cons_succ]
      refine takeP (i := 19) (v := ?vz19) rfl (by kernel_rfl) (by kernel_rfl) (by kernel_rfl) (by decide) (fun _ _ _ h => h) (Or.inl ⟨by rfl, ?yz19⟩) x8 ?rz19
      case yz19 => (intro w _; go_simp; first | done | with_reducible rfl)
      try simp only [Act.put, List.setIfInBounds_toArray, List.set_cons_zero, List.set_cons_succ]
      refine takeP (i := 20) (v := ?vz20) rfl (by kernel_rfl) (by kernel_rfl) (by kernel_rfl) (by decide) (fun _ _ _ h => h) (Or.inl ⟨by rfl, ?yz20⟩) x8 ?rz20
      case yz20 => (intro w _; go_simp; first | done | with_reducible rfl)
      try simp only [Act.put, List.setIfInBounds_toArray, List.set_cons_zero, List.set_cons_succ]
      refine readyG (rs := [21]) (by kernel_rfl) (by simp) (consG rfl (fun K hK => ?_) nilG)
      go_simp
      refine hK.out _ _ (fun h => absurd rfl h) (fun hHeld => ?_)
      clear hK K hHeld
      try simp only [Act.put, List.setIfInBounds_toArray, List.set_cons_zero, List.set_cons_succ]
      refine doneG (by kernel_rfl) ?_ _
      go_wp2
      go_ret
      exact ⟨rfl, HC7.out.trans hc8⟩
end Go.Proofs.Ytbaobiniianamaa
