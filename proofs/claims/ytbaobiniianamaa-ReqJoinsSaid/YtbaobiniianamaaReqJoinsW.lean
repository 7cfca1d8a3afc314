/-
  The walk of the law ReqJoins. Conditions: the form's own reach.
-/
import Derived.Test.YtbaobiniianamaaReqLowW
import Derived.Test.YtbaobiniianamaaReqSame
import Derived.Test.YtbaobiniianamaaReqEnds
namespace Go.Proofs.Ytbaobiniianamaa
open Go.RowKit

theorem under_vals : Try.prog.underlying 30 = some (.slice 83) := by kernel_rfl
theorem info_val : (Try.prog.info? 83).map (fun i => (i.zero, i.size, i.bytes)) = some (some (.agg #[.int .i64 0, .int .u64 0]), 2, 16) := by kernel_rfl
theorem vlCells_app (a b : List Vl) : vlCells (a ++ b) = vlCells a ++ vlCells b := by simp [vlCells]
/-- What the document's tower is behind Join. -/
theorem join_settle (D O : TwD) : ((D.join O).used, (D.join O).rows) = settle D.W (coinB D.word) (D.used, joinR D.rows O.rows) := by
  obtain ⟨e1, e2, -, -, e5⟩ := D.ends_same O.least O.most
  show settle (D.ends O.least O.most).W (coinB (D.ends O.least O.most).word) ((D.ends O.least O.most).used, joinR D.rows O.rows) = _
  rw [e1, e2, e5]

set_option maxRecDepth 100000 in
set_option maxHeartbeats 4000000 in
theorem law_ReqJoins (w : World) (W : Int) (word : Nat) (hword : word < 18446744073709551616) (ao : Option Addr) (ca : Nat) (a : List Vl) (hra : Rd w 2 (.slice ao a.length ca) a.length (vlCells a)) (hla : a.length ≤ 140737488351232) (hka : ∀ i ∈ a, i.ok)
    (bo : Option Addr) (cb : Nat) (b : List Vl) (hrb : Rd w 2 (.slice bo b.length cb) b.length (vlCells b)) (hlb : b.length ≤ 140737488351232) (hkb : ∀ i ∈ b, i.ok) (word2 : Nat) (hword2 : word2 < 18446744073709551616) :
    Calls Try.prog 7 #[.agg #[.int .i64 W, .int .u64 word], .slice ao a.length ca, .slice bo b.length cb, .int .u64 word2] w fun e w' => e = .returned (.bool true) ∧ Chg [] w w' := by
  have HAL := Lib.hid law21_alive
  have hB0 := Blk.alloc_new w #[.int .i64 W, .int .u64 word] 37
  have hC0 := (Chg.refl [] w).alloc (.cells #[.int .i64 W, .int .u64 word] 37)
  have HKA := Lib.hid hka
  have HKB := Lib.hid hkb
  have HRA := Lib.hid hra
  have HRB := Lib.hid hrb
  obtain ⟨n, hn⟩ : ∃ n, n = a.length := ⟨_, rfl⟩
  obtain ⟨m, hm⟩ : ∃ m, m = b.length := ⟨_, rfl⟩
  rw [← hn] at HRA hla ⊢
  rw [← hm] at HRB hlb ⊢
  have HN := Lib.hid hn
  have HM := Lib.hid hm
  clear hka hkb hra hrb hn hm
  go_enter Try.func7, Try.ntmps7
  go_wp2_with fail
  refine (HAL.out _).mono ?_
  rintro e w1 ⟨rfl, hc1⟩
  obtain ⟨b0, hb0⟩ : ∃ z, z = w.heap.size := ⟨_, rfl⟩
  have hB1 := hB0.chg hc1 (by simp)
  have HC1 := Lib.hid (hC0.trans' hc1 (by simp))
  rw [← hb0] at hB1 ⊢
  have x0 := hB1.cell 0
  have x1 := hB1.cell 1
  simp only [List.getElem?_toArray, List.getElem?_cons_zero, List.getElem?_cons_succ] at x0 x1
  have HB1 := Lib.hid hB1
  have HBL := Lib.hid hB1.lt
  clear hB0 hC0 hc1 HAL hb0 hB1
  have HBA := Lib.hid (law21_build w1 W word hword ao ca n a HN.out (HRA.out.chg HC1.out (by simp)) hla (fun v hv => by have := (HKA.out v hv).2.1; omega) (fun v hv => (HKA.out v hv).2.2))
  have HBB := Lib.hid (fun u (hu : Chg [] w1 u) => law21_build u W word2 hword2 bo cb m b HM.out ((HRB.out.chg HC1.out (by simp)).chg hu (by simp)) hlb (fun v hv => by have := (HKB.out v hv).2.1; omega) (fun v hv => (HKB.out v hv).2.2))
  go_wp2_with fail
  refine HBA.out.mono ?_
  rintro e w2 (⟨hbad, rfl, hc2⟩ | ⟨hok, p, tp, rv, vs, q, qv, qs, rfl, ht2, hq2, hc2, hf2, hg2, hd2⟩)
  · have hB2 := HB1.out.chg hc2 (by simp)
    have x0 := hB2.cell 0
    have x1 := hB2.cell 1
    simp only [List.getElem?_toArray, List.getElem?_cons_zero, List.getElem?_cons_succ] at x0 x1
    go_wp2_with fail
    refine (HBB.out _ hc2).mono ?_
    rintro e w3 (⟨-, rfl, hc3⟩ | ⟨-, p3, tp3, rv3, vs3, q3, qv3, qs3, rfl, -, -, hc3, -, -, -⟩)
    · go_wp2
      go_ret
      exact ⟨rfl, (HC1.out.trans hc2).trans hc3⟩
    · go_wp2
      go_ret
      exact ⟨rfl, (HC1.out.trans hc2).trans hc3⟩
  · have hB2 := HB1.out.chg hc2 (by simp)
    have HT2 := Lib.hid ht2
    have HC2 := Lib.hid hc2
    have x0 := hB2.cell 0
    have x1 := hB2.cell 1
    simp only [List.getElem?_toArray, List.getElem?_cons_zero, List.getElem?_cons_succ] at x0 x1
    have HB2 := Lib.hid hB2
    have HBX := Lib.hid (show ∀ b ∈ fp p tp rv vs, b0 < b from fun b hb => Nat.lt_of_lt_of_le HBL.out (hf2 b hb))
    have HFP := Lib.hid (show ∀ b ∈ fp p tp rv vs, w.heap.size ≤ b from fun b hb => Nat.le_trans HC1.out.size (hf2 b hb))
    have HQ2 := Lib.hid hq2
    have HD2 := Lib.hid hd2
    have HG2 := Lib.hid (show ∀ b ∈ fpR q qv qs, w.heap.size ≤ b from fun b hb => Nat.le_trans HC1.out.size (hg2 b hb))
    clear ht2 hq2 hc2 hB2 hd2 hg2 hf2
    go_wp2_with fail
    refine (HBB.out _ HC2.out).mono ?_
    rintro e w3 (⟨-, rfl, hc3⟩ | ⟨hok3, p3, tp3, rv3, vs3, q3, qv3, qs3, rfl, ht3, hq3, hc3, hf3, hg3, hd3⟩)
    · go_wp2
      go_ret
      exact ⟨rfl, (HC1.out.trans HC2.out).trans hc3⟩
    · obtain ⟨Wn, rfl, g1, g2, g4, hsa, ea, hoa⟩ := valsD_ok (word := word) hok HKA.out
      obtain ⟨hsb, hob⟩ := valsD_ok2 (word := word2) hok3 g1 HKB.out
      have HT2 := Lib.hid (show Tow w2 p tp rv vs (valsD Wn word a) from HT2.out)
      have HQ2 := Lib.hid (show RT w2 q qv qs (valsD Wn word a).W (valsD Wn word a).word (valsD Wn word a).used (valsD Wn word a).rows from HQ2.out)
      have ht3 : Tow w3 p3 tp3 rv3 vs3 (valsD Wn word2 b) := ht3
      have hq3 : RT w3 q3 qv3 qs3 (valsD Wn word2 b).W (valsD Wn word2 b).word (valsD Wn word2 b).used (valsD Wn word2 b).rows := hq3
      have hob : (valsD Wn word2 b).ok Wn word2 (sumS b) := hob
      have HSA := Lib.hid (valsD_spans (W := Wn) (word := word) (fun v hv => (hok.1 v hv).1))
      have HSB := Lib.hid (valsD_spans (W := Wn) (word := word2) (fun v hv => (hok3.1 v hv).1))
      obtain ⟨D, hD⟩ : ∃ D, D = valsD Wn word a := ⟨_, rfl⟩
      obtain ⟨O, hO⟩ : ∃ O, O = valsD Wn word2 b := ⟨_, rfl⟩
      rw [← hD] at HT2 HSA hoa HQ2
      rw [← hO] at ht3 HSB hob hq3
      clear hD hO ea
      have HFA := Lib.hid hoa.fine
      have HFB := Lib.hid hob.fine
      have hus := hoa.fit.2.2
      have HT3 := Lib.hid (HT2.out.chg hc3 (by simp))
      have HQ3 := Lib.hid (HQ2.out.chg hc3 (by simp))
      have HO3 := Lib.hid ht3
      have HU3 := Lib.hid hq3
      have HC3 := Lib.hid ((HC1.out.trans HC2.out).trans hc3)
      have HDIS := Lib.hid (show (∀ b ∈ fp p tp rv vs, b ∉ fpR q qv qs ++ (fp p3 tp3 rv3 vs3 ++ fpR q3 qv3 qs3)) ∧ ∀ b ∈ fpR q qv qs, b ∉ fp p3 tp3 rv3 vs3 ++ fpR q3 qv3 qs3 from ⟨fun b hb hb2 => by
        have h1 := HT2.out.lt b hb
        rcases List.mem_append.1 hb2 with h | h
        · exact HD2.out b hb h
        · rcases List.mem_append.1 h with h | h
          · have := hf3 b h; omega
          · have := hg3 b h; omega, fun b hb h => by
        have h1 := HQ2.out.lt b hb
        rcases List.mem_append.1 h with h | h
        · have := hf3 b h; omega
        · have := hg3 b h; omega⟩)
      have HD3 := Lib.hid hd3
      have HLT3 := Lib.hid (show ∀ b ∈ fpR q qv qs ++ (fp p3 tp3 rv3 vs3 ++ fpR q3 qv3 qs3), b < w3.heap.size from fun b hb => by
        rcases List.mem_append.1 hb with h | h
        · exact HQ3.out.lt b h
        · rcases List.mem_append.1 h with h | h
          · exact HO3.out.lt b h
          · exact HU3.out.lt b h)
      have HBZ := Lib.hid (show ∀ v ∈ b, 1 ≤ v.n from fun v hv => (hok3.1 v hv).1)
      have hl60 := hok.2.1
      have hl61 := hok3.2.1
      have HJN := Lib.hid (req_joinZ w3 p tp rv vs D HT3.out p3 tp3 rv3 vs3 O HO3.out (fun b hb hb2 => HDIS.out.1 b hb (by simp [hb2])) Wn word word2 _ _ HFA.out HFB.out g1 g2 hword (by omega) (by omega) (by omega))
      clear HBA HBB HT2 HQ2 hc3 hf3 ht3 hq3 hg3 hd3 x0 x1 HB1 HB2 hoa hob hok hok3 HD2
      go_wp2_with fail
      refine HJN.out.mono ?_
      rintro e w5 ⟨rfl, rv5, vs5, ht5, hm5⟩
      obtain ⟨j1, j2, j3⟩ := two_left HC3.out HFP.out HLT3.out HDIS.out.1 hm5
      have HC5 := Lib.hid j1
      have HT5 := Lib.hid ht5
      have HQ5 := Lib.hid (HQ3.out.chg hm5.chg (fun b hb e => HDIS.out.1 b e (by simp [hb])))
      have HO5 := Lib.hid (HO3.out.chg hm5.chg (fun b hb e => HDIS.out.1 b e (by simp [hb])))
      have HU5 := Lib.hid (HU3.out.chg hm5.chg (fun b hb e => HDIS.out.1 b e (by simp [hb])))
      have HX5 := Lib.hid j3
      have HLT5 := Lib.hid (show ∀ b ∈ fp p tp rv5 vs5 ++ (fp p3 tp3 rv3 vs3 ++ fpR q3 qv3 qs3), b < w5.heap.size from fun b hb => by
        rcases List.mem_append.1 hb with h | h
        · exact HT5.out.lt b h
        · rcases List.mem_append.1 h with h | h
          · exact HO5.out.lt b h
          · exact HU5.out.lt b h)
      have HDQ := Lib.hid (show ∀ b ∈ fpR q qv qs, b ∉ fp p tp rv5 vs5 ++ (fp p3 tp3 rv3 vs3 ++ fpR q3 qv3 qs3) from fun b hb h => by
        rcases List.mem_append.1 h with h | h
        · exact HX5.out b h (by simp [hb])
        · exact HDIS.out.2 b hb h)
      have HRJ := Lib.hid (ref21_join w5 q qv qs D.W D.word D.used D.rows HQ5.out q3 qv3 qs3 _ _ _ _ HU5.out (fun b hb hb2 => HDQ.out b hb (by simp [hb2])) (by rw [HFA.out.W_eq]; exact g1) (by rw [HFA.out.W_eq]; exact g2) (by rw [HFA.out.word_eq]; exact hword) (by omega) (by have := HFA.out.flat; have := HFB.out.flat; omega) (by have := HFA.out.few8 (by omega); omega) (by have := HFB.out.few8 (by omega); omega) _ rfl)
      clear ht5 hm5 HJN j1 j2 j3 HT3 HQ3 HO3 HU3 HC3
      go_wp2_with fail
      refine HRJ.out.mono ?_
      rintro e w6 ⟨rfl, qv6, qs6, hq6, hm6⟩
      obtain ⟨j1, -, -⟩ := two_left HC5.out HG2.out HLT5.out HDQ.out hm6
      have HC6 := Lib.hid j1
      have HT6 := Lib.hid (HT5.out.chg hm6.chg (fun b hb e => HDQ.out b e (by simp [hb])))
      have HO6 := Lib.hid (HO5.out.chg hm6.chg (fun b hb e => HDQ.out b e (by simp [hb])))
      have HU6 := Lib.hid (HU5.out.chg hm6.chg (fun b hb e => HDQ.out b e (by simp [hb])))
      have HQ6 := Lib.hid (show ¬ b = [] → RT w6 q qv6 qs6 D.W D.word (D.joinZ O).used (D.joinZ O).rows from fun hb => by
        have hz : ¬ O.total = 0 := fun e => hb (HSB.out.1.1 e)
        have e1 := join_settle D O
        rw [TwD.joinZ, if_neg hz]
        rw [← e1] at hq6
        exact hq6)
      obtain ⟨J, hJ⟩ : ∃ J, J = D.joinZ O := ⟨_, rfl⟩
      have HFJ := Lib.hid (show J.fine Wn word (sumS a + sumS b) from hJ ▸ TwD.joinZ_fine g1 HFA.out HFB.out)
      have HSJ := Lib.hid (show J.spans (a ++ b) from hJ ▸ TwD.joinZ_spans HSA.out HSB.out)
      rw [← hJ] at HT6 HQ6
      clear hq6 hm6 HRJ j1 HT5 HQ5 HO5 HU5 HC5 hJ HLT3 HLT5 HDQ HX5 HD3 HDIS
      have HRA6 := Lib.hid (fun u (hu : Chg [] w6 u) => (HRA.out.chg HC6.out (by simp)).chg hu (by simp))
      have HRB6 := Lib.hid (fun u (hu : Chg [] w6 u) => (HRB.out.chg HC6.out (by simp)).chg hu (by simp))
      have hn60 : n ≤ 60 := by have := HN.out; omega
      have hm60 : m ≤ 60 := by have := HM.out; omega
      have hlk1 : 0 + n ≤ maxLen := by unfold maxLen; omega
      have hlk2 : n + m ≤ maxLen := by unfold maxLen; omega
      go_wp2_with (at_builtin; go_must (first
        | (refine wpList_append_src _ rfl (.tmp 54) (.tmp 55) 30 30 rfl 83 _ 2 16 under_vals info_val rfl (by decide) (.slice (some ⟨w6.heap.size, 0, none⟩) 0 0) 0 [] rfl (Own.lit w6 83 2 0 #[] rfl (by decide)) (.slice ao n ca) n (vlCells a) rfl (Src.of_rd under_vals (HRA6.out _ ((Chg.refl [] w6).alloc _))) (vlCells_oneCell _) hlk1 (by omega) ?_; intro a7 c7 w7 ho7 hg7 hf7; have hc7 : Chg [] w6 w7 := ((Chg.refl [] w6).alloc _).trans' hg7 (fun b hb => .inr (by simp at hb; omega)); have ho7' : Own w7 83 2 (.slice a7 n c7) n (vlCells a) := by rw [Nat.zero_add] at ho7; exact ho7)
        | (refine wpList_append_src _ rfl (.tmp 56) (.tmp 57) 30 30 rfl 83 _ 2 16 under_vals info_val rfl (by decide) (.slice a7 n c7) n (vlCells a) rfl ho7' (.slice bo m cb) m (vlCells b) rfl (Src.of_rd under_vals (HRB6.out _ hc7)) (vlCells_oneCell _) hlk2 (by omega) ?_; intro a8 c8 w8 ho8 hg8 hf8)))
      have hc8 : Chg [] w6 w8 := hc7.trans' hg8 (fun b hb => .inr (by
        rcases hf7 b (by simpa using hb) with h | h
        · simp at h; omega
        · simp at h; omega))
      have HALL := Lib.hid (show Rd w8 2 (.slice a8 (n + m) c8) (n + m) (vlCells (a ++ b)) from by rw [vlCells_app]; exact ho8.rd)
      have HC8 := Lib.hid (HC6.out.trans hc8)
      have HT8 := Lib.hid (fun u (hu : Chg [] w8 u) => HT6.out.chg (hc8.trans hu) (by simp))
      have HO8 := Lib.hid (fun u (hu : Chg [] w8 u) => HO6.out.chg (hc8.trans hu) (by simp))
      have HU8 := Lib.hid (fun u (hu : Chg [] w8 u) => HU6.out.chg (hc8.trans hu) (by simp))
      have HQ8 := Lib.hid (fun (hb : ¬ b = []) u (hu : Chg [] w8 u) => (HQ6.out hb).chg (hc8.trans hu) (by simp))
      have hnm : n + m = (a ++ b).length := by rw [List.length_append, ← HN.out, ← HM.out]
      obtain ⟨lo, hlo⟩ : ∃ z, z = loV (a ++ b) := ⟨_, rfl⟩
      obtain ⟨hi, hhi⟩ : ∃ z, z = hiV (a ++ b) := ⟨_, rfl⟩
      obtain ⟨B, hB⟩ : ∃ z, z = decide (a ++ b ≠ []) := ⟨_, rfl⟩
      obtain ⟨T, hT⟩ : ∃ T, T = J.total := ⟨_, rfl⟩
      have hTU : T = upS 9223372036854775807 (a ++ b) := by
        rw [hT, HFJ.out.tot, upS_all (fun v hv => ?_), sumS_app]
        rcases List.mem_append.1 hv with h | h
        · have := (HKA.out v h).2.1; omega
        · have := (HKB.out v h).2.1; omega
      have HEN := Lib.hid (req_Ends w8 p tp rv5 vs5 J (HT8.out _ (Chg.refl _ _)) (a ++ b) HSJ.out lo hi B hlo hhi hB)
      have HEV := Lib.hid (fun u (hu : Chg [] w8 u) => ref14_ends u a8 c8 (n + m) (a ++ b) hnm (HALL.out.chg hu (by simp)) (by omega) lo hi B hlo hhi hB)
      have HUP := Lib.hid (fun u (hu : Chg [] w8 u) => ref13_up u a8 c8 (n + m) (a ++ b) hnm (HALL.out.chg hu (by simp)) (by omega) (by rw [sumS_app]; omega) 9223372036854775807 T hTU)
      have HTO := Lib.hid (fun u (hu : Chg [] w8 u) => req_total u p tp rv5 vs5 J (HT8.out u hu))
      rw [← hT] at HTO
      have HS1 := Lib.hid (fun (hb : ¬ b = []) u (hu : Chg [] w8 u) => law21_same u p tp rv5 vs5 J (HT8.out u hu) q qv6 qs6 _ _ (HQ8.out hb u hu) HFJ.out (by omega))
      have HS2 := Lib.hid (fun u (hu : Chg [] w8 u) => law21_same u p3 tp3 rv3 vs3 O (HO8.out u hu) q3 qv3 qs3 _ _ (HU8.out u hu) HFB.out (by omega))
      have e1 : (lo == lo) = true := by simp
      have e2 : (hi == hi) = true := by simp
      have e3 : ((T : Int) == (T : Int)) = true := by simp
      clear hlo hhi hB hT hTU ho7 ho7' hg7 hf7 ho8 hg8 hf8 hc7 hnm hc8 HT6 HO6 HU6 HQ6 HRA6 HRB6 HALL
      go_wp2_with fail
      refine HEN.out.mono ?_
      rintro e w9 ⟨rfl, hc9⟩
      go_wp2_with fail
      refine (HEV.out _ hc9).mono ?_
      rintro e w10 ⟨rfl, hc10⟩
      have HC10 := Lib.hid (hc9.trans hc10)
      clear hc9 hc10 HEN HEV
      by_cases hb : b = []
      · obtain rfl : m = 0 := by rw [HM.out, hb]; rfl
        go_wp2_with fail
        refine (HS2.out _ HC10.out).mono ?_
        rintro e w11 ⟨rfl, hc11⟩
        have HC11 := Lib.hid (HC10.out.trans hc11)
        clear hc11
        go_wp2_with fail
        refine (HTO.out _ HC11.out).mono ?_
        rintro e w12 ⟨rfl, rfl⟩
        go_wp2_with fail
        refine (HUP.out _ HC11.out).mono ?_
        rintro e w12 ⟨rfl, hc12⟩
        go_wp2
        go_ret
        exact ⟨rfl, HC8.out.trans (HC11.out.trans hc12)⟩
      · have hm0 : ((m : Int) == 0) = false := by
          rw [beq_eq_false_iff_ne]
          intro e
          have h1 := HM.out
          exact hb (List.eq_nil_of_length_eq_zero (by omega))
        go_wp2_with fail
        refine (HS1.out hb _ HC10.out).mono ?_
        rintro e w11 ⟨rfl, hc11⟩
        have HC11 := Lib.hid (HC10.out.trans hc11)
        clear hc11
        go_wp2_with fail
        refine (HS2.out _ HC11.out).mono ?_
        rintro e w12 ⟨rfl, hc12⟩
        have HC12 := Lib.hid (HC11.out.trans hc12)
        clear hc12
        go_wp2_with fail
        refine (HTO.out _ HC12.out).mono ?_
        rintro e w13 ⟨rfl, rfl⟩
        go_wp2_with fail
        refine (HUP.out _ HC12.out).mono ?_
        rintro e w13 ⟨rfl, hc13⟩
        go_wp2
        go_ret
        exact ⟨rfl, HC8.out.trans (HC12.out.trans hc13)⟩
end Go.Proofs.Ytbaobiniianamaa
