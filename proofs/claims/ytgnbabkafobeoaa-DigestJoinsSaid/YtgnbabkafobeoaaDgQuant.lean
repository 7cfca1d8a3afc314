/-
  The walks of told, Quantile, Rank of a digest (layer 17). Conditions: the form's own reach.
-/
import Derived.Test.YtgnbabkafobeoaaSortPr
import Derived.Test.YtgnbabkafobeoaaPlaceF
namespace Go.Proofs.Ytgnbabkafobeoaa
open Go.RowKit

theorem enters_qrange : ∀ (args : Array Value) (w : World), (callFunc 35 args).run Try.prog w = .ok (.enter 35 args) w := enters_of Try.func35 (by kernel_rfl) rfl
theorem enters_qptotal : ∀ (args : Array Value) (w : World), (callFunc 15 args).run Try.prog w = .ok (.enter 15 args) w := enters_of Try.func15 (by kernel_rfl) rfl
theorem enters_qpplace : ∀ (args : Array Value) (w : World), (callFunc 38 args).run Try.prog w = .ok (.enter 38 args) w := enters_of Try.func38 (by kernel_rfl) rfl
theorem sumIf_take (g : Int → Bool) (l : List Pr) (k : Nat) (h : k < l.length) : sumIf g (l.take (k + 1)) = sumIf g (l.take k) + if g l[k].i then l[k].c else 0 := by
  rw [List.take_succ_eq_append_getElem h, sumIf_app]
  simp [sumIf]
theorem sorted_strict {d : Nat} {l r : List Pr} (hp : l.Perm r) (hr : rises r) (hs : l.Pairwise fun a b => befN d b.i a.i = false) : l.Pairwise fun a b => befN d a.i b.i = true := by
  have hn : (l.map Pr.i).Nodup := ((hp.map Pr.i).nodup_iff).2 (rises_nodup hr)
  have hne : l.Pairwise fun a b => a.i ≠ b.i := by rw [List.Nodup, List.pairwise_map] at hn; exact hn
  refine (hs.and hne).imp (fun {a b} h => ?_)
  obtain ⟨h1, h2⟩ := h
  unfold befN at *
  rw [decide_eq_false_iff_not] at h1
  rw [decide_eq_true_eq]
  omega
set_option maxRecDepth 100000 in
set_option maxHeartbeats 2000000 in
theorem dg_told (w : World) (p s : Nat) (rv : Value) (D : DgD) (h : Dg w p s rv D) (hok : D.ok) (n : Nat) (hn : n = D.row.length) (h0 : 0 < n) (hl : n ≤ 1000) :
    Calls Try.prog 39 #[.pointer (some ⟨p, 0, none⟩)] w fun e w' => ∃ a3 c3 l, e = .returned (.slice a3 n c3) ∧ Rd w' 2 (.slice a3 n c3) n (prCells l) ∧ l.length = n ∧ l.Perm D.row ∧ (l.Pairwise fun a b => befN D.depth a.i b.i = true) ∧ Chg [] w w' ∧ ∀ b ∈ abl a3, w.heap.size ≤ b := by
  have hb := Blk.alloc_new w #[.pointer (some ⟨p, 0, none⟩)] 29
  have b0 := hb.cell 0
  have hc0 := (Chg.refl [] w).alloc (.cells #[.pointer (some ⟨p, 0, none⟩)] 29)
  have h1 := h.chg hc0 (by simp)
  obtain ⟨-, -, -, c3, -, -⟩ := h1.cells
  have HP := Lib.hid (strip_pairs _ s rv D.row h1.strip n hn hl)
  have HC0 := Lib.hid hc0
  have HB := Lib.hid hb
  have HD := Lib.hid h1
  have HOK := Lib.hid hok
  have HN := Lib.hid hn
  have HSZ := Lib.hid (show (w.alloc (.cells #[.pointer (some ⟨p, 0, none⟩)] 29)).heap.size = w.heap.size + 1 from World.size_alloc _ _)
  have HPW := Lib.hid (show ∀ b ∈ fpD p s rv, b < w.heap.size from h.lt)
  clear h h1 hc0 hb hok hn
  go_enter Try.func39, Try.ntmps39
  go_wp2_with fail
  generalize w.alloc (.cells #[.pointer (some ⟨p, 0, none⟩)] 29) = w0 at *
  refine HP.out.mono ?_
  rintro e w1 ⟨a3, c3', rfl, ho1, hc1, hf1⟩
  obtain ⟨g, o, rfl, -⟩ := ho1.rd.addr h0
  have hg1 := hf1 g (by simp)
  have HSO := Lib.hid (sort_nodes w1 g o c3' n D.row w.heap.size p s rv D (HB.out.chg hc1 (by simp)) (HD.out.chg hc1 (by simp)) HOK.out.d1 HOK.out.d2 (by have := HSZ.out; omega) (fun b hb e => by have := HPW.out b hb; have := HSZ.out; omega) HN.out ho1 (by omega))
  have HC1 := Lib.hid (HC0.out.trans hc1)
  have HG := Lib.hid (show w.heap.size ≤ g from by have := HSZ.out; omega)
  clear ho1 hc1 hf1 hg1 HP b0 c3
  go_wp2_with fail
  refine HSO.out.mono ?_
  rintro e w2 ⟨rfl, l, hl1, hl2, hl3, ho2, hc2⟩
  have HO2 := Lib.hid ho2
  have HL := Lib.hid (And.intro hl1 (And.intro hl2 (sorted_strict hl2 HOK.out.nodes.up hl3)))
  have HC2 := Lib.hid (HC1.out.trans' hc2 (fun b hb => .inr (by simp at hb; subst hb; exact HG.out)))
  clear ho2 hl1 hl2 hl3 hc2 HSO
  go_wp2_with fail
  go_ret
  exact ⟨_, c3', l, rfl, HO2.out.rd, HL.out.1, HL.out.2.1, HL.out.2.2, HC2.out, fun b hb => by simp at hb; subst hb; exact HG.out⟩
set_option maxRecDepth 100000 in
set_option maxHeartbeats 8000000 in
theorem dg_quantile (w : World) (p s : Nat) (rv : Value) (D : DgD) (h : Dg w p s rv D) (hok : D.ok) (num den : Nat) (hnum : num < 18446744073709551616) (hden : den < 18446744073709551616) (T E : Nat) (hT : T = placeT num den (totP D.row)) (hE : E = placeE num den (totP D.row)) (X : Int) (hX : X = if E = 0 then quantD D.depth D.row T else 0) :
    Calls Try.prog 16 #[.pointer (some ⟨p, 0, none⟩), .agg #[.int .u64 (num : Nat), .int .u64 (den : Nat)]] w fun e w' => e = .returned (.tuple #[.int .i64 X, .int .i64 (E : Nat)]) ∧ Chg [] w w' := by
  obtain ⟨M, hM⟩ : ∃ M, M = totP D.row := ⟨_, rfl⟩
  have htt := hok.tot
  have hll := hok.len
  have hd24 := hok.d2
  rw [← hM] at hT hE htt
  have HTO := Lib.hid (fun u (hu : Chg [] w u) => dg_total u p s rv D (h.chg hu (by simp)))
  rw [← hM] at HTO
  have HPL := Lib.hid (fun u => share_place u num den M hnum hden (by omega) T E hT hE)
  obtain ⟨n, hn⟩ : ∃ n, n = D.row.length := ⟨_, rfl⟩
  have hn1 : n ≤ 1000 := by omega
  have HTE := Lib.hid (show E = 0 → 1 ≤ T ∧ T ≤ M from fun h => by rw [hT]; exact placeT_of (by rw [← hE]; exact h))
  have HTD := Lib.hid (fun u (hu : Chg [] w u) (h0 : 0 < n) => dg_told u p s rv D (h.chg hu (by simp)) hok n hn h0 (by omega))
  have HRG := Lib.hid (fun u v => treeG_range u D.depth hok.d1 hok.d2 v (loN D.depth v) (hiN D.depth v) rfl rfl)
  have HC0 := Lib.hid ((Chg.refl [] w).alloc (.cells #[.int .u64 (num : Nat), .int .u64 (den : Nat)] 27))
  have hb0 := Blk.alloc_new w #[.int .u64 (num : Nat), .int .u64 (den : Nat)] 27
  obtain ⟨bq, hbq⟩ : ∃ z, z = w.heap.size := ⟨_, rfl⟩
  rw [← hbq] at hb0
  have HB0 := Lib.hid hb0
  have HX := Lib.hid hX
  have HH := Lib.hid h
  have HN := Lib.hid hn
  have HM := Lib.hid hM
  clear h hok hT hE hM hb0 hX hn hnum hden
  go_enter Try.func16, Try.ntmps16
  go_upto_region 3 with (fail)
  rw [← hbq]
  clear hbq
  generalize w.alloc (.cells #[.int .u64 (num : Nat), .int .u64 (den : Nat)] 27) = w0 at *
  have HS := Lib.hid (fun wx (hu : Chg [] w0 wx) => show Chg [] w0 wx ∧ wx.cell? ⟨bq, 0, none⟩ = some (.int .u64 (num : Nat)) ∧ wx.cell? ⟨bq, 1, none⟩ = some (.int .u64 (den : Nat)) from ⟨hu, (HB0.out.chg hu (by simp)).cell 0, (HB0.out.chg hu (by simp)).cell 1⟩)
  have hSS := HS.out w0.drew (Chg.refl [] w0).drew
  refine startN (S := fun wx => Chg [] w0 wx ∧ wx.cell? ⟨bq, 0, none⟩ = some (.int .u64 (num : Nat)) ∧ wx.cell? ⟨bq, 1, none⟩ = some (.int .u64 (den : Nat))) (by kernel_rfl) hSS (fun hHeld => ?_)
  refine takeN (i := 0) (v := ?va0) rfl (by kernel_rfl) (by kernel_rfl) (by kernel_rfl) (fun _ _ _ h => h) (Or.inl ⟨by rfl, ?ya0⟩) hSS ?ra0
  case ya0 => (intro w hSw; (try dsimp only at hSw); go_simp; first | done | with_reducible rfl)
  try simp only [Act.put, List.setIfInBounds_toArray, List.set_cons_zero, List.set_cons_succ]
  refine takeN (i := 1) (v := ?va1) rfl (by kernel_rfl) (by kernel_rfl) (by kernel_rfl) (fun _ _ _ h => h) (Or.inl ⟨by rfl, ?ya1⟩) hSS ?ra1
  case ya1 => (intro w hSw; (try dsimp only at hSw); go_simp; first | done | with_reducible rfl)
  try simp only [Act.put, List.setIfInBounds_toArray, List.set_cons_zero, List.set_cons_succ]
  refine readyN (rs := [2]) (by kernel_rfl) (by simp) (consN rfl (fun K hK => ?_) nilN)
  refine step_callsG (by rfl) 15 _ _ rfl enters_qptotal _ #[.pointer (some ⟨p, 0, none⟩)] (by simp [Act.eval]) (HTO.out _ (HC0.out.trans hSS.1)) ?_; rintro e w' ⟨rfl, rfl⟩; refine ⟨_, rfl, ?_⟩
  refine hK.out _ _ hSS (fun hHeld => ?_)
  clear hK K hHeld
  try simp only [Act.put, List.setIfInBounds_toArray, List.set_cons_zero, List.set_cons_succ]
  refine readyN (rs := [3]) (by kernel_rfl) (by simp) (consN rfl (fun K hK => ?_) nilN)
  refine step_callsG (by rfl) 38 _ _ rfl enters_qpplace _ #[.agg #[.int .u64 (num : Nat), .int .u64 (den : Nat)], .int .u64 (M : Nat)] (by simp [Act.eval]) (HPL.out _) ?_; rintro e w1 ⟨rfl, hc1⟩; refine ⟨_, rfl, ?_⟩
  have hSA := HS.out w1 (hSS.1.trans hc1)
  clear hc1
  refine hK.out _ _ hSA (fun hHeld => ?_)
  clear hK K hHeld
  try simp only [Act.put, List.setIfInBounds_toArray, List.set_cons_zero, List.set_cons_succ]
  refine takeN (i := 4) (v := ?va4) rfl (by kernel_rfl) (by kernel_rfl) (by kernel_rfl) (fun _ _ _ h => h) (Or.inl ⟨by rfl, ?ya4⟩) hSA ?ra4
  case ya4 => (intro w hSw; (try dsimp only at hSw); go_simp; first | done | with_reducible rfl)
  try simp only [Act.put, List.setIfInBounds_toArray, List.set_cons_zero, List.set_cons_succ]
  refine takeN (i := 5) (v := ?va5) rfl (by kernel_rfl) (by kernel_rfl) (by kernel_rfl) (fun _ _ _ h => h) (Or.inl ⟨by rfl, ?ya5⟩) hSA ?ra5
  case ya5 => (intro w hSw; (try dsimp only at hSw); go_simp; first | done | with_reducible rfl)
  try simp only [Act.put, List.setIfInBounds_toArray, List.set_cons_zero, List.set_cons_succ]
  refine takeN (i := 6) (v := ?va6) rfl (by kernel_rfl) (by kernel_rfl) (by kernel_rfl) (fun _ _ _ h => h) (Or.inl ⟨by rfl, ?ya6⟩) hSA ?ra6
  case ya6 => (intro w hSw; (try dsimp only at hSw); go_simp; first | done | with_reducible rfl)
  try simp only [Act.put, List.setIfInBounds_toArray, List.set_cons_zero, List.set_cons_succ]
  refine takeN (i := 7) (v := ?va7) rfl (by kernel_rfl) (by kernel_rfl) (by kernel_rfl) (fun _ _ _ h => h) (Or.inl ⟨by rfl, ?ya7⟩) hSA ?ra7
  case ya7 => (intro w hSw; (try dsimp only at hSw); go_simp; first | done | with_reducible rfl)
  try simp only [Act.put, List.setIfInBounds_toArray, List.set_cons_zero, List.set_cons_succ]
  refine takeN (i := 8) (v := ?va8) rfl (by kernel_rfl) (by kernel_rfl) (by kernel_rfl) (fun _ _ _ h => h) (Or.inl ⟨by rfl, ?ya8⟩) hSA ?ra8
  case ya8 => (intro w hSw; (try dsimp only at hSw); go_simp; first | done | with_reducible rfl)
  try simp only [Act.put, List.setIfInBounds_toArray, List.set_cons_zero, List.set_cons_succ]
  refine doneN (by kernel_rfl) ?_ _
  have HC1 := Lib.hid (HC0.out.trans hSA.1)
  clear hSS hSA HS HTO HPL HB0 HC0
  by_cases h0 : E = 0
  case neg =>
    have e0 : ((E : Int) != 0) = true := by rw [bne_iff_ne]; omega
    have e0' : (E != 0) = true := by rw [bne_iff_ne]; exact h0
    obtain rfl : X = 0 := by rw [HX.out, if_neg h0]
    clear h0
    go_wp2_with fail
    go_ret2
    exact ⟨rfl, HC1.out⟩
  obtain ⟨ht1, ht2⟩ := HTE.out h0
  rw [if_pos h0] at HX
  subst h0
  have hn0 : 0 < n := by
    rcases Nat.eq_zero_or_pos n with h | h
    · exfalso
      have h1 : D.row = [] := List.eq_nil_of_length_eq_zero (by have := HN.out; omega)
      have h2 := HM.out
      rw [h1] at h2
      simp [totP] at h2
      omega
    · exact h
  have HT1 := Lib.hid (HTD.out _ HC1.out hn0)
  have HTT := Lib.hid (And.intro ht1 ht2)
  clear HTD HTE ht1 ht2
  go_wp2_with fail
  refine HT1.out.mono ?_
  rintro e w2 ⟨a3, c3, l, rfl, hr2, hl1, hl2, hl3, hc2, -⟩
  have HR2 := Lib.hid hr2
  have HC2 := Lib.hid (HC1.out.trans hc2)
  have HL := Lib.hid (And.intro hl1 (And.intro hl2 hl3))
  have HTL := Lib.hid (show totP l = M from by rw [← sumIf_tot, sumIf_perm hl2, sumIf_tot]; exact HM.out.symm)
  have HEND := Lib.hid (fun (k : Nat) (hk : k < n) (g1 : totP (l.take k) < T) (g2 : T ≤ totP (l.take (k + 1))) => show X = hiN D.depth (l.getD k default).i from by
    have hkl : k < l.length := by omega
    rw [List.take_succ_eq_append_getElem hkl, totP_app] at g2
    have e2 : totP [l[k]] = l[k].c := by simp [totP]
    rw [e2] at g2
    rw [HX.out, quantD_is hl2 hl3 hkl g1 g2]
    simp [List.getD, hkl])
  clear hr2 hc2 hl1 hl2 hl3 HT1 HC1
  go_wp2_with fail
  go_loopw [8, 9, 27] (fun t x i wx => ∃ (k S : Nat) (Y : Int), k ≤ n ∧ i = .int .i64 (k : Nat) ∧ t = .int .u64 (S : Nat) ∧ x = .int .i64 Y ∧ Chg [] w2 wx ∧ Hid (S = totP (l.take k)) ∧ Hid (0 < k → totP (l.take (k - 1)) < T ∧ Y = hiN D.depth (l.getD (k - 1) default).i)) (fun _ _ i _ => n - (intOf i).toNat)
  case atStart => exact ⟨0, 0, 0, Nat.zero_le _, rfl, rfl, rfl, Chg.refl _ _, Lib.hid (by simp [totP]), Lib.hid (fun h => absurd h (by omega))⟩
  case round =>
    obtain ⟨k, S, Y, hk, rfl, rfl, rfl, hch, HSS, HY⟩ := hrel
    have HCH := Lib.hid hch
    clear hch
    have HDONE := Lib.hid (fun (hge : T ≤ S) => show Y = X from by
      have h1 := HSS.out
      have h3 := HTT.out
      have hk0 : 0 < k := by
        rcases Nat.eq_zero_or_pos k with h | h
        · subst h; simp [totP] at h1; omega
        · exact h
      obtain ⟨g1, g2⟩ := HY.out hk0
      rw [g2]
      exact (HEND.out (k - 1) (by omega) g1 (by rw [show k - 1 + 1 = k from by omega, ← h1]; exact hge)).symm)
    by_cases hlt : k < n
    case neg =>
      obtain rfl : k = n := by omega
      have hge : T ≤ S := by rw [HSS.out, List.take_of_length_le (by rw [HL.out.1]; omega), HTL.out]; exact HTT.out.2
      have HYX := Lib.hid (HDONE.out hge)
      clear hge
      go_wp2_with fail
      go_ret2
      rw [HYX.out]
      exact ⟨rfl, HC2.out.trans HCH.out⟩
    have hkl : k < l.length := by rw [HL.out.1]; exact hlt
    obtain ⟨b, o, rfl, hcc⟩ := (HR2.out.chg HCH.out (by simp)).addr (by omega)
    obtain ⟨e0, e1⟩ := pr_at (fun j hj => hcc j (by rw [← HL.out.1]; exact hj)) hkl
    have HTS := Lib.hid (show totP (l.take (k + 1)) = totP (l.take k) + l[k].c from by rw [List.take_succ_eq_append_getElem hkl, totP_app]; simp [totP])
    have HGD := Lib.hid (show l.getD k default = l[k] from by simp [List.getD, hkl])
    have htk := take_tot l (k + 1)
    rw [HTS.out, HTL.out] at htk
    by_cases hge : T ≤ S
    · have d0 : decide ((T : Int) ≤ (S : Int)) = true := decide_eq_true (by omega)
      have d0' : decide (T ≤ S) = true := decide_eq_true hge
      have HYX := Lib.hid (HDONE.out hge)
      clear hge htk hcc
      go_wp2_with fail
      go_ret2
      rw [HYX.out]
      exact ⟨rfl, (HC2.out.trans HCH.out).alloc _⟩
    have d0 : decide ((T : Int) ≤ (S : Int)) = false := decide_eq_false (by omega)
    have d0' : decide (T ≤ S) = false := decide_eq_false hge
    have HGE := Lib.hid (show totP (l.take k) < T from by rw [← HSS.out]; omega)
    obtain ⟨S2, hS2⟩ : ∃ z, z = S + l[k].c := ⟨_, rfl⟩
    have HS2 := Lib.hid (show S2 = totP (l.take (k + 1)) from by rw [hS2, HTS.out, HSS.out])
    have hss := HSS.out
    generalize l[k] = x at *
    have hw : IntKind.u64.wrap ((S : Int) + (x.c : Int)) = (S2 : Int) := by rw [IntKind.wrap_u64]; omega
    clear hge htk hcc hS2 hss HDONE HY
    go_upto_region 12 with (fail)
    obtain ⟨q5, hq5⟩ : ∃ z, z = wr.heap.size := ⟨_, rfl⟩
    have HBQ := Lib.hid (Blk.alloc_new wr #[.int .i64 x.i, .int .u64 x.c] 53)
    have HCW := Lib.hid (HCH.out.alloc (.cells #[.int .i64 x.i, .int .u64 x.c] 53))
    rw [← hq5] at HBQ ⊢
    clear hq5 e0 e1
    generalize wr.alloc (.cells #[.int .i64 x.i, .int .u64 x.c] 53) = wq at *
    have HDW := Lib.hid (HH.out.chg (HC2.out.trans HCW.out) (by simp))
    have HS := Lib.hid (fun wx (hu : Chg [] wq wx) => show Chg [] wq wx ∧ wx.cell? ⟨p, 2, none⟩ = some (.int .i64 (D.depth : Nat)) ∧ wx.cell? ⟨q5, 0, none⟩ = some (.int .i64 x.i) from ⟨hu, (HDW.out.chg hu (by simp)).cells.2.2.1, (HBQ.out.chg hu (by simp)).cell 0⟩)
    have hSS := HS.out wq.drew (Chg.refl [] wq).drew
    refine startN (S := fun wx => Chg [] wq wx ∧ wx.cell? ⟨p, 2, none⟩ = some (.int .i64 (D.depth : Nat)) ∧ wx.cell? ⟨q5, 0, none⟩ = some (.int .i64 x.i)) (by kernel_rfl) hSS (fun hHeld => ?_)
    refine takeN (i := 0) (v := ?vb0) rfl (by kernel_rfl) (by kernel_rfl) (by kernel_rfl) (fun _ _ _ h => h) (Or.inl ⟨by rfl, ?yb0⟩) hSS ?rb0
    case yb0 => (intro w hSw; (try dsimp only at hSw); go_simp; first | done | with_reducible rfl)
    try simp only [Act.put, List.setIfInBounds_toArray, List.set_cons_zero, List.set_cons_succ]
    refine takeN (i := 1) (v := ?vb1) rfl (by kernel_rfl) (by kernel_rfl) (by kernel_rfl) (fun _ _ _ h => h) (Or.inl ⟨by rfl, ?yb1⟩) hSS ?rb1
    case yb1 => (intro w hSw; (try dsimp only at hSw); go_simp; first | done | with_reducible rfl)
    try simp only [Act.put, List.setIfInBounds_toArray, List.set_cons_zero, List.set_cons_succ]
    refine takeN (i := 2) (v := ?vb2) rfl (by kernel_rfl) (by kernel_rfl) (by kernel_rfl) (fun _ _ _ h => h) (Or.inl ⟨by rfl, ?yb2⟩) hSS ?rb2
    case yb2 => (intro w hSw; (try dsimp only at hSw); go_simp; first | done | with_reducible rfl)
    try simp only [Act.put, List.setIfInBounds_toArray, List.set_cons_zero, List.set_cons_succ]
    refine takeN (i := 3) (v := ?vb3) rfl (by kernel_rfl) (by kernel_rfl) (by kernel_rfl) (fun _ _ _ h => h) (Or.inl ⟨by rfl, ?yb3⟩) hSS ?rb3
    case yb3 => (intro w hSw; (try dsimp only at hSw); go_simp; first | done | with_reducible rfl)
    try simp only [Act.put, List.setIfInBounds_toArray, List.set_cons_zero, List.set_cons_succ]
    refine takeN (i := 4) (v := ?vb4) rfl (by kernel_rfl) (by kernel_rfl) (by kernel_rfl) (fun _ _ _ h => h) (Or.inl ⟨by rfl, ?yb4⟩) hSS ?rb4
    case yb4 => (intro w hSw; (try dsimp only at hSw); go_simp; first | done | with_reducible rfl)
    try simp only [Act.put, List.setIfInBounds_toArray, List.set_cons_zero, List.set_cons_succ]
    refine takeN (i := 5) (v := ?vb5) rfl (by kernel_rfl) (by kernel_rfl) (by kernel_rfl) (fun _ _ _ h => h) (Or.inl ⟨by rfl, ?yb5⟩) hSS ?rb5
    case yb5 => (intro w hSw; (try dsimp only at hSw); go_simp; first | done | with_reducible rfl)
    try simp only [Act.put, List.setIfInBounds_toArray, List.set_cons_zero, List.set_cons_succ]
    refine readyN (rs := [6]) (by kernel_rfl) (by simp) (consN rfl (fun K hK => ?_) nilN)
    refine step_callsG (by rfl) 35 _ _ rfl enters_qrange _ #[.agg #[.int .i64 (D.depth : Nat)], .int .i64 x.i] (by simp [Act.eval]) (HRG.out _ _) ?_; rintro e wy ⟨rfl, hcy⟩; refine ⟨_, rfl, ?_⟩
    have hSA := HS.out wy (hSS.1.trans hcy.chg)
    clear hcy
    refine hK.out _ _ hSA (fun hHeld => ?_)
    clear hK K hHeld
    try simp only [Act.put, List.setIfInBounds_toArray, List.set_cons_zero, List.set_cons_succ]
    refine takeN (i := 7) (v := ?vb7) rfl (by kernel_rfl) (by kernel_rfl) (by kernel_rfl) (fun _ _ _ h => h) (Or.inl ⟨by rfl, ?yb7⟩) hSA ?rb7
    case yb7 => (intro w hSw; (try dsimp only at hSw); go_simp; first | done | with_reducible rfl)
    try simp only [Act.put, List.setIfInBounds_toArray, List.set_cons_zero, List.set_cons_succ]
    refine takeN (i := 8) (v := ?vb8) rfl (by kernel_rfl) (by kernel_rfl) (by kernel_rfl) (fun _ _ _ h => h) (Or.inl ⟨by rfl, ?yb8⟩) hSA ?rb8
    case yb8 => (intro w hSw; (try dsimp only at hSw); go_simp; first | done | with_reducible rfl)
    try simp only [Act.put, List.setIfInBounds_toArray, List.set_cons_zero, List.set_cons_succ]
    refine takeN (i := 9) (v := ?vb9) rfl (by kernel_rfl) (by kernel_rfl) (by kernel_rfl) (fun _ _ _ h => h) (Or.inl ⟨by rfl, ?yb9⟩) hSA ?rb9
    case yb9 => (intro w hSw; (try dsimp only at hSw); go_simp; first | done | with_reducible rfl)
    try simp only [Act.put, List.setIfInBounds_toArray, List.set_cons_zero, List.set_cons_succ]
    refine takeN (i := 10) (v := ?vb10) rfl (by kernel_rfl) (by kernel_rfl) (by kernel_rfl) (fun _ _ _ h => h) (Or.inl ⟨by rfl, ?yb10⟩) hSA ?rb10
    case yb10 => (intro w hSw; (try dsimp only at hSw); go_simp; first | done | with_reducible rfl)
    try simp only [Act.put, List.setIfInBounds_toArray, List.set_cons_zero, List.set_cons_succ]
    refine doneN (by kernel_rfl) ?_ _
    have HCZ := Lib.hid (HCW.out.trans hSA.1)
    clear hSS hSA HS
    go_wp2_with fail
    exact ⟨⟨k + 1, S2, hiN D.depth x.i, by omega, by go_num, rfl, rfl, HCZ.out, HS2, Lib.hid (fun _ => ⟨HGE.out, by rw [show k + 1 - 1 = k from rfl, HGD.out]⟩)⟩, by simp [intOf]; omega⟩
set_option maxRecDepth 100000 in
set_option maxHeartbeats 8000000 in
theorem dg_rank (w : World) (p s : Nat) (rv : Value) (D : DgD) (h : Dg w p s rv D) (hok : D.ok) (x : Int) (A B : Nat) (hA : A = rankLo D.depth D.row x) (hB : B = rankHi D.depth D.row x) :
    Calls Try.prog 11 #[.pointer (some ⟨p, 0, none⟩), .int .i64 x] w fun e w' => e = .returned (.tuple #[.int .u64 (A : Nat), .int .u64 (B : Nat)]) ∧ Chg [] w w' := by
  have htt := hok.tot
  obtain ⟨n, hn⟩ : ∃ n, n = D.row.length := ⟨_, rfl⟩
  have hn1 : n ≤ 1000 := by have := hok.len; omega
  obtain ⟨-, -, -, c3, -, -⟩ := h.cells
  have HPA := Lib.hid (strip_pairs w s rv D.row h.strip n hn hn1)
  have HRG := Lib.hid (fun u v => treeG_range u D.depth hok.d1 hok.d2 v (loN D.depth v) (hiN D.depth v) rfl rfl)
  have HH := Lib.hid h
  have HN := Lib.hid hn
  have HA := Lib.hid hA
  have HB := Lib.hid hB
  clear h hok hn hA hB
  go_enter Try.func11, Try.ntmps11
  go_wp2_with fail
  refine HPA.out.mono ?_
  rintro e w1 ⟨a3, c3', rfl, ho1, hc1, -⟩
  have HO1 := Lib.hid ho1
  have HC1 := Lib.hid hc1
  clear ho1 hc1 c3 HPA
  go_wp2_with fail
  go_loopw [6, 7, 20] (fun t u i wx => ∃ (k S U : Nat), k ≤ n ∧ i = .int .i64 (k : Nat) ∧ t = .int .u64 (S : Nat) ∧ u = .int .u64 (U : Nat) ∧ Chg [] w1 wx ∧ Hid (S = rankLo D.depth (D.row.take k) x ∧ U = rankHi D.depth (D.row.take k) x)) (fun _ _ i _ => n - (intOf i).toNat)
  case atStart => exact ⟨0, 0, 0, Nat.zero_le _, rfl, rfl, rfl, Chg.refl _ _, Lib.hid ⟨rfl, rfl⟩⟩
  case round =>
    obtain ⟨k, S, U, hk, rfl, rfl, rfl, hch, HSU⟩ := hrel
    have HCH := Lib.hid hch
    clear hch
    by_cases hlt : k < n
    case neg =>
      obtain rfl : k = n := by omega
      have HE := Lib.hid (show S = A ∧ U = B from by
        have h := HSU.out
        rw [List.take_of_length_le (by have := HN.out; omega)] at h
        rw [HA.out, HB.out]
        exact h)
      go_wp2_with fail
      go_ret2
      rw [HE.out.1, HE.out.2]
      exact ⟨rfl, HC1.out.trans HCH.out⟩
    have hkl : k < D.row.length := by have := HN.out; omega
    obtain ⟨b, o, rfl, hcc⟩ := (HO1.out.rd.chg HCH.out (by simp)).addr (by omega)
    obtain ⟨e0, e1⟩ := pr_at (fun j hj => hcc j (by rw [HN.out]; exact hj)) hkl
    have HLS := Lib.hid (sumIf_take (fun i => decide (hiN D.depth i ≤ x)) D.row k hkl)
    have HUS := Lib.hid (sumIf_take (fun i => decide (loN D.depth i ≤ x)) D.row k hkl)
    have hbs : S + D.row[k].c ≤ 9223372036854775807 ∧ U + D.row[k].c ≤ 9223372036854775807 := by
      have h1 := HSU.out
      have h2 := sumIf_le (fun i => decide (hiN D.depth i ≤ x)) (D.row.take k)
      have h3 := sumIf_le (fun i => decide (loN D.depth i ≤ x)) (D.row.take k)
      have h4 := take_tot D.row (k + 1)
      rw [List.take_succ_eq_append_getElem hkl, totP_app] at h4
      have h5 : totP [D.row[k]] = D.row[k].c := by simp [totP]
      unfold rankLo rankHi at h1
      omega
    generalize D.row[k] = y at *
    generalize hlo : loN D.depth y.i = lo at *
    generalize hhi : hiN D.depth y.i = hi at *
    have HRX := Lib.hid (fun u => show Calls Try.prog 35 #[.agg #[.int .i64 (D.depth : Nat)], .int .i64 y.i] u fun e w' => e = .returned (.tuple #[.int .i64 lo, .int .i64 hi]) ∧ Gr u w' from by rw [← hlo, ← hhi]; exact HRG.out u y.i)
    have hw1 : IntKind.u64.wrap ((S : Int) + (y.c : Int)) = ((S + y.c : Nat) : Int) := by rw [IntKind.wrap_u64]; omega
    have hw2 : IntKind.u64.wrap ((U : Int) + (y.c : Int)) = ((U + y.c : Nat) : Int) := by rw [IntKind.wrap_u64]; omega
    clear hcc hlo hhi hbs
    go_upto_region 7 with (fail)
    obtain ⟨q5, hq5⟩ : ∃ z, z = wr.heap.size := ⟨_, rfl⟩
    have HBQ := Lib.hid (Blk.alloc_new wr #[.int .i64 y.i, .int .u64 y.c] 53)
    have HCW := Lib.hid (HCH.out.alloc (.cells #[.int .i64 y.i, .int .u64 y.c] 53))
    rw [← hq5] at HBQ ⊢
    clear hq5 e0 e1
    generalize wr.alloc (.cells #[.int .i64 y.i, .int .u64 y.c] 53) = wq at *
    have HDW := Lib.hid (HH.out.chg (HC1.out.trans HCW.out) (by simp))
    have HS := Lib.hid (fun wx (hu : Chg [] wq wx) => show Chg [] wq wx ∧ wx.cell? ⟨p, 2, none⟩ = some (.int .i64 (D.depth : Nat)) ∧ wx.cell? ⟨q5, 0, none⟩ = some (.int .i64 y.i) from ⟨hu, (HDW.out.chg hu (by simp)).cells.2.2.1, (HBQ.out.chg hu (by simp)).cell 0⟩)
    have hSS := HS.out wq.drew (Chg.refl [] wq).drew
    refine startN (S := fun wx => Chg [] wq wx ∧ wx.cell? ⟨p, 2, none⟩ = some (.int .i64 (D.depth : Nat)) ∧ wx.cell? ⟨q5, 0, none⟩ = some (.int .i64 y.i)) (by kernel_rfl) hSS (fun hHeld => ?_)
    refine takeN (i := 0) (v := ?vc0) rfl (by kernel_rfl) (by kernel_rfl) (by kernel_rfl) (fun _ _ _ h => h) (Or.inl ⟨by rfl, ?yc0⟩) hSS ?rc0
    case yc0 => (intro w hSw; (try dsimp only at hSw); go_simp; first | done | with_reducible rfl)
    try simp only [Act.put, List.setIfInBounds_toArray, List.set_cons_zero, List.set_cons_succ]
    refine takeN (i := 1) (v := ?vc1) rfl (by kernel_rfl) (by kernel_rfl) (by kernel_rfl) (fun _ _ _ h => h) (Or.inl ⟨by rfl, ?yc1⟩) hSS ?rc1
    case yc1 => (intro w hSw; (try dsimp only at hSw); go_simp; first | done | with_reducible rfl)
    try simp only [Act.put, List.setIfInBounds_toArray, List.set_cons_zero, List.set_cons_succ]
    refine takeN (i := 2) (v := ?vc2) rfl (by kernel_rfl) (by kernel_rfl) (by kernel_rfl) (fun _ _ _ h => h) (Or.inl ⟨by rfl, ?yc2⟩) hSS ?rc2
    case yc2 => (intro w hSw; (try dsimp only at hSw); go_simp; first | done | with_reducible rfl)
    try simp only [Act.put, List.setIfInBounds_toArray, List.set_cons_zero, List.set_cons_succ]
    refine takeN (i := 3) (v := ?vc3) rfl (by kernel_rfl) (by kernel_rfl) (by kernel_rfl) (fun _ _ _ h => h) (Or.inl ⟨by rfl, ?yc3⟩) hSS ?rc3
    case yc3 => (intro w hSw; (try dsimp only at hSw); go_simp; first | done | with_reducible rfl)
    try simp only [Act.put, List.setIfInBounds_toArray, List.set_cons_zero, List.set_cons_succ]
    refine takeN (i := 4) (v := ?vc4) rfl (by kernel_rfl) (by kernel_rfl) (by kernel_rfl) (fun _ _ _ h => h) (Or.inl ⟨by rfl, ?yc4⟩) hSS ?rc4
    case yc4 => (intro w hSw; (try dsimp only at hSw); go_simp; first | done | with_reducible rfl)
    try simp only [Act.put, List.setIfInBounds_toArray, List.set_cons_zero, List.set_cons_succ]
    refine takeN (i := 5) (v := ?vc5) rfl (by kernel_rfl) (by kernel_rfl) (by kernel_rfl) (fun _ _ _ h => h) (Or.inl ⟨by rfl, ?yc5⟩) hSS ?rc5
    case yc5 => (intro w hSw; (try dsimp only at hSw); go_simp; first | done | with_reducible rfl)
    try simp only [Act.put, List.setIfInBounds_toArray, List.set_cons_zero, List.set_cons_succ]
    refine readyN (rs := [6]) (by kernel_rfl) (by simp) (consN rfl (fun K hK => ?_) nilN)
    refine step_callsG (by rfl) 35 _ _ rfl enters_qrange _ #[.agg #[.int .i64 (D.depth : Nat)], .int .i64 y.i] (by simp [Act.eval]) (HRX.out _) ?_; rintro e wy ⟨rfl, hcy⟩; refine ⟨_, rfl, ?_⟩
    have hSA := HS.out wy (hSS.1.trans hcy.chg)
    have HBY := Lib.hid (HBQ.out.chg (hSS.1.trans hcy.chg) (by simp))
    clear hcy
    refine hK.out _ _ hSA (fun hHeld => ?_)
    clear hK K hHeld
    try simp only [Act.put, List.setIfInBounds_toArray, List.set_cons_zero, List.set_cons_succ]
    refine takeN (i := 7) (v := ?vc7) rfl (by kernel_rfl) (by kernel_rfl) (by kernel_rfl) (fun _ _ _ h => h) (Or.inl ⟨by rfl, ?yc7⟩) hSA ?rc7
    case yc7 => (intro w hSw; (try dsimp only at hSw); go_simp; first | done | with_reducible rfl)
    try simp only [Act.put, List.setIfInBounds_toArray, List.set_cons_zero, List.set_cons_succ]
    refine takeN (i := 8) (v := ?vc8) rfl (by kernel_rfl) (by kernel_rfl) (by kernel_rfl) (fun _ _ _ h => h) (Or.inl ⟨by rfl, ?yc8⟩) hSA ?rc8
    case yc8 => (intro w hSw; (try dsimp only at hSw); go_simp; first | done | with_reducible rfl)
    try simp only [Act.put, List.setIfInBounds_toArray, List.set_cons_zero, List.set_cons_succ]
    refine takeN (i := 9) (v := ?vc9) rfl (by kernel_rfl) (by kernel_rfl) (by kernel_rfl) (fun _ _ _ h => h) (Or.inl ⟨by rfl, ?yc9⟩) hSA ?rc9
    case yc9 => (intro w hSw; (try dsimp only at hSw); go_simp; first | done | with_reducible rfl)
    try simp only [Act.put, List.setIfInBounds_toArray, List.set_cons_zero, List.set_cons_succ]
    refine takeN (i := 10) (v := ?vc10) rfl (by kernel_rfl) (by kernel_rfl) (by kernel_rfl) (fun _ _ _ h => h) (Or.inl ⟨by rfl, ?yc10⟩) hSA ?rc10
    case yc10 => (intro w hSw; (try dsimp only at hSw); go_simp; first | done | with_reducible rfl)
    try simp only [Act.put, List.setIfInBounds_toArray, List.set_cons_zero, List.set_cons_succ]
    refine takeN (i := 11) (v := ?vc11) rfl (by kernel_rfl) (by kernel_rfl) (by kernel_rfl) (fun _ _ _ h => h) (Or.inl ⟨by rfl, ?yc11⟩) hSA ?rc11
    case yc11 => (intro w hSw; (try dsimp only at hSw); go_simp; first | done | with_reducible rfl)
    try simp only [Act.put, List.setIfInBounds_toArray, List.set_cons_zero, List.set_cons_succ]
    refine doneN (by kernel_rfl) ?_ _
    have HCZ := Lib.hid (HCW.out.trans hSA.1)
    have y1 := HBY.out.cell 1
    simp only [List.getElem?_toArray, List.getElem?_cons_zero, List.getElem?_cons_succ] at y1
    clear hSS hSA HS
    by_cases g1 : hi ≤ x
    · have d1 : decide (hi ≤ x) = true := decide_eq_true g1
      have E1 := Lib.hid (show S + y.c = rankLo D.depth (D.row.take (k + 1)) x from by unfold rankLo; rw [HLS.out, d1, HSU.out.1]; rfl)
      by_cases g2 : lo ≤ x
      · have d2 : decide (lo ≤ x) = true := decide_eq_true g2
        have E2 := Lib.hid (show U + y.c = rankHi D.depth (D.row.take (k + 1)) x from by unfold rankHi; rw [HUS.out, d2, HSU.out.2]; rfl)
        clear g1 g2
        go_wp2_with fail
        exact ⟨⟨k + 1, S + y.c, U + y.c, by omega, by go_num, rfl, rfl, HCZ.out, Lib.hid ⟨E1.out, E2.out⟩⟩, by simp [intOf]; omega⟩
      · have d2 : decide (lo ≤ x) = false := decide_eq_false g2
        have E2 := Lib.hid (show U = rankHi D.depth (D.row.take (k + 1)) x from by unfold rankHi; rw [HUS.out, d2, HSU.out.2]; rfl)
        clear g1 g2
        go_wp2_with fail
        exact ⟨⟨k + 1, S + y.c, U, by omega, by go_num, rfl, rfl, HCZ.out, Lib.hid ⟨E1.out, E2.out⟩⟩, by simp [intOf]; omega⟩
    · have d1 : decide (hi ≤ x) = false := decide_eq_false g1
      have E1 := Lib.hid (show S = rankLo D.depth (D.row.take (k + 1)) x from by unfold rankLo; rw [HLS.out, d1, HSU.out.1]; rfl)
      by_cases g2 : lo ≤ x
      · have d2 : decide (lo ≤ x) = true := decide_eq_true g2
        have E2 := Lib.hid (show U + y.c = rankHi D.depth (D.row.take (k + 1)) x from by unfold rankHi; rw [HUS.out, d2, HSU.out.2]; rfl)
        clear g1 g2
        go_wp2_with fail
        exact ⟨⟨k + 1, S, U + y.c, by omega, by go_num, rfl, rfl, HCZ.out, Lib.hid ⟨E1.out, E2.out⟩⟩, by simp [intOf]; omega⟩
      · have d2 : decide (lo ≤ x) = false := decide_eq_false g2
        have E2 := Lib.hid (show U = rankHi D.depth (D.row.take (k + 1)) x from by unfold rankHi; rw [HUS.out, d2, HSU.out.2]; rfl)
        clear g1 g2
        go_wp2_with fail
        exact ⟨⟨k + 1, S, U, by omega, by go_num, rfl, rfl, HCZ.out, Lib.hid ⟨E1.out, E2.out⟩⟩, by simp [intOf]; omega⟩
end Go.Proofs.Ytgnbabkafobeoaa
