/-
  The walk of Join of digests (layer 17). Conditions: the form's own reach.
-/
import Derived.Test.YtgnbabkafobeoaaDgNil
namespace Go.Proofs.Ytgnbabkafobeoaa
open Go.RowKit

theorem enters_jends : ∀ (args : Array Value) (w : World), (callFunc 41 args).run Try.prog w = .ok (.enter 41 args) w := enters_of Try.func41 (by kernel_rfl) rfl
theorem enters_jadd : ∀ (args : Array Value) (w : World), (callFunc 42 args).run Try.prog w = .ok (.enter 42 args) w := enters_of Try.func42 (by kernel_rfl) rfl
def addAll (r o : List Pr) : List Pr := o.foldl (fun r p => refAdd r p.i p.c) r
theorem addAll_take (r o : List Pr) (k : Nat) (h : k < o.length) : addAll r (o.take (k + 1)) = refAdd (addAll r (o.take k)) o[k].i o[k].c := by
  rw [List.take_succ_eq_append_getElem h, addAll, List.foldl_append]
  rfl
theorem addAll_ok {top : Int} : ∀ (o : List Pr) {r : List Pr}, Nodes r top → (∀ p ∈ o, 1 ≤ p.i ∧ p.i < top) → Nodes (addAll r o) top ∧ totP (addAll r o) = totP r + totP o ∧ (addAll r o).length ≤ r.length + o.length
  | [], r, h, _ => ⟨h, by simp [addAll, totP], by simp [addAll]⟩
  | p :: o, r, h, hv => by
    obtain ⟨g1, g2⟩ := hv p (by simp)
    have h1 := h.add g1 g2 p.c
    have h2 := refAdd_tot (i := p.i) h.up p.c
    have h3 := refAdd_len (i := p.i) h.up p.c
    obtain ⟨b1, b2, b3⟩ := addAll_ok o h1 (fun u hu => hv u (by simp [hu]))
    have e : addAll r (p :: o) = addAll (refAdd r p.i p.c) o := rfl
    rw [e]
    refine ⟨b1, ?_, ?_⟩
    · rw [b2, h2, totP_cons]; omega
    · rw [List.length_cons]; omega
noncomputable def DgD.join (D O : DgD) : DgD := if totP O.row = 0 then D else { D.ends O.least O.most with row := tidyR D.factor (addAll D.row O.row) }
set_option maxRecDepth 100000 in
set_option maxHeartbeats 8000000 in
theorem dg_join (w : World) (p s : Nat) (rv : Value) (D : DgD) (h : Dg w p s rv D) (hok : D.ok) (q t : Nat) (sv : Value) (O : DgD) (k : Dg w q t sv O) (hok2 : O.ok) (hpar : O.depth = D.depth ∧ O.factor = D.factor)
    (hn : totP D.row + totP O.row ≤ 9223372036854775807) (hl : D.row.length + O.row.length ≤ 1000) (hd : ∀ b ∈ fpD p s rv, b ∉ fpD q t sv) :
    Calls Try.prog 17 #[.pointer (some ⟨p, 0, none⟩), .pointer (some ⟨q, 0, none⟩)] w fun e w' => e = .returned (.int .i64 0) ∧ ∃ s' rv', Dg w' p s' rv' (D.join O) ∧ Mv (fpD p s rv) w (fpD p s' rv') w' := by
  obtain ⟨c0, c1, -, -, -, -⟩ := h.cells
  obtain ⟨d0, d1, -, -, -, -⟩ := k.cells
  have hnq := dcfg_neq (D.depth : Nat) (O.depth : Nat) (D.factor : Nat) (O.factor : Nat)
  rw [hpar.1] at hnq d0
  rw [hpar.2] at hnq d1
  have hnf : (!((D.depth : Int) == (D.depth : Int) && (D.factor : Int) == (D.factor : Int))) = false := by simp
  rw [hnf] at hnq
  obtain ⟨T, hT⟩ : ∃ T, T = totP D.row := ⟨_, rfl⟩
  obtain ⟨T2, hT2⟩ : ∃ T, T = totP O.row := ⟨_, rfl⟩
  rw [← hT, ← hT2] at hn
  have HTO := Lib.hid (fun u (hu : Chg [] w u) => dg_total u p s rv D (h.chg hu (by simp)))
  have HT2 := Lib.hid (fun u (hu : Chg [] w u) => dg_total u q t sv O (k.chg hu (by simp)))
  rw [← hT] at HTO
  rw [← hT2] at HT2
  have HH := Lib.hid h
  have HK := Lib.hid k
  have HJ := Lib.hid (show D.join O = if T2 = 0 then D else { D.ends O.least O.most with row := tidyR D.factor (addAll D.row O.row) } from by rw [hT2]; rfl)
  obtain ⟨Z, hZ⟩ : ∃ Z, Z = D.join O := ⟨_, rfl⟩
  rw [← hZ] at HJ ⊢
  obtain ⟨S, hS⟩ : ∃ S, S = T + T2 := ⟨_, rfl⟩
  have HPL := Lib.hid (fun u b0 hb0 => wide_plus2 u T T2 (by omega) (by omega) b0 hb0)
  have epl : plusV [T, T2] = .tuple #[.int .u64 (S : Nat), .bool true] := by
    have e0 : [T, T2].sum = S := by simp [hS]
    unfold plusV
    rw [e0, if_pos (by omega)]
  rw [epl] at HPL
  have HOK := Lib.hid hok
  have HOK2 := Lib.hid hok2
  have HPAR := Lib.hid hpar
  have HD := Lib.hid hd
  have HB := Lib.hid (show totP D.row + totP O.row ≤ 9223372036854775807 ∧ D.row.length + O.row.length ≤ 1000 from by rw [← hT, ← hT2]; exact ⟨hn, hl⟩)
  clear h k hok hok2 hpar hd hT hT2 hZ hS epl hnf hn hl
  go_enter Try.func17, Try.ntmps17
  go_wp2
  go_quiet (fail)
  go_wp2_with fail
  have hcz : Chg [] w (w.drewN nq) := (Chg.refl [] w).drewN nq
  have HCZ := Lib.hid hcz
  clear hcz hnq c0 c1 d0 d1
  generalize w.drewN nq = w0 at *
  refine (HT2.out _ HCZ.out).mono ?_
  rintro e w' ⟨rfl, rfl⟩
  by_cases hz : T2 = 0
  · have dz : ((T2 : Int) == 0) = true := by rw [beq_iff_eq]; omega
    rw [if_pos hz] at HJ
    clear hz
    go_wp2_with fail
    go_ret
    rw [HJ.out]
    exact ⟨rfl, s, rv, HH.out.chg HCZ.out (by simp), Mv.of_chg HCZ.out.nil⟩
  have dz : ((T2 : Int) == 0) = false := by rw [beq_eq_false_iff_ne]; omega
  rw [if_neg hz] at HJ
  clear hz
  go_wp2_with fail
  refine (HTO.out _ HCZ.out).mono ?_
  rintro e w' ⟨rfl, rfl⟩
  go_wp2_with fail
  refine (HT2.out _ HCZ.out).mono ?_
  rintro e w' ⟨rfl, rfl⟩
  go_wp2_with fail
  refine (HPL.out _ _ rfl).mono ?_
  rintro e w' ⟨rfl, rfl⟩
  have HC1 := Lib.hid (HCZ.out.alloc (.cells #[.int .u64 (T : Nat), .int .u64 (T2 : Nat)] 25))
  clear HPL HTO HT2 HCZ
  generalize w0.alloc (.cells #[.int .u64 (T : Nat), .int .u64 (T2 : Nat)] 25) = w1 at *
  have HH1 := Lib.hid (HH.out.chg HC1.out (by simp))
  have HK1 := Lib.hid (HK.out.chg HC1.out (by simp))
  go_upto_region 10 with (fail)
  have HS := Lib.hid (fun wx (hu : Chg [] w1 wx) => show Chg [] w1 wx ∧ wx.cell? ⟨q, 4, none⟩ = some (.int .i64 O.least) ∧ wx.cell? ⟨q, 5, none⟩ = some (.int .i64 O.most) from ⟨hu, (HK1.out.chg hu (by simp)).cells.2.2.2.2.1, (HK1.out.chg hu (by simp)).cells.2.2.2.2.2⟩)
  have hSS := HS.out w1.drew (Chg.refl [] w1).drew
  refine startG (S := fun wx => Chg [] w1 wx ∧ wx.cell? ⟨q, 4, none⟩ = some (.int .i64 O.least) ∧ wx.cell? ⟨q, 5, none⟩ = some (.int .i64 O.most)) (st := 9) (by kernel_rfl) hSS (fun hHeld => ?_)
  refine takeP (i := 0) (v := ?va0) rfl (by kernel_rfl) (by kernel_rfl) (by kernel_rfl) (by decide) (fun _ _ _ h => h) (Or.inl ⟨by rfl, ?ya0⟩) hSS ?ra0
  case ya0 => (intro w _; go_simp; first | done | with_reducible rfl)
  try simp only [Act.put, List.setIfInBounds_toArray, List.set_cons_zero, List.set_cons_succ]
  refine takeP (i := 1) (v := ?va1) rfl (by kernel_rfl) (by kernel_rfl) (by kernel_rfl) (by decide) (fun _ _ _ h => h) (Or.inl ⟨by rfl, ?ya1⟩) hSS ?ra1
  case ya1 => (intro w _; go_simp; first | done | with_reducible rfl)
  try simp only [Act.put, List.setIfInBounds_toArray, List.set_cons_zero, List.set_cons_succ]
  refine takeP (i := 2) (v := ?va2) rfl (by kernel_rfl) (by kernel_rfl) (by kernel_rfl) (by decide) (fun _ _ _ h => h) (Or.inl ⟨by rfl, ?ya2⟩) hSS ?ra2
  case ya2 => (intro w _; go_simp; first | done | with_reducible rfl)
  try simp only [Act.put, List.setIfInBounds_toArray, List.set_cons_zero, List.set_cons_succ]
  refine takeP (i := 3) (v := ?va3) rfl (by kernel_rfl) (by kernel_rfl) (by kernel_rfl) (by decide) (fun _ _ _ h => h) (Or.inl ⟨by rfl, ?ya3⟩) hSS ?ra3
  case ya3 => (intro w _; go_simp; first | done | with_reducible rfl)
  try simp only [Act.put, List.setIfInBounds_toArray, List.set_cons_zero, List.set_cons_succ]
  refine takeG (i := 4) (v := ?va4) rfl (by kernel_rfl) (by kernel_rfl) (by kernel_rfl) (by decide) (by kernel_rfl) (by kernel_rfl) (fun _ _ _ h => h) (Or.inl ⟨by rfl, ?ya4⟩) hSS ?ra4
  case ya4 => (intro w hSw; (try dsimp only at hSw); go_simp; first | done | with_reducible rfl)
  try simp only [Act.put, List.setIfInBounds_toArray, List.set_cons_zero, List.set_cons_succ]
  refine takeP (i := 5) (v := ?va5) rfl (by kernel_rfl) (by kernel_rfl) (by kernel_rfl) (by decide) (fun _ _ _ h => h) (Or.inl ⟨by rfl, ?ya5⟩) hSS ?ra5
  case ya5 => (intro w _; go_simp; first | done | with_reducible rfl)
  try simp only [Act.put, List.setIfInBounds_toArray, List.set_cons_zero, List.set_cons_succ]
  refine takeP (i := 6) (v := ?va6) rfl (by kernel_rfl) (by kernel_rfl) (by kernel_rfl) (by decide) (fun _ _ _ h => h) (Or.inl ⟨by rfl, ?ya6⟩) hSS ?ra6
  case ya6 => (intro w _; go_simp; first | done | with_reducible rfl)
  try simp only [Act.put, List.setIfInBounds_toArray, List.set_cons_zero, List.set_cons_succ]
  refine takeP (i := 7) (v := ?va7) rfl (by kernel_rfl) (by kernel_rfl) (by kernel_rfl) (by decide) (fun _ _ _ h => h) (Or.inl ⟨by rfl, ?ya7⟩) hSS ?ra7
  case ya7 => (intro w _; go_simp; first | done | with_reducible rfl)
  try simp only [Act.put, List.setIfInBounds_toArray, List.set_cons_zero, List.set_cons_succ]
  refine takeG (i := 8) (v := ?va8) rfl (by kernel_rfl) (by kernel_rfl) (by kernel_rfl) (by decide) (by kernel_rfl) (by kernel_rfl) (fun _ _ _ h => h) (Or.inl ⟨by rfl, ?ya8⟩) hSS ?ra8
  case ya8 => (intro w hSw; (try dsimp only at hSw); go_simp; first | done | with_reducible rfl)
  try simp only [Act.put, List.setIfInBounds_toArray, List.set_cons_zero, List.set_cons_succ]
  refine readyG (rs := [9]) (by kernel_rfl) (by simp) (consG rfl (fun K hK => ?_) nilG)
  refine step_calls rfl 41 _ _ rfl enters_jends _ #[.pointer (some ⟨p, 0, none⟩), .int .i64 O.least, .int .i64 O.most] (by simp [Act.eval]) (dg_ends _ p s rv D (HH1.out.chg hSS.1 (by simp)) O.least O.most) ?_; rintro e w3 ⟨rfl, hd3, hc3⟩; refine ⟨_, rfl, ?_⟩
  have HD3 := Lib.hid hd3
  have H13 := Lib.hid ((hSS.1.nil (F := [p])).trans hc3)
  clear hd3 hc3
  refine hK.out _ _ (fun h => absurd rfl h) (fun hHeld => ?_)
  clear hK K hHeld
  try simp only [Act.put, List.setIfInBounds_toArray, List.set_cons_zero, List.set_cons_succ]
  refine doneG (by kernel_rfl) ?_ _
  have HM3 := Lib.hid ((Mv.of_chg (F := fpD p s rv) HC1.out.nil).trans (Dg.mvEnds H13.out))
  have HK3 := Lib.hid (HK1.out.chg H13.out (fun b hb e => by simp at e; subst e; exact HD.out _ (by simp [fpD]) hb))
  clear hSS HS HH1 HK1
  obtain ⟨n, hn⟩ : ∃ n, n = O.row.length := ⟨_, rfl⟩
  have HN := Lib.hid hn
  have HOL := Lib.hid HOK2.out.len
  have HPA := Lib.hid (strip_pairs w3 t sv O.row HK3.out.strip n hn (by have := HOL.out; omega))
  obtain ⟨-, -, -, c3, -, -⟩ := HK3.out.cells
  have HEN := Lib.hid (D.ends_same O.least O.most)
  obtain ⟨E, hE⟩ : ∃ E, E = D.ends O.least O.most := ⟨_, rfl⟩
  rw [← hE] at HEN HD3 HJ
  have HEO := Lib.hid (show E.ok from by rw [hE]; exact DgD.ends_ok HOK.out _ _)
  have hn1 : n ≤ 1000 := by have := HOL.out; omega
  clear hn hE
  go_wp2_with fail
  refine HPA.out.mono ?_
  rintro e w9 ⟨a9, c9, rfl, ho9, hc9, hf9⟩
  have HO9 := Lib.hid ho9
  have HF9 := Lib.hid (show ∀ b ∈ abl a9, b ∉ fpD p s rv from fun b hb hb2 => by have := hf9 b hb; have := HD3.out.lt b hb2; omega)
  have HD9 := Lib.hid (HD3.out.chg hc9 (by simp))
  have HM9 := Lib.hid (HM3.out.trans (Mv.of_chg (F := fpD p s rv) hc9.nil))
  clear ho9 hc9 hf9 HPA c3 HM3 HD3
  go_wp2
  go_loopw [57] (fun i wx => ∃ (k : Nat) (rv2 : Value), k ≤ n ∧ i = .int .i64 (k : Nat) ∧ Dg wx p s rv2 { E with row := addAll D.row (O.row.take k) } ∧ Mv (fpD p s rv) w9 (fpD p s rv2) wx) (fun i _ => n - (intOf i).toNat)
  case atStart =>
    refine ⟨0, rv, Nat.zero_le _, rfl, ?_, Mv.of_chg (Chg.refl _ _)⟩
    have e : ({ E with row := addAll D.row (O.row.take 0) } : DgD) = E := by
      rw [List.take_zero]
      have := HEN.out.2.2
      cases E
      simp only [addAll, List.foldl_nil] at this ⊢
      rw [this]
    rw [e]
    exact HD9.out
  case round =>
    obtain ⟨k, rv2, hk, rfl, hdg, hmv⟩ := hrel
    have HDG := Lib.hid hdg
    have HMV := Lib.hid hmv
    have hnr : n = O.row.length := HN.out
    have hix : ∀ p ∈ O.row.take k, 1 ≤ p.i ∧ p.i < D.top := fun x hx => by
      have h := HOK2.out.nodes.ix x (List.mem_of_mem_take hx)
      unfold DgD.top at h ⊢
      rw [← HPAR.out.1]
      exact h
    obtain ⟨g1, g2, g3⟩ := addAll_ok (O.row.take k) HOK.out.nodes hix
    have htk := take_tot O.row k
    have hbb := HB.out
    have HG := Lib.hid (And.intro g1 (And.intro g2 g3))
    by_cases hlt : k < n
    · have hkl : k < O.row.length := by omega
      obtain ⟨b, o, rfl, hcc⟩ := (HO9.out.chg hmv.chg (fun b hb => HF9.out b (by simpa using hb))).rd.addr (by omega)
      rw [hnr] at hcc
      obtain ⟨e0, e1⟩ := pr_at hcc hkl
      have hqc := HOK2.out.nodes.pos _ (List.getElem_mem hkl)
      have HTK := Lib.hid (addAll_take D.row O.row k hkl)
      have hlen : (addAll D.row (O.row.take k)).length ≤ 1000 := by
        have : (O.row.take k).length ≤ O.row.length := by rw [List.length_take]; omega
        omega
      have htt : totP (addAll D.row (O.row.take k)) + O.row[k].c ≤ 9223372036854775807 := by
        have t2 := take_tot O.row (k + 1)
        rw [List.take_succ_eq_append_getElem hkl, totP_app] at t2
        simp only [totP, List.map_cons, List.map_nil, List.sum_cons, List.sum_nil] at t2 g2 hbb ⊢
        omega
      generalize O.row[k] = x at *
      have HAD := Lib.hid (fun u (hu : Spt u s rv2 (addAll D.row (O.row.take k))) => strip_add u s rv2 (addAll D.row (O.row.take k)) hu g1.up g1.pos hlen x.i x.c hqc htt)
      rw [← HTK.out] at HAD
      generalize addAll D.row (O.row.take k) = r1 at *
      obtain ⟨r2, hr2⟩ : ∃ r, r = addAll D.row (O.row.take (k + 1)) := ⟨_, rfl⟩
      rw [← hr2] at HAD
      have HR2 := Lib.hid hr2
      clear HTK hr2
      clear hcc hdg hmv hnr hix g1 g2 g3 htk hbb hqc hlen htt
      go_upto_region 14 with (fail)
      obtain ⟨q2, hq2⟩ : ∃ z, z = wr.heap.size := ⟨_, rfl⟩
      have HBQ := Lib.hid (Blk.alloc_new wr #[.int .i64 x.i, .int .u64 x.c] 53)
      have HDW := Lib.hid (HDG.out.chg ((Chg.refl [] wr).alloc (.cells #[.int .i64 x.i, .int .u64 x.c] 53)) (by simp))
      have HMW := Lib.hid (HMV.out.trans (Mv.of_chg (F := fpD p s rv2) ((Chg.refl [] wr).alloc (.cells #[.int .i64 x.i, .int .u64 x.c] 53)).nil))
      rw [← hq2] at HBQ ⊢
      clear hq2 HDG HMV e0 e1
      generalize wr.alloc (.cells #[.int .i64 x.i, .int .u64 x.c] 53) = wq at *
      have HS := Lib.hid (fun wx (hu : Chg [] wq wx) => show Chg [] wq wx ∧ wx.cell? ⟨p, 3, none⟩ = some (.pointer (some ⟨s, 0, none⟩)) ∧ wx.cell? ⟨q2, 0, none⟩ = some (.int .i64 x.i) ∧ wx.cell? ⟨q2, 1, none⟩ = some (.int .u64 (x.c : Nat)) from ⟨hu, (HDW.out.chg hu (by simp)).cells.2.2.2.1, (HBQ.out.chg hu (by simp)).cell 0, (HBQ.out.chg hu (by simp)).cell 1⟩)
      have hSS := HS.out wq.drew (Chg.refl [] wq).drew
      refine startG (S := fun wx => Chg [] wq wx ∧ wx.cell? ⟨p, 3, none⟩ = some (.pointer (some ⟨s, 0, none⟩)) ∧ wx.cell? ⟨q2, 0, none⟩ = some (.int .i64 x.i) ∧ wx.cell? ⟨q2, 1, none⟩ = some (.int .u64 (x.c : Nat))) (st := 8) (by kernel_rfl) hSS (fun hHeld => ?_)
      refine takeP (i := 0) (v := ?vb0) rfl (by kernel_rfl) (by kernel_rfl) (by kernel_rfl) (by decide) (fun _ _ _ h => h) (Or.inl ⟨by rfl, ?yb0⟩) hSS ?rb0
      case yb0 => (intro w _; go_simp; first | done | with_reducible rfl)
      try simp only [Act.put, List.setIfInBounds_toArray, List.set_cons_zero, List.set_cons_succ]
      refine takeP (i := 1) (v := ?vb1) rfl (by kernel_rfl) (by kernel_rfl) (by kernel_rfl) (by decide) (fun _ _ _ h => h) (Or.inl ⟨by rfl, ?yb1⟩) hSS ?rb1
      case yb1 => (intro w _; go_simp; first | done | with_reducible rfl)
      try simp only [Act.put, List.setIfInBounds_toArray, List.set_cons_zero, List.set_cons_succ]
      refine takeP (i := 2) (v := ?vb2) rfl (by kernel_rfl) (by kernel_rfl) (by kernel_rfl) (by decide) (fun _ _ _ h => h) (Or.inl ⟨by rfl, ?yb2⟩) hSS ?rb2
      case yb2 => (intro w _; go_simp; first | done | with_reducible rfl)
      try simp only [Act.put, List.setIfInBounds_toArray, List.set_cons_zero, List.set_cons_succ]
      refine takeG (i := 3) (v := ?vb3) rfl (by kernel_rfl) (by kernel_rfl) (by kernel_rfl) (by decide) (by kernel_rfl) (by kernel_rfl) (fun _ _ _ h => h) (Or.inl ⟨by rfl, ?yb3⟩) hSS ?rb3
      case yb3 => (intro w hSw; (try dsimp only at hSw); go_simp; first | done | with_reducible rfl)
      try simp only [Act.put, List.setIfInBounds_toArray, List.set_cons_zero, List.set_cons_succ]
      refine takeP (i := 4) (v := ?vb4) rfl (by kernel_rfl) (by kernel_rfl) (by kernel_rfl) (by decide) (fun _ _ _ h => h) (Or.inl ⟨by rfl, ?yb4⟩) hSS ?rb4
      case yb4 => (intro w _; go_simp; first | done | with_reducible rfl)
      try simp only [Act.put, List.setIfInBounds_toArray, List.set_cons_zero, List.set_cons_succ]
      refine takeG (i := 5) (v := ?vb5) rfl (by kernel_rfl) (by kernel_rfl) (by kernel_rfl) (by decide) (by kernel_rfl) (by kernel_rfl) (fun _ _ _ h => h) (Or.inl ⟨by rfl, ?yb5⟩) hSS ?rb5
      case yb5 => (intro w hSw; (try dsimp only at hSw); go_simp; first | done | with_reducible rfl)
      try simp only [Act.put, List.setIfInBounds_toArray, List.set_cons_zero, List.set_cons_succ]
      refine takeP (i := 6) (v := ?vb6) rfl (by kernel_rfl) (by kernel_rfl) (by kernel_rfl) (by decide) (fun _ _ _ h => h) (Or.inl ⟨by rfl, ?yb6⟩) hSS ?rb6
      case yb6 => (intro w _; go_simp; first | done | with_reducible rfl)
      try simp only [Act.put, List.setIfInBounds_toArray, List.set_cons_zero, List.set_cons_succ]
      refine takeG (i := 7) (v := ?vb7) rfl (by kernel_rfl) (by kernel_rfl) (by kernel_rfl) (by decide) (by kernel_rfl) (by kernel_rfl) (fun _ _ _ h => h) (Or.inl ⟨by rfl, ?yb7⟩) hSS ?rb7
      case yb7 => (intro w hSw; (try dsimp only at hSw); go_simp; first | done | with_reducible rfl)
      try simp only [Act.put, List.setIfInBounds_toArray, List.set_cons_zero, List.set_cons_succ]
      refine readyG (rs := [8]) (by kernel_rfl) (by simp) (consG rfl (fun K hK => ?_) nilG)
      refine step_calls rfl 42 _ _ rfl enters_jadd _ #[.pointer (some ⟨s, 0, none⟩), .int .i64 x.i, .int .u64 (x.c : Nat)] (by simp [Act.eval]) (HAD.out _ (HDW.out.chg hSS.1 (by simp)).strip) ?_; rintro e wy ⟨rfl, rv3, hs3, hm3⟩; refine ⟨_, rfl, ?_⟩
      have HGO := Lib.hid ((HDW.out.chg hSS.1 (by simp)).go hs3 hm3)
      have HMY := Lib.hid ((HMW.out.trans (Mv.of_chg (F := fpD p s rv2) hSS.1.nil)).trans HGO.out.2)
      clear hs3 hm3
      refine hK.out _ _ (fun h => absurd rfl h) (fun hHeld => ?_)
      clear hK K hHeld
      try simp only [Act.put, List.setIfInBounds_toArray, List.set_cons_zero, List.set_cons_succ]
      refine doneG (by kernel_rfl) ?_ _
      clear hSS HS HAD HDW HMW HBQ
      go_wp2_with fail
      exact ⟨⟨k + 1, rv3, by omega, by go_num, by rw [← HR2.out]; exact HGO.out.1, HMY.out⟩, by simp [intOf]; omega⟩
    · obtain rfl : k = n := by omega
      rw [List.take_of_length_le (by omega)] at HDG HG
      have HO2 := Lib.hid (show ({ E with row := addAll D.row O.row } : DgD).ok from ⟨HEO.out.d1, HEO.out.d2, HEO.out.f1, HEO.out.f2, by
        show Nodes _ (2 * ((2 ^ E.depth : Nat) : Int))
        rw [HEN.out.1]
        exact HG.out.1, by show totP (addAll D.row O.row) ≤ 9223372036854775807; have := HG.out.2.1; have := HB.out.1; omega, by show (addAll D.row O.row).length ≤ 1000; have := HG.out.2.2; have := HB.out.2; omega⟩)
      have HTI := Lib.hid (dg_tidy wr p s rv2 _ HDG.out HO2.out)
      have HEF := Lib.hid HEN.out.2.1
      clear hdg hmv hnr hix g1 g2 g3 htk hbb
      go_wp2_with fail
      refine HTI.out.mono ?_
      rintro e w5 ⟨rfl, s5, rv5, h5, hm5⟩
      have H5 := Lib.hid h5
      have HM5 := Lib.hid ((HM9.out.trans HMV.out).trans hm5)
      clear h5 hm5 HTI
      go_wp2_with fail
      go_ret
      refine ⟨rfl, s5, rv5, ?_, HM5.out⟩
      rw [HJ.out, ← HEF.out]
      exact H5.out
end Go.Proofs.Ytgnbabkafobeoaa
