/-
  The walk of Load of digests (layer 17). Conditions: the form's own reach.
-/
import Derived.Test.YtgnbabkafobeoaaDgFew
import Derived.Test.YtgnbabkafobeoaaStepN
namespace Go.Proofs.Ytgnbabkafobeoaa
open Go.RowKit

theorem enters_ogood : ∀ (args : Array Value) (w : World), (callFunc 49 args).run Try.prog w = .ok (.enter 49 args) w := enters_of Try.func49 (by kernel_rfl) rfl
theorem enters_oleaves : ∀ (args : Array Value) (w : World), (callFunc 50 args).run Try.prog w = .ok (.enter 50 args) w := enters_of Try.func50 (by kernel_rfl) rfl
theorem enters_oadd : ∀ (args : Array Value) (w : World), (callFunc 42 args).run Try.prog w = .ok (.enter 42 args) w := enters_of Try.func42 (by kernel_rfl) rfl
theorem enters_olimit : ∀ (args : Array Value) (w : World), (callFunc 51 args).run Try.prog w = .ok (.enter 51 args) w := enters_of Try.func51 (by kernel_rfl) rfl
set_option maxRecDepth 100000 in
set_option maxHeartbeats 4000000 in
theorem strip_add_full (w : World) (s : Nat) (rv : Value) (r : List Pr) (h : Spt w s rv r) (hrs : rises r) (hl : r.length ≤ 1000) (hT0 : totP r ≤ 9223372036854775807) (i : Int) (c : Nat) (hc1 : 1 ≤ c) (hcu : c < 18446744073709551616) (hcm : 9223372036854775807 < totP r + c) :
    Calls Try.prog 42 #[.pointer (some ⟨s, 0, none⟩), .int .i64 i, .int .u64 (c : Nat)] w fun e w' => e = .returned (.int .i64 6) ∧ Chg [] w w' := by
  obtain ⟨c0, c1, c2⟩ := h.cells
  obtain ⟨ro, rc, hrv⟩ := h.row.shape
  subst hrv
  obtain ⟨n, hn⟩ : ∃ n, n = r.length := ⟨_, rfl⟩
  obtain ⟨T, hT⟩ : ∃ T, T = totP r := ⟨_, rfl⟩
  rw [← hT] at hcm hT0
  have HPL := Lib.hid (fun u b0 hb0 => wide_plus2 u T c (by omega) hcu b0 hb0)
  have e : plusV [T, c] = .tuple #[.int .u64 0, .bool false] := by
    unfold plusV
    rw [if_neg (by simp; omega)]
  rw [e] at HPL
  have HFI := Lib.hid (fun u (hu : Chg [] w u) => runs_find u ro rc r i hrs (h.row.chg hu (by simp)).rd (by omega))
  have HCE := Lib.hid (fun u (hu : Chg [] w u) => show u.cell? ⟨s, 0, none⟩ = some (.int .i64 4096) ∧ u.cell? ⟨s, 1, none⟩ = some (.slice ro n rc) ∧ u.cell? ⟨s, 2, none⟩ = some (.int .u64 (T : Nat)) from by
    obtain ⟨q0, q1, q2⟩ := (h.chg hu (by simp)).cells
    rw [← hn] at q1
    rw [← hT] at q2
    exact ⟨q0, q1, q2⟩)
  rw [← hn] at HFI c1
  rw [← hT] at c2
  have d0 : ((c : Int) == 0) = false := by rw [beq_eq_false_iff_ne]; omega
  generalize cntLt r i = k at *
  generalize hasI r i = B at *
  clear h hrs hl hcm hn hT e hc1 hT0 hcu
  go_enter Try.func42, Try.ntmps42
  go_wp2_with fail
  refine (HPL.out _ _ rfl).mono ?_
  rintro e w1 ⟨rfl, rfl⟩
  have HC1 := Lib.hid ((Chg.refl [] w).alloc (.cells #[.int .u64 (T : Nat), .int .u64 (c : Nat)] 25))
  clear HPL c0 c1 c2
  generalize w.alloc (.cells #[.int .u64 (T : Nat), .int .u64 (c : Nat)] 25) = w1 at *
  obtain ⟨c0, c1, c2⟩ := HCE.out _ HC1.out
  go_wp2_with fail
  refine (HFI.out _ HC1.out).mono ?_
  rintro e w2 ⟨rfl, hc2⟩
  have HC2 := Lib.hid (HC1.out.trans hc2)
  clear hc2 HC1 HFI c0 c1 c2
  go_wp2
  go_quiet (fail)
  go_wp2
  go_ret
  exact ⟨rfl, by with_reducible (repeat (first | exact HC2.out | apply Chg.drew | apply Chg.drewN))⟩
/-- Add, whatever is added. -/
theorem strip_add_any (w : World) (s : Nat) (rv : Value) (r : List Pr) (h : Spt w s rv r) (hrs : rises r) (hpos : ∀ p ∈ r, 1 ≤ p.c) (hl : r.length ≤ 1000) (hT0 : totP r ≤ 9223372036854775807) (i : Int) (c : Nat) (hcu : c < 18446744073709551616) :
    Calls Try.prog 42 #[.pointer (some ⟨s, 0, none⟩), .int .i64 i, .int .u64 (c : Nat)] w fun e w' => ((1 ≤ c ∧ totP r + c ≤ 9223372036854775807) ∧ e = .returned (.int .i64 0) ∧ ∃ rv', Spt w' s rv' (refAdd r i c) ∧ Mv (fpT s rv) w (fpT s rv') w') ∨
      (¬ (1 ≤ c ∧ totP r + c ≤ 9223372036854775807) ∧ ∃ k : Int, (k == 0) = false ∧ e = .returned (.int .i64 k) ∧ Chg [] w w') := by
  by_cases h1 : 1 ≤ c
  · by_cases h2 : totP r + c ≤ 9223372036854775807
    · exact (strip_add w s rv r h hrs hpos hl i c h1 h2).mono fun e w' ⟨h3, h4⟩ => .inl ⟨⟨h1, h2⟩, h3, h4⟩
    · exact (strip_add_full w s rv r h hrs hl hT0 i c h1 hcu (by omega)).mono fun e w' ⟨h3, h4⟩ => .inr ⟨fun h => h2 h.2, 6, by decide, h3, h4⟩
  · obtain rfl : c = 0 := by omega
    exact (strip_add_zero w s i).mono fun e w' ⟨h3, h4⟩ => .inr ⟨fun h => h1 h.1, 1, by decide, h3, by rw [h4]; exact Chg.refl _ _⟩
/-- The index ahead of a place. -/
def lastOf (row : List Pr) (k : Nat) : Int := if k = 0 then 0 else (row.getD (k - 1) default).i
theorem lastOf_succ (row : List Pr) (k : Nat) (h : k < row.length) : lastOf row (k + 1) = row[k].i := by simp [lastOf, List.getD, h]
structure PreL (row : List Pr) (top : Int) (k : Nat) : Prop where
  nodes : Nodes (row.take k) top
  tot : totP (row.take k) ≤ 9223372036854775807
  last : ∀ q ∈ row.take k, q.i ≤ lastOf row k
theorem PreL.zero (row : List Pr) (top : Int) : PreL row top 0 := ⟨⟨by rw [List.take_zero]; intro j k _ hk; simp at hk, by simp, by simp⟩, by simp [totP], by simp⟩
theorem refAdd_end {l : List Pr} {i : Int} {c : Nat} (h : ∀ q ∈ l, q.i < i) (hc : 1 ≤ c) : refAdd l i c = l ++ [⟨i, c⟩] := by
  have h1 : cntI l i = 0 := cntI_none (fun p hp => by have := h p hp; omega)
  have h2 : l.filter (fun p => decide (p.i < i)) = l := List.filter_eq_self.2 (fun p hp => by simpa using h p hp)
  have h3 : l.filter (fun p => decide (i < p.i)) = [] := List.filter_eq_nil_iff.2 (fun p hp => by have := h p hp; simp; omega)
  rw [refAdd, h1, h2, h3, Nat.zero_add, if_pos (show 0 < c from hc), List.append_nil]
theorem PreL.succ {row : List Pr} {top : Int} {k : Nat} (h : PreL row top k) (hk : k < row.length) (h1 : lastOf row k < row[k].i) (h2 : 1 ≤ row[k].i) (h3 : row[k].i < top) (h4 : 1 ≤ row[k].c) (h5 : totP (row.take k) + row[k].c ≤ 9223372036854775807) :
    PreL row top (k + 1) ∧ refAdd (row.take k) row[k].i row[k].c = row.take (k + 1) := by
  have e : refAdd (row.take k) row[k].i row[k].c = row.take (k + 1) := by
    rw [List.take_succ_eq_append_getElem hk]
    exact refAdd_end (fun q hq => by have := h.last q hq; omega) h4
  refine ⟨⟨?_, ?_, ?_⟩, e⟩
  · rw [← e]; exact h.nodes.add h2 h3 _
  · rw [← e, refAdd_tot h.nodes.up]; exact h5
  · intro q hq
    rw [lastOf_succ row k hk]
    rw [List.take_succ_eq_append_getElem hk] at hq
    rcases List.mem_append.1 hq with hq | hq
    · have := h.last q hq; omega
    · simp at hq; subst hq; omega
/-- What can be loaded. -/
structure LoadOk (d f : Int) (row : List Pr) (lo hi : Int) : Prop where
  cfg : goodC d f = true
  nodes : Nodes row (2 * ((2 ^ d.toNat : Nat) : Int))
  tot : totP row ≤ 9223372036854775807
  low : ∀ p ∈ row, p.i < ((2 ^ d.toNat : Nat) : Int) → p.c ≤ totP row / f.toNat
  len : row.length ≤ 4 * f.toNat
  le : lo ≤ hi
  lo0 : 0 ≤ lo
  hi0 : hi < ((2 ^ d.toNat : Nat) : Int)
  none : row = [] → hi = 0
theorem last_of {row : List Pr} {top : Int} (h : Nodes row top) {k : Nat} (hk : k < row.length) : lastOf row k < row[k].i := by
  unfold lastOf
  split
  · have := (h.ix _ (List.getElem_mem hk)).1; omega
  · have hk1 : k - 1 < row.length := by omega
    rw [show row.getD (k - 1) default = row[k - 1] from by simp [List.getD, hk1]]
    exact h.up (k - 1) k (by omega) hk
theorem leafG (w : World) (d P : Nat) (h1 : 1 ≤ d) (h2 : d ≤ 24) (hP : P = 2 ^ d) (x : Int) (hx2 : x < 9223372036854775808) :
    Calls Try.prog 44 #[.agg #[.int .i64 (d : Nat)], .int .i64 x] w fun e w' => ∃ v : Int, e = .returned (.tuple #[.int .i64 v, .bool (decide (0 ≤ x) && decide (x < (P : Int)))]) ∧ Chg [] w w' := by
  by_cases h : 0 ≤ x ∧ x < (P : Int)
  · rw [decide_eq_true h.1, decide_eq_true h.2]
    exact (tree_leaf w d P h1 h2 hP x h.1 h.2).mono fun e w' ⟨g1, g2⟩ => ⟨_, g1, g2⟩
  · have e : (decide (0 ≤ x) && decide (x < (P : Int))) = false := by
      rw [Bool.and_eq_false_iff, decide_eq_false_iff_not, decide_eq_false_iff_not]
      omega
    rw [e]
    exact (tree_leaf_out w d P h1 h2 hP x (by omega) hx2).mono fun e w' ⟨g1, g2⟩ => ⟨0, g1, g2⟩
set_option maxRecDepth 100000 in
set_option maxHeartbeats 16000000 in
theorem dg_load (w : World) (d f : Int) (ao : Option Addr) (cap n : Nat) (row : List Pr) (hn : n = row.length) (hr : Rd w 2 (.slice ao n cap) n (prCells row)) (hl : n ≤ 900) (hok : ∀ p ∈ row, p.ok) (lo hi : Int) (hlo : lo < 9223372036854775808) (hhi : hi < 9223372036854775808) :
    Calls Try.prog 29 #[.agg #[.int .i64 d, .int .i64 f], .slice ao n cap, .int .i64 lo, .int .i64 hi] w fun e w' => (¬ LoadOk d f row lo hi ∧ e = .returned (.tuple #[.pointer none, .int .i64 1]) ∧ Chg [] w w') ∨
      (LoadOk d f row lo hi ∧ ∃ p s rv, e = .returned (.tuple #[.pointer (some ⟨p, 0, none⟩), .int .i64 0]) ∧ Dg w' p s rv ⟨d.toNat, f.toNat, row, lo, hi⟩ ∧ Chg [] w w' ∧ ∀ b ∈ fpD p s rv, w.heap.size ≤ b) := by
  have HR := Lib.hid hr
  have HN := Lib.hid hn
  have HOK := Lib.hid hok
  have hb0 := Blk.alloc_new w #[.int .i64 d, .int .i64 f] 23
  have hc0 := (Chg.refl [] w).alloc (.cells #[.int .i64 d, .int .i64 f] 23)
  have HC0 := Lib.hid hc0
  have HSZ := Lib.hid (show w.heap.size ≤ (w.alloc (.cells #[.int .i64 d, .int .i64 f] 23)).heap.size from by rw [World.size_alloc]; omega)
  have b0 := hb0.cell 0
  have b1 := hb0.cell 1
  clear hr hn hok hb0 hc0
  go_enter Try.func29, Try.ntmps29
  go_wp2_with fail
  generalize w.alloc (.cells #[.int .i64 d, .int .i64 f] 23) = w0 at *
  refine (dg_new _ _ _).mono ?_
  rintro e w1 (⟨hbad, rfl, hc1⟩ | ⟨hgc, p, s, rfl, hd1, hc1, hf1⟩)
  · go_wp2_with fail
    go_ret2
    exact .inl ⟨fun h => by rw [h.cfg] at hbad; exact absurd hbad (by decide), rfl, HC0.out.trans hc1⟩
  have hdf : (1 ≤ d ∧ d ≤ 24) ∧ 1 ≤ f ∧ f ≤ 64 := by unfold goodC at hgc; exact of_decide_eq_true hgc
  obtain ⟨dn, rfl⟩ := Int.eq_ofNat_of_zero_le (show 0 ≤ d by omega)
  obtain ⟨fn, rfl⟩ := Int.eq_ofNat_of_zero_le (show 0 ≤ f by omega)
  rw [Int.toNat_natCast, Int.toNat_natCast] at hd1
  have HDF := Lib.hid (show (1 ≤ dn ∧ dn ≤ 24) ∧ 1 ≤ fn ∧ fn ≤ 64 from by omega)
  have HGC := Lib.hid hgc
  have HD1 := Lib.hid hd1
  have HC1 := Lib.hid (HC0.out.trans hc1)
  have HF1 := Lib.hid (show ∀ b ∈ fpD p s (.slice none 0 0), w.heap.size ≤ b from fun b hb => Nat.le_trans HSZ.out (hf1 b hb))
  obtain ⟨P, hP⟩ : ∃ P, P = 2 ^ dn := ⟨_, rfl⟩
  have hp2 : 2 ≤ P ∧ P ≤ 16777216 := by
    have h := two_d HDF.out.1.1 HDF.out.1.2
    rw [← hP] at h
    exact ⟨h.1, h.2.1⟩
  have HP := Lib.hid hP
  have HBAD := Lib.hid (show LoadOk dn fn row lo hi → Nodes row (2 * (P : Int)) ∧ totP row ≤ 9223372036854775807 ∧ (∀ p ∈ row, p.i < (P : Int) → p.c ≤ totP row / fn) ∧ row.length ≤ 4 * fn ∧ lo ≤ hi ∧ 0 ≤ lo ∧ hi < (P : Int) ∧ (row = [] → hi = 0) from fun h => by
    have h1 := h.nodes
    have h2 := h.low
    have h3 := h.hi0
    have h4 := h.len
    rw [Int.toNat_natCast, ← HP.out] at h1 h2 h3
    rw [Int.toNat_natCast] at h2 h4
    exact ⟨h1, h.tot, h2, h4, h.le, h.lo0, h3, h.none⟩)
  have HGD := Lib.hid (fun u v hv => tree_good u dn P HDF.out.1.1 HDF.out.1.2 HP.out v hv)
  have HLV := Lib.hid (fun u => tree_leaves u dn P HDF.out.1.1 HDF.out.1.2 HP.out)
  clear hd1 hc1 hf1 b0 b1 hP hdf hgc HC0 HSZ
  go_wp2_with fail
  go_loopw [12, 31] (fun t i wx => ∃ (k : Nat) (rv2 : Value), k ≤ n ∧ i = .int .i64 (k : Nat) ∧ t = .int .i64 (lastOf row k) ∧ Dg wx p s rv2 ⟨dn, fn, row.take k, 0, 0⟩ ∧ Mv (fpD p s (.slice none 0 0)) w1 (fpD p s rv2) wx ∧ Hid (PreL row (2 * (P : Int)) k)) (fun _ i _ => n - (intOf i).toNat)
  case atStart => exact ⟨0, _, Nat.zero_le _, rfl, rfl, HD1.out, Mv.of_chg (Chg.refl _ _), Lib.hid (PreL.zero _ _)⟩
  case round =>
    obtain ⟨k, rv2, hk, rfl, rfl, hdg, hmv, HPR⟩ := hrel
    have HDG := Lib.hid hdg
    have HMV := Lib.hid hmv
    have HCX := Lib.hid (show Chg [] w wr from HC1.out.trans' hmv.chg (fun b hb => .inr (HF1.out b hb)))
    clear hdg hmv
    by_cases hlt : k < n
    · have hkl : k < row.length := by have := HN.out; omega
      obtain ⟨b, o, rfl, hcc⟩ := (HR.out.chg HCX.out (by simp)).addr (by omega)
      obtain ⟨e0, e1⟩ := pr_at (fun j hj => hcc j (by rw [HN.out]; exact hj)) hkl
      have HLO := Lib.hid (fun (h : LoadOk dn fn row lo hi) => last_of (HBAD.out h).1 hkl)
      have HIX := Lib.hid (fun (h : LoadOk dn fn row lo hi) => (HBAD.out h).1.ix _ (List.getElem_mem hkl))
      have HCT := Lib.hid (fun (h : LoadOk dn fn row lo hi) => show 1 ≤ row[k].c ∧ totP (row.take k) + row[k].c ≤ 9223372036854775807 from by
        have h1 := (HBAD.out h).1.pos _ (List.getElem_mem hkl)
        have h2 := (HBAD.out h).2.1
        have h3 := take_tot row (k + 1)
        rw [List.take_succ_eq_append_getElem hkl, totP_app] at h3
        simp only [totP, List.map_cons, List.map_nil, List.sum_cons, List.sum_nil] at h1 h2 h3 ⊢
        omega)
      have HSU := Lib.hid (fun h1 h2 h3 h4 h5 => PreL.succ HPR.out hkl h1 h2 h3 h4 h5)
      have HLS := Lib.hid (lastOf_succ row k hkl)
      have HXO := Lib.hid (HOK.out _ (List.getElem_mem hkl))
      generalize row[k] = x at *
      have HTL : Hid ((row.take k).length ≤ 1000) := Lib.hid (by rw [List.length_take]; omega)
      have HAD := Lib.hid (fun u (hu : Spt u s rv2 (row.take k)) => strip_add_any u s rv2 (row.take k) hu HPR.out.nodes.up HPR.out.nodes.pos HTL.out HPR.out.tot x.i x.c HXO.out.2.2)
      generalize lastOf row k = last at *
      generalize row.take k = r0 at *
      clear hcc hkl
      go_upto_region 8 with (fail)
      obtain ⟨q5, hq5⟩ : ∃ z, z = wr.heap.size := ⟨_, rfl⟩
      have HBQ := Lib.hid (Blk.alloc_new wr #[.int .i64 x.i, .int .u64 x.c] 53)
      have hcq := (Chg.refl [] wr).alloc (.cells #[.int .i64 x.i, .int .u64 x.c] 53)
      have HDW := Lib.hid (HDG.out.chg hcq (by simp))
      have HMW := Lib.hid (HMV.out.trans (Mv.of_chg (F := fpD p s rv2) hcq.nil))
      have HCW := Lib.hid (HCX.out.trans hcq)
      rw [← hq5] at HBQ ⊢
      have HD0 := HDG
      clear HDG HMV HCX e0 e1 hcq
      have HQN := Lib.hid (show q5 ∉ fpD p s rv2 from fun e => by
        have h1 := HDW.out.ne
        have h2 : Dg wr p s rv2 ⟨dn, fn, r0, 0, 0⟩ := HD0.out
        have := h2.lt _ e
        omega)
      generalize wr.alloc (.cells #[.int .i64 x.i, .int .u64 x.c] 53) = wq at *
      have HS := Lib.hid (fun wx (hu : Chg (fpT s rv2) wq wx) => show wx.cell? ⟨p, 2, none⟩ = some (.int .i64 (dn : Nat)) ∧ wx.cell? ⟨p, 3, none⟩ = some (.pointer (some ⟨s, 0, none⟩)) ∧ wx.cell? ⟨q5, 0, none⟩ = some (.int .i64 x.i) ∧ wx.cell? ⟨q5, 1, none⟩ = some (.int .u64 (x.c : Nat)) from ⟨(HDW.out.blk.chg hu HDW.out.p_fp).cell 2, (HDW.out.blk.chg hu HDW.out.p_fp).cell 3, (HBQ.out.chg hu (fun e => HQN.out (by simp [fpD, e]))).cell 0, (HBQ.out.chg hu (fun e => HQN.out (by simp [fpD, e]))).cell 1⟩)
      have hSS := HS.out wq.drew ((Chg.refl [] wq).drew.nil)
      have HC0 := Lib.hid (Chg.refl [] wq).drew
      clear HQN hq5 HD0
      by_cases g1 : x.i ≤ last
      · have d1 : decide (x.i ≤ last) = true := decide_eq_true g1
        refine startN (S := fun wx => wx.cell? ⟨p, 2, none⟩ = some (.int .i64 (dn : Nat)) ∧ wx.cell? ⟨p, 3, none⟩ = some (.pointer (some ⟨s, 0, none⟩)) ∧ wx.cell? ⟨q5, 0, none⟩ = some (.int .i64 x.i) ∧ wx.cell? ⟨q5, 1, none⟩ = some (.int .u64 (x.c : Nat))) (by kernel_rfl) hSS (fun hHeld => ?_)
        refine takeN (i := 0) (v := ?va0) rfl (by kernel_rfl) (by kernel_rfl) (by kernel_rfl) (fun _ _ _ h => h) (Or.inl ⟨by rfl, ?ya0⟩) hSS ?ra0
        case ya0 => (intro w hSw; (try dsimp only at hSw); go_simp; first | done | with_reducible rfl)
        try simp only [Act.put, List.setIfInBounds_toArray, List.set_cons_zero, List.set_cons_succ]
        refine takeN (i := 1) (v := ?va1) rfl (by kernel_rfl) (by kernel_rfl) (by kernel_rfl) (fun _ _ _ h => h) (Or.inl ⟨by rfl, ?ya1⟩) hSS ?ra1
        case ya1 => (intro w hSw; (try dsimp only at hSw); go_simp; first | done | with_reducible rfl)
        try simp only [Act.put, List.setIfInBounds_toArray, List.set_cons_zero, List.set_cons_succ]
        refine takeN (i := 2) (v := ?va2) rfl (by kernel_rfl) (by kernel_rfl) (by kernel_rfl) (fun _ _ _ h => h) (Or.inl ⟨by rfl, ?ya2⟩) hSS ?ra2
        case ya2 => (intro w hSw; (try dsimp only at hSw); go_simp; first | done | with_reducible rfl)
        try simp only [Act.put, List.setIfInBounds_toArray, List.set_cons_zero, List.set_cons_succ]
        refine takeN (i := 3) (v := ?va3) rfl (by kernel_rfl) (by kernel_rfl) (by kernel_rfl) (fun _ _ _ h => h) (Or.inl ⟨by rfl, ?ya3⟩) hSS ?ra3
        case ya3 => (intro w hSw; (try dsimp only at hSw); go_simp; first | done | with_reducible rfl)
        try simp only [Act.put, List.setIfInBounds_toArray, List.set_cons_zero, List.set_cons_succ]
        refine takeN (i := 4) (v := ?va4) rfl (by kernel_rfl) (by kernel_rfl) (by kernel_rfl) (fun _ _ _ h => h) (Or.inl ⟨by rfl, ?ya4⟩) hSS ?ra4
        case ya4 => (intro w hSw; (try dsimp only at hSw); go_simp; first | done | with_reducible rfl)
        try simp only [Act.put, List.setIfInBounds_toArray, List.set_cons_zero, List.set_cons_succ]
        refine takeN (i := 5) (v := undef) rfl (by kernel_rfl) (by kernel_rfl) (by kernel_rfl) (fun _ _ _ h => h) (Or.inr ⟨by rfl, rfl⟩) hSS ?ra5
        try simp only [Act.put, List.setIfInBounds_toArray, List.set_cons_zero, List.set_cons_succ]
        refine takeN (i := 6) (v := undef) rfl (by kernel_rfl) (by kernel_rfl) (by kernel_rfl) (fun _ _ _ h => h) (Or.inr ⟨by rfl, rfl⟩) hSS ?ra6
        try simp only [Act.put, List.setIfInBounds_toArray, List.set_cons_zero, List.set_cons_succ]
        refine takeN (i := 7) (v := undef) rfl (by kernel_rfl) (by kernel_rfl) (by kernel_rfl) (fun _ _ _ h => h) (Or.inr ⟨by rfl, rfl⟩) hSS ?ra7
        try simp only [Act.put, List.setIfInBounds_toArray, List.set_cons_zero, List.set_cons_succ]
        refine takeN (i := 8) (v := undef) rfl (by kernel_rfl) (by kernel_rfl) (by kernel_rfl) (fun _ _ _ h => h) (Or.inr ⟨by rfl, rfl⟩) hSS ?ra8
        try simp only [Act.put, List.setIfInBounds_toArray, List.set_cons_zero, List.set_cons_succ]
        refine takeN (i := 9) (v := undef) rfl (by kernel_rfl) (by kernel_rfl) (by kernel_rfl) (fun _ _ _ h => h) (Or.inr ⟨by rfl, rfl⟩) hSS ?ra9
        try simp only [Act.put, List.setIfInBounds_toArray, List.set_cons_zero, List.set_cons_succ]
        refine takeN (i := 10) (v := undef) rfl (by kernel_rfl) (by kernel_rfl) (by kernel_rfl) (fun _ _ _ h => h) (Or.inr ⟨by rfl, rfl⟩) hSS ?ra10
        try simp only [Act.put, List.setIfInBounds_toArray, List.set_cons_zero, List.set_cons_succ]
        refine readyN (rs := [11]) (by kernel_rfl) (by simp) (consN rfl (fun K hK => ?_) nilN)
        go_simp
        refine hK.out _ _ hSS (fun hHeld => ?_)
        clear hK K hHeld
        try simp only [Act.put, List.setIfInBounds_toArray, List.set_cons_zero, List.set_cons_succ]
        refine takeN (i := 12) (v := undef) rfl (by kernel_rfl) (by kernel_rfl) (by kernel_rfl) (fun _ _ _ h => h) (Or.inr ⟨by rfl, rfl⟩) hSS ?ra12
        try simp only [Act.put, List.setIfInBounds_toArray, List.set_cons_zero, List.set_cons_succ]
        refine takeN (i := 13) (v := ?va13) rfl (by kernel_rfl) (by kernel_rfl) (by kernel_rfl) (fun _ _ _ h => h) (Or.inl ⟨by rfl, ?ya13⟩) hSS ?ra13
        case ya13 => (intro w hSw; (try dsimp only at hSw); go_simp; first | done | with_reducible rfl)
        try simp only [Act.put, List.setIfInBounds_toArray, List.set_cons_zero, List.set_cons_succ]
        refine takeN (i := 14) (v := ?va14) rfl (by kernel_rfl) (by kernel_rfl) (by kernel_rfl) (fun _ _ _ h => h) (Or.inl ⟨by rfl, ?ya14⟩) hSS ?ra14
        case ya14 => (intro w hSw; (try dsimp only at hSw); go_simp; first | done | with_reducible rfl)
        try simp only [Act.put, List.setIfInBounds_toArray, List.set_cons_zero, List.set_cons_succ]
        refine takeN (i := 15) (v := undef) rfl (by kernel_rfl) (by kernel_rfl) (by kernel_rfl) (fun _ _ _ h => h) (Or.inr ⟨by rfl, rfl⟩) hSS ?ra15
        try simp only [Act.put, List.setIfInBounds_toArray, List.set_cons_zero, List.set_cons_succ]
        refine takeN (i := 16) (v := undef) rfl (by kernel_rfl) (by kernel_rfl) (by kernel_rfl) (fun _ _ _ h => h) (Or.inr ⟨by rfl, rfl⟩) hSS ?ra16
        try simp only [Act.put, List.setIfInBounds_toArray, List.set_cons_zero, List.set_cons_succ]
        refine takeN (i := 17) (v := undef) rfl (by kernel_rfl) (by kernel_rfl) (by kernel_rfl) (fun _ _ _ h => h) (Or.inr ⟨by rfl, rfl⟩) hSS ?ra17
        try simp only [Act.put, List.setIfInBounds_toArray, List.set_cons_zero, List.set_cons_succ]
        refine takeN (i := 18) (v := undef) rfl (by kernel_rfl) (by kernel_rfl) (by kernel_rfl) (fun _ _ _ h => h) (Or.inr ⟨by rfl, rfl⟩) hSS ?ra18
        try simp only [Act.put, List.setIfInBounds_toArray, List.set_cons_zero, List.set_cons_succ]
        refine takeN (i := 19) (v := undef) rfl (by kernel_rfl) (by kernel_rfl) (by kernel_rfl) (fun _ _ _ h => h) (Or.inr ⟨by rfl, rfl⟩) hSS ?ra19
        try simp only [Act.put, List.setIfInBounds_toArray, List.set_cons_zero, List.set_cons_succ]
        refine takeN (i := 20) (v := undef) rfl (by kernel_rfl) (by kernel_rfl) (by kernel_rfl) (fun _ _ _ h => h) (Or.inr ⟨by rfl, rfl⟩) hSS ?ra20
        try simp only [Act.put, List.setIfInBounds_toArray, List.set_cons_zero, List.set_cons_succ]
        refine takeN (i := 21) (v := undef) rfl (by kernel_rfl) (by kernel_rfl) (by kernel_rfl) (fun _ _ _ h => h) (Or.inr ⟨by rfl, rfl⟩) hSS ?ra21
        try simp only [Act.put, List.setIfInBounds_toArray, List.set_cons_zero, List.set_cons_succ]
        refine takeN (i := 22) (v := undef) rfl (by kernel_rfl) (by kernel_rfl) (by kernel_rfl) (fun _ _ _ h => h) (Or.inr ⟨by rfl, rfl⟩) hSS ?ra22
        try simp only [Act.put, List.setIfInBounds_toArray, List.set_cons_zero, List.set_cons_succ]
        refine readyN (rs := [23]) (by kernel_rfl) (by simp) (consN rfl (fun K hK => ?_) nilN)
        go_simp
        refine hK.out _ _ hSS (fun hHeld => ?_)
        clear hK K hHeld
        try simp only [Act.put, List.setIfInBounds_toArray, List.set_cons_zero, List.set_cons_succ]
        refine takeN (i := 24) (v := undef) rfl (by kernel_rfl) (by kernel_rfl) (by kernel_rfl) (fun _ _ _ h => h) (Or.inr ⟨by rfl, rfl⟩) hSS ?ra24
        try simp only [Act.put, List.setIfInBounds_toArray, List.set_cons_zero, List.set_cons_succ]
        refine takeN (i := 25) (v := ?va25) rfl (by kernel_rfl) (by kernel_rfl) (by kernel_rfl) (fun _ _ _ h => h) (Or.inl ⟨by rfl, ?ya25⟩) hSS ?ra25
        case ya25 => (intro w hSw; (try dsimp only at hSw); go_simp; first | done | with_reducible rfl)
        try simp only [Act.put, List.setIfInBounds_toArray, List.set_cons_zero, List.set_cons_succ]
        refine doneN (by kernel_rfl) ?_ _
        clear hSS HS
        go_wp2_with fail
        go_ret2
        exact .inl ⟨fun h => by have := HLO.out h; omega, rfl, HCW.out.drew⟩
      have d1 : decide (x.i ≤ last) = false := decide_eq_false g1
      by_cases g2 : 1 ≤ x.i ∧ x.i < 2 * (P : Int)
      case neg =>
        have HGX := Lib.hid (fun u => HGD.out u x.i HXO.out.2.1)
        rw [decide_eq_false g2] at HGX
        refine startN (S := fun wx => wx.cell? ⟨p, 2, none⟩ = some (.int .i64 (dn : Nat)) ∧ wx.cell? ⟨p, 3, none⟩ = some (.pointer (some ⟨s, 0, none⟩)) ∧ wx.cell? ⟨q5, 0, none⟩ = some (.int .i64 x.i) ∧ wx.cell? ⟨q5, 1, none⟩ = some (.int .u64 (x.c : Nat))) (by kernel_rfl) hSS (fun hHeld => ?_)
        refine takeN (i := 0) (v := ?vb0) rfl (by kernel_rfl) (by kernel_rfl) (by kernel_rfl) (fun _ _ _ h => h) (Or.inl ⟨by rfl, ?yb0⟩) hSS ?rb0
        case yb0 => (intro w hSw; (try dsimp only at hSw); go_simp; first | done | with_reducible rfl)
        try simp only [Act.put, List.setIfInBounds_toArray, List.set_cons_zero, List.set_cons_succ]
        refine takeN (i := 1) (v := ?vb1) rfl (by kernel_rfl) (by kernel_rfl) (by kernel_rfl) (fun _ _ _ h => h) (Or.inl ⟨by rfl, ?yb1⟩) hSS ?rb1
        case yb1 => (intro w hSw; (try dsimp only at hSw); go_simp; first | done | with_reducible rfl)
        try simp only [Act.put, List.setIfInBounds_toArray, List.set_cons_zero, List.set_cons_succ]
        refine takeN (i := 2) (v := ?vb2) rfl (by kernel_rfl) (by kernel_rfl) (by kernel_rfl) (fun _ _ _ h => h) (Or.inl ⟨by rfl, ?yb2⟩) hSS ?rb2
        case yb2 => (intro w hSw; (try dsimp only at hSw); go_simp; first | done | with_reducible rfl)
        try simp only [Act.put, List.setIfInBounds_toArray, List.set_cons_zero, List.set_cons_succ]
        refine takeN (i := 3) (v := ?vb3) rfl (by kernel_rfl) (by kernel_rfl) (by kernel_rfl) (fun _ _ _ h => h) (Or.inl ⟨by rfl, ?yb3⟩) hSS ?rb3
        case yb3 => (intro w hSw; (try dsimp only at hSw); go_simp; first | done | with_reducible rfl)
        try simp only [Act.put, List.setIfInBounds_toArray, List.set_cons_zero, List.set_cons_succ]
        refine takeN (i := 4) (v := ?vb4) rfl (by kernel_rfl) (by kernel_rfl) (by kernel_rfl) (fun _ _ _ h => h) (Or.inl ⟨by rfl, ?yb4⟩) hSS ?rb4
        case yb4 => (intro w hSw; (try dsimp only at hSw); go_simp; first | done | with_reducible rfl)
        try simp only [Act.put, List.setIfInBounds_toArray, List.set_cons_zero, List.set_cons_succ]
        refine takeN (i := 5) (v := ?vb5) rfl (by kernel_rfl) (by kernel_rfl) (by kernel_rfl) (fun _ _ _ h => h) (Or.inl ⟨by rfl, ?yb5⟩) hSS ?rb5
        case yb5 => (intro w hSw; (try dsimp only at hSw); go_simp; first | done | with_reducible rfl)
        try simp only [Act.put, List.setIfInBounds_toArray, List.set_cons_zero, List.set_cons_succ]
        refine takeN (i := 6) (v := ?vb6) rfl (by kernel_rfl) (by kernel_rfl) (by kernel_rfl) (fun _ _ _ h => h) (Or.inl ⟨by rfl, ?yb6⟩) hSS ?rb6
        case yb6 => (intro w hSw; (try dsimp only at hSw); go_simp; first | done | with_reducible rfl)
        try simp only [Act.put, List.setIfInBounds_toArray, List.set_cons_zero, List.set_cons_succ]
        refine takeN (i := 7) (v := ?vb7) rfl (by kernel_rfl) (by kernel_rfl) (by kernel_rfl) (fun _ _ _ h => h) (Or.inl ⟨by rfl, ?yb7⟩) hSS ?rb7
        case yb7 => (intro w hSw; (try dsimp only at hSw); go_simp; first | done | with_reducible rfl)
        try simp only [Act.put, List.setIfInBounds_toArray, List.set_cons_zero, List.set_cons_succ]
        refine takeN (i := 8) (v := ?vb8) rfl (by kernel_rfl) (by kernel_rfl) (by kernel_rfl) (fun _ _ _ h => h) (Or.inl ⟨by rfl, ?yb8⟩) hSS ?rb8
        case yb8 => (intro w hSw; (try dsimp only at hSw); go_simp; first | done | with_reducible rfl)
        try simp only [Act.put, List.setIfInBounds_toArray, List.set_cons_zero, List.set_cons_succ]
        refine takeN (i := 9) (v := ?vb9) rfl (by kernel_rfl) (by kernel_rfl) (by kernel_rfl) (fun _ _ _ h => h) (Or.inl ⟨by rfl, ?yb9⟩) hSS ?rb9
        case yb9 => (intro w hSw; (try dsimp only at hSw); go_simp; first | done | with_reducible rfl)
        try simp only [Act.put, List.setIfInBounds_toArray, List.set_cons_zero, List.set_cons_succ]
        refine takeN (i := 10) (v := ?vb10) rfl (by kernel_rfl) (by kernel_rfl) (by kernel_rfl) (fun _ _ _ h => h) (Or.inl ⟨by rfl, ?yb10⟩) hSS ?rb10
        case yb10 => (intro w hSw; (try dsimp only at hSw); go_simp; first | done | with_reducible rfl)
        try simp only [Act.put, List.setIfInBounds_toArray, List.set_cons_zero, List.set_cons_succ]
        refine readyN (rs := [11]) (by kernel_rfl) (by simp) (consN rfl (fun K hK => ?_) nilN)
        refine step_callsG (by rfl) 49 _ _ rfl enters_ogood _ #[.agg #[.int .i64 (dn : Nat)], .int .i64 x.i] (by simp [Act.eval]) (HGX.out _) ?_; rintro e wa ⟨rfl, hca⟩; refine ⟨_, rfl, ?_⟩
        have HCA := Lib.hid (HC0.out.trans hca)
        have hSA := HS.out wa HCA.out.nil
        clear hca
        refine hK.out _ _ hSA (fun hHeld => ?_)
        clear hK K hHeld
        try simp only [Act.put, List.setIfInBounds_toArray, List.set_cons_zero, List.set_cons_succ]
        refine takeN (i := 12) (v := ?vb12) rfl (by kernel_rfl) (by kernel_rfl) (by kernel_rfl) (fun _ _ _ h => h) (Or.inl ⟨by rfl, ?yb12⟩) hSA ?rb12
        case yb12 => (intro w hSw; (try dsimp only at hSw); go_simp; first | done | with_reducible rfl)
        try simp only [Act.put, List.setIfInBounds_toArray, List.set_cons_zero, List.set_cons_succ]
        refine takeN (i := 13) (v := ?vb13) rfl (by kernel_rfl) (by kernel_rfl) (by kernel_rfl) (fun _ _ _ h => h) (Or.inl ⟨by rfl, ?yb13⟩) hSA ?rb13
        case yb13 => (intro w hSw; (try dsimp only at hSw); go_simp; first | done | with_reducible rfl)
        try simp only [Act.put, List.setIfInBounds_toArray, List.set_cons_zero, List.set_cons_succ]
        refine takeN (i := 14) (v := ?vb14) rfl (by kernel_rfl) (by kernel_rfl) (by kernel_rfl) (fun _ _ _ h => h) (Or.inl ⟨by rfl, ?yb14⟩) hSA ?rb14
        case yb14 => (intro w hSw; (try dsimp only at hSw); go_simp; first | done | with_reducible rfl)
        try simp only [Act.put, List.setIfInBounds_toArray, List.set_cons_zero, List.set_cons_succ]
        refine takeN (i := 15) (v := undef) rfl (by kernel_rfl) (by kernel_rfl) (by kernel_rfl) (fun _ _ _ h => h) (Or.inr ⟨by rfl, rfl⟩) hSA ?rb15
        try simp only [Act.put, List.setIfInBounds_toArray, List.set_cons_zero, List.set_cons_succ]
        refine takeN (i := 16) (v := undef) rfl (by kernel_rfl) (by kernel_rfl) (by kernel_rfl) (fun _ _ _ h => h) (Or.inr ⟨by rfl, rfl⟩) hSA ?rb16
        try simp only [Act.put, List.setIfInBounds_toArray, List.set_cons_zero, List.set_cons_succ]
        refine takeN (i := 17) (v := undef) rfl (by kernel_rfl) (by kernel_rfl) (by kernel_rfl) (fun _ _ _ h => h) (Or.inr ⟨by rfl, rfl⟩) hSA ?rb17
        try simp only [Act.put, List.setIfInBounds_toArray, List.set_cons_zero, List.set_cons_succ]
        refine takeN (i := 18) (v := undef) rfl (by kernel_rfl) (by kernel_rfl) (by kernel_rfl) (fun _ _ _ h => h) (Or.inr ⟨by rfl, rfl⟩) hSA ?rb18
        try simp only [Act.put, List.setIfInBounds_toArray, List.set_cons_zero, List.set_cons_succ]
        refine takeN (i := 19) (v := undef) rfl (by kernel_rfl) (by kernel_rfl) (by kernel_rfl) (fun _ _ _ h => h) (Or.inr ⟨by rfl, rfl⟩) hSA ?rb19
        try simp only [Act.put, List.setIfInBounds_toArray, List.set_cons_zero, List.set_cons_succ]
        refine takeN (i := 20) (v := undef) rfl (by kernel_rfl) (by kernel_rfl) (by kernel_rfl) (fun _ _ _ h => h) (Or.inr ⟨by rfl, rfl⟩) hSA ?rb20
        try simp only [Act.put, List.setIfInBounds_toArray, List.set_cons_zero, List.set_cons_succ]
        refine takeN (i := 21) (v := undef) rfl (by kernel_rfl) (by kernel_rfl) (by kernel_rfl) (fun _ _ _ h => h) (Or.inr ⟨by rfl, rfl⟩) hSA ?rb21
        try simp only [Act.put, List.setIfInBounds_toArray, List.set_cons_zero, List.set_cons_succ]
        refine takeN (i := 22) (v := undef) rfl (by kernel_rfl) (by kernel_rfl) (by kernel_rfl) (fun _ _ _ h => h) (Or.inr ⟨by rfl, rfl⟩) hSA ?rb22
        try simp only [Act.put, List.setIfInBounds_toArray, List.set_cons_zero, List.set_cons_succ]
        refine readyN (rs := [23]) (by kernel_rfl) (by simp) (consN rfl (fun K hK => ?_) nilN)
        go_simp
        refine hK.out _ _ hSA (fun hHeld => ?_)
        clear hK K hHeld
        try simp only [Act.put, List.setIfInBounds_toArray, List.set_cons_zero, List.set_cons_succ]
        refine takeN (i := 24) (v := undef) rfl (by kernel_rfl) (by kernel_rfl) (by kernel_rfl) (fun _ _ _ h => h) (Or.inr ⟨by rfl, rfl⟩) hSA ?rb24
        try simp only [Act.put, List.setIfInBounds_toArray, List.set_cons_zero, List.set_cons_succ]
        refine takeN (i := 25) (v := ?vb25) rfl (by kernel_rfl) (by kernel_rfl) (by kernel_rfl) (fun _ _ _ h => h) (Or.inl ⟨by rfl, ?yb25⟩) hSA ?rb25
        case yb25 => (intro w hSw; (try dsimp only at hSw); go_simp; first | done | with_reducible rfl)
        try simp only [Act.put, List.setIfInBounds_toArray, List.set_cons_zero, List.set_cons_succ]
        refine doneN (by kernel_rfl) ?_ _
        clear hSS hSA HS
        go_wp2_with fail
        go_ret2
        exact .inl ⟨fun h => g2 (HIX.out h), rfl, HCW.out.trans HCA.out⟩
      have HGX := Lib.hid (fun u => HGD.out u x.i HXO.out.2.1)
      rw [decide_eq_true g2] at HGX
      by_cases g3 : 1 ≤ x.c ∧ totP r0 + x.c ≤ 9223372036854775807
      case neg =>
        have HAX := Lib.hid (fun u hu => show Calls Try.prog 42 #[.pointer (some ⟨s, 0, none⟩), .int .i64 x.i, .int .u64 (x.c : Nat)] u fun e w' => ∃ k : Int, (k == 0) = false ∧ e = .returned (.int .i64 k) ∧ Chg [] u w' from (HAD.out u hu).mono fun e w' h => by
          rcases h with ⟨h1, -⟩ | ⟨-, h2⟩
          · exact absurd h1 g3
          · exact h2)
        refine startN (S := fun wx => wx.cell? ⟨p, 2, none⟩ = some (.int .i64 (dn : Nat)) ∧ wx.cell? ⟨p, 3, none⟩ = some (.pointer (some ⟨s, 0, none⟩)) ∧ wx.cell? ⟨q5, 0, none⟩ = some (.int .i64 x.i) ∧ wx.cell? ⟨q5, 1, none⟩ = some (.int .u64 (x.c : Nat))) (by kernel_rfl) hSS (fun hHeld => ?_)
        refine takeN (i := 0) (v := ?vc0) rfl (by kernel_rfl) (by kernel_rfl) (by kernel_rfl) (fun _ _ _ h => h) (Or.inl ⟨by rfl, ?yc0⟩) hSS ?rc0
        case yc0 => (intro w hSw; (try dsimp only at hSw); go_simp; first | done | with_reducible rfl)
        try simp only [Act.put, List.setIfInBounds_toArray, List.set_cons_zero, List.set_cons_succ]
        refine takeN (i := 1) (v := ?vc1) rfl (by kernel_rfl) (by kernel_rfl) (by kernel_rfl) (fun _ _ _ h => h) (Or.inl ⟨by rfl, ?yc1⟩) hSS ?rc1
        case yc1 => (intro w hSw; (try dsimp only at hSw); go_simp; first | done | with_reducible rfl)
        try simp only [Act.put, List.setIfInBounds_toArray, List.set_cons_zero, List.set_cons_succ]
        refine takeN (i := 2) (v := ?vc2) rfl (by kernel_rfl) (by kernel_rfl) (by kernel_rfl) (fun _ _ _ h => h) (Or.inl ⟨by rfl, ?yc2⟩) hSS ?rc2
        case yc2 => (intro w hSw; (try dsimp only at hSw); go_simp; first | done | with_reducible rfl)
        try simp only [Act.put, List.setIfInBounds_toArray, List.set_cons_zero, List.set_cons_succ]
        refine takeN (i := 3) (v := ?vc3) rfl (by kernel_rfl) (by kernel_rfl) (by kernel_rfl) (fun _ _ _ h => h) (Or.inl ⟨by rfl, ?yc3⟩) hSS ?rc3
        case yc3 => (intro w hSw; (try dsimp only at hSw); go_simp; first | done | with_reducible rfl)
        try simp only [Act.put, List.setIfInBounds_toArray, List.set_cons_zero, List.set_cons_succ]
        refine takeN (i := 4) (v := ?vc4) rfl (by kernel_rfl) (by kernel_rfl) (by kernel_rfl) (fun _ _ _ h => h) (Or.inl ⟨by rfl, ?yc4⟩) hSS ?rc4
        case yc4 => (intro w hSw; (try dsimp only at hSw); go_simp; first | done | with_reducible rfl)
        try simp only [Act.put, List.setIfInBounds_toArray, List.set_cons_zero, List.set_cons_succ]
        refine takeN (i := 5) (v := ?vc5) rfl (by kernel_rfl) (by kernel_rfl) (by kernel_rfl) (fun _ _ _ h => h) (Or.inl ⟨by rfl, ?yc5⟩) hSS ?rc5
        case yc5 => (intro w hSw; (try dsimp only at hSw); go_simp; first | done | with_reducible rfl)
        try simp only [Act.put, List.setIfInBounds_toArray, List.set_cons_zero, List.set_cons_succ]
        refine takeN (i := 6) (v := ?vc6) rfl (by kernel_rfl) (by kernel_rfl) (by kernel_rfl) (fun _ _ _ h => h) (Or.inl ⟨by rfl, ?yc6⟩) hSS ?rc6
        case yc6 => (intro w hSw; (try dsimp only at hSw); go_simp; first | done | with_reducible rfl)
        try simp only [Act.put, List.setIfInBounds_toArray, List.set_cons_zero, List.set_cons_succ]
        refine takeN (i := 7) (v := ?vc7) rfl (by kernel_rfl) (by kernel_rfl) (by kernel_rfl) (fun _ _ _ h => h) (Or.inl ⟨by rfl, ?yc7⟩) hSS ?rc7
        case yc7 => (intro w hSw; (try dsimp only at hSw); go_simp; first | done | with_reducible rfl)
        try simp only [Act.put, List.setIfInBounds_toArray, List.set_cons_zero, List.set_cons_succ]
        refine takeN (i := 8) (v := ?vc8) rfl (by kernel_rfl) (by kernel_rfl) (by kernel_rfl) (fun _ _ _ h => h) (Or.inl ⟨by rfl, ?yc8⟩) hSS ?rc8
        case yc8 => (intro w hSw; (try dsimp only at hSw); go_simp; first | done | with_reducible rfl)
        try simp only [Act.put, List.setIfInBounds_toArray, List.set_cons_zero, List.set_cons_succ]
        refine takeN (i := 9) (v := ?vc9) rfl (by kernel_rfl) (by kernel_rfl) (by kernel_rfl) (fun _ _ _ h => h) (Or.inl ⟨by rfl, ?yc9⟩) hSS ?rc9
        case yc9 => (intro w hSw; (try dsimp only at hSw); go_simp; first | done | with_reducible rfl)
        try simp only [Act.put, List.setIfInBounds_toArray, List.set_cons_zero, List.set_cons_succ]
        refine takeN (i := 10) (v := ?vc10) rfl (by kernel_rfl) (by kernel_rfl) (by kernel_rfl) (fun _ _ _ h => h) (Or.inl ⟨by rfl, ?yc10⟩) hSS ?rc10
        case yc10 => (intro w hSw; (try dsimp only at hSw); go_simp; first | done | with_reducible rfl)
        try simp only [Act.put, List.setIfInBounds_toArray, List.set_cons_zero, List.set_cons_succ]
        refine readyN (rs := [11]) (by kernel_rfl) (by simp) (consN rfl (fun K hK => ?_) nilN)
        refine step_callsG (by rfl) 49 _ _ rfl enters_ogood _ #[.agg #[.int .i64 (dn : Nat)], .int .i64 x.i] (by simp [Act.eval]) (HGX.out _) ?_; rintro e wa ⟨rfl, hca⟩; refine ⟨_, rfl, ?_⟩
        have HCA := Lib.hid (HC0.out.trans hca)
        have hSA := HS.out wa HCA.out.nil
        clear hca
        refine hK.out _ _ hSA (fun hHeld => ?_)
        clear hK K hHeld
        try simp only [Act.put, List.setIfInBounds_toArray, List.set_cons_zero, List.set_cons_succ]
        refine takeN (i := 12) (v := ?vc12) rfl (by kernel_rfl) (by kernel_rfl) (by kernel_rfl) (fun _ _ _ h => h) (Or.inl ⟨by rfl, ?yc12⟩) hSA ?rc12
        case yc12 => (intro w hSw; (try dsimp only at hSw); go_simp; first | done | with_reducible rfl)
        try simp only [Act.put, List.setIfInBounds_toArray, List.set_cons_zero, List.set_cons_succ]
        refine takeN (i := 13) (v := ?vc13) rfl (by kernel_rfl) (by kernel_rfl) (by kernel_rfl) (fun _ _ _ h => h) (Or.inl ⟨by rfl, ?yc13⟩) hSA ?rc13
        case yc13 => (intro w hSw; (try dsimp only at hSw); go_simp; first | done | with_reducible rfl)
        try simp only [Act.put, List.setIfInBounds_toArray, List.set_cons_zero, List.set_cons_succ]
        refine takeN (i := 14) (v := ?vc14) rfl (by kernel_rfl) (by kernel_rfl) (by kernel_rfl) (fun _ _ _ h => h) (Or.inl ⟨by rfl, ?yc14⟩) hSA ?rc14
        case yc14 => (intro w hSw; (try dsimp only at hSw); go_simp; first | done | with_reducible rfl)
        try simp only [Act.put, List.setIfInBounds_toArray, List.set_cons_zero, List.set_cons_succ]
        refine takeN (i := 15) (v := ?vc15) rfl (by kernel_rfl) (by kernel_rfl) (by kernel_rfl) (fun _ _ _ h => h) (Or.inl ⟨by rfl, ?yc15⟩) hSA ?rc15
        case yc15 => (intro w hSw; (try dsimp only at hSw); go_simp; first | done | with_reducible rfl)
        try simp only [Act.put, List.setIfInBounds_toArray, List.set_cons_zero, List.set_cons_succ]
        refine takeN (i := 16) (v := ?vc16) rfl (by kernel_rfl) (by kernel_rfl) (by kernel_rfl) (fun _ _ _ h => h) (Or.inl ⟨by rfl, ?yc16⟩) hSA ?rc16
        case yc16 => (intro w hSw; (try dsimp only at hSw); go_simp; first | done | with_reducible rfl)
        try simp only [Act.put, List.setIfInBounds_toArray, List.set_cons_zero, List.set_cons_succ]
        refine takeN (i := 17) (v := ?vc17) rfl (by kernel_rfl) (by kernel_rfl) (by kernel_rfl) (fun _ _ _ h => h) (Or.inl ⟨by rfl, ?yc17⟩) hSA ?rc17
        case yc17 => (intro w hSw; (try dsimp only at hSw); go_simp; first | done | with_reducible rfl)
        try simp only [Act.put, List.setIfInBounds_toArray, List.set_cons_zero, List.set_cons_succ]
        refine takeN (i := 18) (v := ?vc18) rfl (by kernel_rfl) (by kernel_rfl) (by kernel_rfl) (fun _ _ _ h => h) (Or.inl ⟨by rfl, ?yc18⟩) hSA ?rc18
        case yc18 => (intro w hSw; (try dsimp only at hSw); go_simp; first | done | with_reducible rfl)
        try simp only [Act.put, List.setIfInBounds_toArray, List.set_cons_zero, List.set_cons_succ]
        refine takeN (i := 19) (v := ?vc19) rfl (by kernel_rfl) (by kernel_rfl) (by kernel_rfl) (fun _ _ _ h => h) (Or.inl ⟨by rfl, ?yc19⟩) hSA ?rc19
        case yc19 => (intro w hSw; (try dsimp only at hSw); go_simp; first | done | with_reducible rfl)
        try simp only [Act.put, List.setIfInBounds_toArray, List.set_cons_zero, List.set_cons_succ]
        refine takeN (i := 20) (v := ?vc20) rfl (by kernel_rfl) (by kernel_rfl) (by kernel_rfl) (fun _ _ _ h => h) (Or.inl ⟨by rfl, ?yc20⟩) hSA ?rc20
        case yc20 => (intro w hSw; (try dsimp only at hSw); go_simp; first | done | with_reducible rfl)
        try simp only [Act.put, List.setIfInBounds_toArray, List.set_cons_zero, List.set_cons_succ]
        refine takeN (i := 21) (v := ?vc21) rfl (by kernel_rfl) (by kernel_rfl) (by kernel_rfl) (fun _ _ _ h => h) (Or.inl ⟨by rfl, ?yc21⟩) hSA ?rc21
        case yc21 => (intro w hSw; (try dsimp only at hSw); go_simp; first | done | with_reducible rfl)
        try simp only [Act.put, List.setIfInBounds_toArray, List.set_cons_zero, List.set_cons_succ]
        refine takeN (i := 22) (v := ?vc22) rfl (by kernel_rfl) (by kernel_rfl) (by kernel_rfl) (fun _ _ _ h => h) (Or.inl ⟨by rfl, ?yc22⟩) hSA ?rc22
        case yc22 => (intro w hSw; (try dsimp only at hSw); go_simp; first | done | with_reducible rfl)
        try simp only [Act.put, List.setIfInBounds_toArray, List.set_cons_zero, List.set_cons_succ]
        refine readyN (rs := [23]) (by kernel_rfl) (by simp) (consN rfl (fun K hK => ?_) nilN)
        refine step_callsG (by rfl) 42 _ _ rfl enters_oadd _ #[.pointer (some ⟨s, 0, none⟩), .int .i64 x.i, .int .u64 (x.c : Nat)] (by simp [Act.eval]) (HAX.out _ (HDW.out.chg HCA.out (by simp)).strip) ?_; rintro e wb ⟨kk, hkk, rfl, hcb⟩; refine ⟨_, rfl, ?_⟩
        have HCB := Lib.hid (HCA.out.trans hcb)
        have hSB := HS.out wb HCB.out.nil
        clear hcb
        refine hK.out _ _ hSB (fun hHeld => ?_)
        clear hK K hHeld
        try simp only [Act.put, List.setIfInBounds_toArray, List.set_cons_zero, List.set_cons_succ]
        refine takeN (i := 24) (v := ?vc24) rfl (by kernel_rfl) (by kernel_rfl) (by kernel_rfl) (fun _ _ _ h => h) (Or.inl ⟨by rfl, ?yc24⟩) hSB ?rc24
        case yc24 => (intro w hSw; (try dsimp only at hSw); go_simp; first | done | with_reducible rfl)
        try simp only [Act.put, List.setIfInBounds_toArray, List.set_cons_zero, List.set_cons_succ]
        refine takeN (i := 25) (v := ?vc25) rfl (by kernel_rfl) (by kernel_rfl) (by kernel_rfl) (fun _ _ _ h => h) (Or.inl ⟨by rfl, ?yc25⟩) hSB ?rc25
        case yc25 => (intro w hSw; (try dsimp only at hSw); go_simp; first | done | with_reducible rfl)
        try simp only [Act.put, List.setIfInBounds_toArray, List.set_cons_zero, List.set_cons_succ]
        refine doneN (by kernel_rfl) ?_ _
        clear hSS hSA hSB HS
        have hkk2 : (kk != 0) = true := by simp [bne, hkk]
        go_wp2_with fail
        go_ret2
        exact .inl ⟨fun h => g3 (HCT.out h), rfl, HCW.out.trans HCB.out⟩
      have HAX := Lib.hid (fun u hu => show Calls Try.prog 42 #[.pointer (some ⟨s, 0, none⟩), .int .i64 x.i, .int .u64 (x.c : Nat)] u fun e w' => e = .returned (.int .i64 0) ∧ ∃ rv', Spt w' s rv' (row.take (k + 1)) ∧ Mv (fpT s rv2) u (fpT s rv') w' from (HAD.out u hu).mono fun e w' h => by
        rcases h with ⟨-, h1, rv', h2, h3⟩ | ⟨h1, -⟩
        · rw [(HSU.out (by omega) g2.1 g2.2 g3.1 g3.2).2] at h2
          exact ⟨h1, rv', h2, h3⟩
        · exact absurd g3 h1)
      have HSV := Lib.hid (HSU.out (by omega) g2.1 g2.2 g3.1 g3.2)
      refine startN (S := fun wx => wx.cell? ⟨p, 2, none⟩ = some (.int .i64 (dn : Nat)) ∧ wx.cell? ⟨p, 3, none⟩ = some (.pointer (some ⟨s, 0, none⟩)) ∧ wx.cell? ⟨q5, 0, none⟩ = some (.int .i64 x.i) ∧ wx.cell? ⟨q5, 1, none⟩ = some (.int .u64 (x.c : Nat))) (by kernel_rfl) hSS (fun hHeld => ?_)
      refine takeN (i := 0) (v := ?vd0) rfl (by kernel_rfl) (by kernel_rfl) (by kernel_rfl) (fun _ _ _ h => h) (Or.inl ⟨by rfl, ?yd0⟩) hSS ?rd0
      case yd0 => (intro w hSw; (try dsimp only at hSw); go_simp; first | done | with_reducible rfl)
      try simp only [Act.put, List.setIfInBounds_toArray, List.set_cons_zero, List.set_cons_succ]
      refine takeN (i := 1) (v := ?vd1) rfl (by kernel_rfl) (by kernel_rfl) (by kernel_rfl) (fun _ _ _ h => h) (Or.inl ⟨by rfl, ?yd1⟩) hSS ?rd1
      case yd1 => (intro w hSw; (try dsimp only at hSw); go_simp; first | done | with_reducible rfl)
      try simp only [Act.put, List.setIfInBounds_toArray, List.set_cons_zero, List.set_cons_succ]
      refine takeN (i := 2) (v := ?vd2) rfl (by kernel_rfl) (by kernel_rfl) (by kernel_rfl) (fun _ _ _ h => h) (Or.inl ⟨by rfl, ?yd2⟩) hSS ?rd2
      case yd2 => (intro w hSw; (try dsimp only at hSw); go_simp; first | done | with_reducible rfl)
      try simp only [Act.put, List.setIfInBounds_toArray, List.set_cons_zero, List.set_cons_succ]
      refine takeN (i := 3) (v := ?vd3) rfl (by kernel_rfl) (by kernel_rfl) (by kernel_rfl) (fun _ _ _ h => h) (Or.inl ⟨by rfl, ?yd3⟩) hSS ?rd3
      case yd3 => (intro w hSw; (try dsimp only at hSw); go_simp; first | done | with_reducible rfl)
      try simp only [Act.put, List.setIfInBounds_toArray, List.set_cons_zero, List.set_cons_succ]
      refine takeN (i := 4) (v := ?vd4) rfl (by kernel_rfl) (by kernel_rfl) (by kernel_rfl) (fun _ _ _ h => h) (Or.inl ⟨by rfl, ?yd4⟩) hSS ?rd4
      case yd4 => (intro w hSw; (try dsimp only at hSw); go_simp; first | done | with_reducible rfl)
      try simp only [Act.put, List.setIfInBounds_toArray, List.set_cons_zero, List.set_cons_succ]
      refine takeN (i := 5) (v := ?vd5) rfl (by kernel_rfl) (by kernel_rfl) (by kernel_rfl) (fun _ _ _ h => h) (Or.inl ⟨by rfl, ?yd5⟩) hSS ?rd5
      case yd5 => (intro w hSw; (try dsimp only at hSw); go_simp; first | done | with_reducible rfl)
      try simp only [Act.put, List.setIfInBounds_toArray, List.set_cons_zero, List.set_cons_succ]
      refine takeN (i := 6) (v := ?vd6) rfl (by kernel_rfl) (by kernel_rfl) (by kernel_rfl) (fun _ _ _ h => h) (Or.inl ⟨by rfl, ?yd6⟩) hSS ?rd6
      case yd6 => (intro w hSw; (try dsimp only at hSw); go_simp; first | done | with_reducible rfl)
      try simp only [Act.put, List.setIfInBounds_toArray, List.set_cons_zero, List.set_cons_succ]
      refine takeN (i := 7) (v := ?vd7) rfl (by kernel_rfl) (by kernel_rfl) (by kernel_rfl) (fun _ _ _ h => h) (Or.inl ⟨by rfl, ?yd7⟩) hSS ?rd7
      case yd7 => (intro w hSw; (try dsimp only at hSw); go_simp; first | done | with_reducible rfl)
      try simp only [Act.put, List.setIfInBounds_toArray, List.set_cons_zero, List.set_cons_succ]
      refine takeN (i := 8) (v := ?vd8) rfl (by kernel_rfl) (by kernel_rfl) (by kernel_rfl) (fun _ _ _ h => h) (Or.inl ⟨by rfl, ?yd8⟩) hSS ?rd8
      case yd8 => (intro w hSw; (try dsimp only at hSw); go_simp; first | done | with_reducible rfl)
      try simp only [Act.put, List.setIfInBounds_toArray, List.set_cons_zero, List.set_cons_succ]
      refine takeN (i := 9) (v := ?vd9) rfl (by kernel_rfl) (by kernel_rfl) (by kernel_rfl) (fun _ _ _ h => h) (Or.inl ⟨by rfl, ?yd9⟩) hSS ?rd9
      case yd9 => (intro w hSw; (try dsimp only at hSw); go_simp; first | done | with_reducible rfl)
      try simp only [Act.put, List.setIfInBounds_toArray, List.set_cons_zero, List.set_cons_succ]
      refine takeN (i := 10) (v := ?vd10) rfl (by kernel_rfl) (by kernel_rfl) (by kernel_rfl) (fun _ _ _ h => h) (Or.inl ⟨by rfl, ?yd10⟩) hSS ?rd10
      case yd10 => (intro w hSw; (try dsimp only at hSw); go_simp; first | done | with_reducible rfl)
      try simp only [Act.put, List.setIfInBounds_toArray, List.set_cons_zero, List.set_cons_succ]
      refine readyN (rs := [11]) (by kernel_rfl) (by simp) (consN rfl (fun K hK => ?_) nilN)
      refine step_callsG (by rfl) 49 _ _ rfl enters_ogood _ #[.agg #[.int .i64 (dn : Nat)], .int .i64 x.i] (by simp [Act.eval]) (HGX.out _) ?_; rintro e wa ⟨rfl, hca⟩; refine ⟨_, rfl, ?_⟩
      have HCA := Lib.hid (HC0.out.trans hca)
      have hSA := HS.out wa HCA.out.nil
      clear hca
      refine hK.out _ _ hSA (fun hHeld => ?_)
      clear hK K hHeld
      try simp only [Act.put, List.setIfInBounds_toArray, List.set_cons_zero, List.set_cons_succ]
      refine takeN (i := 12) (v := ?vd12) rfl (by kernel_rfl) (by kernel_rfl) (by kernel_rfl) (fun _ _ _ h => h) (Or.inl ⟨by rfl, ?yd12⟩) hSA ?rd12
      case yd12 => (intro w hSw; (try dsimp only at hSw); go_simp; first | done | with_reducible rfl)
      try simp only [Act.put, List.setIfInBounds_toArray, List.set_cons_zero, List.set_cons_succ]
      refine takeN (i := 13) (v := ?vd13) rfl (by kernel_rfl) (by kernel_rfl) (by kernel_rfl) (fun _ _ _ h => h) (Or.inl ⟨by rfl, ?yd13⟩) hSA ?rd13
      case yd13 => (intro w hSw; (try dsimp only at hSw); go_simp; first | done | with_reducible rfl)
      try simp only [Act.put, List.setIfInBounds_toArray, List.set_cons_zero, List.set_cons_succ]
      refine takeN (i := 14) (v := ?vd14) rfl (by kernel_rfl) (by kernel_rfl) (by kernel_rfl) (fun _ _ _ h => h) (Or.inl ⟨by rfl, ?yd14⟩) hSA ?rd14
      case yd14 => (intro w hSw; (try dsimp only at hSw); go_simp; first | done | with_reducible rfl)
      try simp only [Act.put, List.setIfInBounds_toArray, List.set_cons_zero, List.set_cons_succ]
      refine takeN (i := 15) (v := ?vd15) rfl (by kernel_rfl) (by kernel_rfl) (by kernel_rfl) (fun _ _ _ h => h) (Or.inl ⟨by rfl, ?yd15⟩) hSA ?rd15
      case yd15 => (intro w hSw; (try dsimp only at hSw); go_simp; first | done | with_reducible rfl)
      try simp only [Act.put, List.setIfInBounds_toArray, List.set_cons_zero, List.set_cons_succ]
      refine takeN (i := 16) (v := ?vd16) rfl (by kernel_rfl) (by kernel_rfl) (by kernel_rfl) (fun _ _ _ h => h) (Or.inl ⟨by rfl, ?yd16⟩) hSA ?rd16
      case yd16 => (intro w hSw; (try dsimp only at hSw); go_simp; first | done | with_reducible rfl)
      try simp only [Act.put, List.setIfInBounds_toArray, List.set_cons_zero, List.set_cons_succ]
      refine takeN (i := 17) (v := ?vd17) rfl (by kernel_rfl) (by kernel_rfl) (by kernel_rfl) (fun _ _ _ h => h) (Or.inl ⟨by rfl, ?yd17⟩) hSA ?rd17
      case yd17 => (intro w hSw; (try dsimp only at hSw); go_simp; first | done | with_reducible rfl)
      try simp only [Act.put, List.setIfInBounds_toArray, List.set_cons_zero, List.set_cons_succ]
      refine takeN (i := 18) (v := ?vd18) rfl (by kernel_rfl) (by kernel_rfl) (by kernel_rfl) (fun _ _ _ h => h) (Or.inl ⟨by rfl, ?yd18⟩) hSA ?rd18
      case yd18 => (intro w hSw; (try dsimp only at hSw); go_simp; first | done | with_reducible rfl)
      try simp only [Act.put, List.setIfInBounds_toArray, List.set_cons_zero, List.set_cons_succ]
      refine takeN (i := 19) (v := ?vd19) rfl (by kernel_rfl) (by kernel_rfl) (by kernel_rfl) (fun _ _ _ h => h) (Or.inl ⟨by rfl, ?yd19⟩) hSA ?rd19
      case yd19 => (intro w hSw; (try dsimp only at hSw); go_simp; first | done | with_reducible rfl)
      try simp only [Act.put, List.setIfInBounds_toArray, List.set_cons_zero, List.set_cons_succ]
      refine takeN (i := 20) (v := ?vd20) rfl (by kernel_rfl) (by kernel_rfl) (by kernel_rfl) (fun _ _ _ h => h) (Or.inl ⟨by rfl, ?yd20⟩) hSA ?rd20
      case yd20 => (intro w hSw; (try dsimp only at hSw); go_simp; first | done | with_reducible rfl)
      try simp only [Act.put, List.setIfInBounds_toArray, List.set_cons_zero, List.set_cons_succ]
      refine takeN (i := 21) (v := ?vd21) rfl (by kernel_rfl) (by kernel_rfl) (by kernel_rfl) (fun _ _ _ h => h) (Or.inl ⟨by rfl, ?yd21⟩) hSA ?rd21
      case yd21 => (intro w hSw; (try dsimp only at hSw); go_simp; first | done | with_reducible rfl)
      try simp only [Act.put, List.setIfInBounds_toArray, List.set_cons_zero, List.set_cons_succ]
      refine takeN (i := 22) (v := ?vd22) rfl (by kernel_rfl) (by kernel_rfl) (by kernel_rfl) (fun _ _ _ h => h) (Or.inl ⟨by rfl, ?yd22⟩) hSA ?rd22
      case yd22 => (intro w hSw; (try dsimp only at hSw); go_simp; first | done | with_reducible rfl)
      try simp only [Act.put, List.setIfInBounds_toArray, List.set_cons_zero, List.set_cons_succ]
      refine readyN (rs := [23]) (by kernel_rfl) (by simp) (consN rfl (fun K hK => ?_) nilN)
      refine step_callsG (by rfl) 42 _ _ rfl enters_oadd _ #[.pointer (some ⟨s, 0, none⟩), .int .i64 x.i, .int .u64 (x.c : Nat)] (by simp [Act.eval]) (HAX.out _ (HDW.out.chg HCA.out (by simp)).strip) ?_; rintro e wb ⟨rfl, rv3, hs3, hm3⟩; refine ⟨_, rfl, ?_⟩
      have HGO := Lib.hid ((HDW.out.chg HCA.out (by simp)).go hs3 hm3)
      have HMY := Lib.hid ((HMW.out.trans (Mv.of_chg (F := fpD p s rv2) HCA.out.nil)).trans HGO.out.2)
      have hSB := HS.out wb (HCA.out.nil.trans hm3.chg)
      clear hs3 hm3
      refine hK.out _ _ hSB (fun hHeld => ?_)
      clear hK K hHeld
      try simp only [Act.put, List.setIfInBounds_toArray, List.set_cons_zero, List.set_cons_succ]
      refine takeN (i := 24) (v := ?vd24) rfl (by kernel_rfl) (by kernel_rfl) (by kernel_rfl) (fun _ _ _ h => h) (Or.inl ⟨by rfl, ?yd24⟩) hSB ?rd24
      case yd24 => (intro w hSw; (try dsimp only at hSw); go_simp; first | done | with_reducible rfl)
      try simp only [Act.put, List.setIfInBounds_toArray, List.set_cons_zero, List.set_cons_succ]
      refine takeN (i := 25) (v := ?vd25) rfl (by kernel_rfl) (by kernel_rfl) (by kernel_rfl) (fun _ _ _ h => h) (Or.inl ⟨by rfl, ?yd25⟩) hSB ?rd25
      case yd25 => (intro w hSw; (try dsimp only at hSw); go_simp; first | done | with_reducible rfl)
      try simp only [Act.put, List.setIfInBounds_toArray, List.set_cons_zero, List.set_cons_succ]
      refine doneN (by kernel_rfl) ?_ _
      clear hSS hSA HS HAX HAD HGX
      go_wp2_with fail
      exact ⟨⟨k + 1, rv3, by omega, by go_num, by rw [HLS.out], HGO.out.1, HMY.out, Lib.hid HSV.out.1⟩, by simp [intOf]; omega⟩
    · obtain rfl : k = n := by omega
      have htk : row.take k = row := List.take_of_length_le (by have := HN.out; omega)
      have HPN := Lib.hid HPR.out.nodes
      have HPT := Lib.hid HPR.out.tot
      have HDR := Lib.hid HDG.out
      rw [htk] at HPN HPT HDR
      have HNW := Lib.hid HMV.out
      clear HPR HDG htk hlt hk HMV
      have HOKD := Lib.hid (show (⟨dn, fn, row, 0, 0⟩ : DgD).ok from ⟨HDF.out.1.1, HDF.out.1.2, HDF.out.2.1, HDF.out.2.2, by show Nodes row (2 * ((2 ^ dn : Nat) : Int)); rw [← HP.out]; exact HPN.out, HPT.out, by show row.length ≤ 1000; have := HN.out; omega⟩)
      obtain ⟨L, hL⟩ : ∃ L, L = totP row / fn := ⟨_, rfl⟩
      have HLM := Lib.hid (fun u (hu : Chg [] wr u) => dg_limit u p s rv2 ⟨dn, fn, row, 0, 0⟩ (HDR.out.chg hu (by simp)) HOKD.out L hL)
      have HL := Lib.hid hL
      clear hL
      go_wp2_with fail
      go_loopw [66] (fun i wx => ∃ j : Nat, j ≤ k ∧ i = .int .i64 (j : Nat) ∧ Chg [] wr wx ∧ Hid (∀ i (hi : i < j) (hi2 : i < row.length), row[i].i < (P : Int) → row[i].c ≤ L)) (fun i _ => k - (intOf i).toNat)
      case atStart => exact ⟨0, Nat.zero_le _, rfl, Chg.refl _ _, Lib.hid (fun i hi => by omega)⟩
      case round =>
        rename World => wj
        obtain ⟨j, hj, rfl, hch, HLJ⟩ := hrel
        have HCH := Lib.hid hch
        clear hch
        by_cases hlt : j < k
        · have hkl : j < row.length := by have := HN.out; omega
          obtain ⟨b, o, rfl, hcc⟩ := (HR.out.chg (HCX.out.trans HCH.out) (by simp)).addr (by omega)
          obtain ⟨e0, e1⟩ := pr_at (fun j hj => hcc j (by rw [HN.out]; exact hj)) hkl
          have HLX := Lib.hid (fun (h : LoadOk dn fn row lo hi) => (HBAD.out h).2.2.1 _ (List.getElem_mem hkl))
          have HJN := Lib.hid (fun (h : row[j].i < (P : Int) → row[j].c ≤ L) => show ∀ i (hi : i < j + 1) (hi2 : i < row.length), row[i].i < (P : Int) → row[i].c ≤ L from fun i hi hi2 => by
            by_cases hij : i = j
            · subst hij; exact h
            · exact HLJ.out i (by omega) hi2)
          generalize row[j] = x at *
          clear hcc hkl
          go_upto_region 15 with (fail)
          obtain ⟨q5, hq5⟩ : ∃ z, z = wj.heap.size := ⟨_, rfl⟩
          have HBQ := Lib.hid (Blk.alloc_new wj #[.int .i64 x.i, .int .u64 x.c] 53)
          have HCW := Lib.hid (HCH.out.alloc (.cells #[.int .i64 x.i, .int .u64 x.c] 53))
          rw [← hq5] at HBQ ⊢
          clear hq5 e0 e1
          generalize wj.alloc (.cells #[.int .i64 x.i, .int .u64 x.c] 53) = wq at *
          have HS := Lib.hid (fun wx (hu : Chg [] wq wx) => show Chg [] wq wx ∧ wx.cell? ⟨p, 2, none⟩ = some (.int .i64 (dn : Nat)) ∧ wx.cell? ⟨q5, 0, none⟩ = some (.int .i64 x.i) ∧ wx.cell? ⟨q5, 1, none⟩ = some (.int .u64 (x.c : Nat)) from ⟨hu, (HDR.out.chg (HCW.out.trans hu) (by simp)).cells.2.2.1, (HBQ.out.chg hu (by simp)).cell 0, (HBQ.out.chg hu (by simp)).cell 1⟩)
          have hSS := HS.out wq.drew (Chg.refl [] wq).drew
          by_cases g4 : x.i < (P : Int)
          case neg =>
            have e4 : decide (x.i < (P : Int)) = false := decide_eq_false g4
            refine startN (S := fun wx => Chg [] wq wx ∧ wx.cell? ⟨p, 2, none⟩ = some (.int .i64 (dn : Nat)) ∧ wx.cell? ⟨q5, 0, none⟩ = some (.int .i64 x.i) ∧ wx.cell? ⟨q5, 1, none⟩ = some (.int .u64 (x.c : Nat))) (by kernel_rfl) hSS (fun hHeld => ?_)
            refine takeN (i := 0) (v := ?ve0) rfl (by kernel_rfl) (by kernel_rfl) (by kernel_rfl) (fun _ _ _ h => h) (Or.inl ⟨by rfl, ?ye0⟩) hSS ?re0
            case ye0 => (intro w hSw; (try dsimp only at hSw); go_simp; first | done | with_reducible rfl)
            try simp only [Act.put, List.setIfInBounds_toArray, List.set_cons_zero, List.set_cons_succ]
            refine takeN (i := 1) (v := ?ve1) rfl (by kernel_rfl) (by kernel_rfl) (by kernel_rfl) (fun _ _ _ h => h) (Or.inl ⟨by rfl, ?ye1⟩) hSS ?re1
            case ye1 => (intro w hSw; (try dsimp only at hSw); go_simp; first | done | with_reducible rfl)
            try simp only [Act.put, List.setIfInBounds_toArray, List.set_cons_zero, List.set_cons_succ]
            refine takeN (i := 2) (v := ?ve2) rfl (by kernel_rfl) (by kernel_rfl) (by kernel_rfl) (fun _ _ _ h => h) (Or.inl ⟨by rfl, ?ye2⟩) hSS ?re2
            case ye2 => (intro w hSw; (try dsimp only at hSw); go_simp; first | done | with_reducible rfl)
            try simp only [Act.put, List.setIfInBounds_toArray, List.set_cons_zero, List.set_cons_succ]
            refine takeN (i := 3) (v := ?ve3) rfl (by kernel_rfl) (by kernel_rfl) (by kernel_rfl) (fun _ _ _ h => h) (Or.inl ⟨by rfl, ?ye3⟩) hSS ?re3
            case ye3 => (intro w hSw; (try dsimp only at hSw); go_simp; first | done | with_reducible rfl)
            try simp only [Act.put, List.setIfInBounds_toArray, List.set_cons_zero, List.set_cons_succ]
            refine takeN (i := 4) (v := ?ve4) rfl (by kernel_rfl) (by kernel_rfl) (by kernel_rfl) (fun _ _ _ h => h) (Or.inl ⟨by rfl, ?ye4⟩) hSS ?re4
            case ye4 => (intro w hSw; (try dsimp only at hSw); go_simp; first | done | with_reducible rfl)
            try simp only [Act.put, List.setIfInBounds_toArray, List.set_cons_zero, List.set_cons_succ]
            refine takeN (i := 5) (v := ?ve5) rfl (by kernel_rfl) (by kernel_rfl) (by kernel_rfl) (fun _ _ _ h => h) (Or.inl ⟨by rfl, ?ye5⟩) hSS ?re5
            case ye5 => (intro w hSw; (try dsimp only at hSw); go_simp; first | done | with_reducible rfl)
            try simp only [Act.put, List.setIfInBounds_toArray, List.set_cons_zero, List.set_cons_succ]
            refine readyN (rs := [6]) (by kernel_rfl) (by simp) (consN rfl (fun K hK => ?_) nilN)
            refine step_callsG (by rfl) 50 _ _ rfl enters_oleaves _ #[.agg #[.int .i64 (dn : Nat)]] (by simp [Act.eval]) (HLV.out _) ?_; rintro e wa ⟨rfl, hca⟩; refine ⟨_, rfl, ?_⟩
            have hSA := HS.out wa (hSS.1.trans hca)
            clear hca
            refine hK.out _ _ hSA (fun hHeld => ?_)
            clear hK K hHeld
            try simp only [Act.put, List.setIfInBounds_toArray, List.set_cons_zero, List.set_cons_succ]
            refine takeN (i := 7) (v := ?ve7) rfl (by kernel_rfl) (by kernel_rfl) (by kernel_rfl) (fun _ _ _ h => h) (Or.inl ⟨by rfl, ?ye7⟩) hSA ?re7
            case ye7 => (intro w hSw; (try dsimp only at hSw); go_simp; first | done | with_reducible rfl)
            try simp only [Act.put, List.setIfInBounds_toArray, List.set_cons_zero, List.set_cons_succ]
            refine takeN (i := 8) (v := ?ve8) rfl (by kernel_rfl) (by kernel_rfl) (by kernel_rfl) (fun _ _ _ h => h) (Or.inl ⟨by rfl, ?ye8⟩) hSA ?re8
            case ye8 => (intro w hSw; (try dsimp only at hSw); go_simp; first | done | with_reducible rfl)
            try simp only [Act.put, List.setIfInBounds_toArray, List.set_cons_zero, List.set_cons_succ]
            refine takeN (i := 9) (v := undef) rfl (by kernel_rfl) (by kernel_rfl) (by kernel_rfl) (fun _ _ _ h => h) (Or.inr ⟨by rfl, rfl⟩) hSA ?re9
            try simp only [Act.put, List.setIfInBounds_toArray, List.set_cons_zero, List.set_cons_succ]
            refine takeN (i := 10) (v := undef) rfl (by kernel_rfl) (by kernel_rfl) (by kernel_rfl) (fun _ _ _ h => h) (Or.inr ⟨by rfl, rfl⟩) hSA ?re10
            try simp only [Act.put, List.setIfInBounds_toArray, List.set_cons_zero, List.set_cons_succ]
            refine takeN (i := 11) (v := undef) rfl (by kernel_rfl) (by kernel_rfl) (by kernel_rfl) (fun _ _ _ h => h) (Or.inr ⟨by rfl, rfl⟩) hSA ?re11
            try simp only [Act.put, List.setIfInBounds_toArray, List.set_cons_zero, List.set_cons_succ]
            refine readyN (rs := [12]) (by kernel_rfl) (by simp) (consN rfl (fun K hK => ?_) nilN)
            go_simp
            refine hK.out _ _ hSA (fun hHeld => ?_)
            clear hK K hHeld
            try simp only [Act.put, List.setIfInBounds_toArray, List.set_cons_zero, List.set_cons_succ]
            refine takeN (i := 13) (v := undef) rfl (by kernel_rfl) (by kernel_rfl) (by kernel_rfl) (fun _ _ _ h => h) (Or.inr ⟨by rfl, rfl⟩) hSA ?re13
            try simp only [Act.put, List.setIfInBounds_toArray, List.set_cons_zero, List.set_cons_succ]
            refine takeN (i := 14) (v := ?ve14) rfl (by kernel_rfl) (by kernel_rfl) (by kernel_rfl) (fun _ _ _ h => h) (Or.inl ⟨by rfl, ?ye14⟩) hSA ?re14
            case ye14 => (intro w hSw; (try dsimp only at hSw); go_simp; first | done | with_reducible rfl)
            try simp only [Act.put, List.setIfInBounds_toArray, List.set_cons_zero, List.set_cons_succ]
            refine doneN (by kernel_rfl) ?_ _
            have HCZ := Lib.hid (HCW.out.trans hSA.1)
            clear hSS hSA HS
            go_wp2_with fail
            exact ⟨⟨j + 1, by omega, by go_num, HCZ.out, Lib.hid (HJN.out (fun h => absurd h g4))⟩, by simp [intOf]; omega⟩
          have e4 : decide (x.i < (P : Int)) = true := decide_eq_true g4
          by_cases g5 : L < x.c
          · have e5 : decide ((L : Int) < (x.c : Int)) = true := decide_eq_true (by omega)
            have e5' : decide (L < x.c) = true := decide_eq_true g5
            refine startN (S := fun wx => Chg [] wq wx ∧ wx.cell? ⟨p, 2, none⟩ = some (.int .i64 (dn : Nat)) ∧ wx.cell? ⟨q5, 0, none⟩ = some (.int .i64 x.i) ∧ wx.cell? ⟨q5, 1, none⟩ = some (.int .u64 (x.c : Nat))) (by kernel_rfl) hSS (fun hHeld => ?_)
            refine takeN (i := 0) (v := ?vf0) rfl (by kernel_rfl) (by kernel_rfl) (by kernel_rfl) (fun _ _ _ h => h) (Or.inl ⟨by rfl, ?yf0⟩) hSS ?rf0
            case yf0 => (intro w hSw; (try dsimp only at hSw); go_simp; first | done | with_reducible rfl)
            try simp only [Act.put, List.setIfInBounds_toArray, List.set_cons_zero, List.set_cons_succ]
            refine takeN (i := 1) (v := ?vf1) rfl (by kernel_rfl) (by kernel_rfl) (by kernel_rfl) (fun _ _ _ h => h) (Or.inl ⟨by rfl, ?yf1⟩) hSS ?rf1
            case yf1 => (intro w hSw; (try dsimp only at hSw); go_simp; first | done | with_reducible rfl)
            try simp only [Act.put, List.setIfInBounds_toArray, List.set_cons_zero, List.set_cons_succ]
            refine takeN (i := 2) (v := ?vf2) rfl (by kernel_rfl) (by kernel_rfl) (by kernel_rfl) (fun _ _ _ h => h) (Or.inl ⟨by rfl, ?yf2⟩) hSS ?rf2
            case yf2 => (intro w hSw; (try dsimp only at hSw); go_simp; first | done | with_reducible rfl)
            try simp only [Act.put, List.setIfInBounds_toArray, List.set_cons_zero, List.set_cons_succ]
            refine takeN (i := 3) (v := ?vf3) rfl (by kernel_rfl) (by kernel_rfl) (by kernel_rfl) (fun _ _ _ h => h) (Or.inl ⟨by rfl, ?yf3⟩) hSS ?rf3
            case yf3 => (intro w hSw; (try dsimp only at hSw); go_simp; first | done | with_reducible rfl)
            try simp only [Act.put, List.setIfInBounds_toArray, List.set_cons_zero, List.set_cons_succ]
            refine takeN (i := 4) (v := ?vf4) rfl (by kernel_rfl) (by kernel_rfl) (by kernel_rfl) (fun _ _ _ h => h) (Or.inl ⟨by rfl, ?yf4⟩) hSS ?rf4
            case yf4 => (intro w hSw; (try dsimp only at hSw); go_simp; first | done | with_reducible rfl)
            try simp only [Act.put, List.setIfInBounds_toArray, List.set_cons_zero, List.set_cons_succ]
            refine takeN (i := 5) (v := ?vf5) rfl (by kernel_rfl) (by kernel_rfl) (by kernel_rfl) (fun _ _ _ h => h) (Or.inl ⟨by rfl, ?yf5⟩) hSS ?rf5
            case yf5 => (intro w hSw; (try dsimp only at hSw); go_simp; first | done | with_reducible rfl)
            try simp only [Act.put, List.setIfInBounds_toArray, List.set_cons_zero, List.set_cons_succ]
            refine readyN (rs := [6]) (by kernel_rfl) (by simp) (consN rfl (fun K hK => ?_) nilN)
            refine step_callsG (by rfl) 50 _ _ rfl enters_oleaves _ #[.agg #[.int .i64 (dn : Nat)]] (by simp [Act.eval]) (HLV.out _) ?_; rintro e wa ⟨rfl, hca⟩; refine ⟨_, rfl, ?_⟩
            have hSA := HS.out wa (hSS.1.trans hca)
            clear hca
            refine hK.out _ _ hSA (fun hHeld => ?_)
            clear hK K hHeld
            try simp only [Act.put, List.setIfInBounds_toArray, List.set_cons_zero, List.set_cons_succ]
            refine takeN (i := 7) (v := ?vf7) rfl (by kernel_rfl) (by kernel_rfl) (by kernel_rfl) (fun _ _ _ h => h) (Or.inl ⟨by rfl, ?yf7⟩) hSA ?rf7
            case yf7 => (intro w hSw; (try dsimp only at hSw); go_simp; first | done | with_reducible rfl)
            try simp only [Act.put, List.setIfInBounds_toArray, List.set_cons_zero, List.set_cons_succ]
            refine takeN (i := 8) (v := ?vf8) rfl (by kernel_rfl) (by kernel_rfl) (by kernel_rfl) (fun _ _ _ h => h) (Or.inl ⟨by rfl, ?yf8⟩) hSA ?rf8
            case yf8 => (intro w hSw; (try dsimp only at hSw); go_simp; first | done | with_reducible rfl)
            try simp only [Act.put, List.setIfInBounds_toArray, List.set_cons_zero, List.set_cons_succ]
            refine takeN (i := 9) (v := ?vf9) rfl (by kernel_rfl) (by kernel_rfl) (by kernel_rfl) (fun _ _ _ h => h) (Or.inl ⟨by rfl, ?yf9⟩) hSA ?rf9
            case yf9 => (intro w hSw; (try dsimp only at hSw); go_simp; first | done | with_reducible rfl)
            try simp only [Act.put, List.setIfInBounds_toArray, List.set_cons_zero, List.set_cons_succ]
            refine takeN (i := 10) (v := ?vf10) rfl (by kernel_rfl) (by kernel_rfl) (by kernel_rfl) (fun _ _ _ h => h) (Or.inl ⟨by rfl, ?yf10⟩) hSA ?rf10
            case yf10 => (intro w hSw; (try dsimp only at hSw); go_simp; first | done | with_reducible rfl)
            try simp only [Act.put, List.setIfInBounds_toArray, List.set_cons_zero, List.set_cons_succ]
            refine takeN (i := 11) (v := ?vf11) rfl (by kernel_rfl) (by kernel_rfl) (by kernel_rfl) (fun _ _ _ h => h) (Or.inl ⟨by rfl, ?yf11⟩) hSA ?rf11
            case yf11 => (intro w hSw; (try dsimp only at hSw); go_simp; first | done | with_reducible rfl)
            try simp only [Act.put, List.setIfInBounds_toArray, List.set_cons_zero, List.set_cons_succ]
            refine readyN (rs := [12]) (by kernel_rfl) (by simp) (consN rfl (fun K hK => ?_) nilN)
            refine step_callsG (by rfl) 51 _ _ rfl enters_olimit _ #[.pointer (some ⟨p, 0, none⟩)] (by simp [Act.eval]) (HLM.out _ (HCW.out.trans hSA.1)) ?_; rintro e wb ⟨rfl, hcb⟩; refine ⟨_, rfl, ?_⟩
            have hSB := HS.out wb (hSA.1.trans hcb)
            clear hcb
            refine hK.out _ _ hSB (fun hHeld => ?_)
            clear hK K hHeld
            try simp only [Act.put, List.setIfInBounds_toArray, List.set_cons_zero, List.set_cons_succ]
            refine takeN (i := 13) (v := ?vf13) rfl (by kernel_rfl) (by kernel_rfl) (by kernel_rfl) (fun _ _ _ h => h) (Or.inl ⟨by rfl, ?yf13⟩) hSB ?rf13
            case yf13 => (intro w hSw; (try dsimp only at hSw); go_simp; first | done | with_reducible rfl)
            try simp only [Act.put, List.setIfInBounds_toArray, List.set_cons_zero, List.set_cons_succ]
            refine takeN (i := 14) (v := ?vf14) rfl (by kernel_rfl) (by kernel_rfl) (by kernel_rfl) (fun _ _ _ h => h) (Or.inl ⟨by rfl, ?yf14⟩) hSB ?rf14
            case yf14 => (intro w hSw; (try dsimp only at hSw); go_simp; first | done | with_reducible rfl)
            try simp only [Act.put, List.setIfInBounds_toArray, List.set_cons_zero, List.set_cons_succ]
            refine doneN (by kernel_rfl) ?_ _
            have HCZ := Lib.hid (HCW.out.trans hSB.1)
            clear hSS hSA hSB HS
            go_wp2_with fail
            go_ret2
            exact .inl ⟨fun h => by have := HLX.out h g4; rw [← HL.out] at this; omega, rfl, HCX.out.trans HCZ.out⟩
          have e5 : decide ((L : Int) < (x.c : Int)) = false := decide_eq_false (by omega)
          have e5' : decide (L < x.c) = false := decide_eq_false g5
          refine startN (S := fun wx => Chg [] wq wx ∧ wx.cell? ⟨p, 2, none⟩ = some (.int .i64 (dn : Nat)) ∧ wx.cell? ⟨q5, 0, none⟩ = some (.int .i64 x.i) ∧ wx.cell? ⟨q5, 1, none⟩ = some (.int .u64 (x.c : Nat))) (by kernel_rfl) hSS (fun hHeld => ?_)
          refine takeN (i := 0) (v := ?vg0) rfl (by kernel_rfl) (by kernel_rfl) (by kernel_rfl) (fun _ _ _ h => h) (Or.inl ⟨by rfl, ?yg0⟩) hSS ?rg0
          case yg0 => (intro w hSw; (try dsimp only at hSw); go_simp; first | done | with_reducible rfl)
          try simp only [Act.put, List.setIfInBounds_toArray, List.set_cons_zero, List.set_cons_succ]
          refine takeN (i := 1) (v := ?vg1) rfl (by kernel_rfl) (by kernel_rfl) (by kernel_rfl) (fun _ _ _ h => h) (Or.inl ⟨by rfl, ?yg1⟩) hSS ?rg1
          case yg1 => (intro w hSw; (try dsimp only at hSw); go_simp; first | done | with_reducible rfl)
          try simp only [Act.put, List.setIfInBounds_toArray, List.set_cons_zero, List.set_cons_succ]
          refine takeN (i := 2) (v := ?vg2) rfl (by kernel_rfl) (by kernel_rfl) (by kernel_rfl) (fun _ _ _ h => h) (Or.inl ⟨by rfl, ?yg2⟩) hSS ?rg2
          case yg2 => (intro w hSw; (try dsimp only at hSw); go_simp; first | done | with_reducible rfl)
          try simp only [Act.put, List.setIfInBounds_toArray, List.set_cons_zero, List.set_cons_succ]
          refine takeN (i := 3) (v := ?vg3) rfl (by kernel_rfl) (by kernel_rfl) (by kernel_rfl) (fun _ _ _ h => h) (Or.inl ⟨by rfl, ?yg3⟩) hSS ?rg3
          case yg3 => (intro w hSw; (try dsimp only at hSw); go_simp; first | done | with_reducible rfl)
          try simp only [Act.put, List.setIfInBounds_toArray, List.set_cons_zero, List.set_cons_succ]
          refine takeN (i := 4) (v := ?vg4) rfl (by kernel_rfl) (by kernel_rfl) (by kernel_rfl) (fun _ _ _ h => h) (Or.inl ⟨by rfl, ?yg4⟩) hSS ?rg4
          case yg4 => (intro w hSw; (try dsimp only at hSw); go_simp; first | done | with_reducible rfl)
          try simp only [Act.put, List.setIfInBounds_toArray, List.set_cons_zero, List.set_cons_succ]
          refine takeN (i := 5) (v := ?vg5) rfl (by kernel_rfl) (by kernel_rfl) (by kernel_rfl) (fun _ _ _ h => h) (Or.inl ⟨by rfl, ?yg5⟩) hSS ?rg5
          case yg5 => (intro w hSw; (try dsimp only at hSw); go_simp; first | done | with_reducible rfl)
          try simp only [Act.put, List.setIfInBounds_toArray, List.set_cons_zero, List.set_cons_succ]
          refine readyN (rs := [6]) (by kernel_rfl) (by simp) (consN rfl (fun K hK => ?_) nilN)
          refine step_callsG (by rfl) 50 _ _ rfl enters_oleaves _ #[.agg #[.int .i64 (dn : Nat)]] (by simp [Act.eval]) (HLV.out _) ?_; rintro e wa ⟨rfl, hca⟩; refine ⟨_, rfl, ?_⟩
          have hSA := HS.out wa (hSS.1.trans hca)
          clear hca
          refine hK.out _ _ hSA (fun hHeld => ?_)
          clear hK K hHeld
          try simp only [Act.put, List.setIfInBounds_toArray, List.set_cons_zero, List.set_cons_succ]
          refine takeN (i := 7) (v := ?vg7) rfl (by kernel_rfl) (by kernel_rfl) (by kernel_rfl) (fun _ _ _ h => h) (Or.inl ⟨by rfl, ?yg7⟩) hSA ?rg7
          case yg7 => (intro w hSw; (try dsimp only at hSw); go_simp; first | done | with_reducible rfl)
          try simp only [Act.put, List.setIfInBounds_toArray, List.set_cons_zero, List.set_cons_succ]
          refine takeN (i := 8) (v := ?vg8) rfl (by kernel_rfl) (by kernel_rfl) (by kernel_rfl) (fun _ _ _ h => h) (Or.inl ⟨by rfl, ?yg8⟩) hSA ?rg8
          case yg8 => (intro w hSw; (try dsimp only at hSw); go_simp; first | done | with_reducible rfl)
          try simp only [Act.put, List.setIfInBounds_toArray, List.set_cons_zero, List.set_cons_succ]
          refine takeN (i := 9) (v := ?vg9) rfl (by kernel_rfl) (by kernel_rfl) (by kernel_rfl) (fun _ _ _ h => h) (Or.inl ⟨by rfl, ?yg9⟩) hSA ?rg9
          case yg9 => (intro w hSw; (try dsimp only at hSw); go_simp; first | done | with_reducible rfl)
          try simp only [Act.put, List.setIfInBounds_toArray, List.set_cons_zero, List.set_cons_succ]
          refine takeN (i := 10) (v := ?vg10) rfl (by kernel_rfl) (by kernel_rfl) (by kernel_rfl) (fun _ _ _ h => h) (Or.inl ⟨by rfl, ?yg10⟩) hSA ?rg10
          case yg10 => (intro w hSw; (try dsimp only at hSw); go_simp; first | done | with_reducible rfl)
          try simp only [Act.put, List.setIfInBounds_toArray, List.set_cons_zero, List.set_cons_succ]
          refine takeN (i := 11) (v := ?vg11) rfl (by kernel_rfl) (by kernel_rfl) (by kernel_rfl) (fun _ _ _ h => h) (Or.inl ⟨by rfl, ?yg11⟩) hSA ?rg11
          case yg11 => (intro w hSw; (try dsimp only at hSw); go_simp; first | done | with_reducible rfl)
          try simp only [Act.put, List.setIfInBounds_toArray, List.set_cons_zero, List.set_cons_succ]
          refine readyN (rs := [12]) (by kernel_rfl) (by simp) (consN rfl (fun K hK => ?_) nilN)
          refine step_callsG (by rfl) 51 _ _ rfl enters_olimit _ #[.pointer (some ⟨p, 0, none⟩)] (by simp [Act.eval]) (HLM.out _ (HCW.out.trans hSA.1)) ?_; rintro e wb ⟨rfl, hcb⟩; refine ⟨_, rfl, ?_⟩
          have hSB := HS.out wb (hSA.1.trans hcb)
          clear hcb
          refine hK.out _ _ hSB (fun hHeld => ?_)
          clear hK K hHeld
          try simp only [Act.put, List.setIfInBounds_toArray, List.set_cons_zero, List.set_cons_succ]
          refine takeN (i := 13) (v := ?vg13) rfl (by kernel_rfl) (by kernel_rfl) (by kernel_rfl) (fun _ _ _ h => h) (Or.inl ⟨by rfl, ?yg13⟩) hSB ?rg13
          case yg13 => (intro w hSw; (try dsimp only at hSw); go_simp; first | done | with_reducible rfl)
          try simp only [Act.put, List.setIfInBounds_toArray, List.set_cons_zero, List.set_cons_succ]
          refine takeN (i := 14) (v := ?vg14) rfl (by kernel_rfl) (by kernel_rfl) (by kernel_rfl) (fun _ _ _ h => h) (Or.inl ⟨by rfl, ?yg14⟩) hSB ?rg14
          case yg14 => (intro w hSw; (try dsimp only at hSw); go_simp; first | done | with_reducible rfl)
          try simp only [Act.put, List.setIfInBounds_toArray, List.set_cons_zero, List.set_cons_succ]
          refine doneN (by kernel_rfl) ?_ _
          have HCZ := Lib.hid (HCW.out.trans hSB.1)
          clear hSS hSA hSB HS
          go_wp2_with fail
          exact ⟨⟨j + 1, by omega, by go_num, HCZ.out, Lib.hid (HJN.out (fun _ => by omega))⟩, by simp [intOf]; omega⟩
        · obtain rfl : j = k := by omega
          have HLA := Lib.hid (show ∀ p ∈ row, p.i < (P : Int) → p.c ≤ L from fun x hx h => by
            obtain ⟨i, hi, rfl⟩ := List.getElem_of_mem hx
            exact HLJ.out i (by have := HN.out; omega) hi h)
          have HLF := Lib.hid (fun u x hx => leafG u dn P HDF.out.1.1 HDF.out.1.2 HP.out x hx)
          have HMO := Lib.hid (fun u (hu : Chg [] wr u) => dg_most u p s rv2 ⟨dn, fn, row, 0, 0⟩ (HDR.out.chg hu (by simp)) HDF.out.2.2)
          have HCL := Lib.hid (fun wx (hu : Chg [] wr wx) => show wx.cell? ⟨p, 2, none⟩ = some (.int .i64 (dn : Nat)) from (HDR.out.chg hu (by simp)).cells.2.2.1)
          have x2 := HCL.out _ HCH.out
          clear HLJ HLM hlt hj
          go_wp2_with fail
          refine (HLF.out _ lo hlo).mono ?_
          rintro e wa ⟨va, rfl, hca⟩
          have HCA := Lib.hid (HCH.out.trans hca)
          clear x2 hca
          have x2 := HCL.out _ HCA.out
          go_wp2_with fail
          refine (HLF.out _ hi hhi).mono ?_
          rintro e wb ⟨vb, rfl, hcb⟩
          have HCB := Lib.hid (HCA.out.trans hcb)
          have HCBB := Lib.hid (HCX.out.trans HCB.out)
          clear x2 hcb HCA HCH HLF
          have HML := Lib.hid (HMO.out _ HCB.out)
          obtain ⟨M, hM⟩ : ∃ M, M = 4 * fn := ⟨_, rfl⟩
          have hMO2 : Calls Try.prog 31 #[.pointer (some ⟨p, 0, none⟩)] wb fun e w' => e = .returned (.int .i64 (M : Int)) ∧ wb = w' := by rw [hM]; exact HML.out
          have HM2 := Lib.hid hMO2
          have HM := Lib.hid hM
          clear hMO2 hM HML HMO
          by_cases g6 : M < j
          · have e6 : decide ((M : Int) < (j : Int)) = true := decide_eq_true (by omega)
            have e6' : decide (M < j) = true := decide_eq_true g6
            go_wp2_with fail
            refine HM2.out.mono ?_
            rintro e w' ⟨rfl, rfl⟩
            go_wp2_with fail
            go_ret2
            exact .inl ⟨fun h => by have h1 := (HBAD.out h).2.2.2.1; have h2 := HN.out; have h3 := HM.out; omega, rfl, HCBB.out⟩
          have e6 : decide ((M : Int) < (j : Int)) = false := decide_eq_false (by omega)
          have e6' : decide (M < j) = false := decide_eq_false g6
          by_cases g7 : hi < lo
          · have e7 : decide (hi < lo) = true := decide_eq_true g7
            go_wp2_with fail
            refine HM2.out.mono ?_
            rintro e w' ⟨rfl, rfl⟩
            go_wp2_with fail
            go_ret2
            exact .inl ⟨fun h => by have h1 := (HBAD.out h).2.2.2.2.1; omega, rfl, HCBB.out⟩
          have e7 : decide (hi < lo) = false := decide_eq_false g7
          by_cases g8 : 0 ≤ lo ∧ lo < (P : Int)
          case neg =>
            have e8 : (decide (0 ≤ lo) && decide (lo < (P : Int))) = false := by
              rw [Bool.and_eq_false_iff, decide_eq_false_iff_not, decide_eq_false_iff_not]
              omega
            rw [e8]
            go_wp2_with fail
            refine HM2.out.mono ?_
            rintro e w' ⟨rfl, rfl⟩
            go_wp2_with fail
            go_ret2
            exact .inl ⟨fun h => by have h1 := (HBAD.out h).2.2.2.2; omega, rfl, HCBB.out⟩
          rw [decide_eq_true g8.1, decide_eq_true g8.2, Bool.and_self]
          by_cases g9 : hi < (P : Int)
          case neg =>
            have e9 : (decide (0 ≤ hi) && decide (hi < (P : Int))) = false := by
              rw [Bool.and_eq_false_iff, decide_eq_false_iff_not, decide_eq_false_iff_not]
              omega
            rw [e9]
            go_wp2_with fail
            refine HM2.out.mono ?_
            rintro e w' ⟨rfl, rfl⟩
            go_wp2_with fail
            go_ret2
            exact .inl ⟨fun h => by have h1 := (HBAD.out h).2.2.2.2; omega, rfl, HCBB.out⟩
          rw [decide_eq_true (show (0 : Int) ≤ hi by omega), decide_eq_true g9, Bool.and_self]
          have HFR := Lib.hid (show ∀ b ∈ fpD p s rv2, w.heap.size ≤ b from fun b hb => by
            rcases HNW.out.fr b hb with h | h
            · exact HF1.out b h
            · exact Nat.le_trans HC1.out.size h)
          have HFIN := Lib.hid (fun (hz : row = [] → hi = 0) => show LoadOk dn fn row lo hi from ⟨HGC.out, by rw [Int.toNat_natCast, ← HP.out]; exact HPN.out, HPT.out, by rw [Int.toNat_natCast, Int.toNat_natCast, ← HP.out, ← HL.out]; exact HLA.out, by rw [Int.toNat_natCast, ← HM.out, ← HN.out]; omega, by omega, g8.1, by rw [Int.toNat_natCast, ← HP.out]; exact g9, hz⟩)
          have HDB := Lib.hid (HDR.out.chg HCB.out (by simp))
          have f4 := HDB.out.blk.free 4
          have f5 := HDB.out.blk.free 5
          have c4 := HDB.out.cells.2.2.2.2.1
          have c5 := HDB.out.cells.2.2.2.2.2
          have HSE := Lib.hid (HDB.out.setEnds lo hi)
          have HCZ := Lib.hid (show Chg [] w ((wb.setCell ⟨p, 4, none⟩ (.int .i64 lo)).setCell ⟨p, 5, none⟩ (.int .i64 hi)) from HCBB.out.trans' HSE.out.2 (fun b hb => .inr (by simp at hb; subst hb; exact HFR.out _ (by simp [fpD]))))
          clear g7 g8 g9 HLA HCL HDR HNW
          by_cases g10 : j = 0
          · have e10 : ((j : Int) == 0) = true := by rw [beq_iff_eq]; omega
            have HRN := Lib.hid (show row = [] from List.eq_nil_of_length_eq_zero (by have := HN.out; omega))
            subst g10
            by_cases g11 : hi = 0
            · have e11 : (hi != 0) = false := by rw [bne_eq_false_iff_eq]; exact g11
              have HG := Lib.hid g11
              clear g11
              go_wp2_with fail
              refine HM2.out.mono ?_
              rintro e w' ⟨rfl, rfl⟩
              go_wp2_with fail
              go_ret2
              exact .inr ⟨HFIN.out (fun _ => HG.out), p, s, rv2, rfl, by rw [Int.toNat_natCast, Int.toNat_natCast]; exact HSE.out.1, HCZ.out, HFR.out⟩
            · have e11 : (hi != 0) = true := by rw [bne_iff_ne]; exact g11
              go_wp2_with fail
              refine HM2.out.mono ?_
              rintro e w' ⟨rfl, rfl⟩
              go_wp2_with fail
              go_ret2
              exact .inl ⟨fun h => g11 ((HBAD.out h).2.2.2.2.2.2.2 HRN.out), rfl, HCBB.out⟩
          · have e10 : ((j : Int) == 0) = false := by rw [beq_eq_false_iff_ne]; omega
            have e10' : (j == 0) = false := by rw [beq_eq_false_iff_ne]; exact g10
            go_wp2_with fail
            refine HM2.out.mono ?_
            rintro e w' ⟨rfl, rfl⟩
            go_wp2_with fail
            go_ret2
            exact .inr ⟨HFIN.out (fun h => absurd (by rw [HN.out, h]; rfl) g10), p, s, rv2, rfl, by rw [Int.toNat_natCast, Int.toNat_natCast]; exact HSE.out.1, HCZ.out, HFR.out⟩
end Go.Proofs.Ytgnbabkafobeoaa
