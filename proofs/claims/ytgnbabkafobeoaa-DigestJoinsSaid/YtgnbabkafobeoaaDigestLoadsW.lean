/-
  The walk of the law DigestLoads. Conditions: the form's own reach.
-/
import Derived.Test.YtgnbabkafobeoaaDgLoad
import Derived.Test.YtgnbabkafobeoaaPrGood
import Derived.Test.YtgnbabkafobeoaaPrSame
import Derived.Deep.CutBlock
namespace Go.Proofs.Ytgnbabkafobeoaa
open Go.RowKit

theorem enters_lload : ∀ (args : Array Value) (w : World), (callFunc 29 args).run Try.prog w = .ok (.enter 29 args) w := enters_of Try.func29 (by kernel_rfl) rfl
theorem enters_lnodes : ∀ (args : Array Value) (w : World), (callFunc 19 args).run Try.prog w = .ok (.enter 19 args) w := enters_of Try.func19 (by kernel_rfl) rfl
theorem enters_lsame : ∀ (args : Array Value) (w : World), (callFunc 27 args).run Try.prog w = .ok (.enter 27 args) w := enters_of Try.func27 (by kernel_rfl) rfl
theorem enters_lgood : ∀ (args : Array Value) (w : World), (callFunc 22 args).run Try.prog w = .ok (.enter 22 args) w := enters_of Try.func22 (by kernel_rfl) rfl
set_option maxRecDepth 100000 in
theorem dg_endsR (w : World) (p s : Nat) (rv : Value) (D : DgD) (h : Dg w p s rv D) (T : Nat) (hT : T = totP D.row) : Calls Try.prog 25 #[.pointer (some ⟨p, 0, none⟩)] w fun e w' => e = .returned (.tuple #[.int .i64 (if T = 0 then 0 else D.least), .int .i64 (if T = 0 then 0 else D.most), .bool (!decide (T = 0))]) ∧ Chg [] w w' := by
  have HTO := Lib.hid (fun u (hu : Chg [] w u) => dg_total u p s rv D (h.chg hu (by simp)))
  rw [← hT] at HTO
  have HCE := Lib.hid (fun u (hu : Chg [] w u) => (h.chg hu (by simp)).cells)
  obtain ⟨-, -, -, -, c4, c5⟩ := h.cells
  clear h hT
  by_cases h0 : T = 0
  · have d0 : ((T : Int) == 0) = true := by rw [beq_iff_eq]; omega
    rw [if_pos h0, if_pos h0, decide_eq_true h0]
    clear h0
    go_enter Try.func25, Try.ntmps25
    go_wp2_with fail
    refine (HTO.out _ (Chg.refl _ _)).mono ?_
    rintro e w1 ⟨rfl, rfl⟩
    go_wp2_with fail
    refine bodyPost_ret (v := .tuple #[.int .i64 0, .int .i64 0, .bool false]) (by simp [results, Try.results25, go_sem]) rfl ⟨rfl, Chg.refl _ _⟩
  · have d0 : ((T : Int) == 0) = false := by rw [beq_eq_false_iff_ne]; omega
    rw [if_neg h0, if_neg h0, decide_eq_false h0]
    clear h0
    go_enter Try.func25, Try.ntmps25
    go_wp2_with fail
    refine (HTO.out _ (Chg.refl _ _)).mono ?_
    rintro e w1 ⟨rfl, rfl⟩
    go_wp2_with fail
    go_quiet (fail)
    go_wp2_with fail
    refine bodyPost_ret (v := .tuple #[.int .i64 D.least, .int .i64 D.most, .bool true]) (by simp [results, Try.results25, go_sem]) rfl ⟨rfl, ?_⟩
    with_reducible (repeat (first | exact Chg.refl _ _ | apply Chg.drew | apply Chg.drewN))
/-- The ends lie where values do. -/
def DgD.inEnds (D : DgD) : Prop := (totP D.row = 0 → D.least = 0 ∧ D.most = 0) ∧ 0 ≤ D.least ∧ D.least ≤ D.most ∧ D.most < ((2 ^ D.depth : Nat) : Int)
theorem DgD.put_inEnds {D : DgD} (h : D.ok) (k : D.inEnds) {x : Int} {c : Nat} (h0 : 0 ≤ x) (h1 : x < ((2 ^ D.depth : Nat) : Int)) (hc1 : 1 ≤ c) (hc : totP D.row + c ≤ 9223372036854775807) (hl : D.row.length + 1 ≤ 1000) : (D.put x c).inEnds := by
  obtain ⟨a1, a2, a3, a4, -⟩ := DgD.put_ok h h0 h1 hc hl
  refine ⟨fun e => by omega, ?_⟩
  rw [a2]
  have el : (D.put x c).least = (D.ends x x).least := rfl
  have em : (D.put x c).most = (D.ends x x).most := rfl
  rw [el, em]
  obtain ⟨k1, k2, k3, k4⟩ := k
  unfold DgD.ends
  split
  · exact ⟨h0, Int.le_refl _, h1⟩
  · simp only
    omega
theorem DgD.vals_inEnds : ∀ (l : List Vl) {D : DgD}, D.ok → D.inEnds → (∀ v ∈ l, okVD D.depth v) → totP D.row + sumS l ≤ 9223372036854775807 → D.row.length + l.length ≤ 1000 → (D.valsK l).inEnds
  | [], _, _, h, _, _, _ => h
  | v :: l, D, h, hf, hv, ht, hl => by
    obtain ⟨g1, g2, g3, g4⟩ := hv v (by simp)
    simp only [sumS, List.length_cons] at ht hl ⊢
    obtain ⟨a1, a2, a3, a4, a5⟩ := DgD.put_ok h g3 g4 (c := v.n) (by omega) (by omega)
    have e : D.valsK (v :: l) = (D.put v.x v.n).valsK l := rfl
    rw [e]
    exact DgD.vals_inEnds l a1 (DgD.put_inEnds h hf g3 g4 g1 (by omega) (by omega)) (fun u hu => by rw [a2]; exact hv u (by simp [hu])) (by omega) (by omega)
theorem valsDg_inEnds {d f : Nat} {l : List Vl} (h : okDg d f l) : (valsDg d f l).inEnds := by
  obtain ⟨h1, h2, h3, h4⟩ := h
  have hb := sumS_bound l h4
  have h5 := two_d (d := d) (by omega) (by omega)
  exact DgD.vals_inEnds l (D := DgD.new d f) (new_ok (by omega) (by omega) (by omega) (by omega)) ⟨fun _ => ⟨rfl, rfl⟩, Int.le_refl _, Int.le_refl _, by show (0 : Int) < ((2 ^ d : Nat) : Int); omega⟩ h4 (by simp only [DgD.new, totP, List.map_nil, List.sum_nil]; omega) (by simp only [DgD.new, List.length_nil]; omega)
/-- What is counted can be loaded. -/
theorem DgD.loadOk {D : DgD} (h : D.ok) (hf : D.few) (k : D.inEnds) : LoadOk D.depth D.factor D.row D.least D.most := by
  refine ⟨decide_eq_true ⟨⟨by have := h.d1; omega, by have := h.d2; omega⟩, by have := h.f1; omega, by have := h.f2; omega⟩, ?_, h.tot, ?_, ?_, k.2.2.1, k.2.1, ?_, fun e => (k.1 (by rw [e]; rfl)).2⟩
  · rw [Int.toNat_natCast]; exact h.nodes
  · rw [Int.toNat_natCast, Int.toNat_natCast]
    intro p hp h1
    exact hf.1 p hp (by unfold DgD.top; omega)
  · rw [Int.toNat_natCast]; exact hf.2
  · rw [Int.toNat_natCast]; exact k.2.2.2
theorem goodP_iff {r : List Pr} : goodP r = true ↔ rises r ∧ ∀ p ∈ r, 1 ≤ p.c ∧ p.c ≤ 9223372036854775807 := by
  have hget : ∀ (j : Nat) (hj : j < r.length), r.getD j default = r[j] := fun j hj => by simp [List.getD, hj]
  constructor
  · intro h
    rw [goodP, goodTo, List.all_eq_true] at h
    have h1 : ∀ j, (hj : j < r.length) → 1 ≤ r[j].c ∧ r[j].c ≤ 9223372036854775807 ∧ (0 < j → (r.getD (j - 1) default).i < r[j].i) := fun j hj => by
      have := h j (List.mem_range.2 hj)
      rw [decide_eq_true_eq, hget j hj] at this
      exact this
    have hstep : ∀ j, (hj : j + 1 < r.length) → (r[j]'(by omega)).i < r[j + 1].i := fun j hj => by
      have h2 := (h1 (j + 1) hj).2.2 (by omega)
      rw [show j + 1 - 1 = j from rfl, hget j (by omega)] at h2
      exact h2
    refine ⟨fun j k hjk hk => ?_, fun p hp => ?_⟩
    · obtain ⟨m, rfl⟩ := Nat.exists_eq_add_of_lt hjk
      induction m with
      | zero => exact hstep j hk
      | succ m ih =>
        have h2 := ih (by omega) (by omega)
        have h3 := hstep (j + m + 1) hk
        exact Int.lt_trans h2 h3
    · obtain ⟨j, hj, rfl⟩ := List.getElem_of_mem hp
      exact ⟨(h1 j hj).1, (h1 j hj).2.1⟩
  · intro ⟨h1, h2⟩
    rw [goodP, goodTo, List.all_eq_true]
    intro j hj
    rw [List.mem_range] at hj
    rw [decide_eq_true_eq, hget j hj]
    obtain ⟨g1, g2⟩ := h2 _ (List.getElem_mem hj)
    refine ⟨g1, g2, fun h0 => ?_⟩
    rw [hget (j - 1) (by omega)]
    exact h1 (j - 1) j (by omega) hj
set_option maxRecDepth 100000 in
set_option maxHeartbeats 16000000 in
theorem law_DigestLoads (w : World) (d f : Int) (_hd1 : -9223372036854775808 ≤ d) (_hd2 : d < 9223372036854775808) (_hf1 : -9223372036854775808 ≤ f) (_hf2 : f < 9223372036854775808)
    (ao : Option Addr) (ca : Nat) (a : List Vl) (hra : Rd w 2 (.slice ao a.length ca) a.length (vlCells a)) (hla : a.length ≤ 140737488351232) (hka : ∀ i ∈ a, i.ok)
    (bo : Option Addr) (cb : Nat) (row : List Pr) (hrb : Rd w 2 (.slice bo row.length cb) row.length (prCells row)) (hkb : ∀ i ∈ row, i.ok)
    (e0 e1 : Int) (_he00 : -9223372036854775808 ≤ e0) (he0 : e0 < 9223372036854775808) (_he10 : -9223372036854775808 ≤ e1) (he1 : e1 < 9223372036854775808) :
    Calls Try.prog 7 #[.agg #[.int .i64 d, .int .i64 f], .slice ao a.length ca, .slice bo row.length cb, .agg #[.int .i64 e0, .int .i64 e1]] w fun e w' => e = .returned (.bool true) ∧ Chg [] w w' := by
  have HAL := Lib.hid law17_alive
  have HKA := Lib.hid hka
  have HRA := Lib.hid hra
  have HRB := Lib.hid hrb
  have HKB := Lib.hid hkb
  obtain ⟨n, hn⟩ : ∃ n, n = a.length := ⟨_, rfl⟩
  rw [← hn] at HRA hla ⊢
  have HN := Lib.hid hn
  obtain ⟨nb, hnb⟩ : ∃ n, n = row.length := ⟨_, rfl⟩
  rw [← hnb] at HRB ⊢
  have HNB := Lib.hid hnb
  clear hka hra hn hkb hrb hnb _hd1 _hd2 _hf1 _hf2 _he00 _he10
  have hc0 := (((Chg.refl [] w).alloc (.cells #[.int .i64 d, .int .i64 f] 23)).alloc (.cells #[.int .i64 e0, .int .i64 e1] 66))
  have hb0 := (Blk.alloc_new w #[.int .i64 d, .int .i64 f] 23).alloc (.cells #[.int .i64 e0, .int .i64 e1] 66)
  have hb1 := Blk.alloc_new (w.alloc (.cells #[.int .i64 d, .int .i64 f] 23)) #[.int .i64 e0, .int .i64 e1] 66
  rw [World.size_alloc] at hb1
  obtain ⟨bc, hbc⟩ : ∃ z, z = w.heap.size := ⟨_, rfl⟩
  rw [← hbc] at hb0 hb1
  have HBC := Lib.hid hbc
  have HC0 := Lib.hid hc0
  have HB := Lib.hid hb0
  have HE := Lib.hid hb1
  have HBA := Lib.hid (fun u (hu : Chg [] w u) => law17_build u d f ao ca n a HN.out (HRA.out.chg hu (by simp)) hla (fun v hv => (HKA.out v hv).2.2))
  clear hc0 hb0 hb1
  go_enter Try.func7, Try.ntmps7
  go_wp2_with fail
  rw [← hbc]
  clear hbc
  generalize (w.alloc (.cells #[.int .i64 d, .int .i64 f] 23)).alloc (.cells #[.int .i64 e0, .int .i64 e1] 66) = w0 at *
  refine (HAL.out _).mono ?_
  rintro e w1 ⟨rfl, hc1⟩
  have HC1 := Lib.hid (HC0.out.trans hc1)
  have HB1 := Lib.hid (HB.out.chg hc1 (by simp))
  have HE1 := Lib.hid (HE.out.chg hc1 (by simp))
  have x0 := HB1.out.cell 0
  have x1 := HB1.out.cell 1
  simp only [List.getElem?_toArray, List.getElem?_cons_zero, List.getElem?_cons_succ] at x0 x1
  clear hc1 HB HE HC0 HAL
  go_wp2_with fail
  refine (HBA.out _ HC1.out).mono ?_
  rintro e w2 hb2
  clear x0 x1
  rcases hb2 with ⟨-, rfl, hc2⟩ | ⟨hok, p, s, rv, q, sv, rfl, ht2, hq2, hc2, hf2, hg2, -⟩
  · go_wp2
    go_ret
    exact ⟨rfl, HC1.out.trans hc2⟩
  have hd0 := hok.2.1
  have hf0 := hok.2.2.1
  obtain ⟨dn, rfl⟩ := Int.eq_ofNat_of_zero_le (show 0 ≤ d by omega)
  obtain ⟨fn, rfl⟩ := Int.eq_ofNat_of_zero_le (show 0 ≤ f by omega)
  have HVO := Lib.hid (valsDg_ok (d := dn) (f := fn) hok)
  have HVF := Lib.hid (valsDg_few (d := dn) (f := fn) hok)
  have HVE := Lib.hid (valsDg_inEnds (d := dn) (f := fn) hok)
  have HSB := Lib.hid (show sumS a ≤ 60 * 1125899906842624 ∧ a.length ≤ 60 from by
    have h1 := sumS_bound a hok.2.2.2
    have h2 := hok.1
    exact ⟨Nat.le_trans h1 (Nat.mul_le_mul_right _ h2), h2⟩)
  rw [Int.toNat_natCast, Int.toNat_natCast] at ht2 hq2
  have HT2 := Lib.hid ht2
  have HQ2 := Lib.hid hq2
  have HC2 := Lib.hid (HC1.out.trans hc2)
  have HB2 := Lib.hid (HB1.out.chg hc2 (by simp))
  have HE2 := Lib.hid (HE1.out.chg hc2 (by simp))
  have HG2 := Lib.hid (show ∀ b ∈ fpR q sv, bc + 1 < b from fun b hb => by have h := hg2 b hb; have h1 := HE1.out.lt; omega)
  clear ht2 hq2 hc2 hf2 hg2 hok HB1 HE1 HC1 HBA
  by_cases hn60 : nb ≤ 60
  case neg =>
    have dn1 : decide ((60 : Int) < (nb : Int)) = true := decide_eq_true (by omega)
    have dn2 : decide (60 < nb) = true := decide_eq_true (by omega)
    go_wp2
    go_ret
    exact ⟨rfl, HC2.out⟩
  have dn1 : decide ((60 : Int) < (nb : Int)) = false := decide_eq_false (by omega)
  have dn2 : decide (60 < nb) = false := decide_eq_false (by omega)
  obtain ⟨P, hP⟩ : ∃ P, P = 2 ^ dn := ⟨_, rfl⟩
  have HP := Lib.hid hP
  have hp2 : 2 ≤ P ∧ P ≤ 16777216 := by
    have h := two_d (d := dn) (by omega) (by omega)
    rw [← hP] at h
    exact ⟨h.1, h.2.1⟩
  have HSH := Lib.hid (show IntKind.i64.wrap ((2 : Int) ^ min dn 64) = (P : Int) ∧ IntKind.i64.wrap ((2 : Int) ^ dn) = (P : Int) from by
    have e : (2 : Int) ^ dn = (P : Int) := by rw [hP]; simp
    rw [show min dn 64 = dn from by omega, e]
    have h : IntKind.i64.wrap (P : Int) = (P : Int) := by rw [IntKind.wrap_i64]; omega
    exact ⟨h, h⟩)
  have HDF := Lib.hid (show (1 ≤ dn ∧ dn ≤ 24) ∧ 1 ≤ fn ∧ fn ≤ 64 from by omega)
  clear hP hd0 hf0
  generalize valsDg dn fn a = D at *
  obtain ⟨T, hT⟩ : ∃ T, T = totP D.row := ⟨_, rfl⟩
  have HEN := Lib.hid (dg_endsR w2 p s rv D HT2.out T hT)
  have hel : (if T = 0 then 0 else D.least) = D.least := by
    split
    · next h => rw [(HVE.out.1 (by omega)).1]
    · rfl
  have hem : (if T = 0 then 0 else D.most) = D.most := by
    split
    · next h => rw [(HVE.out.1 (by omega)).2]
    · rfl
  rw [hel, hem] at HEN
  clear hel hem hT
  go_wp2_with fail
  refine HEN.out.mono ?_
  rintro e w3 ⟨rfl, hc3⟩
  have HC3 := Lib.hid (HC2.out.trans hc3)
  have HQ3 := Lib.hid (HQ2.out.chg hc3 (by simp))
  have HB3 := Lib.hid (HB2.out.chg hc3 (by simp))
  have HE3 := Lib.hid (HE2.out.chg hc3 (by simp))
  clear hc3 HEN HT2 HQ2 HB2 HE2 HC2
  obtain ⟨so, sc, hsv⟩ := HQ3.out.row.shape
  subst hsv
  obtain ⟨nn, hnn⟩ : ∃ z, z = D.row.length := ⟨_, rfl⟩
  have HNN := Lib.hid hnn
  have hnl : nn ≤ 1000 := by have := HVO.out.1.len; omega
  have HLE := Lib.hid (show nn ≤ 256 from by have h1 := HVF.out.2; have h2 := HDF.out; have h3 := HVO.out.2.2.1; rw [h3] at h1; omega)
  have HLO := Lib.hid (show LoadOk dn fn D.row D.least D.most from by
    have h := D.loadOk HVO.out.1 HVF.out HVE.out
    rw [HVO.out.2.1, HVO.out.2.2.1] at h
    exact h)
  have HXB := Lib.hid (show D.least < 9223372036854775808 ∧ D.most < 9223372036854775808 ∧ ∀ p ∈ D.row, p.ok from by
    have h1 := HVE.out.2
    rw [HVO.out.2.1, ← HP.out] at h1
    refine ⟨by omega, by omega, fun x hx => ?_⟩
    have h2 := HVO.out.1.nodes.ix x hx
    have h3 := mem_tot hx
    have h4 := HVO.out.1.tot
    unfold DgD.top at h2
    rw [HVO.out.2.1, ← HP.out] at h2
    exact ⟨by omega, by omega, by omega⟩)
  have HLD := Lib.hid (fun u (hu : Chg [] w3 u) => show Calls Try.prog 29 #[.agg #[.int .i64 (dn : Nat), .int .i64 (fn : Nat)], .slice so nn sc, .int .i64 D.least, .int .i64 D.most] u fun e w' => ∃ p s rv, e = .returned (.tuple #[.pointer (some ⟨p, 0, none⟩), .int .i64 0]) ∧ Dg w' p s rv D ∧ Chg [] u w' ∧ ∀ b ∈ fpD p s rv, u.heap.size ≤ b from by
    have ho := (HQ3.out.chg hu (by simp)).row.rd
    rw [← HNN.out] at ho
    refine (dg_load u dn fn so sc nn D.row HNN.out ho (by have := HLE.out; omega) HXB.out.2.2 D.least D.most HXB.out.1 HXB.out.2.1).mono ?_
    rintro e w' (⟨hbad, -, -⟩ | ⟨-, p2, s2, rv2, h1, h2, h3, h4⟩)
    · exact absurd HLO.out hbad
    · rw [Int.toNat_natCast, Int.toNat_natCast] at h2
      refine ⟨p2, s2, rv2, h1, ?_, h3, h4⟩
      have e : (⟨dn, fn, D.row, D.least, D.most⟩ : DgD) = D := by rw [← HVO.out.2.1, ← HVO.out.2.2.1]
      rw [e] at h2
      exact h2)
  have HS := Lib.hid (fun wx (hu : Chg [] w3 wx) => show Chg [] w3 wx ∧ wx.cell? ⟨bc, 0, none⟩ = some (.int .i64 (dn : Nat)) ∧ wx.cell? ⟨bc, 1, none⟩ = some (.int .i64 (fn : Nat)) ∧ wx.cell? ⟨q, 2, none⟩ = some (.slice so nn sc) from by
    have h := (HQ3.out.chg hu (by simp)).cells.2.2
    rw [← HNN.out] at h
    exact ⟨hu, (HB3.out.chg hu (by simp)).cell 0, (HB3.out.chg hu (by simp)).cell 1, h⟩)
  rw [← HNN.out] at HG2
  clear hnn
  go_upto_region 7 with (fail)
  have hSS := HS.out w3.drew (Chg.refl [] w3).drew
  refine startN (S := fun wx => Chg [] w3 wx ∧ wx.cell? ⟨bc, 0, none⟩ = some (.int .i64 (dn : Nat)) ∧ wx.cell? ⟨bc, 1, none⟩ = some (.int .i64 (fn : Nat)) ∧ wx.cell? ⟨q, 2, none⟩ = some (.slice so nn sc)) (by kernel_rfl) hSS (fun hHeld => ?_)
  refine takeN (i := 0) (v := ?va0) rfl (by kernel_rfl) (by kernel_rfl) (by kernel_rfl) (fun _ _ _ h => h) (Or.inl ⟨by rfl, ?ya0⟩) hSS ?ra0
  case ya0 => (intro w hSw; (try dsimp only at hSw); go_simp; first | done | with_reducible rfl)
  try simp only [Act.put, List.setIfInBounds_toArray, List.set_cons_zero, List.set_cons_succ]
  refine takeN (i := 1) (v := ?va1) rfl (by kernel_rfl) (by kernel_rfl) (by kernel_rfl) (fun _ _ _ h => h) (Or.inl ⟨by rfl, ?ya1⟩) hSS ?ra1
  case ya1 => (intro w hSw; (try dsimp only at hSw); go_simp; first | done | with_reducible rfl)
  try simp only [Act.put, List.setIfInBounds_toArray, List.set_cons_zero, List.set_cons_succ]
  refine takeN (i := 2) (v := ?va2) rfl (by kernel_rfl) (by kernel_rfl) (by kernel_rfl) (fun _ _ _ h => h) (Or.inl ⟨by rfl, ?ya2⟩) hSS ?ra2
  case ya2 => (intro w hSw; (try dsimp only at hSw); go_simp; first | done | with_reducible rfl)
  try simp only [Act.put, List.setIfInBounds_toArray, List.set_cons_zero, List.set_cons_succ]
  refine takeN (i := 3) (v := ?va3) rfl (by kernel_rfl) (by kernel_rfl) (by kernel_rfl) (fun _ _ _ h => h) (Or.inl ⟨by rfl, ?ya3⟩) hSS ?ra3
  case ya3 => (intro w hSw; (try dsimp only at hSw); go_simp; first | done | with_reducible rfl)
  try simp only [Act.put, List.setIfInBounds_toArray, List.set_cons_zero, List.set_cons_succ]
  refine takeN (i := 4) (v := ?va4) rfl (by kernel_rfl) (by kernel_rfl) (by kernel_rfl) (fun _ _ _ h => h) (Or.inl ⟨by rfl, ?ya4⟩) hSS ?ra4
  case ya4 => (intro w hSw; (try dsimp only at hSw); go_simp; first | done | with_reducible rfl)
  try simp only [Act.put, List.setIfInBounds_toArray, List.set_cons_zero, List.set_cons_succ]
  refine takeN (i := 5) (v := ?va5) rfl (by kernel_rfl) (by kernel_rfl) (by kernel_rfl) (fun _ _ _ h => h) (Or.inl ⟨by rfl, ?ya5⟩) hSS ?ra5
  case ya5 => (intro w hSw; (try dsimp only at hSw); go_simp; first | done | with_reducible rfl)
  try simp only [Act.put, List.setIfInBounds_toArray, List.set_cons_zero, List.set_cons_succ]
  refine takeN (i := 6) (v := ?va6) rfl (by kernel_rfl) (by kernel_rfl) (by kernel_rfl) (fun _ _ _ h => h) (Or.inl ⟨by rfl, ?ya6⟩) hSS ?ra6
  case ya6 => (intro w hSw; (try dsimp only at hSw); go_simp; first | done | with_reducible rfl)
  try simp only [Act.put, List.setIfInBounds_toArray, List.set_cons_zero, List.set_cons_succ]
  refine readyN (rs := [7]) (by kernel_rfl) (by simp) (consN rfl (fun K hK => ?_) nilN)
  refine step_callsG (by rfl) 29 _ _ rfl enters_lload _ #[.agg #[.int .i64 (dn : Nat), .int .i64 (fn : Nat)], .slice so nn sc, .int .i64 D.least, .int .i64 D.most] (by simp [Act.eval]) (HLD.out _ hSS.1) ?_; rintro e w4 ⟨p2, s2, rv2, rfl, hd4, hc4, hf4⟩; refine ⟨_, rfl, ?_⟩
  have HD4 := Lib.hid hd4
  have HF4 := Lib.hid (show (∀ b ∈ fpD p2 s2 rv2, bc + 1 < b) ∧ ∀ b ∈ fpD p2 s2 rv2, b ∉ fpR q (.slice so nn sc) from ⟨fun b hb => by have h := hf4 b hb; have h1 := (HE3.out.chg hSS.1 (by simp)).lt; omega, fun b hb e => by have h := hf4 b hb; have h2 := HQ3.out.lt b (by rw [← HNN.out]; exact e); have h3 := hSS.1.size; omega⟩)
  have hSA := HS.out w4 (hSS.1.trans hc4)
  clear hd4 hc4 hf4
  refine hK.out _ _ hSA (fun hHeld => ?_)
  clear hK K hHeld
  try simp only [Act.put, List.setIfInBounds_toArray, List.set_cons_zero, List.set_cons_succ]
  refine takeN (i := 8) (v := ?va8) rfl (by kernel_rfl) (by kernel_rfl) (by kernel_rfl) (fun _ _ _ h => h) (Or.inl ⟨by rfl, ?ya8⟩) hSA ?ra8
  case ya8 => (intro w hSw; (try dsimp only at hSw); go_simp; first | done | with_reducible rfl)
  try simp only [Act.put, List.setIfInBounds_toArray, List.set_cons_zero, List.set_cons_succ]
  refine takeN (i := 9) (v := ?va9) rfl (by kernel_rfl) (by kernel_rfl) (by kernel_rfl) (fun _ _ _ h => h) (Or.inl ⟨by rfl, ?ya9⟩) hSA ?ra9
  case ya9 => (intro w hSw; (try dsimp only at hSw); go_simp; first | done | with_reducible rfl)
  try simp only [Act.put, List.setIfInBounds_toArray, List.set_cons_zero, List.set_cons_succ]
  refine takeN (i := 10) (v := ?va10) rfl (by kernel_rfl) (by kernel_rfl) (by kernel_rfl) (fun _ _ _ h => h) (Or.inl ⟨by rfl, ?ya10⟩) hSA ?ra10
  case ya10 => (intro w hSw; (try dsimp only at hSw); go_simp; first | done | with_reducible rfl)
  try simp only [Act.put, List.setIfInBounds_toArray, List.set_cons_zero, List.set_cons_succ]
  refine takeN (i := 11) (v := ?va11) rfl (by kernel_rfl) (by kernel_rfl) (by kernel_rfl) (fun _ _ _ h => h) (Or.inl ⟨by rfl, ?ya11⟩) hSA ?ra11
  case ya11 => (intro w hSw; (try dsimp only at hSw); go_simp; first | done | with_reducible rfl)
  try simp only [Act.put, List.setIfInBounds_toArray, List.set_cons_zero, List.set_cons_succ]
  refine takeN (i := 12) (v := ?va12) rfl (by kernel_rfl) (by kernel_rfl) (by kernel_rfl) (fun _ _ _ h => h) (Or.inl ⟨by rfl, ?ya12⟩) hSA ?ra12
  case ya12 => (intro w hSw; (try dsimp only at hSw); go_simp; first | done | with_reducible rfl)
  try simp only [Act.put, List.setIfInBounds_toArray, List.set_cons_zero, List.set_cons_succ]
  refine doneN (by kernel_rfl) ?_ _
  have HCA := Lib.hid hSA.1
  have HNNk := Lib.hid (show nn = D.row.length ∧ nn ≤ 1000 from ⟨HNN.out, hnl⟩)
  have HC4 := Lib.hid (HC3.out.trans HCA.out)
  have HQ4 := Lib.hid (HQ3.out.chg HCA.out (by simp))
  have HB4 := Lib.hid (HB3.out.chg HCA.out (by simp))
  have HE4 := Lib.hid (HE3.out.chg HCA.out (by simp))
  have HDk := HD4
  have HQk := HQ4
  clear hSS hSA HS HLD HQ3 HB3 HE3 HC3 HCA
  have HNO := Lib.hid (fun u (hu : Chg [] w4 u) => dg_nodes u p2 s2 rv2 D (HDk.out.chg hu (by simp)) nn HNNk.out.1 HNNk.out.2)
  have HSM := Lib.hid (fun u a3 c3 (hu : Chg [] w4 u) (ho : Own u 53 2 (.slice a3 nn c3) nn (prCells D.row)) => show Calls Try.prog 27 #[.slice a3 nn c3, .slice so nn sc] u fun e w' => e = .returned (.bool true) ∧ Chg [] u w' from by
    have hb := (HQk.out.chg hu (by simp)).row.rd
    have e := HNNk.out.1
    have e2 := HNNk.out.2
    rw [e] at ho ⊢
    first | exact ref06_same u a3 c3 so sc D.row ho.rd hb (by omega) | (rw [e] at hb; exact ref06_same u a3 c3 so sc D.row ho.rd hb (by omega)))
  have HS := Lib.hid (fun wx (hu : Chg [] w4 wx) => show Chg [] w4 wx ∧ wx.cell? ⟨q, 2, none⟩ = some (.slice so nn sc) from ⟨hu, by
    have h := (HQk.out.chg hu (by simp)).cells.2.2
    first | exact h | (rw [← HNNk.out.1] at h; exact h)⟩)
  go_upto_region 8 with (fail)
  have hSS := HS.out w4.drew (Chg.refl [] w4).drew
  refine startN (S := fun wx => Chg [] w4 wx ∧ wx.cell? ⟨q, 2, none⟩ = some (.slice so nn sc)) (by kernel_rfl) hSS (fun hHeld => ?_)
  refine takeN (i := 0) (v := ?vk0) rfl (by kernel_rfl) (by kernel_rfl) (by kernel_rfl) (fun _ _ _ h => h) (Or.inl ⟨by rfl, ?yk0⟩) hSS ?rk0
  case yk0 => (intro w hSw; (try dsimp only at hSw); go_simp; first | done | with_reducible rfl)
  try simp only [Act.put, List.setIfInBounds_toArray, List.set_cons_zero, List.set_cons_succ]
  refine takeN (i := 1) (v := ?vk1) rfl (by kernel_rfl) (by kernel_rfl) (by kernel_rfl) (fun _ _ _ h => h) (Or.inl ⟨by rfl, ?yk1⟩) hSS ?rk1
  case yk1 => (intro w hSw; (try dsimp only at hSw); go_simp; first | done | with_reducible rfl)
  try simp only [Act.put, List.setIfInBounds_toArray, List.set_cons_zero, List.set_cons_succ]
  refine takeN (i := 2) (v := ?vk2) rfl (by kernel_rfl) (by kernel_rfl) (by kernel_rfl) (fun _ _ _ h => h) (Or.inl ⟨by rfl, ?yk2⟩) hSS ?rk2
  case yk2 => (intro w hSw; (try dsimp only at hSw); go_simp; first | done | with_reducible rfl)
  try simp only [Act.put, List.setIfInBounds_toArray, List.set_cons_zero, List.set_cons_succ]
  refine takeN (i := 3) (v := ?vk3) rfl (by kernel_rfl) (by kernel_rfl) (by kernel_rfl) (fun _ _ _ h => h) (Or.inl ⟨by rfl, ?yk3⟩) hSS ?rk3
  case yk3 => (intro w hSw; (try dsimp only at hSw); go_simp; first | done | with_reducible rfl)
  try simp only [Act.put, List.setIfInBounds_toArray, List.set_cons_zero, List.set_cons_succ]
  refine takeN (i := 5) (v := ?vk5) rfl (by kernel_rfl) (by kernel_rfl) (by kernel_rfl) (fun _ _ _ h => h) (Or.inl ⟨by rfl, ?yk5⟩) hSS ?rk5
  case yk5 => (intro w hSw; (try dsimp only at hSw); go_simp; first | done | with_reducible rfl)
  try simp only [Act.put, List.setIfInBounds_toArray, List.set_cons_zero, List.set_cons_succ]
  refine takeN (i := 6) (v := ?vk6) rfl (by kernel_rfl) (by kernel_rfl) (by kernel_rfl) (fun _ _ _ h => h) (Or.inl ⟨by rfl, ?yk6⟩) hSS ?rk6
  case yk6 => (intro w hSw; (try dsimp only at hSw); go_simp; first | done | with_reducible rfl)
  try simp only [Act.put, List.setIfInBounds_toArray, List.set_cons_zero, List.set_cons_succ]
  refine takeN (i := 7) (v := ?vk7) rfl (by kernel_rfl) (by kernel_rfl) (by kernel_rfl) (fun _ _ _ h => h) (Or.inl ⟨by rfl, ?yk7⟩) hSS ?rk7
  case yk7 => (intro w hSw; (try dsimp only at hSw); go_simp; first | done | with_reducible rfl)
  try simp only [Act.put, List.setIfInBounds_toArray, List.set_cons_zero, List.set_cons_succ]
  refine takeN (i := 8) (v := ?vk8) rfl (by kernel_rfl) (by kernel_rfl) (by kernel_rfl) (fun _ _ _ h => h) (Or.inl ⟨by rfl, ?yk8⟩) hSS ?rk8
  case yk8 => (intro w hSw; (try dsimp only at hSw); go_simp; first | done | with_reducible rfl)
  try simp only [Act.put, List.setIfInBounds_toArray, List.set_cons_zero, List.set_cons_succ]
  refine readyN (rs := [4]) (by kernel_rfl) (by simp) (consN rfl (fun K hK => ?_) nilN)
  refine step_callsG (by rfl) 19 _ _ rfl enters_lnodes _ #[.pointer (some ⟨p2, 0, none⟩)] (by simp [Act.eval]) (HNO.out _ hSS.1) ?_; rintro e wa ⟨a3, c3, rfl, hoA, hcA, -⟩; refine ⟨_, rfl, ?_⟩
  have hSA := HS.out wa (hSS.1.trans hcA)
  have HOA := Lib.hid hoA
  clear hoA hcA
  refine hK.out _ _ hSA (fun hHeld => ?_)
  clear hK K hHeld
  try simp only [Act.put, List.setIfInBounds_toArray, List.set_cons_zero, List.set_cons_succ]
  refine readyN (rs := [9]) (by kernel_rfl) (by simp) (consN rfl (fun K hK => ?_) nilN)
  refine step_callsG (by rfl) 27 _ _ rfl enters_lsame _ #[.slice a3 nn c3, .slice so nn sc] (by simp [Act.eval]) (HSM.out _ _ _ hSA.1 HOA.out) ?_; rintro e w5 ⟨rfl, hcB⟩; refine ⟨_, rfl, ?_⟩
  have hSB := HS.out w5 (hSA.1.trans hcB)
  clear hcB
  refine hK.out _ _ hSB (fun hHeld => ?_)
  clear hK K hHeld
  try simp only [Act.put, List.setIfInBounds_toArray, List.set_cons_zero, List.set_cons_succ]
  refine takeN (i := 10) (v := ?vk10) rfl (by kernel_rfl) (by kernel_rfl) (by kernel_rfl) (fun _ _ _ h => h) (Or.inl ⟨by rfl, ?yk10⟩) hSB ?rk10
  case yk10 => (intro w hSw; (try dsimp only at hSw); go_simp; first | done | with_reducible rfl)
  try simp only [Act.put, List.setIfInBounds_toArray, List.set_cons_zero, List.set_cons_succ]
  refine takeN (i := 11) (v := ?vk11) rfl (by kernel_rfl) (by kernel_rfl) (by kernel_rfl) (fun _ _ _ h => h) (Or.inl ⟨by rfl, ?yk11⟩) hSB ?rk11
  case yk11 => (intro w hSw; (try dsimp only at hSw); go_simp; first | done | with_reducible rfl)
  try simp only [Act.put, List.setIfInBounds_toArray, List.set_cons_zero, List.set_cons_succ]
  refine doneN (by kernel_rfl) ?_ _
  have HCB := Lib.hid hSB.1
  clear hSS hSA hSB HS HNO HSM HOA
  have HC5 := Lib.hid (HC4.out.trans HCB.out)
  have HD5 := Lib.hid (HD4.out.chg HCB.out (by simp))
  have HQ5 := Lib.hid (HQ4.out.chg HCB.out (by simp))
  have HB5 := Lib.hid (HB4.out.chg HCB.out (by simp))
  have HE5 := Lib.hid (HE4.out.chg HCB.out (by simp))
  clear HDk HQk HNNk HCB HD4 HQ4 HB4 HE4 HC4
  have htt : totP D.row + 2 ≤ 9223372036854775807 := by have h1 := HVO.out.2.2.2.1; have h2 := HSB.out; omega
  have hll : D.row.length + 1 ≤ 1000 := by have := HLE.out; have := HNN.out; omega
  have hx1 : (0 : Int) < ((2 ^ D.depth : Nat) : Int) := by rw [HVO.out.2.1, ← HP.out]; omega
  have HPU := Lib.hid (dg_put w5 p2 s2 rv2 D HD5.out HVO.out.1 0 2 (by omega) hx1 (by omega) htt hll)
  have HRP := Lib.hid (fun u (hu : RD u q (.slice so nn sc) D) => ref17_put u q _ D hu HVO.out.1 0 2 (by omega) hx1 htt hll)
  have HEO := Lib.hid (DgD.put_ok HVO.out.1 (x := 0) (c := 2) (by omega) hx1 htt hll)
  clear htt hll hx1
  generalize D.put 0 2 = E at *
  rw [← HNN.out] at HQ5
  go_wp2_with fail
  refine HPU.out.mono ?_
  rintro e w6 ⟨rfl, s6, rv6, hd6, hm6⟩
  have HD6 := Lib.hid hd6
  have HQ6 := Lib.hid (HQ5.out.chg hm6.chg (fun b hb e => HF4.out.2 b e hb))
  have HC6 := Lib.hid (HC5.out.trans' hm6.chg (fun b hb => .inr (by have h := HF4.out.1 b hb; have h2 := HBC.out; omega)))
  have HB6 := Lib.hid (HB5.out.chg hm6.chg (fun e => by have := HF4.out.1 _ e; omega))
  have HE6 := Lib.hid (HE5.out.chg hm6.chg (fun e => by have := HF4.out.1 _ e; omega))
  have HJ6 := Lib.hid (show ∀ b ∈ fpD p2 s6 rv6, b ∉ fpR q (.slice so nn sc) from fun b hb e => by
    rcases hm6.fr b hb with h | h
    · exact HF4.out.2 b h e
    · have := HQ5.out.lt b e
      omega)
  clear hd6 hm6 HPU HD5 HQ5 HB5 HE5 HC5
  go_wp2_with fail
  refine (HRP.out _ HQ6.out).mono ?_
  rintro e w7 ⟨rfl, sv7, hq7, hm7⟩
  have HQ7 := Lib.hid hq7
  have HD7 := Lib.hid (HD6.out.chg hm7.chg (fun b hb e => HJ6.out b hb e))
  have HC7 := Lib.hid (HC6.out.trans' hm7.chg (fun b hb => .inr (by have h := HG2.out b hb; have h2 := HBC.out; omega)))
  have HB7 := Lib.hid (HB6.out.chg hm7.chg (fun e => by have := HG2.out _ e; omega))
  have HE7 := Lib.hid (HE6.out.chg hm7.chg (fun e => by have := HG2.out _ e; omega))
  clear hq7 hm7 HRP HD6 HQ6 HB6 HE6 HC6 HJ6 HF4 HG2
  obtain ⟨so7, sc7, hsv7⟩ := HQ7.out.row.shape
  subst hsv7
  obtain ⟨mm, hmm⟩ : ∃ z, z = E.row.length := ⟨_, rfl⟩
  have HNNm := Lib.hid (show mm = E.row.length ∧ mm ≤ 1000 from ⟨hmm, by have := HEO.out.2.2.2.2; have := HLE.out; have := HNN.out; omega⟩)
  have HDm := HD7
  have HQm := HQ7
  have hq70 := HQ7.out.cells.2.2
  rw [← hmm] at hq70
  clear hmm hq70
  have HNO := Lib.hid (fun u (hu : Chg [] w7 u) => dg_nodes u p2 s6 rv6 E (HDm.out.chg hu (by simp)) mm HNNm.out.1 HNNm.out.2)
  have HSM := Lib.hid (fun u a3 c3 (hu : Chg [] w7 u) (ho : Own u 53 2 (.slice a3 mm c3) mm (prCells E.row)) => show Calls Try.prog 27 #[.slice a3 mm c3, .slice so7 mm sc7] u fun e w' => e = .returned (.bool true) ∧ Chg [] u w' from by
    have hb := (HQm.out.chg hu (by simp)).row.rd
    have e := HNNm.out.1
    have e2 := HNNm.out.2
    rw [e] at ho ⊢
    first | exact ref06_same u a3 c3 so7 sc7 E.row ho.rd hb (by omega) | (rw [e] at hb; exact ref06_same u a3 c3 so7 sc7 E.row ho.rd hb (by omega)))
  have HS := Lib.hid (fun wx (hu : Chg [] w7 wx) => show Chg [] w7 wx ∧ wx.cell? ⟨q, 2, none⟩ = some (.slice so7 mm sc7) from ⟨hu, by
    have h := (HQm.out.chg hu (by simp)).cells.2.2
    first | exact h | (rw [← HNNm.out.1] at h; exact h)⟩)
  go_upto_region 12 with (fail)
  have hSS := HS.out w7.drew (Chg.refl [] w7).drew
  refine startN (S := fun wx => Chg [] w7 wx ∧ wx.cell? ⟨q, 2, none⟩ = some (.slice so7 mm sc7)) (by kernel_rfl) hSS (fun hHeld => ?_)
  refine takeN (i := 0) (v := ?vm0) rfl (by kernel_rfl) (by kernel_rfl) (by kernel_rfl) (fun _ _ _ h => h) (Or.inl ⟨by rfl, ?ym0⟩) hSS ?rm0
  case ym0 => (intro w hSw; (try dsimp only at hSw); go_simp; first | done | with_reducible rfl)
  try simp only [Act.put, List.setIfInBounds_toArray, List.set_cons_zero, List.set_cons_succ]
  refine takeN (i := 2) (v := ?vm2) rfl (by kernel_rfl) (by kernel_rfl) (by kernel_rfl) (fun _ _ _ h => h) (Or.inl ⟨by rfl, ?ym2⟩) hSS ?rm2
  case ym2 => (intro w hSw; (try dsimp only at hSw); go_simp; first | done | with_reducible rfl)
  try simp only [Act.put, List.setIfInBounds_toArray, List.set_cons_zero, List.set_cons_succ]
  refine takeN (i := 3) (v := ?vm3) rfl (by kernel_rfl) (by kernel_rfl) (by kernel_rfl) (fun _ _ _ h => h) (Or.inl ⟨by rfl, ?ym3⟩) hSS ?rm3
  case ym3 => (intro w hSw; (try dsimp only at hSw); go_simp; first | done | with_reducible rfl)
  try simp only [Act.put, List.setIfInBounds_toArray, List.set_cons_zero, List.set_cons_succ]
  refine takeN (i := 4) (v := ?vm4) rfl (by kernel_rfl) (by kernel_rfl) (by kernel_rfl) (fun _ _ _ h => h) (Or.inl ⟨by rfl, ?ym4⟩) hSS ?rm4
  case ym4 => (intro w hSw; (try dsimp only at hSw); go_simp; first | done | with_reducible rfl)
  try simp only [Act.put, List.setIfInBounds_toArray, List.set_cons_zero, List.set_cons_succ]
  refine takeN (i := 5) (v := ?vm5) rfl (by kernel_rfl) (by kernel_rfl) (by kernel_rfl) (fun _ _ _ h => h) (Or.inl ⟨by rfl, ?ym5⟩) hSS ?rm5
  case ym5 => (intro w hSw; (try dsimp only at hSw); go_simp; first | done | with_reducible rfl)
  try simp only [Act.put, List.setIfInBounds_toArray, List.set_cons_zero, List.set_cons_succ]
  refine readyN (rs := [1]) (by kernel_rfl) (by simp) (consN rfl (fun K hK => ?_) nilN)
  refine step_callsG (by rfl) 19 _ _ rfl enters_lnodes _ #[.pointer (some ⟨p2, 0, none⟩)] (by simp [Act.eval]) (HNO.out _ hSS.1) ?_; rintro e wa ⟨a3, c3, rfl, hoA, hcA, -⟩; refine ⟨_, rfl, ?_⟩
  have hSA := HS.out wa (hSS.1.trans hcA)
  have HOA := Lib.hid hoA
  clear hoA hcA
  refine hK.out _ _ hSA (fun hHeld => ?_)
  clear hK K hHeld
  try simp only [Act.put, List.setIfInBounds_toArray, List.set_cons_zero, List.set_cons_succ]
  refine readyN (rs := [6]) (by kernel_rfl) (by simp) (consN rfl (fun K hK => ?_) nilN)
  refine step_callsG (by rfl) 27 _ _ rfl enters_lsame _ #[.slice a3 mm c3, .slice so7 mm sc7] (by simp [Act.eval]) (HSM.out _ _ _ hSA.1 HOA.out) ?_; rintro e w8 ⟨rfl, hcB⟩; refine ⟨_, rfl, ?_⟩
  have hSB := HS.out w8 (hSA.1.trans hcB)
  clear hcB
  refine hK.out _ _ hSB (fun hHeld => ?_)
  clear hK K hHeld
  try simp only [Act.put, List.setIfInBounds_toArray, List.set_cons_zero, List.set_cons_succ]
  refine takeN (i := 7) (v := ?vm7) rfl (by kernel_rfl) (by kernel_rfl) (by kernel_rfl) (fun _ _ _ h => h) (Or.inl ⟨by rfl, ?ym7⟩) hSB ?rm7
  case ym7 => (intro w hSw; (try dsimp only at hSw); go_simp; first | done | with_reducible rfl)
  try simp only [Act.put, List.setIfInBounds_toArray, List.set_cons_zero, List.set_cons_succ]
  refine doneN (by kernel_rfl) ?_ _
  have HCB := Lib.hid hSB.1
  clear hSS hSA hSB HS HNO HSM HOA
  have HC8 := Lib.hid (HC7.out.trans HCB.out)
  have HB8 := Lib.hid (HB7.out.chg HCB.out (by simp))
  have HE8 := Lib.hid (HE7.out.chg HCB.out (by simp))
  clear HDm HQm HNNm HCB HD7 HQ7 HB7 HE7 HC7 HNN HLE HLO HXB HEO HVO HVF HVE HSB hnl
  have HLD := Lib.hid (fun u (hu : Chg [] w u) => show Calls Try.prog 29 #[.agg #[.int .i64 (dn : Nat), .int .i64 (fn : Nat)], .slice bo nb cb, .int .i64 e0, .int .i64 e1] u fun e w' => ∃ (pp : Option Addr) (kk : Int), e = .returned (.tuple #[.pointer pp, .int .i64 kk]) ∧ Chg [] u w' ∧ ((¬ LoadOk dn fn row e0 e1 ∧ pp = none ∧ kk = 1) ∨ (LoadOk dn fn row e0 e1 ∧ kk = 0 ∧ ∃ p s rv, pp = some ⟨p, 0, none⟩ ∧ Dg w' p s rv ⟨dn, fn, row, e0, e1⟩)) from by
    refine (dg_load u dn fn bo cb nb row HNB.out (HRB.out.chg hu (by simp)) (by omega) HKB.out e0 e1 he0 he1).mono ?_
    rintro e w' (⟨hbad, h1, h2⟩ | ⟨hg, p2, s2, rv2, h1, h2, h3, -⟩)
    · exact ⟨none, 1, h1, h2, .inl ⟨hbad, rfl, rfl⟩⟩
    · rw [Int.toNat_natCast, Int.toNat_natCast] at h2
      exact ⟨_, 0, h1, h3, .inr ⟨hg, rfl, p2, s2, rv2, rfl, h2⟩⟩)
  have x0 := HB8.out.cell 0
  have x1 := HB8.out.cell 1
  have y0 := HE8.out.cell 0
  have y1 := HE8.out.cell 1
  simp only [List.getElem?_toArray, List.getElem?_cons_zero, List.getElem?_cons_succ] at x0 x1 y0 y1
  go_wp2_with fail
  refine (HLD.out _ HC8.out).mono ?_
  clear HLD
  rintro e w9 ⟨pp, kk, rfl, hc9, hway⟩
  have HC9 := Lib.hid (HC8.out.trans hc9)
  have HB9 := Lib.hid (HB8.out.chg hc9 (by simp))
  have HE9 := Lib.hid (HE8.out.chg hc9 (by simp))
  have HWAY := Lib.hid hway
  clear x0 x1 y0 y1 hc9 hway HC8 HB8 HE8
  have x0 := HB9.out.cell 0
  have x1 := HB9.out.cell 1
  have y0 := HE9.out.cell 0
  have y1 := HE9.out.cell 1
  simp only [List.getElem?_toArray, List.getElem?_cons_zero, List.getElem?_cons_succ] at x0 x1 y0 y1
  have HGO := Lib.hid (fun u (hu : Chg [] w u) => show Calls Try.prog 20 #[.slice bo nb cb] u fun e w' => e = .returned (.bool (goodP row)) ∧ Chg [] u w' from by
    have e := HNB.out
    have hr := HRB.out.chg hu (by simp)
    subst e
    exact ref06_good u bo cb row HKB.out hr (by omega))
  have hw4 : IntKind.i64.wrap (4 * (fn : Int)) = ((4 * fn : Nat) : Int) := by have := HDF.out; rw [IntKind.wrap_i64]; omega
  obtain ⟨hsh1, hsh2⟩ := HSH.out
  obtain ⟨M, hM⟩ : ∃ z, z = 4 * fn := ⟨_, rfl⟩
  rw [← hM] at hw4
  obtain ⟨W, hW⟩ : ∃ W, W = (goodP row && decide (nb ≤ M) && decide (0 ≤ e0) && decide (e0 ≤ e1) && decide (e1 < (P : Int)) && (decide (0 < nb) || decide (e1 = 0))) := ⟨_, rfl⟩
  have HW := Lib.hid hW
  have HM := Lib.hid hM
  clear hW hM
  go_upto_region 16 with (fail)
  go_cut [18] (fun v wx => v = .bool W ∧ Chg [] w9 wx)
  case first =>
    have hkeep : ∀ (b : Bool) (wx : World), W = b → Chg [] w9 wx → True := fun _ _ _ _ => trivial
    go_wp2_with fail
    refine (HGO.out _ HC9.out).mono ?_
    rintro e wa ⟨rfl, hca⟩
    have HBa := Lib.hid (HB9.out.chg hca (by simp))
    have HEa := Lib.hid (HE9.out.chg hca (by simp))
    clear x0 x1 y0 y1 hkeep
    have x0 := HBa.out.cell 0
    have x1 := HBa.out.cell 1
    have y0 := HEa.out.cell 0
    have y1 := HEa.out.cell 1
    simp only [List.getElem?_toArray, List.getElem?_cons_zero, List.getElem?_cons_succ] at x0 x1 y0 y1
    cases hgt : goodP row with
    | false =>
      obtain rfl : W = false := by rw [HW.out, hgt]; rfl
      go_wp2_with fail
      go_meet
      exact ⟨rfl, hca⟩
    | true =>
      rw [hgt, Bool.true_and] at HW
      clear hgt
      by_cases q1 : nb ≤ M
      case neg =>
        obtain rfl : W = false := by rw [HW.out, decide_eq_false q1]; simp
        have dq10 : decide ((nb : Int) ≤ (M : Int)) = false := decide_eq_false (by omega)
        have dq11 : decide (nb ≤ M) = false := decide_eq_false (by omega)
        go_wp2_with fail
        go_meet
        exact ⟨rfl, hca⟩
      have dq10 : decide ((nb : Int) ≤ (M : Int)) = true := decide_eq_true (by omega)
      have dq11 : decide (nb ≤ M) = true := decide_eq_true (by omega)
      rw [decide_eq_true q1] at HW
      by_cases q2 : 0 ≤ e0
      case neg =>
        obtain rfl : W = false := by rw [HW.out, decide_eq_false q2]; simp
        have dq20 : decide ((0 : Int) ≤ e0) = false := decide_eq_false (by omega)
        go_wp2_with fail
        go_meet
        exact ⟨rfl, hca⟩
      have dq20 : decide ((0 : Int) ≤ e0) = true := decide_eq_true (by omega)
      rw [decide_eq_true q2] at HW
      by_cases q3 : e0 ≤ e1
      case neg =>
        obtain rfl : W = false := by rw [HW.out, decide_eq_false q3]; simp
        have dq30 : decide (e0 ≤ e1) = false := decide_eq_false (by omega)
        go_wp2_with fail
        go_meet
        exact ⟨rfl, hca⟩
      have dq30 : decide (e0 ≤ e1) = true := decide_eq_true (by omega)
      rw [decide_eq_true q3] at HW
      by_cases q4 : e1 < (P : Int)
      case neg =>
        obtain rfl : W = false := by rw [HW.out, decide_eq_false q4]; simp
        have dq40 : decide (e1 < (P : Int)) = false := decide_eq_false (by omega)
        go_wp2_with fail
        go_meet
        exact ⟨rfl, hca⟩
      have dq40 : decide (e1 < (P : Int)) = true := decide_eq_true (by omega)
      rw [decide_eq_true q4] at HW
      simp only [Bool.true_and, Bool.and_self] at HW
      by_cases q5 : 0 < nb
      · obtain rfl : W = true := by rw [HW.out, decide_eq_true q5]; rfl
        have dq5 : decide ((0 : Int) < (nb : Int)) = true := decide_eq_true (by omega)
        have dq5' : decide (0 < nb) = true := decide_eq_true q5
        go_wp2_with fail
        go_meet
        exact ⟨rfl, hca⟩
      · have dq5 : decide ((0 : Int) < (nb : Int)) = false := decide_eq_false (by omega)
        have dq5' : decide (0 < nb) = false := decide_eq_false q5
        by_cases q6 : e1 = 0
        · obtain rfl : W = true := by rw [HW.out, decide_eq_true q6, Bool.or_true]
          have dq6 : (e1 == 0) = true := by rw [beq_iff_eq]; exact q6
          clear q6 HW
          go_wp2_with fail
          go_meet
          exact ⟨rfl, hca⟩
        · obtain rfl : W = false := by rw [HW.out, dq5', decide_eq_false q6]; rfl
          have dq6 : (e1 == 0) = false := by rw [beq_eq_false_iff_ne]; exact q6
          go_wp2_with fail
          go_meet
          exact ⟨rfl, hca⟩
  case rest =>
    rename World => wb
    obtain ⟨rfl, hcb⟩ := hcut
    have HCb := Lib.hid (HC9.out.trans hcb)
    have HBb := Lib.hid (HB9.out.chg hcb (by simp))
    have HWb := Lib.hid (show (¬ LoadOk dn fn row e0 e1 ∧ pp = none ∧ kk = 1) ∨ (LoadOk dn fn row e0 e1 ∧ kk = 0 ∧ ∃ p s rv, pp = some ⟨p, 0, none⟩ ∧ Dg wb p s rv ⟨dn, fn, row, e0, e1⟩) from by
      rcases HWAY.out with h | ⟨h1, h2, p, s, rv, h3, h4⟩
      · exact .inl h
      · exact .inr ⟨h1, h2, p, s, rv, h3, h4.chg hcb (by simp)⟩)
    have HLK := Lib.hid (show LoadOk dn fn row e0 e1 ↔ Nodes row (2 * (P : Int)) ∧ totP row ≤ 9223372036854775807 ∧ (∀ p ∈ row, p.i < (P : Int) → p.c ≤ totP row / fn) ∧ row.length ≤ 4 * fn ∧ e0 ≤ e1 ∧ 0 ≤ e0 ∧ e1 < (P : Int) ∧ (row = [] → e1 = 0) from by
      constructor
      · intro h
        have h1 := h.nodes
        have h2 := h.low
        have h3 := h.hi0
        have h4 := h.len
        rw [Int.toNat_natCast, ← HP.out] at h1 h2 h3
        rw [Int.toNat_natCast] at h2 h4
        exact ⟨h1, h.tot, h2, h4, h.le, h.lo0, h3, h.none⟩
      · intro ⟨h1, h2, h3, h4, h5, h6, h7, h8⟩
        refine ⟨decide_eq_true ⟨⟨by have := HDF.out; omega, by have := HDF.out; omega⟩, by have := HDF.out; omega, by have := HDF.out; omega⟩, ?_, h2, ?_, ?_, h5, h6, ?_, h8⟩
        · rw [Int.toNat_natCast, ← HP.out]; exact h1
        · rw [Int.toNat_natCast, Int.toNat_natCast, ← HP.out]; exact h3
        · rw [Int.toNat_natCast]; exact h4
        · rw [Int.toNat_natCast, ← HP.out]; exact h7)
    have HW1 := Lib.hid (show W = true → (rises row ∧ ∀ p ∈ row, 1 ≤ p.c ∧ p.c ≤ 9223372036854775807) ∧ row.length ≤ 4 * fn ∧ e0 ≤ e1 ∧ 0 ≤ e0 ∧ e1 < (P : Int) ∧ (row = [] → e1 = 0) from fun h => by
      rw [HW.out] at h
      simp only [Bool.and_eq_true, Bool.or_eq_true, decide_eq_true_eq] at h
      obtain ⟨⟨⟨⟨⟨h1, h2⟩, h3⟩, h4⟩, h5⟩, h6⟩ := h
      have h7 := HNB.out
      have h8 := HM.out
      exact ⟨goodP_iff.1 h1, by omega, h4, h3, h5, fun e => by rw [e] at h7; simp at h7; omega⟩)
    have HW0 := Lib.hid (show LoadOk dn fn row e0 e1 → W = true from fun h => by
      obtain ⟨h1, h2, h3, h4, h5, h6, h7, h8⟩ := HLK.out.1 h
      have h9 := HNB.out
      have h10 := HM.out
      have hg : goodP row = true := goodP_iff.2 ⟨h1.up, fun p hp => ⟨h1.pos p hp, Nat.le_trans (mem_tot hp) h2⟩⟩
      rw [HW.out, hg, decide_eq_true (show nb ≤ M by omega), decide_eq_true h6, decide_eq_true h5, decide_eq_true h7]
      simp only [Bool.true_and]
      by_cases hz : row = []
      · rw [decide_eq_true (h8 hz), Bool.or_true]
      · have : row.length ≠ 0 := fun e => hz (List.eq_nil_of_length_eq_zero e)
        rw [decide_eq_true (show 0 < nb by omega), Bool.true_or])
    clear hcb HC9 HB9 HE9 HGO HWAY HW HM x0 x1 y0 y1 hw4 hsh1 hsh2
    go_upto_block 0 with (fail)
    go_cut [18, 19] (fun v t wx => ∃ (S : Nat) (B : Bool), v = .bool B ∧ t = .int .u64 (S : Nat) ∧ Chg [] wb wx ∧ Hid (B = true → W = true ∧ S = totP row ∧ S ≤ 9223372036854775807 ∧ ∀ p ∈ row, 1 ≤ p.i ∧ p.i < 2 * (P : Int)) ∧ Hid (B = false → ¬ LoadOk dn fn row e0 e1))
    case first =>
      go_wp2_with fail
      go_loopw [18, 19, 20] (fun v t i wx => ∃ (k S : Nat) (B : Bool), k ≤ nb ∧ i = .int .i64 (k : Nat) ∧ v = .bool B ∧ t = .int .u64 (S : Nat) ∧ Chg [] wb wx ∧ Hid (B = true → W = true ∧ S = totP (row.take k) ∧ S ≤ 9223372036854775807 ∧ ∀ p ∈ row.take k, 1 ≤ p.i ∧ p.i < 2 * (P : Int)) ∧ Hid (B = false → ¬ LoadOk dn fn row e0 e1)) (fun _ _ i _ => nb - (intOf i).toNat)
      case atStart => exact ⟨0, 0, W, Nat.zero_le _, rfl, rfl, rfl, Chg.refl _ _, Lib.hid (fun h => ⟨h, by simp [totP], by omega, by simp⟩), Lib.hid (fun h k => by rw [HW0.out k] at h; exact absurd h (by decide))⟩
      case round =>
        rename World => wj
        obtain ⟨k, S, B, hk, rfl, rfl, rfl, hch, HT, HFA⟩ := hrel
        have HCH := Lib.hid hch
        clear hch
        cases B with
        | true =>
          by_cases hlt : k < nb
          · have hkl : k < row.length := by have := HNB.out; omega
            obtain ⟨b, o, rfl, hcc⟩ := (HRB.out.chg (HCb.out.trans HCH.out) (by simp)).addr (by omega)
            obtain ⟨z0, z1⟩ := pr_at (fun j hj => hcc j (by rw [HNB.out]; exact hj)) hkl
            obtain ⟨t1, t2, t3, t4⟩ := HT.out (by trivial)
            have HRK := Lib.hid (fun u (hu : Chg [] wj u) => show u.cell? ⟨b, o + k * 2, none⟩ = some (.int .i64 row[k].i) ∧ u.cell? ⟨b, o + k * 2 + 1, none⟩ = some (.int .u64 (row[k].c : Nat)) from by
              have h := (HRB.out.chg ((HCb.out.trans HCH.out).trans hu) (by simp))
              obtain ⟨b', o', e, hc⟩ := h.addr (by omega)
              simp only [Option.some.injEq, Addr.mk.injEq, and_true] at e
              obtain ⟨rfl, rfl⟩ := e
              exact pr_at (fun j hj => hc j (by rw [HNB.out]; exact hj)) hkl)
            have hxc := ((HW1.out t1).1.2 _ (List.getElem_mem hkl)).2
            have HTS := Lib.hid (show totP (row.take (k + 1)) = totP (row.take k) + row[k].c from by rw [List.take_succ_eq_append_getElem hkl, totP_app]; simp [totP])
            have HMX := Lib.hid (show ∀ p ∈ row.take (k + 1), p ∈ row.take k ∨ p = row[k] from fun x hx => by
              rw [List.take_succ_eq_append_getElem hkl] at hx
              rcases List.mem_append.1 hx with h | h
              · exact .inl h
              · simp at h; exact .inr h)
            have HLX := Lib.hid (fun (h : LoadOk dn fn row e0 e1) => (HLK.out.1 h).1.ix _ (List.getElem_mem hkl))
            have HLT := Lib.hid (fun (h : LoadOk dn fn row e0 e1) => show totP (row.take (k + 1)) ≤ 9223372036854775807 from Nat.le_trans (take_tot row (k + 1)) (HLK.out.1 h).2.1)
            have HT1 := Lib.hid t1
            have HT2 := Lib.hid (show S = totP (row.take k) from t2)
            have HT4 := Lib.hid t4
            generalize row[k] = x at *
            obtain ⟨S2, hS2⟩ : ∃ z, z = S + x.c := ⟨_, rfl⟩
            have hw : IntKind.u64.wrap ((S : Int) + (x.c : Int)) = (S2 : Int) := by rw [IntKind.wrap_u64]; omega
            have HS2 := Lib.hid hS2
            have HBj := Lib.hid (HBb.out.chg HCH.out (by simp))
            have x0 := HBj.out.cell 0
            simp only [List.getElem?_toArray, List.getElem?_cons_zero] at x0
            clear hcc hkl t1 t2 t4 HT HFA hS2
            by_cases q7 : S2 ≤ 9223372036854775807
            case neg =>
              have dq7 : decide ((S2 : Int) < 9223372036854775808) = false := decide_eq_false (by omega)
              have dq7' : decide (S2 < 9223372036854775808) = false := decide_eq_false (by omega)
              have HNO := Lib.hid (show ¬ LoadOk dn fn row e0 e1 from fun h => by have h1 := HLT.out h; rw [HTS.out] at h1; have h2 := HT2.out; have h3 := HS2.out; omega)
              go_wp2
              go_quiet (fail)
              go_wp2
              exact ⟨⟨k + 1, S2, false, by omega, by go_num, rfl, rfl, by with_reducible (repeat (first | exact HCH.out | apply Chg.drew | apply Chg.drewN)), Lib.hid (fun h => absurd h (by decide)), Lib.hid (fun _ => HNO.out)⟩, by simp [intOf]; omega⟩
            have dq7 : decide ((S2 : Int) < 9223372036854775808) = true := decide_eq_true (by omega)
            have dq7' : decide (S2 < 9223372036854775808) = true := decide_eq_true (by omega)
            have HGX := Lib.hid (fun u => ref16_good u dn P (by have := HDF.out; omega) HP.out x.i)
            obtain ⟨G, hG⟩ : ∃ G, G = (decide (1 ≤ x.i) && decide (x.i < 2 * (P : Int))) := ⟨_, rfl⟩
            rw [← hG] at HGX
            have HG := Lib.hid hG
            clear hG
            go_upto_region 22 with (fail)
            have HS := Lib.hid (fun wx (hu : Chg [] wj wx) => show Chg [] wj wx ∧ wx.cell? ⟨bc, 0, none⟩ = some (.int .i64 (dn : Nat)) ∧ wx.cell? ⟨b, o + k * 2, none⟩ = some (.int .i64 x.i) from ⟨hu, (HBj.out.chg hu (by simp)).cell 0, (HRK.out wx hu).1⟩)
            have hSS := HS.out wj.drew (Chg.refl [] wj).drew
            refine startN (S := fun wx => Chg [] wj wx ∧ wx.cell? ⟨bc, 0, none⟩ = some (.int .i64 (dn : Nat)) ∧ wx.cell? ⟨b, o + k * 2, none⟩ = some (.int .i64 x.i)) (by kernel_rfl) hSS (fun hHeld => ?_)
            refine takeN (i := 0) (v := ?vv0) rfl (by kernel_rfl) (by kernel_rfl) (by kernel_rfl) (fun _ _ _ h => h) (Or.inl ⟨by rfl, ?yv0⟩) hSS ?rv0
            case yv0 => (intro w hSw; (try dsimp only at hSw); go_simp; first | done | with_reducible rfl)
            try simp only [Act.put, List.setIfInBounds_toArray, List.set_cons_zero, List.set_cons_succ]
            refine takeN (i := 1) (v := ?vv1) rfl (by kernel_rfl) (by kernel_rfl) (by kernel_rfl) (fun _ _ _ h => h) (Or.inl ⟨by rfl, ?yv1⟩) hSS ?rv1
            case yv1 => (intro w hSw; (try dsimp only at hSw); go_simp; first | done | with_reducible rfl)
            try simp only [Act.put, List.setIfInBounds_toArray, List.set_cons_zero, List.set_cons_succ]
            refine takeN (i := 2) (v := ?vv2) rfl (by kernel_rfl) (by kernel_rfl) (by kernel_rfl) (fun _ _ _ h => h) (Or.inl ⟨by rfl, ?yv2⟩) hSS ?rv2
            case yv2 => (intro w hSw; (try dsimp only at hSw); go_simp; first | done | with_reducible rfl)
            try simp only [Act.put, List.setIfInBounds_toArray, List.set_cons_zero, List.set_cons_succ]
            refine takeN (i := 3) (v := ?vv3) rfl (by kernel_rfl) (by kernel_rfl) (by kernel_rfl) (fun _ _ _ h => h) (Or.inl ⟨by rfl, ?yv3⟩) hSS ?rv3
            case yv3 => (intro w hSw; (try dsimp only at hSw); go_simp; first | done | with_reducible rfl)
            try simp only [Act.put, List.setIfInBounds_toArray, List.set_cons_zero, List.set_cons_succ]
            refine takeN (i := 4) (v := ?vv4) rfl (by kernel_rfl) (by kernel_rfl) (by kernel_rfl) (fun _ _ _ h => h) (Or.inl ⟨by rfl, ?yv4⟩) hSS ?rv4
            case yv4 => (intro w hSw; (try dsimp only at hSw); go_simp; first | done | with_reducible rfl)
            try simp only [Act.put, List.setIfInBounds_toArray, List.set_cons_zero, List.set_cons_succ]
            refine takeN (i := 5) (v := ?vv5) rfl (by kernel_rfl) (by kernel_rfl) (by kernel_rfl) (fun _ _ _ h => h) (Or.inl ⟨by rfl, ?yv5⟩) hSS ?rv5
            case yv5 => (intro w hSw; (try dsimp only at hSw); go_simp; first | done | with_reducible rfl)
            try simp only [Act.put, List.setIfInBounds_toArray, List.set_cons_zero, List.set_cons_succ]
            refine takeN (i := 6) (v := ?vv6) rfl (by kernel_rfl) (by kernel_rfl) (by kernel_rfl) (fun _ _ _ h => h) (Or.inl ⟨by rfl, ?yv6⟩) hSS ?rv6
            case yv6 => (intro w hSw; (try dsimp only at hSw); go_simp; first | done | with_reducible rfl)
            try simp only [Act.put, List.setIfInBounds_toArray, List.set_cons_zero, List.set_cons_succ]
            refine takeN (i := 7) (v := ?vv7) rfl (by kernel_rfl) (by kernel_rfl) (by kernel_rfl) (fun _ _ _ h => h) (Or.inl ⟨by rfl, ?yv7⟩) hSS ?rv7
            case yv7 => (intro w hSw; (try dsimp only at hSw); go_simp; first | done | with_reducible rfl)
            try simp only [Act.put, List.setIfInBounds_toArray, List.set_cons_zero, List.set_cons_succ]
            refine takeN (i := 8) (v := ?vv8) rfl (by kernel_rfl) (by kernel_rfl) (by kernel_rfl) (fun _ _ _ h => h) (Or.inl ⟨by rfl, ?yv8⟩) hSS ?rv8
            case yv8 => (intro w hSw; (try dsimp only at hSw); go_simp; first | done | with_reducible rfl)
            try simp only [Act.put, List.setIfInBounds_toArray, List.set_cons_zero, List.set_cons_succ]
            refine takeN (i := 9) (v := ?vv9) rfl (by kernel_rfl) (by kernel_rfl) (by kernel_rfl) (fun _ _ _ h => h) (Or.inl ⟨by rfl, ?yv9⟩) hSS ?rv9
            case yv9 => (intro w hSw; (try dsimp only at hSw); go_simp; first | done | with_reducible rfl)
            try simp only [Act.put, List.setIfInBounds_toArray, List.set_cons_zero, List.set_cons_succ]
            refine readyN (rs := [10]) (by kernel_rfl) (by simp) (consN rfl (fun K hK => ?_) nilN)
            refine step_callsG (by rfl) 22 _ _ rfl enters_lgood _ #[.int .i64 (dn : Nat), .int .i64 x.i] (by simp [Act.eval]) (HGX.out _) ?_; rintro e wy ⟨rfl, rfl⟩; refine ⟨_, rfl, ?_⟩
            refine hK.out _ _ hSS (fun hHeld => ?_)
            clear hK K hHeld
            try simp only [Act.put, List.setIfInBounds_toArray, List.set_cons_zero, List.set_cons_succ]
            refine takeN (i := 11) (v := ?vv11) rfl (by kernel_rfl) (by kernel_rfl) (by kernel_rfl) (fun _ _ _ h => h) (Or.inl ⟨by rfl, ?yv11⟩) hSS ?rv11
            case yv11 => (intro w hSw; (try dsimp only at hSw); go_simp; first | done | with_reducible rfl)
            try simp only [Act.put, List.setIfInBounds_toArray, List.set_cons_zero, List.set_cons_succ]
            refine takeN (i := 12) (v := ?vv12) rfl (by kernel_rfl) (by kernel_rfl) (by kernel_rfl) (fun _ _ _ h => h) (Or.inl ⟨by rfl, ?yv12⟩) hSS ?rv12
            case yv12 => (intro w hSw; (try dsimp only at hSw); go_simp; first | done | with_reducible rfl)
            try simp only [Act.put, List.setIfInBounds_toArray, List.set_cons_zero, List.set_cons_succ]
            refine doneN (by kernel_rfl) ?_ _
            have HCY := Lib.hid (HCH.out.drew)
            clear hSS HS
            cases G with
            | true =>
              have HGG := Lib.hid (show 1 ≤ x.i ∧ x.i < 2 * (P : Int) from by
                have h := HG.out.symm
                rw [Bool.and_eq_true, decide_eq_true_eq, decide_eq_true_eq] at h
                exact h)
              go_wp2_with fail
              exact ⟨⟨k + 1, S2, true, by omega, by go_num, rfl, rfl, HCY.out, Lib.hid (fun _ => ⟨HT1.out, by rw [HTS.out, ← HT2.out]; exact HS2.out, q7, fun y hy => by
                rcases HMX.out y hy with h | rfl
                · exact HT4.out y h
                · exact HGG.out⟩), Lib.hid (fun h => absurd h (by decide))⟩, by simp [intOf]; omega⟩
            | false =>
              have HNO := Lib.hid (show ¬ LoadOk dn fn row e0 e1 from fun h => by
                have h1 := HG.out.symm
                have h2 := HLX.out h
                rw [decide_eq_true h2.1, decide_eq_true h2.2] at h1
                exact absurd h1 (by decide))
              go_wp2_with fail
              exact ⟨⟨k + 1, S2, false, by omega, by go_num, rfl, rfl, HCY.out, Lib.hid (fun h => absurd h (by decide)), Lib.hid (fun _ => HNO.out)⟩, by simp [intOf]; omega⟩
          · obtain rfl : k = nb := by omega
            rw [List.take_of_length_le (by have := HNB.out; omega)] at HT
            go_wp2_with fail
            go_meet
            exact ⟨S, true, rfl, rfl, HCH.out, Lib.hid (fun _ => HT.out (by trivial)), Lib.hid (fun h => absurd h (by decide))⟩
        | false =>
          go_wp2_with fail
          go_meet
          exact ⟨S, false, rfl, rfl, HCH.out, Lib.hid (fun h => absurd h (by decide)), Lib.hid (fun _ => HFA.out (by trivial))⟩
    case rest =>
      rename World => wc
      obtain ⟨S, B, rfl, rfl, hcc, HT, HFA⟩ := hcut
      have HCC := Lib.hid hcc
      have HBC2 := Lib.hid (HBb.out.chg hcc (by simp))
      clear hcc
      go_upto_block 2 with (fail)
      go_cut [18] (fun v wx => ∃ (B2 : Bool), v = .bool B2 ∧ Chg [] wc wx ∧ Hid (B2 = true → LoadOk dn fn row e0 e1 ∧ S = totP row) ∧ Hid (B2 = false → ¬ LoadOk dn fn row e0 e1))
      case first =>
        go_wp2_with fail
        go_loopw [18, 21] (fun v i wx => ∃ (k : Nat) (B2 : Bool), k ≤ nb ∧ i = .int .i64 (k : Nat) ∧ v = .bool B2 ∧ Chg [] wc wx ∧ Hid (B2 = true → B = true ∧ ∀ p ∈ row.take k, p.i < (P : Int) → p.c ≤ totP row / fn) ∧ Hid (B2 = false → ¬ LoadOk dn fn row e0 e1)) (fun _ i _ => nb - (intOf i).toNat)
        case atStart => exact ⟨0, B, Nat.zero_le _, rfl, rfl, Chg.refl _ _, Lib.hid (fun h => ⟨h, by simp⟩), HFA⟩
        case round =>
          rename World => wj
          obtain ⟨k, B2, hk, rfl, rfl, hch, HU, HFB⟩ := hrel
          have HCH := Lib.hid hch
          clear hch
          cases B2 with
          | true =>
            have hB := (HU.out (by trivial)).1
            obtain ⟨t1, t2, t3, t4⟩ := HT.out hB
            by_cases hlt : k < nb
            · have hkl : k < row.length := by have := HNB.out; omega
              obtain ⟨b, o, rfl, hcc⟩ := (HRB.out.chg ((HCb.out.trans HCC.out).trans HCH.out) (by simp)).addr (by omega)
              obtain ⟨z0, z1⟩ := pr_at (fun j hj => hcc j (by rw [HNB.out]; exact hj)) hkl
              have HMX := Lib.hid (show ∀ p ∈ row.take (k + 1), p ∈ row.take k ∨ p = row[k] from fun x hx => by
                rw [List.take_succ_eq_append_getElem hkl] at hx
                rcases List.mem_append.1 hx with h | h
                · exact .inl h
                · simp at h; exact .inr h)
              have HLX := Lib.hid (fun (h : LoadOk dn fn row e0 e1) => (HLK.out.1 h).2.2.1 _ (List.getElem_mem hkl))
              have HU2 := Lib.hid (HU.out (by trivial)).2
              have HB2 := Lib.hid hB
              generalize row[k] = x at *
              obtain ⟨L, hL⟩ : ∃ L, L = S / fn := ⟨_, rfl⟩
              have HLS := Lib.hid (show totP row / fn = L from by rw [hL, t2])
              have hff := HDF.out
              have hll : L ≤ S := by rw [hL]; exact Nat.div_le_self _ _
              have hz : ((fn : Int) == 0) = false := by rw [beq_eq_false_iff_ne]; omega
              have hz2 : ¬ fn = 0 := by omega
              have hwf : IntKind.u64.wrap (fn : Int) = (fn : Int) := IntWalk.u64_in _ (by omega)
              have hq : (S : Int).tdiv (fn : Int) = (L : Int) := by rw [Int.tdiv_eq_ediv_of_nonneg (by omega), hL]; rfl
              have hq2 : (S : Int) / (fn : Int) = (L : Int) := by rw [hL]; rfl
              have hwl : IntKind.u64.wrap (L : Int) = (L : Int) := IntWalk.u64_in _ (by omega)
              obtain ⟨hsh1, hsh2⟩ := HSH.out
              have HBj := Lib.hid (HBC2.out.chg HCH.out (by simp))
              have x0 := HBj.out.cell 0
              have x1 := HBj.out.cell 1
              simp only [List.getElem?_toArray, List.getElem?_cons_zero, List.getElem?_cons_succ] at x0 x1
              clear hcc hkl t1 t2 t4 HU HFB hff hL hB hll
              by_cases q7 : x.i < (P : Int)
              · have dq7 : decide ((P : Int) ≤ x.i) = false := decide_eq_false (by omega)
                by_cases q8 : x.c ≤ L
                · have dq8 : decide ((x.c : Int) ≤ (L : Int)) = true := decide_eq_true (by omega)
                  have dq8' : decide (x.c ≤ L) = true := decide_eq_true q8
                  go_wp2
                  go_quiet (fail)
                  go_wp2
                  exact ⟨⟨k + 1, true, by omega, by go_num, rfl, by with_reducible (repeat (first | exact HCH.out | apply Chg.drew | apply Chg.drewN)), Lib.hid (fun _ => ⟨HB2.out, fun y hy h => by
                    rcases HMX.out y hy with h1 | rfl
                    · exact HU2.out y h1 h
                    · rw [HLS.out]; exact q8⟩), Lib.hid (fun h => absurd h (by decide))⟩, by simp [intOf]; omega⟩
                · have dq8 : decide ((x.c : Int) ≤ (L : Int)) = false := decide_eq_false (by omega)
                  have dq8' : decide (x.c ≤ L) = false := decide_eq_false q8
                  have HNO := Lib.hid (show ¬ LoadOk dn fn row e0 e1 from fun h => by have h1 := HLX.out h q7; rw [HLS.out] at h1; exact q8 h1)
                  go_wp2
                  go_quiet (fail)
                  go_wp2
                  exact ⟨⟨k + 1, false, by omega, by go_num, rfl, by with_reducible (repeat (first | exact HCH.out | apply Chg.drew | apply Chg.drewN)), Lib.hid (fun h => absurd h (by decide)), Lib.hid (fun _ => HNO.out)⟩, by simp [intOf]; omega⟩
              · have dq7 : decide ((P : Int) ≤ x.i) = true := decide_eq_true (by omega)
                go_wp2
                go_quiet (fail)
                go_wp2
                exact ⟨⟨k + 1, true, by omega, by go_num, rfl, by with_reducible (repeat (first | exact HCH.out | apply Chg.drew | apply Chg.drewN)), Lib.hid (fun _ => ⟨HB2.out, fun y hy h => by
                  rcases HMX.out y hy with h1 | rfl
                  · exact HU2.out y h1 h
                  · omega⟩), Lib.hid (fun h => absurd h (by decide))⟩, by simp [intOf]; omega⟩
            · obtain rfl : k = nb := by omega
              have hall := (HU.out (by trivial)).2
              rw [List.take_of_length_le (by have := HNB.out; omega)] at hall
              have HOKK := Lib.hid (show LoadOk dn fn row e0 e1 ∧ S = totP row from by
                obtain ⟨⟨g1, g2⟩, g3, g4, g5, g6, g7⟩ := HW1.out t1
                exact ⟨HLK.out.2 ⟨⟨g1, fun p hp => (g2 p hp).1, t4⟩, by omega, hall, g3, g4, g5, g6, g7⟩, t2⟩)
              clear hall t1 t2 t3 t4 hB
              go_wp2_with fail
              go_meet
              exact ⟨true, rfl, HCH.out, Lib.hid (fun _ => HOKK.out), Lib.hid (fun h => absurd h (by decide))⟩
          | false =>
            go_wp2_with fail
            go_meet
            exact ⟨false, rfl, HCH.out, Lib.hid (fun h => absurd h (by decide)), Lib.hid (fun _ => HFB.out (by trivial))⟩
      case rest =>
        rename World => wd
        obtain ⟨B2, rfl, hcd, HU, HFB⟩ := hcut
        have HCD := Lib.hid ((HCb.out.trans HCC.out).trans hcd)
        cases B2 with
        | true =>
          obtain ⟨hok, hsum⟩ := HU.out (by trivial)
          rcases HWb.out with ⟨hbad, -, -⟩ | ⟨-, rfl, p3, s3, rv3, rfl, hdg⟩
          · exact absurd hok hbad
          have HTT := Lib.hid (dg_total wd p3 s3 rv3 _ (hdg.chg (HCC.out.trans hcd) (by simp)))
          rw [show totP (⟨dn, fn, row, e0, e1⟩ : DgD).row = S from hsum.symm] at HTT
          have hss : ((S : Int) == (S : Int)) = true := by simp
          clear hok hsum hdg hcd
          go_wp2_with fail
          refine HTT.out.mono ?_
          rintro e w' ⟨rfl, rfl⟩
          go_wp2_with fail
          go_ret
          first | exact ⟨rfl, HCD.out⟩ | exact ⟨by simp, HCD.out⟩
        | false =>
          have hno := HFB.out (by trivial)
          rcases HWb.out with ⟨-, rfl, rfl⟩ | ⟨hgood, -⟩
          · clear hno hcd
            go_wp2_with fail
            go_ret
            first | exact ⟨rfl, HCD.out⟩ | exact ⟨by simp, HCD.out⟩
          · exact absurd hgood hno
end Go.Proofs.Ytgnbabkafobeoaa
