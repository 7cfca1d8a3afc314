/-
  The walk of Load (layer 19). Conditions: the form's own reach.
  The walk of the law GreenwaldLoads. Conditions: the form's own reach.
-/
import Derived.Test.YtkcldhimjnehdaaGkNil
import Derived.Test.YtkcldhimjnehdaaTupFineGood
import Derived.Test.YtkcldhimjnehdaaGkSame
import Derived.Test.YtkcldhimjnehdaaGkBuild
namespace Go.Proofs.Ytkcldhimjnehdaa
open Go.RowKit

theorem sumTo_mem (l : List Tp) (k : Nat) (h : k < l.length) : l[k].st ≤ sumTo (stps l) (k + 1) := by
  rw [sumTo_succ (stps l) k (by simpa [stps] using h)]
  simp [stps]
theorem okTo_at {l : List Tp} {n m : Nat} (h : okTo l n m = true) {k : Nat} (hk : k < m) : okT l n k = true := by
  rw [okTo, List.all_eq_true] at h
  exact h k (List.mem_range.2 hk)
theorem goodT_bound {l : List Tp} (h : goodT l = true) : tot l ≤ 9223372036854775807 ∧ ∀ p ∈ l, p.st + p.sl ≤ tot l := by
  rw [goodT, Bool.and_eq_true, Bool.and_eq_true, stps_sum] at h
  obtain ⟨⟨h1, h2⟩, -⟩ := h
  refine ⟨of_decide_eq_true h1, fun p hp => ?_⟩
  obtain ⟨k, hk, rfl⟩ := List.getElem_of_mem hp
  have h3 := of_decide_eq_true (okTo_at h2 hk)
  have e : l.getD k default = l[k] := by simp [List.getD, hk]
  rw [e] at h3
  have h4 := sumTo_mem l k hk
  have h5 := sumTo_le (stps l) (k + 1)
  rw [stps_sum] at h5
  omega
/-- Can that be loaded? -/
def loadB (num den : Nat) (l : List Tp) (m : Nat) : Bool := goodT l && decide (tot l + m ≤ 9223372036854775807) && decide (m < 16) && l.all fun p => decide (p.st + p.sl ≤ limG num den (tot l))
theorem Gk.loaded {w : World} {p num den : Nat} (h : Gk w p (.slice none 0 0) (.slice none 0 0) (GkD.new num den)) {rv2 wv2 : Value} {l : List Tp} {ws vals : List Int} (ho1 : Own w 28 3 rv2 l.length (tpCells l)) (ho2 : Own w 2 1 wv2 ws.length (ints ws))
    (T : Nat) (hT : T = vals.length + ws.length) :
    Gk (((w.setCell ⟨p, 2, none⟩ rv2).setCell ⟨p, 3, none⟩ wv2).setCell ⟨p, 4, none⟩ (.int .u64 (T : Nat))) p rv2 wv2 ⟨num, den, l, vals, ws⟩ ∧ Chg [p] w (((w.setCell ⟨p, 2, none⟩ rv2).setCell ⟨p, 3, none⟩ wv2).setCell ⟨p, 4, none⟩ (.int .u64 (T : Nat))) := by
  have k2 : Chg [p] w (((w.setCell ⟨p, 2, none⟩ rv2).setCell ⟨p, 3, none⟩ wv2).setCell ⟨p, 4, none⟩ (.int .u64 (T : Nat))) :=
    (((Chg.refl _ w).setCell (a := ⟨p, 2, none⟩) (.inl (by simp)) _).setCell (a := ⟨p, 3, none⟩) (.inl (by simp)) _).setCell (a := ⟨p, 4, none⟩) (.inl (by simp)) _
  refine ⟨⟨?_, ?_, ?_⟩, k2⟩
  · have h2 := ((h.blk.setCell 2 rv2).setCell 3 wv2).setCell 4 (.int .u64 (T : Nat))
    unfold gkCells at h2 ⊢
    rw [show GkD.total ⟨num, den, l, vals, ws⟩ = T from by rw [hT]; rfl]
    exact h2
  · exact ho1.chg k2 (fun b hb2 e => by simp at e; subst e; exact ho1.ne_blk h.blk (by decide) hb2)
  · exact ho2.chg k2 (fun b hb2 e => by simp at e; subst e; exact ho2.ne_blk h.blk (by decide) hb2)
/-- What Load tells. -/
def LoadK (w w' : World) (num den : Nat) (l : List Tp) (ws vals : List Int) (e : Ending) : Prop :=
  (loadB num den l ws.length = true ∧ ∃ p rv wv, e = .returned (.tuple #[.pointer (some ⟨p, 0, none⟩), .int .i64 0]) ∧ Gk w' p rv wv ⟨num, den, l, vals, ws⟩ ∧ Chg [] w w' ∧ ∀ b ∈ fpK p rv wv, w.heap.size ≤ b) ∨
  (loadB num den l ws.length = false ∧ e = .returned (.tuple #[.pointer none, .int .i64 1]) ∧ Chg [] w w')

set_option maxRecDepth 100000 in
set_option maxHeartbeats 8000000 in
theorem gk_load (w : World) (num den : Nat) (hg : goodK num den = true) (ao : Option Addr) (ca n : Nat) (l : List Tp) (hn : n = l.length) (hok : ∀ p ∈ l, p.st < 18446744073709551616 ∧ p.sl < 18446744073709551616) (hr : Rd w 3 (.slice ao n ca) n (tpCells l)) (hl : n ≤ 30000)
    (bo : Option Addr) (cb m : Nat) (ws : List Int) (hm : m = ws.length) (hrw : Rd w 1 (.slice bo m cb) m (ints ws)) (hl2 : m ≤ 30000) (vals : List Int) (hv : vals.length = tot l) :
    Calls Try.prog 36 #[.agg #[.int .u64 (num : Nat), .int .u64 (den : Nat)], .slice ao n ca, .slice bo m cb] w fun e w' => LoadK w w' num den l ws vals e := by
  have HN := Lib.hid hn
  have HM := Lib.hid hm
  have HV := Lib.hid hv
  have HOK := Lib.hid hok
  have HRL := Lib.hid hr
  have HRW := Lib.hid hrw
  obtain ⟨N, hN⟩ : ∃ N, N = tot l := ⟨_, rfl⟩
  have HNT := Lib.hid hN
  have HTO := Lib.hid (fun u (hu : Chg [] w u) => show Calls Try.prog 11 #[.slice ao n ca] u fun e w' => e = .returned (plusV (stps l)) ∧ Chg [] u w' from by
    subst hn
    exact tup_total u ao ca l (fun p hp => (hok p hp).1) (hr.chg hu (by simp)) (by omega))
  have HGO := Lib.hid (fun u (hu : Chg [] w u) => show Calls Try.prog 14 #[.slice ao n ca] u fun e w' => e = .returned (.bool (goodT l)) ∧ Chg [] u w' from by
    subst hn
    exact tup_good u ao ca l (fun p hp => (hok p hp).1) (hr.chg hu (by simp)) (by omega))
  have HNEW := Lib.hid (fun u => gk_new u num den hg)
  have HCT := Lib.hid (fun u (hu : Chg [] w u) => clone_t u ao ca n l (hr.chg hu (by simp)) (by omega))
  have HCI := Lib.hid (fun u (hu : Chg [] w u) => clone_i u bo cb m ws (hrw.chg hu (by simp)) (by omega))
  have HB := Lib.hid (Blk.alloc_new w #[.int .u64 num, .int .u64 den] 25)
  have HC := Lib.hid ((Chg.refl [] w).alloc (.cells #[.int .u64 num, .int .u64 den] 25))
  have x0 := HB.out.cell 0
  have x1 := HB.out.cell 1
  obtain ⟨L, hL⟩ : ∃ L, L = limG num den N := ⟨_, rfl⟩
  have HL := Lib.hid hL
  have HLM := Lib.hid (fun u (hN9 : N ≤ 9223372036854775807) => show Calls Try.prog 15 #[.agg #[.int .u64 (num : Nat), .int .u64 (den : Nat)], .int .u64 (N : Nat)] u fun e w' => e = .returned (.int .u64 (L : Nat)) ∧ Chg [] u w' from by
    obtain ⟨g1, g2, g3⟩ := goodK_of hg
    have h2 := tup_limit u num den N (by omega) (by omega) (by omega)
    rw [limT_eq hg (by omega), ← hL] at h2
    exact h2)
  have HPL := Lib.hid (fun (u : World) (a : Nat) (ha : a ≤ 9223372036854775807) (b0 : Nat) (hb0 : b0 = u.heap.size) => wide_plus2 u a m (by omega) (by omega) b0 hb0)
  have HLB := Lib.hid (show loadB num den l ws.length = (goodT l && decide (N + m ≤ 9223372036854775807) && decide (m < 16) && l.all fun p => decide (p.st + p.sl ≤ L)) from by rw [hL, hN, hm]; rfl)
  have HBD := Lib.hid (show goodT l = true → N ≤ 9223372036854775807 ∧ ∀ p ∈ l, p.st + p.sl ≤ N from fun h => by rw [hN]; exact goodT_bound h)
  have HTP := Lib.hid (show plusV (stps l) = if N ≤ 9223372036854775807 then .tuple #[.int .u64 (N : Nat), .bool true] else .tuple #[.int .u64 0, .bool false] from by rw [plusV, stps_sum, hN])
  have HN64 := Lib.hid (show m ≤ 30000 ∧ n ≤ 30000 from ⟨hl2, hl⟩)
  clear hok hr hrw hv hL hg hn hm hN
  go_enter Try.func36, Try.ntmps36
  go_wp2_with fail
  obtain ⟨bx, hbx⟩ : ∃ z, z = w.heap.size := ⟨_, rfl⟩
  rw [← hbx] at HB x0 x1 ⊢
  have HBX := Lib.hid hbx
  clear hbx
  generalize w.alloc (.cells #[.int .u64 num, .int .u64 den] 25) = w0 at *
  refine (HNEW.out _).mono ?_
  rintro e w1 ⟨s, rfl, hs1, hc1, hf1⟩
  have HS1 := Lib.hid hs1
  have HC1 := Lib.hid (HC.out.trans hc1)
  have HB1 := Lib.hid (HB.out.chg hc1 (by simp))
  have HSW := Lib.hid (show w.heap.size ≤ s from Nat.le_trans HC.out.size hf1)
  clear hs1 hc1 hf1 HNEW HB HC x0 x1
  go_wp2_with fail
  refine (HTO.out _ HC1.out).mono ?_
  rintro e w2 ⟨rfl, hc2⟩
  rw [HTP.out]
  have HS2 := Lib.hid (HS1.out.chg hc2 (by simp))
  have HC2 := Lib.hid (HC1.out.trans hc2)
  have HB2 := Lib.hid (HB1.out.chg hc2 (by simp))
  clear hc2 HS1 HC1 HB1 HTO HTP
  by_cases hbig : N ≤ 9223372036854775807
  case neg =>
    rw [if_neg hbig]
    have hgf : goodT l = false := by
      cases h : goodT l with
      | false => rfl
      | true => exact absurd (HBD.out h).1 hbig
    have HBAD := Lib.hid (show loadB num den l ws.length = false from by rw [HLB.out, hgf]; rfl)
    rw [hgf] at HGO
    clear hgf hbig HBD HLM
    have hpv : plusV [0, m] = .tuple #[.int .u64 ((0 + m : Nat) : Int), .bool true] := by
      unfold plusV
      rw [if_pos (by simp; omega)]
      simp
    go_wp2_with fail
    refine (HPL.out _ 0 (by omega) _ rfl).mono ?_
    rintro e w3 ⟨rfl, rfl⟩
    rw [hpv]
    have HC3 := Lib.hid (HC2.out.alloc (.cells #[.int .u64 ((0 : Nat) : Int), .int .u64 (m : Nat)] 23))
    go_wp2_with fail
    refine (HGO.out _ HC3.out).mono ?_
    rintro e w4 ⟨rfl, hc4⟩
    go_wp2_with fail
    go_ret2
    exact .inr ⟨HBAD.out, rfl, HC3.out.trans hc4⟩
  rw [if_pos hbig]
  by_cases hok2 : N + m ≤ 9223372036854775807
  case neg =>
    have HBAD := Lib.hid (show loadB num den l ws.length = false from by rw [HLB.out, decide_eq_false hok2, Bool.and_false]; rfl)
    have hpv : plusV [N, m] = .tuple #[.int .u64 0, .bool false] := by
      unfold plusV
      rw [if_neg (by simp; omega)]
    have HPV := Lib.hid (HPL.out (u := w2) N hbig)
    clear hok2
    go_wp2_with fail
    refine (HPV.out _ rfl).mono ?_
    rintro e w3 ⟨rfl, rfl⟩
    rw [hpv]
    have HC3 := Lib.hid (HC2.out.alloc (.cells #[.int .u64 (N : Nat), .int .u64 (m : Nat)] 23))
    go_wp2_with fail
    refine (HGO.out _ HC3.out).mono ?_
    rintro e w4 ⟨rfl, hc4⟩
    have HC4 := Lib.hid (HC3.out.trans hc4)
    clear hc4
    cases hgt : goodT l with
    | false =>
      go_wp2_with fail
      go_ret2
      exact .inr ⟨HBAD.out, rfl, HC4.out⟩
    | true =>
      go_wp2_with fail
      go_ret2
      exact .inr ⟨HBAD.out, rfl, HC4.out⟩
  obtain ⟨S, hS⟩ : ∃ S, S = N + m := ⟨_, rfl⟩
  have HSS := Lib.hid hS
  have hpv : plusV [N, m] = .tuple #[.int .u64 (S : Nat), .bool true] := by
    unfold plusV
    rw [if_pos (by simp; omega)]
    simp [hS]
  have HPV := Lib.hid (HPL.out (u := w2) N hbig)
  have HPS := Lib.hid hpv
  have HOK2 := Lib.hid hok2
  clear hS hpv hok2 HPL
  go_wp2_with fail
  refine (HPV.out _ rfl).mono ?_
  rintro e w3 ⟨rfl, rfl⟩
  rw [HPS.out]
  have HC3 := Lib.hid (HC2.out.alloc (.cells #[.int .u64 (N : Nat), .int .u64 (m : Nat)] 23))
  have HS3 := Lib.hid (HS2.out.chg ((Chg.refl [] w2).alloc (.cells #[.int .u64 (N : Nat), .int .u64 (m : Nat)] 23)) (by simp))
  have HB3 := Lib.hid (HB2.out.chg ((Chg.refl [] w2).alloc (.cells #[.int .u64 (N : Nat), .int .u64 (m : Nat)] 23)) (by simp))
  clear HPV HPS HC2 HS2 HB2
  generalize w2.alloc (.cells #[.int .u64 (N : Nat), .int .u64 (m : Nat)] 23) = w3 at *
  go_wp2_with fail
  refine (HGO.out _ HC3.out).mono ?_
  rintro e w4 ⟨rfl, hc4⟩
  have HC4 := Lib.hid (HC3.out.trans hc4)
  have HS4 := Lib.hid (HS3.out.chg hc4 (by simp))
  have HB4 := Lib.hid (HB3.out.chg hc4 (by simp))
  clear hc4 HC3 HS3 HB3
  cases hgt : goodT l with
  | false =>
    have HBAD := Lib.hid (show loadB num den l ws.length = false from by rw [HLB.out, hgt]; rfl)
    go_wp2_with fail
    go_ret2
    exact .inr ⟨HBAD.out, rfl, HC4.out⟩
  | true =>
    by_cases h16 : m < 16
    case neg =>
      have HBAD := Lib.hid (show loadB num den l ws.length = false from by rw [HLB.out, decide_eq_false h16, Bool.and_false]; rfl)
      have d16 : decide ((16 : Int) ≤ (m : Int)) = true := decide_eq_true (by omega)
      have d16' : decide (16 ≤ m) = true := decide_eq_true (by omega)
      go_wp2_with fail
      go_ret2
      exact .inr ⟨HBAD.out, rfl, HC4.out⟩
    have d16 : decide ((16 : Int) ≤ (m : Int)) = false := decide_eq_false (by omega)
    have d16' : decide (16 ≤ m) = false := decide_eq_false (by omega)
    have HBND := Lib.hid ((HBD.out hgt).2)
    have HLB2 := Lib.hid (show loadB num den l ws.length = (l.all fun p => decide (p.st + p.sl ≤ L)) from by rw [HLB.out, hgt, decide_eq_true HOK2.out, decide_eq_true h16]; rfl)
    have HLQ := Lib.hid (HLM.out · hbig)
    have x0 := HB4.out.cell 0
    have x1 := HB4.out.cell 1
    simp only [List.getElem?_toArray, List.getElem?_cons_zero, List.getElem?_cons_succ] at x0 x1
    clear HLB HBD HLM hgt h16
    go_wp2_with fail
    refine (HLQ.out _).mono ?_
    rintro e w5 ⟨rfl, hc5⟩
    have HC5 := Lib.hid (HC4.out.trans hc5)
    have HS5 := Lib.hid (HS4.out.chg hc5 (by simp))
    clear hc5 HC4 HS4 HB4 x0 x1 HLQ
    go_wp2
    go_loopw [56] (fun i wx => ∃ k : Nat, k ≤ n ∧ i = .int .i64 (k : Nat) ∧ Hid (∀ p ∈ l.take k, p.st + p.sl ≤ L) ∧ Chg [] w5 wx) (fun i _ => n - (intOf i).toNat)
    case atStart => exact ⟨0, Nat.zero_le _, rfl, Lib.hid (by simp), Chg.refl _ _⟩
    case round =>
      obtain ⟨k, hk, rfl, HA, hch⟩ := hrel
      by_cases hlt : k < n
      · have hkl : k < l.length := by have := HN.out; omega
        obtain ⟨b, o, rfl, hcc⟩ := (HRL.out.chg (HC5.out.trans hch) (by simp)).addr (by omega)
        rw [HN.out] at hcc
        obtain ⟨d0, d1, d2⟩ := tp_at hcc hkl
        have HTK := Lib.hid (List.take_succ_eq_append_getElem hkl)
        have HMEM := Lib.hid (show l[k] ∈ l from List.getElem_mem _)
        have hvb := HBND.out _ HMEM.out
        generalize l[k] = v at *
        have hw : IntKind.u64.wrap ((v.st : Int) + (v.sl : Int)) = ((v.st + v.sl : Nat) : Int) := by rw [IntKind.wrap_u64]; omega
        obtain ⟨z, hz⟩ : ∃ z, z = v.st + v.sl := ⟨_, rfl⟩
        rw [← hz] at hw
        have HZ := Lib.hid hz
        clear hcc hvb hz
        by_cases hle : z ≤ L
        · have d3 : decide ((L : Int) < (z : Int)) = false := decide_eq_false (by omega)
          have d3' : decide (L < z) = false := decide_eq_false (by omega)
          have HA2 := Lib.hid (show ∀ p ∈ l.take (k + 1), p.st + p.sl ≤ L from fun p hp => by
            rw [HTK.out] at hp
            rcases List.mem_append.1 hp with hp | hp
            · exact HA.out p hp
            · simp at hp; subst hp; rw [← HZ.out]; exact hle)
          go_wp2
          exact ⟨⟨k + 1, by omega, by go_num, HA2, hch.alloc _⟩, by simp [intOf]; omega⟩
        · have d3 : decide ((L : Int) < (z : Int)) = true := decide_eq_true (by omega)
          have d3' : decide (L < z) = true := decide_eq_true (by omega)
          have HBAD := Lib.hid (show loadB num den l ws.length = false from by
            rw [HLB2.out, List.all_eq_false]
            exact ⟨v, HMEM.out, by simp; rw [← HZ.out]; omega⟩)
          go_wp2
          go_ret2
          exact .inr ⟨HBAD.out, rfl, HC5.out.trans (hch.alloc _)⟩
      · obtain rfl : k = n := by omega
        have HGOOD := Lib.hid (show loadB num den l ws.length = true from by
          rw [HLB2.out, List.all_eq_true]
          intro p hp
          exact decide_eq_true (HA.out p (by rw [List.take_of_length_le (by have := HN.out; omega)]; exact hp)))
        have HCH := Lib.hid hch
        have HS6 := Lib.hid (HS5.out.chg hch (by simp))
        clear hch HA HLB2 HBND HS5
        go_wp2_with fail
        refine (HCT.out _ (HC5.out.trans HCH.out)).mono ?_
        rintro e w7 ⟨a1, c1, rfl, ho1, hc1, hf1⟩
        have HO1 := Lib.hid ho1
        have HC7 := Lib.hid ((HC5.out.trans HCH.out).trans hc1)
        have HS7 := Lib.hid (HS6.out.chg hc1 (by simp))
        have HF1 := Lib.hid (show ∀ b ∈ abl a1, w.heap.size ≤ b from fun b hb => Nat.le_trans (HC5.out.trans HCH.out).size (hf1 b hb))
        clear ho1 hc1 hf1 HCT HS6 HCH HC5
        go_wp2_with fail
        refine (HCI.out _ HC7.out).mono ?_
        rintro e w8 ⟨a2, c2, rfl, ho2, hc2, hf2⟩
        have HO2 := Lib.hid ho2
        have HO12 := Lib.hid (HO1.out.chg hc2 (by simp))
        have HC8 := Lib.hid (HC7.out.trans hc2)
        have HS8 := Lib.hid (HS7.out.chg hc2 (by simp))
        have HF2 := Lib.hid (show ∀ b ∈ abl a2, w.heap.size ≤ b from fun b hb => Nat.le_trans HC7.out.size (hf2 b hb))
        clear ho2 hc2 hf2 HCI HS7 HC7 HO1
        obtain ⟨hq1, hq2⟩ := HS8.out.loaded (rv2 := .slice a1 k c1) (wv2 := .slice a2 m c2) (l := l) (ws := ws) (vals := vals) (by rw [← HN.out]; exact HO12.out) (by rw [← HM.out]; exact HO2.out) S (by rw [HSS.out, HV.out, HNT.out, HM.out])
        have HQ1 := Lib.hid hq1
        have HQ2 := Lib.hid hq2
        have f2 := HS8.out.blk.free 2
        have f3 := HS8.out.blk.free 3
        have f4 := HS8.out.blk.free 4
        obtain ⟨-, -, cs2, cs3, cs4⟩ := HS8.out.cells
        clear hq1 hq2
        go_wp2_with fail
        go_ret2
        refine .inl ⟨HGOOD.out, s, _, _, rfl, HQ1.out, HC8.out.trans' HQ2.out (fun b hb => .inr (by simp at hb; subst hb; exact HSW.out)), fun b hb => ?_⟩
        simp only [fpK, List.mem_cons, List.mem_append] at hb
        rcases hb with rfl | hb | hb
        · exact HSW.out
        · exact HF1.out b (by simpa using hb)
        · exact HF2.out b (by simpa using hb)
end Go.Proofs.Ytkcldhimjnehdaa

namespace Go.Proofs.Ytkcldhimjnehdaa
open Go.RowKit

theorem enters_ltimes : ∀ (args : Array Value) (w : World), (callFunc 13 args).run Try.prog w = .ok (.enter 13 args) w := enters_of Try.func13 (by kernel_rfl) rfl
theorem enters_lover : ∀ (args : Array Value) (w : World), (callFunc 12 args).run Try.prog w = .ok (.enter 12 args) w := enters_of Try.func12 (by kernel_rfl) rfl
theorem over_lim2 (num den n : Nat) (hg : goodK num den = true) (hn : n < 18446744073709551616) :
    overV (2 * num * n) den = .tuple #[.int .u64 ((2 * num * n / den : Nat) : Int), .int .u64 ((2 * num * n % den : Nat) : Int), .bool true] := by
  obtain ⟨g1, g2, g3⟩ := goodK_of hg
  have hND : 2 * num * n ≤ den * n := Nat.mul_le_mul_right n (by omega)
  have hD64 : den * n < den * 18446744073709551616 := Nat.mul_lt_mul_of_pos_left hn (by omega)
  exact if_pos (by omega)
theorem times_lim2 (num den n N : Nat) (hg : goodK num den = true) (hn : n < 18446744073709551616) (hN : N = 2 * num * n) : N / 18446744073709551616 < 18446744073709551616 := by
  obtain ⟨g1, g2, g3⟩ := goodK_of hg
  have hND : N ≤ den * n := by rw [hN]; exact Nat.mul_le_mul_right n (by omega)
  have hD64 : den * n < den * 18446744073709551616 := Nat.mul_lt_mul_of_pos_left hn (by omega)
  have : N < 18446744073709551616 * 18446744073709551616 := Nat.lt_of_le_of_lt hND (Nat.lt_of_lt_of_le hD64 (Nat.mul_le_mul_right _ (by omega)))
  omega
/-- What is kept can be loaded. -/
theorem GkD.ok.load {D : GkD} (h : D.ok) (hn : D.total ≤ 30000) : loadB D.num D.den D.row D.waits.length = true ∧ D.vals.length = tot D.row := by
  have ht := h.fine.total
  have hv : D.vals.length ≤ D.total := Nat.le_add_right _ _
  have hw := h.few
  have hg := h.fine.good (by omega)
  have htt := h.tight
  refine ⟨?_, ht.symm⟩
  rw [loadB, hg, ht, decide_eq_true (show D.vals.length + D.waits.length ≤ 9223372036854775807 from by omega), decide_eq_true hw, Bool.true_and, Bool.true_and, Bool.true_and, List.all_eq_true]
  exact fun p hp => decide_eq_true (htt p hp)
set_option maxRecDepth 100000 in
set_option maxHeartbeats 16000000 in
theorem law_GreenwaldLoads (w : World) (num den : Nat) (_hnum : num < 18446744073709551616) (_hden : den < 18446744073709551616)
    (ao : Option Addr) (ca : Nat) (a : List Vl) (hra : Rd w 2 (.slice ao a.length ca) a.length (vlCells a)) (hla : a.length ≤ 140737488351232) (hka : ∀ i ∈ a, i.ok)
    (x : Int) (_hx1 : -9223372036854775808 ≤ x) (_hx2 : x < 9223372036854775808)
    (bo : Option Addr) (cb : Nat) (l : List Tp) (hrb : Rd w 3 (.slice bo l.length cb) l.length (tpCells l)) (hlb : l.length * 24 ≤ 140737488351232) (hkb : ∀ i ∈ l, i.ok)
    (co : Option Addr) (cc : Nat) (ws : List Int) (hrc : Rd w 1 (.slice co ws.length cc) ws.length (ints ws)) (hlc : ws.length ≤ 140737488351232) :
    Calls Try.prog 7 #[.agg #[.int .u64 (num : Nat), .int .u64 (den : Nat)], .slice ao a.length ca, .int .i64 x, .slice bo l.length cb, .slice co ws.length cc] w fun e w' => e = .returned (.bool true) ∧ Chg [] w w' := by
  have HAL := Lib.hid law19_alive
  have HKA := Lib.hid hka
  have HKB := Lib.hid hkb
  have HRA := Lib.hid hra
  have HRB := Lib.hid hrb
  have HRC := Lib.hid hrc
  obtain ⟨n, hn⟩ : ∃ n, n = a.length := ⟨_, rfl⟩
  obtain ⟨r, hr⟩ : ∃ n, n = l.length := ⟨_, rfl⟩
  obtain ⟨m, hm⟩ : ∃ n, n = ws.length := ⟨_, rfl⟩
  rw [← hn] at HRA hla ⊢
  rw [← hr] at HRB hlb ⊢
  rw [← hm] at HRC hlc ⊢
  have HN := Lib.hid hn
  have HM := Lib.hid hm
  have HR := Lib.hid hr
  clear hka hkb hra hrb hrc hn hm hr _hnum _hden _hx1 _hx2
  have hb0 := Blk.alloc_new w #[.int .u64 num, .int .u64 den] 25
  have hc0 := (Chg.refl [] w).alloc (.cells #[.int .u64 num, .int .u64 den] 25)
  obtain ⟨bc, hbc⟩ : ∃ z, z = w.heap.size := ⟨_, rfl⟩
  rw [← hbc] at hb0
  have HC0 := Lib.hid hc0
  have HB0 := Lib.hid hb0
  have HBA := Lib.hid (fun u (hu : Chg [] w u) => law19_build u num den ao ca n a HN.out (HRA.out.chg hu (by simp)) hla (fun v hv => (HKA.out v hv).2.2))
  clear hc0 hb0
  go_enter Try.func7, Try.ntmps7
  go_wp2_with fail
  rw [← hbc]
  clear hbc
  generalize w.alloc (.cells #[.int .u64 num, .int .u64 den] 25) = w0 at *
  refine (HAL.out _).mono ?_
  rintro e w1 ⟨rfl, hc1⟩
  have HC1 := Lib.hid (HC0.out.trans hc1)
  have HB1 := Lib.hid (HB0.out.chg hc1 (by simp))
  have HBL := Lib.hid HB1.out.lt
  have x0 := HB1.out.cell 0
  have x1 := HB1.out.cell 1
  simp only [List.getElem?_toArray, List.getElem?_cons_zero, List.getElem?_cons_succ] at x0 x1
  clear hc1 HB0 HC0 HAL
  go_wp2_with fail
  refine (HBA.out _ HC1.out).mono ?_
  clear x0 x1
  rintro e w2 (⟨hbad, rfl, hc2⟩ | ⟨hok, p, rv, wv, q, sv, yv, rfl, ht2, hq2, hc2, hf2, hg2, hd2⟩)
  · go_wp2_with fail
    go_ret
    exact ⟨rfl, HC1.out.trans hc2⟩
  have HC2 := Lib.hid (HC1.out.trans hc2)
  have HB2 := Lib.hid (HB1.out.chg hc2 (by simp))
  by_cases hr60 : r ≤ 60
  case neg =>
    have d1 : decide ((60 : Int) < (r : Int)) = true := decide_eq_true (by omega)
    have d1' : decide (60 < r) = true := decide_eq_true (by omega)
    go_wp2_with fail
    go_ret
    exact ⟨rfl, HC2.out⟩
  have d1 : decide ((60 : Int) < (r : Int)) = false := decide_eq_false (by omega)
  have d1' : decide (60 < r) = false := decide_eq_false (by omega)
  by_cases hm60 : m ≤ 60
  case neg =>
    have d2 : decide ((60 : Int) < (m : Int)) = true := decide_eq_true (by omega)
    have d2' : decide (60 < m) = true := decide_eq_true (by omega)
    go_wp2_with fail
    go_ret
    exact ⟨rfl, HC2.out⟩
  have d2 : decide ((60 : Int) < (m : Int)) = false := decide_eq_false (by omega)
  have d2' : decide (60 < m) = false := decide_eq_false (by omega)
  obtain ⟨s1, s2, s3⟩ := valsG_same num den a
  have HO := Lib.hid (valsG_ok num den a)
  have HG := Lib.hid hok.2.2.2
  have hto : (valsG num den a).total ≤ 150 := by have := hok.2.2.1; omega
  have HTO := Lib.hid hto
  have HSM := Lib.hid (And.intro s1 s2)
  have HT2 := Lib.hid ht2
  have HQ2 := Lib.hid hq2
  have HF2 := Lib.hid (show ∀ b ∈ fpS q sv yv, w.heap.size ≤ b ∧ bc < b from fun b hb => ⟨Nat.le_trans HC1.out.size (hg2 b hb), Nat.lt_of_lt_of_le HBL.out (hg2 b hb)⟩)
  clear ht2 hq2 hc2 hf2 hg2 hd2 hok s1 s2 s3 hto HBA HC1 HB1
  generalize valsG num den a = D at *
  obtain ⟨rn, hrn⟩ : ∃ z, z = D.row.length := ⟨_, rfl⟩
  obtain ⟨wn, hwn⟩ : ∃ z, z = D.waits.length := ⟨_, rfl⟩
  have hlen := HO.out.len
  have hfew := HO.out.few
  have htt := HTO.out
  unfold GkD.total at htt
  have HROW := Lib.hid (gk_row w2 p rv wv D HT2.out rn wn hrn hwn (by omega) (by omega))
  have HRN := Lib.hid hrn
  have HWN := Lib.hid hwn
  have HRB2 := Lib.hid (show rn ≤ 150 ∧ wn < 16 from by omega)
  clear hlen hfew htt hrn hwn
  go_wp2_with fail
  refine HROW.out.mono ?_
  rintro e w3 ⟨a1, c1, a2, c2, rfl, ho1, ho2, hc3, -, -⟩
  have HC3 := Lib.hid (HC2.out.trans hc3)
  have HB3 := Lib.hid (HB2.out.chg hc3 (by simp))
  have HQ3 := Lib.hid (HQ2.out.chg hc3 (by simp))
  have HLD := Lib.hid (gk_load w3 num den HG.out a1 c1 rn D.row HRN.out (fun p hp => by have h1 := HO.out.fine.bound p hp; have h2 := HTO.out; unfold GkD.total at h2; omega) ho1.rd (by have := HRB2.out; omega) a2 c2 wn D.waits HWN.out ho2.rd (by have := HRB2.out; omega) D.vals (HO.out.load (by have := HTO.out; omega)).2)
  have x0 := HB3.out.cell 0
  have x1 := HB3.out.cell 1
  simp only [List.getElem?_toArray, List.getElem?_cons_zero, List.getElem?_cons_succ] at x0 x1
  clear ho1 ho2 hc3 HROW HT2 HQ2 HB2 HC2
  go_wp2_with fail
  refine HLD.out.mono ?_
  rintro e w4 hld
  have hgood := (HO.out.load (by have := HTO.out; omega)).1
  rw [HSM.out.1, HSM.out.2] at hgood
  rcases hld with ⟨-, p2, rv2, wv2, rfl, hg4, hc4, hf4⟩ | ⟨hbad, -, -⟩
  case inr => exact absurd (hgood.symm.trans hbad) (by decide)
  have hg4' : Gk w4 p2 rv2 wv2 D := by
    have e : (⟨num, den, D.row, D.vals, D.waits⟩ : GkD) = D := by
      rw [← HSM.out.1, ← HSM.out.2]
    rw [e] at hg4
    exact hg4
  have HG4 := Lib.hid hg4'
  have HC4 := Lib.hid (HC3.out.trans hc4)
  have HB4 := Lib.hid (HB3.out.chg hc4 (by simp))
  have HQ4 := Lib.hid (HQ3.out.chg hc4 (by simp))
  have HF4 := Lib.hid (show ∀ b ∈ fpK p2 rv2 wv2, w.heap.size ≤ b ∧ bc < b from fun b hb => ⟨Nat.le_trans HC3.out.size (hf4 b hb), Nat.lt_of_lt_of_le HB3.out.lt (hf4 b hb)⟩)
  have HD4 := Lib.hid (show ∀ b ∈ fpK p2 rv2 wv2, b ∉ fpS q sv yv from fun b hb e => by have h1 := hf4 b hb; have h2 := HQ3.out.lt b e; omega)
  have HSA := Lib.hid (fun u (hu : Chg [] w4 u) => law19_same u p2 rv2 wv2 D (HG4.out.chg hu (by simp)) q sv yv (HQ4.out.chg hu (by simp)) HO.out (by have := HTO.out; omega))
  clear hgood hg4 hg4' hc4 hf4 HLD HB3 HC3 HQ3 x0 x1
  go_wp2_with fail
  refine (HSA.out _ (Chg.refl _ _)).mono ?_
  rintro e w5 ⟨rfl, hc5⟩
  have HG5 := Lib.hid (HG4.out.chg hc5 (by simp))
  have HC5 := Lib.hid (HC4.out.trans hc5)
  have HB5 := Lib.hid (HB4.out.chg hc5 (by simp))
  have HQ5 := Lib.hid (HQ4.out.chg hc5 (by simp))
  have HPU := Lib.hid (gk_put w5 p2 rv2 wv2 D HG5.out HO.out (by rw [HSM.out.1, HSM.out.2]; exact HG.out) x 20 (by omega) (by omega) (by have := HTO.out; omega))
  have HRP := Lib.hid (fun u (hu : RG u q sv yv D) => ref19_put u q sv yv D hu HO.out (by rw [HSM.out.1, HSM.out.2]; exact HG.out) x 20 (by omega) (by have := HTO.out; omega))
  have HO6 := Lib.hid (GkD.putN_ok HO.out x 20)
  have ht6 := (D.putN_same x 20).2.2
  have HT6 := Lib.hid (show (D.putN x 20).total ≤ 170 from by have := HTO.out; omega)
  clear hc5 HSA HG4 HC4 HB4 HQ4 ht6
  generalize D.putN x 20 = E at *
  go_wp2_with fail
  refine HPU.out.mono ?_
  rintro e w6 ⟨rfl, rv3, wv3, hg6, hm6⟩
  have HG6 := Lib.hid hg6
  have HC6 := Lib.hid (HC5.out.trans' hm6.chg (fun b hb => .inr (HF4.out b hb).1))
  have HB6 := Lib.hid (HB5.out.chg hm6.chg (fun e => by have := (HF4.out _ e).2; omega))
  have HQ6 := Lib.hid (HQ5.out.chg hm6.chg (fun b hb e => HD4.out b e hb))
  have HD6 := Lib.hid (show ∀ b ∈ fpK p2 rv3 wv3, b ∉ fpS q sv yv from fun b hb e => by
    rcases hm6.fr b hb with h | h
    · exact HD4.out b h e
    · have := HQ5.out.lt b e
      omega)
  clear hg6 hm6 HPU HG5 HC5 HB5 HQ5 HF4 HD4
  go_wp2_with fail
  refine (HRP.out _ HQ6.out).mono ?_
  rintro e w7 ⟨rfl, sv3, yv3, hq7, hm7⟩
  have HG7 := Lib.hid (HG6.out.chg hm7.chg (fun b hb e => HD6.out b hb e))
  have HC7 := Lib.hid (HC6.out.trans' hm7.chg (fun b hb => .inr (HF2.out b hb).1))
  have HB7 := Lib.hid (HB6.out.chg hm7.chg (fun e => by have := (HF2.out _ e).2; omega))
  have HSE := Lib.hid (law19_same w7 p2 rv3 wv3 E HG7.out q sv3 yv3 hq7 HO6.out (by have := HT6.out; omega))
  clear hq7 hm7 HRP HG6 HC6 HB6 HQ6 HF2 HD6
  go_wp2_with fail
  refine HSE.out.mono ?_
  rintro e w8 ⟨rfl, hc8⟩
  have HC8 := Lib.hid (HC7.out.trans hc8)
  have HB8 := Lib.hid (HB7.out.chg hc8 (by simp))
  have HTL := Lib.hid (fun u (hu : Chg [] w u) => show Calls Try.prog 11 #[.slice bo r cb] u fun e w' => e = .returned (plusV (stps l)) ∧ Chg [] u w' from by
    have h := tup_total u bo cb l (fun p hp => (HKB.out p hp).2.2.1) (by rw [← HR.out]; exact HRB.out.chg hu (by simp)) (by rw [← HR.out]; omega)
    rw [← HR.out] at h
    exact h)
  have HGO := Lib.hid (fun u (hu : Chg [] w u) => show Calls Try.prog 14 #[.slice bo r cb] u fun e w' => e = .returned (.bool (goodT l)) ∧ Chg [] u w' from by
    have h := tup_good u bo cb l (fun p hp => (HKB.out p hp).2.2.1) (by rw [← HR.out]; exact HRB.out.chg hu (by simp)) (by rw [← HR.out]; omega)
    rw [← HR.out] at h
    exact h)
  have HL2 := Lib.hid (fun u (hu : Chg [] w u) => gk_load u num den HG.out bo cb r l HR.out (fun p hp => ⟨(HKB.out p hp).2.2.1, (HKB.out p hp).2.2.2⟩) (HRB.out.chg hu (by simp)) (by omega) co cc m ws HM.out (HRC.out.chg hu (by simp)) (by omega) (List.replicate (tot l) 0) (List.length_replicate ..))
  clear hc8 HSE HG7 HC7 HB7 HO6 HT6
  go_wp2_with fail
  refine (HTL.out _ HC8.out).mono ?_
  rintro e w9 ⟨rfl, hc9⟩
  have HC9 := Lib.hid (HC8.out.trans hc9)
  have HB9 := Lib.hid (HB8.out.chg hc9 (by simp))
  clear hc9 HTL HC8 HB8
  obtain ⟨N, B, hNB⟩ : ∃ (N : Nat) (B : Bool), plusV (stps l) = .tuple #[.int .u64 (N : Nat), .bool B] ∧ (B = true ∧ N = tot l ∧ N ≤ 9223372036854775807 ∨ B = false ∧ N = 0 ∧ goodT l = false) := by
    by_cases hbig : (stps l).sum ≤ 9223372036854775807
    · exact ⟨(stps l).sum, true, if_pos hbig, .inl ⟨rfl, stps_sum l, hbig⟩⟩
    · exact ⟨0, false, if_neg hbig, .inr ⟨rfl, rfl, goodT_big hbig⟩⟩
  rw [hNB.1]
  have HNB := Lib.hid hNB.2
  have hN63 : N ≤ 9223372036854775807 := by rcases hNB.2 with h | h <;> omega
  clear hNB
  obtain ⟨W, hW⟩ : ∃ W, W = (B && goodT l && decide (m < 16) && decide (N < 4611686018427387904)) := ⟨_, rfl⟩
  have HW := Lib.hid hW
  clear hW
  go_upto_region 15 with (fail)
  go_cut [20] (fun v wx => v = .bool W ∧ Chg [] w9 wx)
  case first =>
    cases B with
    | false =>
      obtain rfl : W = false := by rw [HW.out]; rfl
      go_wp2_with fail
      go_meet
      exact ⟨rfl, Chg.refl _ _⟩
    | true =>
      go_wp2_with fail
      refine (HGO.out _ HC9.out).mono ?_
      rintro e wa ⟨rfl, hca⟩
      cases hgt : goodT l with
      | false =>
        obtain rfl : W = false := by rw [HW.out, hgt]; rfl
        go_wp2_with fail
        go_meet
        exact ⟨rfl, hca⟩
      | true =>
        by_cases h16 : m < 16
        · have d3 : decide ((m : Int) < 16) = true := decide_eq_true (by omega)
          have d3' : decide (m < 16) = true := decide_eq_true h16
          by_cases h62 : N < 4611686018427387904
          · have d4 : decide ((N : Int) < 4611686018427387904) = true := decide_eq_true (by omega)
            have d4' : decide (N < 4611686018427387904) = true := decide_eq_true h62
            obtain rfl : W = true := by rw [HW.out, hgt, d3', d4']; rfl
            go_wp2_with fail
            go_meet
            exact ⟨rfl, hca⟩
          · have d4 : decide ((N : Int) < 4611686018427387904) = false := decide_eq_false (by omega)
            have d4' : decide (N < 4611686018427387904) = false := decide_eq_false h62
            obtain rfl : W = false := by rw [HW.out, d4', Bool.and_false]
            go_wp2_with fail
            go_meet
            exact ⟨rfl, hca⟩
        · have d3 : decide ((m : Int) < 16) = false := decide_eq_false (by omega)
          have d3' : decide (m < 16) = false := decide_eq_false h16
          obtain rfl : W = false := by rw [HW.out, d3', Bool.and_false, Bool.false_and]
          go_wp2_with fail
          go_meet
          exact ⟨rfl, hca⟩
  case rest =>
    rename World => wb
    obtain ⟨rfl, hcb⟩ := hcut
    have HCb := Lib.hid (HC9.out.trans hcb)
    have HBb := Lib.hid (HB9.out.chg hcb (by simp))
    clear hcb HC9 HB9 HGO
    by_cases h62 : N < 4611686018427387904
    case neg =>
      have d4 : decide ((4611686018427387904 : Int) ≤ (N : Int)) = true := decide_eq_true (by omega)
      have d4' : decide (4611686018427387904 ≤ N) = true := decide_eq_true (by omega)
      go_wp2_with fail
      go_ret
      exact ⟨rfl, HCb.out⟩
    have d4 : decide ((4611686018427387904 : Int) ≤ (N : Int)) = false := decide_eq_false (by omega)
    have d4' : decide (4611686018427387904 ≤ N) = false := decide_eq_false (by omega)
    have HW2 := Lib.hid (show W = (goodT l && decide (m < 16)) from by
      rw [HW.out, decide_eq_true h62, Bool.and_true]
      rcases HNB.out with ⟨h1, -⟩ | ⟨h1, -, h2⟩
      · rw [h1, Bool.true_and]
      · rw [h1, h2]; rfl)
    have HNT := Lib.hid (show goodT l = true → N = tot l from fun h => by
      rcases HNB.out with ⟨-, h2, -⟩ | ⟨-, -, h2⟩
      · exact h2
      · rw [h] at h2; exact absurd h2 (by decide))
    obtain ⟨M, hM⟩ : ∃ M, M = 2 * num * N := ⟨_, rfl⟩
    obtain ⟨g1, g2, g3⟩ := goodK_of HG.out
    have HTI := Lib.hid (fun u => ref01_times u (2 * num) N M (by rw [hM]) (by omega) (by omega))
    have HOV := Lib.hid (fun u => ref01_over u (M / 18446744073709551616) (M % 18446744073709551616) den M (by omega) (times_lim2 num den N M HG.out (by omega) hM) (Nat.mod_lt _ (by omega)) (by omega))
    have HLQ := Lib.hid (show limG num den N = max (M / den) 1 from by rw [limG, hM])
    have e := over_lim2 num den N HG.out (by omega)
    rw [← hM] at e
    rw [e] at HOV
    have hw : IntKind.u64.wrap (2 * (num : Int)) = ((2 * num : Nat) : Int) := by rw [IntKind.wrap_u64]; omega
    generalize M / den = Q at *
    generalize M % den = Rm at *
    generalize M / 18446744073709551616 = hi at *
    generalize M % 18446744073709551616 = lo at *
    obtain ⟨nn, hnn⟩ : ∃ z, z = 2 * num := ⟨_, rfl⟩
    rw [← hnn] at HTI hw
    have y0 := HBb.out.cell 0
    have y1 := HBb.out.cell 1
    simp only [List.getElem?_toArray, List.getElem?_cons_zero, List.getElem?_cons_succ] at y0 y1
    have HN62 := Lib.hid h62
    clear e hM hnn g1 g2 g3 HW HNB h62
    go_upto_region 18 with (fail)
    have hS0 : Chg [] wb wb.drew ∧ wb.drew.cell? ⟨bc, 0, none⟩ = some (.int .u64 (num : Nat)) ∧ wb.drew.cell? ⟨bc, 1, none⟩ = some (.int .u64 (den : Nat)) := ⟨(Chg.refl [] _).drew, y0, y1⟩
    refine startG (S := fun wx => Chg [] wb wx ∧ wx.cell? ⟨bc, 0, none⟩ = some (.int .u64 (num : Nat)) ∧ wx.cell? ⟨bc, 1, none⟩ = some (.int .u64 (den : Nat))) (st := 14) (by kernel_rfl) hS0 (fun hHeld => ?_)
    refine takeP (i := 0) (v := ?vz0) rfl (by kernel_rfl) (by kernel_rfl) (by kernel_rfl) (by decide) (fun _ _ _ h => h) (Or.inl ⟨by rfl, ?yz0⟩) hS0 ?rz0
    case yz0 => (intro w _; go_simp; first | done | with_reducible rfl)
    try simp only [Act.put, List.setIfInBounds_toArray, List.set_cons_zero, List.set_cons_succ]
    refine takeG (i := 1) (v := ?vz1) rfl (by kernel_rfl) (by kernel_rfl) (by kernel_rfl) (by decide) (by kernel_rfl) (by kernel_rfl) (fun _ _ _ h => h) (Or.inl ⟨by rfl, ?yz1⟩) hS0 ?rz1
    case yz1 => (intro w hSw; (try dsimp only at hSw); go_simp; first | done | with_reducible rfl)
    try simp only [Act.put, List.setIfInBounds_toArray, List.set_cons_zero, List.set_cons_succ]
    refine takeP (i := 2) (v := ?vz2) rfl (by kernel_rfl) (by kernel_rfl) (by kernel_rfl) (by decide) (fun _ _ _ h => h) (Or.inl ⟨by rfl, ?yz2⟩) hS0 ?rz2
    case yz2 => (intro w _; go_simp; first | done | with_reducible rfl)
    try simp only [Act.put, List.setIfInBounds_toArray, List.set_cons_zero, List.set_cons_succ]
    refine takeP (i := 3) (v := ?vz3) rfl (by kernel_rfl) (by kernel_rfl) (by kernel_rfl) (by decide) (fun _ _ _ h => h) (Or.inl ⟨by rfl, ?yz3⟩) hS0 ?rz3
    case yz3 => (intro w _; go_simp; first | done | with_reducible rfl)
    try simp only [Act.put, List.setIfInBounds_toArray, List.set_cons_zero, List.set_cons_succ]
    refine takeP (i := 5) (v := ?vz5) rfl (by kernel_rfl) (by kernel_rfl) (by kernel_rfl) (by decide) (fun _ _ _ h => h) (Or.inl ⟨by rfl, ?yz5⟩) hS0 ?rz5
    case yz5 => (intro w _; go_simp; first | done | with_reducible rfl)
    try simp only [Act.put, List.setIfInBounds_toArray, List.set_cons_zero, List.set_cons_succ]
    refine takeG (i := 6) (v := ?vz6) rfl (by kernel_rfl) (by kernel_rfl) (by kernel_rfl) (by decide) (by kernel_rfl) (by kernel_rfl) (fun _ _ _ h => h) (Or.inl ⟨by rfl, ?yz6⟩) hS0 ?rz6
    case yz6 => (intro w hSw; (try dsimp only at hSw); go_simp; first | done | with_reducible rfl)
    try simp only [Act.put, List.setIfInBounds_toArray, List.set_cons_zero, List.set_cons_succ]
    refine readyG (rs := [4]) (by kernel_rfl) (by simp) (consG rfl (fun K hK => ?_) nilG)
    refine step_calls rfl 13 _ _ rfl enters_ltimes _ #[.int .u64 (nn : Nat), .int .u64 (N : Nat)] (by simp [Act.eval]) (HTI.out _) ?_; rintro e wq ⟨rfl, hcq⟩; refine ⟨_, rfl, ?_⟩
    have hS8 : Chg [] wb wq ∧ wq.cell? ⟨bc, 0, none⟩ = some (.int .u64 (num : Nat)) ∧ wq.cell? ⟨bc, 1, none⟩ = some (.int .u64 (den : Nat)) := ⟨hS0.1.trans hcq, hcq.cell hS0.2.1 (by simp), hcq.cell hS0.2.2 (by simp)⟩
    clear hcq
    refine hK.out _ _ (fun _ _ => hS8) (fun hHeld => ?_)
    clear hK K hHeld
    try simp only [Act.put, List.setIfInBounds_toArray, List.set_cons_zero, List.set_cons_succ]
    refine readyG (rs := [7]) (by kernel_rfl) (by simp) (consG rfl (fun K hK => ?_) nilG)
    refine step_calls rfl 12 _ _ rfl enters_lover _ #[.agg #[.int .u64 (hi : Nat), .int .u64 (lo : Nat)], .int .u64 (den : Nat)] (by simp [Act.eval]) (HOV.out _) ?_; rintro e wy ⟨rfl, hcy⟩; refine ⟨_, rfl, ?_⟩
    have hS9 : Chg [] wb wy ∧ wy.cell? ⟨bc, 0, none⟩ = some (.int .u64 (num : Nat)) ∧ wy.cell? ⟨bc, 1, none⟩ = some (.int .u64 (den : Nat)) := ⟨hS8.1.trans hcy, hcy.cell hS8.2.1 (by simp), hcy.cell hS8.2.2 (by simp)⟩
    clear hcy
    refine hK.out _ _ (fun _ _ => hS9) (fun hHeld => ?_)
    clear hK K hHeld
    try simp only [Act.put, List.setIfInBounds_toArray, List.set_cons_zero, List.set_cons_succ]
    refine takeP (i := 8) (v := ?vz8) rfl (by kernel_rfl) (by kernel_rfl) (by kernel_rfl) (by decide) (fun _ _ _ h => h) (Or.inl ⟨by rfl, ?yz8⟩) hS9 ?rz8
    case yz8 => (intro w _; go_simp; first | done | with_reducible rfl)
    try simp only [Act.put, List.setIfInBounds_toArray, List.set_cons_zero, List.set_cons_succ]
    refine takeP (i := 9) (v := ?vz9) rfl (by kernel_rfl) (by kernel_rfl) (by kernel_rfl) (by decide) (fun _ _ _ h => h) (Or.inl ⟨by rfl, ?yz9⟩) hS9 ?rz9
    case yz9 => (intro w _; go_simp; first | done | with_reducible rfl)
    try simp only [Act.put, List.setIfInBounds_toArray, List.set_cons_zero, List.set_cons_succ]
    refine takeP (i := 10) (v := ?vz10) rfl (by kernel_rfl) (by kernel_rfl) (by kernel_rfl) (by decide) (fun _ _ _ h => h) (Or.inl ⟨by rfl, ?yz10⟩) hS9 ?rz10
    case yz10 => (intro w _; go_simp; first | done | with_reducible rfl)
    try simp only [Act.put, List.setIfInBounds_toArray, List.set_cons_zero, List.set_cons_succ]
    refine takeP (i := 11) (v := ?vz11) rfl (by kernel_rfl) (by kernel_rfl) (by kernel_rfl) (by decide) (fun _ _ _ h => h) (Or.inl ⟨by rfl, ?yz11⟩) hS9 ?rz11
    case yz11 => (intro w _; go_simp; first | done | with_reducible rfl)
    try simp only [Act.put, List.setIfInBounds_toArray, List.set_cons_zero, List.set_cons_succ]
    refine takeP (i := 12) (v := ?vz12) rfl (by kernel_rfl) (by kernel_rfl) (by kernel_rfl) (by decide) (fun _ _ _ h => h) (Or.inl ⟨by rfl, ?yz12⟩) hS9 ?rz12
    case yz12 => (intro w _; go_simp; first | done | with_reducible rfl)
    try simp only [Act.put, List.setIfInBounds_toArray, List.set_cons_zero, List.set_cons_succ]
    refine takeP (i := 13) (v := ?vz13) rfl (by kernel_rfl) (by kernel_rfl) (by kernel_rfl) (by decide) (fun _ _ _ h => h) (Or.inl ⟨by rfl, ?yz13⟩) hS9 ?rz13
    case yz13 => (intro w _; go_simp; first | done | with_reducible rfl)
    try simp only [Act.put, List.setIfInBounds_toArray, List.set_cons_zero, List.set_cons_succ]
    refine readyG (rs := [14]) (by kernel_rfl) (by simp) (consG rfl (fun K hK => ?_) nilG)
    go_simp
    refine hK.out _ _ (fun h => absurd rfl h) (fun hHeld => ?_)
    clear hK K hHeld
    try simp only [Act.put, List.setIfInBounds_toArray, List.set_cons_zero, List.set_cons_succ]
    refine doneG (by kernel_rfl) ?_ _
    have HCc := Lib.hid (HCb.out.trans hS9.1)
    have HBc := Lib.hid (HBb.out.chg hS9.1 (by simp))
    have HX := Lib.hid (show goodT l = true → ∀ p ∈ l, p.st + p.sl ≤ N from fun h => by rw [HNT.out h]; exact (goodT_bound h).2)
    clear hS0 hS8 hS9 y0 y1 HTI HOV hw HCb HBb
    go_wp2
    go_loopw [20, 112] (fun v i wx => ∃ k : Nat, k ≤ r ∧ i = .int .i64 (k : Nat) ∧ v = .bool (W && (l.take k).all fun p => decide (p.st + p.sl ≤ max Q 1)) ∧ Chg [] wy wx) (fun _ i _ => r - (intOf i).toNat)
    case atStart => exact ⟨0, Nat.zero_le _, rfl, by simp, Chg.refl _ _⟩
    case round =>
      obtain ⟨k, hk, rfl, rfl, hch⟩ := hrel
      by_cases hlt : k < r
      · have hkl : k < l.length := by have := HR.out; omega
        obtain ⟨b, o, rfl, hcc⟩ := (HRB.out.chg (HCc.out.trans hch) (by simp)).addr (by omega)
        rw [HR.out] at hcc
        obtain ⟨e0, e1, e2⟩ := tp_at hcc hkl
        have HTK := Lib.hid (show (l.take (k + 1)).all (fun p => decide (p.st + p.sl ≤ max Q 1)) = ((l.take k).all (fun p => decide (p.st + p.sl ≤ max Q 1)) && decide (l[k].st + l[k].sl ≤ max Q 1)) from by rw [List.take_succ_eq_append_getElem hkl, List.all_append]; simp)
        have HB2 := Lib.hid (show goodT l = true → l[k].st + l[k].sl ≤ N from fun h => HX.out h _ (List.getElem_mem _))
        generalize l[k] = v at *
        generalize (l.take k).all (fun p => decide (p.st + p.sl ≤ max Q 1)) = A at *
        clear hcc
        obtain ⟨C, hC⟩ : ∃ C, C = (W && A) := ⟨_, rfl⟩
        rw [← hC]
        have HCC := Lib.hid hC
        clear hC
        cases C with
        | false =>
          have HE := Lib.hid (show (W && (l.take (k + 1)).all fun p => decide (p.st + p.sl ≤ max Q 1)) = false from by rw [HTK.out, ← Bool.and_assoc, ← HCC.out]; rfl)
          go_wp2
          exact ⟨⟨k + 1, by omega, by go_num, by rw [HE.out], hch.alloc _⟩, by simp [intOf]; omega⟩
        | true =>
          have hgt : goodT l = true := by
            have h1 := HCC.out.symm
            rw [Bool.and_eq_true, HW2.out, Bool.and_eq_true] at h1
            exact h1.1.1
          have hvb := HB2.out hgt
          have hn62 := HN62.out
          have hw : IntKind.u64.wrap ((v.st : Int) + (v.sl : Int)) = ((v.st + v.sl : Nat) : Int) := by rw [IntKind.wrap_u64]; omega
          have HE := Lib.hid (show (W && (l.take (k + 1)).all fun p => decide (p.st + p.sl ≤ max Q 1)) = decide (v.st + v.sl ≤ max Q 1) from by rw [HTK.out, ← Bool.and_assoc, ← HCC.out]; rfl)
          obtain ⟨z, hz⟩ : ∃ z, z = v.st + v.sl := ⟨_, rfl⟩
          rw [← hz] at hw HE
          clear hvb hz hgt HB2 HTK
          by_cases hle : z ≤ max Q 1
          · have hmx : decide ((z : Int) ≤ (if (Q : Int) < 1 then 1 else (Q : Int))) = true := decide_eq_true (by split <;> omega)
            have hmy : decide ((z : Int) ≤ max (Q : Int) 1) = true := decide_eq_true (by omega)
            rw [decide_eq_true hle] at HE
            go_wp2
            exact ⟨⟨k + 1, by omega, by go_num, by first | (rw [HE.out]; done) | (rw [HE.out]; exact congrArg Value.bool hmy), hch.alloc _⟩, by simp [intOf]; omega⟩
          · have hmx : decide ((z : Int) ≤ (if (Q : Int) < 1 then 1 else (Q : Int))) = false := decide_eq_false (by split <;> omega)
            have hmy : decide ((z : Int) ≤ max (Q : Int) 1) = false := decide_eq_false (by omega)
            rw [decide_eq_false hle] at HE
            go_wp2
            exact ⟨⟨k + 1, by omega, by go_num, by first | (rw [HE.out]; done) | (rw [HE.out]; exact congrArg Value.bool hmy), hch.alloc _⟩, by simp [intOf]; omega⟩
      · obtain rfl : k = r := by omega
        have HLB := Lib.hid (show (W && (l.take k).all fun p => decide (p.st + p.sl ≤ max Q 1)) = loadB num den l ws.length from by
          rw [List.take_of_length_le (by have := HR.out; omega), HW2.out, loadB]
          cases hgt : goodT l with
          | false => rfl
          | true => rw [← HNT.out hgt, HLQ.out, ← HM.out, decide_eq_true (show N + m ≤ 9223372036854775807 from by have := HN62.out; omega), Bool.and_true])
        have HTN := Lib.hid (show loadB num den l ws.length = true → tot l = N from fun h => (HNT.out (by
          rw [loadB, Bool.and_eq_true, Bool.and_eq_true, Bool.and_eq_true] at h
          exact h.1.1.1)).symm)
        have HCH := Lib.hid hch
        rw [HLB.out]
        have HBd := Lib.hid ((HBc.out.chg (show Chg [] _ _ from HCH.out) (by simp)))
        have y0 := HBd.out.cell 0
        have y1 := HBd.out.cell 1
        simp only [List.getElem?_toArray, List.getElem?_cons_zero, List.getElem?_cons_succ] at y0 y1
        clear hch HX HLQ HW2 HNT
        go_wp2_with fail
        refine (HL2.out _ (HCc.out.trans HCH.out)).mono ?_
        clear HL2 y0 y1
        rintro e wd hld
        rcases hld with ⟨hb, p3, rv4, wv4, rfl, hgd, hcd, -⟩ | ⟨hb, rfl, hcd⟩
        · have hn62 := HN62.out
          rw [hb]
          have HTT := Lib.hid (fun u (hu : Chg [] wd u) => show Calls Try.prog 22 #[.pointer (some ⟨p3, 0, none⟩)] u fun e w' => e = .returned (.int .u64 ((N + m : Nat) : Int)) ∧ u = w' from by
            have h := gk_total u p3 rv4 wv4 _ (hgd.chg hu (by simp))
            rw [show GkD.total ⟨num, den, l, List.replicate (tot l) 0, ws⟩ = N + m from by rw [GkD.total, List.length_replicate, HTN.out hb, ← HM.out]] at h
            exact h)
          have HCD := Lib.hid ((HCc.out.trans HCH.out).trans hcd)
          have hwm : IntKind.u64.wrap (m : Int) = (m : Int) := IntWalk.u64_in _ (by omega)
          have hws : IntKind.u64.wrap ((N : Int) + (m : Int)) = ((N + m : Nat) : Int) := by rw [IntKind.wrap_u64]; omega
          obtain ⟨S, hS⟩ : ∃ S, S = N + m := ⟨_, rfl⟩
          rw [← hS] at HTT hws
          have hss : ((S : Int) == (S : Int)) = true := by simp
          clear hgd hcd hb hS HTN HLB
          go_wp2_with fail
          refine (HTT.out _ (Chg.refl _ _)).mono ?_
          rintro e we ⟨rfl, rfl⟩
          go_wp2_with fail
          go_ret
          exact ⟨rfl, HCD.out⟩
        · rw [hb]
          have HCD := Lib.hid ((HCc.out.trans HCH.out).trans hcd)
          clear hcd hb HTN HLB
          go_wp2_with fail
          go_ret
          exact ⟨rfl, HCD.out⟩
end Go.Proofs.Ytkcldhimjnehdaa
