/-
  The walk of the law DigestFew. Conditions: the form's own reach.
-/
import Derived.Test.YtgnbabkafobeoaaDgFew
import Derived.Test.YtgnbabkafobeoaaPrGood
import Derived.Test.YtgnbabkafobeoaaRefDg
import Derived.Test.YtgnbabkafobeoaaStepN
namespace Go.Proofs.Ytgnbabkafobeoaa
open Go.RowKit

theorem enters_fput : ∀ (args : Array Value) (w : World), (callFunc 18 args).run Try.prog w = .ok (.enter 18 args) w := enters_of Try.func18 (by kernel_rfl) rfl
theorem enters_ftotal : ∀ (args : Array Value) (w : World), (callFunc 15 args).run Try.prog w = .ok (.enter 15 args) w := enters_of Try.func15 (by kernel_rfl) rfl
theorem enters_fgood : ∀ (args : Array Value) (w : World), (callFunc 22 args).run Try.prog w = .ok (.enter 22 args) w := enters_of Try.func22 (by kernel_rfl) rfl
theorem Rd.nil0 (w : World) (k : Nat) : Rd w k (.slice none 0 0) 0 [] := ⟨by simp, none, 0, rfl, .inl rfl⟩
theorem Rd.at_vl {w : World} {b o n cap : Nat} {l : List Vl} (h : Rd w 2 (.slice (some ⟨b, o, none⟩) n cap) n (vlCells l)) (hn : n = l.length) {k : Nat} (hk : k < l.length) :
    w.cell? ⟨b, o + k * 2, none⟩ = some (.int .i64 l[k].x) ∧ w.cell? ⟨b, o + k * 2 + 1, none⟩ = some (.int .u64 l[k].n) := by
  obtain ⟨b', o', e, hc⟩ := h.addr (by omega)
  simp only [Option.some.injEq, Addr.mk.injEq, and_true] at e
  obtain ⟨rfl, rfl⟩ := e
  exact vl_at (l := l) (fun j hj => hc j (by rw [hn]; exact hj)) hk
theorem nodes_good {r : List Pr} (h1 : rises r) (h2 : ∀ p ∈ r, 1 ≤ p.c) (h3 : totP r ≤ 9223372036854775807) : goodP r = true := by
  rw [goodP, goodTo, List.all_eq_true]
  intro j hj
  rw [List.mem_range] at hj
  have e : r.getD j default = r[j] := by simp [List.getD, hj]
  rw [decide_eq_true_eq, e]
  refine ⟨h2 _ (List.getElem_mem hj), Nat.le_trans (mem_tot (List.getElem_mem hj)) h3, fun h0 => ?_⟩
  have hj2 : j - 1 < r.length := by omega
  rw [show r.getD (j - 1) default = r[j - 1] from by simp [List.getD, hj2]]
  exact h1 (j - 1) j (by omega) hj
set_option maxRecDepth 100000 in
set_option maxHeartbeats 16000000 in
theorem law_DigestFew (w : World) (d f : Int) (_hd1 : -9223372036854775808 ≤ d) (_hd2 : d < 9223372036854775808) (_hf1 : -9223372036854775808 ≤ f) (_hf2 : f < 9223372036854775808) (ao : Option Addr) (ca : Nat) (a : List Vl) (hra : Rd w 2 (.slice ao a.length ca) a.length (vlCells a)) (hla : a.length ≤ 140737488351232) (hka : ∀ i ∈ a, i.ok)
    (bo : Option Addr) (cb : Nat) (b : List Vl) (hrb : Rd w 2 (.slice bo b.length cb) b.length (vlCells b)) (hlb : b.length ≤ 140737488351232) (hkb : ∀ i ∈ b, i.ok) :
    Calls Try.prog 4 #[.agg #[.int .i64 d, .int .i64 f], .slice ao a.length ca, .slice bo b.length cb] w fun e w' => e = .returned (.bool true) ∧ Chg [] w w' := by
  have HAL := Lib.hid law17_alive
  have HKA := Lib.hid hka
  have HRA := Lib.hid hra
  have HRB := Lib.hid hrb
  have HKB := Lib.hid hkb
  obtain ⟨n, hn⟩ : ∃ n, n = a.length := ⟨_, rfl⟩
  rw [← hn] at HRA hla ⊢
  have HN := Lib.hid hn
  obtain ⟨nb, hnb⟩ : ∃ n, n = b.length := ⟨_, rfl⟩
  rw [← hnb] at HRB hlb ⊢
  have HNB := Lib.hid hnb
  clear hka hra hn hkb hrb hnb _hd1 _hd2 _hf1 _hf2
  have hc0 := (Chg.refl [] w).alloc (.cells #[.int .i64 d, .int .i64 f] 23)
  have hb0 := Blk.alloc_new w #[.int .i64 d, .int .i64 f] 23
  obtain ⟨bc, hbc⟩ : ∃ z, z = w.heap.size := ⟨_, rfl⟩
  rw [← hbc] at hb0
  have HBC := Lib.hid hbc
  have HC0 := Lib.hid hc0
  have HB := Lib.hid hb0
  have HBA := Lib.hid (fun u => law17_build u d f none 0 0 [] rfl (Rd.nil0 u 2) (by decide) (by simp))
  have HBB := Lib.hid (fun u (hu : Chg [] w u) => law17_build u d f bo cb nb b HNB.out (HRB.out.chg hu (by simp)) hlb (fun v hv => (HKB.out v hv).2.2))
  clear hc0 hb0
  go_enter Try.func4, Try.ntmps4
  go_wp2_with fail
  rw [← hbc]
  clear hbc
  generalize w.alloc (.cells #[.int .i64 d, .int .i64 f] 23) = w0 at *
  refine (HAL.out _).mono ?_
  rintro e w1 ⟨rfl, hc1⟩
  have HC1 := Lib.hid (HC0.out.trans hc1)
  have HB1 := Lib.hid (HB.out.chg hc1 (by simp))
  have x0 := HB1.out.cell 0
  have x1 := HB1.out.cell 1
  simp only [List.getElem?_toArray, List.getElem?_cons_zero, List.getElem?_cons_succ] at x0 x1
  clear hc1 HB HC0 HAL
  go_wp2_with fail
  refine (HBA.out _).mono ?_
  rintro e w2 hb2
  rcases hb2 with ⟨-, rfl, hc2⟩ | ⟨hok, p, s, rv, q, sv, rfl, ht2, -, hc2, hf2, -, -⟩
  · have HC2 := Lib.hid (HC1.out.trans hc2)
    have HB2 := Lib.hid (HB1.out.chg hc2 (by simp))
    clear x0 x1
    have x0 := HB2.out.cell 0
    have x1 := HB2.out.cell 1
    simp only [List.getElem?_toArray, List.getElem?_cons_zero, List.getElem?_cons_succ] at x0 x1
    go_wp2_with fail
    refine (HBB.out _ HC2.out).mono ?_
    rintro e w3 hb3
    rcases hb3 with ⟨-, rfl, hc3⟩ | ⟨-, p, s, rv, q, sv, rfl, -, -, hc3, -, -, -⟩
    · go_wp2
      go_ret
      exact ⟨rfl, HC2.out.trans hc3⟩
    · go_wp2
      go_ret
      exact ⟨rfl, HC2.out.trans hc3⟩
  have hd0 := hok.2.1
  have hf0 := hok.2.2.1
  obtain ⟨dn, rfl⟩ := Int.eq_ofNat_of_zero_le (show 0 ≤ d by omega)
  obtain ⟨fn, rfl⟩ := Int.eq_ofNat_of_zero_le (show 0 ≤ f by omega)
  have HVO := Lib.hid (valsDg_ok (d := dn) (f := fn) hok)
  have HVF := Lib.hid (valsDg_few (d := dn) (f := fn) hok)
  rw [Int.toNat_natCast, Int.toNat_natCast] at ht2
  have HT2 := Lib.hid ht2
  have HC2 := Lib.hid (HC1.out.trans hc2)
  have HB2 := Lib.hid (HB1.out.chg hc2 (by simp))
  have HF2 := Lib.hid (show ∀ b ∈ fpD p s rv, bc + 1 ≤ b from fun b hb => by have h := hf2 b hb; have h1 := HB1.out.lt; omega)
  clear x0 x1 ht2 hc2 hf2 hok HB1 HC1 HBA
  have x0 := HB2.out.cell 0
  have x1 := HB2.out.cell 1
  simp only [List.getElem?_toArray, List.getElem?_cons_zero, List.getElem?_cons_succ] at x0 x1
  go_wp2_with fail
  refine (HBB.out _ HC2.out).mono ?_
  rintro e w3 hb3
  rcases hb3 with ⟨-, rfl, hc3⟩ | ⟨hok3, p2, s2, rv2, q2, sv2, rfl, ht3, -, hc3, hf3, -, -⟩
  · go_wp2
    go_ret
    exact ⟨rfl, HC2.out.trans hc3⟩
  have HVO3 := Lib.hid (valsDg_ok (d := dn) (f := fn) hok3)
  have HVF3 := Lib.hid (valsDg_few (d := dn) (f := fn) hok3)
  have HSB := Lib.hid (show sumS b ≤ 60 * 1125899906842624 ∧ b.length ≤ 60 from by
    have h1 := sumS_bound b hok3.2.2.2
    have h2 := hok3.1
    exact ⟨Nat.le_trans h1 (Nat.mul_le_mul_right _ h2), h2⟩)
  rw [Int.toNat_natCast, Int.toNat_natCast] at ht3
  have HC3 := Lib.hid (HC2.out.trans hc3)
  have HB3 := Lib.hid (HB2.out.chg hc3 (by simp))
  have HD3 := Lib.hid (HT2.out.chg hc3 (by simp))
  have HO3 := Lib.hid ht3
  have HDJ := Lib.hid (show ∀ b ∈ fpD p s rv, b ∉ fpD p2 s2 rv2 from fun b hb hb2 => by have h1 := hf3 b hb2; have h2 := HT2.out.lt b hb; omega)
  have HF3 := Lib.hid (show ∀ b ∈ fpD p2 s2 rv2, bc + 1 ≤ b from fun b hb => by have h := hf3 b hb; have h1 := HB2.out.lt; omega)
  clear x0 x1 ht3 hc3 hf3 hok3 HB2 HC2 HBB HT2
  generalize valsDg dn fn b = O at *
  generalize valsDg dn fn [] = D0 at *
  by_cases hn60 : n ≤ 60
  case neg =>
    have dn1 : decide ((60 : Int) < (n : Int)) = true := decide_eq_true (by omega)
    have dn2 : decide (60 < n) = true := decide_eq_true (by omega)
    go_wp2
    go_ret
    exact ⟨rfl, HC3.out⟩
  have dn1 : decide ((60 : Int) < (n : Int)) = false := decide_eq_false (by omega)
  have dn2 : decide (60 < n) = false := decide_eq_false (by omega)
  obtain ⟨P, hP⟩ : ∃ P, P = 2 ^ dn := ⟨_, rfl⟩
  have HP := Lib.hid hP
  have hp2 : 2 ≤ P ∧ P ≤ 16777216 := by
    have h := two_d (d := dn) (by omega) (by omega)
    rw [← hP] at h
    exact ⟨h.1, h.2.1⟩
  have HSH := Lib.hid (show IntKind.i64.wrap ((2 : Int) ^ min dn 64) = (P : Int) ∧ IntKind.i64.wrap ((2 : Int) ^ dn) = (P : Int) from by
    have e : (2 : Int) ^ dn = (P : Int) := by rw [hP]; simp
    rw [show min dn 64 = dn from by omega, e]
    have h : IntKind.i64.wrap (P : Int) = (P : Int) := by rw [IntKind.wrap_i64]; omega
    exact ⟨h, h⟩)
  have HDF := Lib.hid (show (1 ≤ dn ∧ dn ≤ 24) ∧ 1 ≤ fn ∧ fn ≤ 64 from by omega)
  clear hP hd0 hf0
  go_wp2_with fail
  go_loopw [13] (fun i wx => ∃ (k s' : Nat) (rv' : Value) (D : DgD), k ≤ n + 1 ∧ i = .int .i64 (k : Nat) ∧ Dg wx p s' rv' D ∧ Dg wx p2 s2 rv2 O ∧ Chg [] w wx ∧ Blk wx bc #[.int .i64 (dn : Nat), .int .i64 (fn : Nat)] 23 ∧
    Hid (D.ok ∧ D.depth = dn ∧ D.factor = fn ∧ D.few ∧ (k ≤ n → totP D.row ≤ k * 1125899906842624)) ∧ Hid (∀ b ∈ fpD p s' rv', bc + 1 ≤ b) ∧ Hid (∀ b ∈ fpD p s' rv', b ∉ fpD p2 s2 rv2)) (fun i _ => n + 1 - (intOf i).toNat)
  case atStart => exact ⟨0, s, rv, D0, Nat.zero_le _, rfl, HD3.out, HO3.out, HC3.out, HB3.out, Lib.hid ⟨HVO.out.1, HVO.out.2.1, HVO.out.2.2.1, HVF.out, fun _ => by rw [HVO.out.2.2.2.1]; simp [sumS]⟩, HF2, HDJ⟩
  case round =>
    obtain ⟨k, s', rv', D, hk, rfl, hdg, hog, hch, hbk, HI, HF, HJ⟩ := hrel
    have HDG := Lib.hid hdg
    have HOG := Lib.hid hog
    have HCH := Lib.hid hch
    have HBK := Lib.hid hbk
    clear hdg hog hch hbk
    by_cases hle : k ≤ n
    case neg =>
      go_wp2_with fail
      go_ret
      exact ⟨rfl, HCH.out⟩
    go_upto_if 52 with (fail)
    go_cut [13] (fun v wx => v = .int .i64 (k : Nat) ∧ ∃ (s'' : Nat) (rv'' : Value) (D' : DgD), Dg wx p s'' rv'' D' ∧ Mv (fpD p s' rv') wr (fpD p s'' rv'') wx ∧ Hid (D'.ok ∧ D'.depth = dn ∧ D'.factor = fn ∧ D'.few ∧ (k + 1 ≤ n → totP D'.row ≤ (k + 1) * 1125899906842624)))
    case first =>
      by_cases hkn : k = n
      · have dk : ((k : Int) == (n : Int)) = true := by rw [beq_iff_eq]; omega
        have dk2 : (k == n) = true := by rw [beq_iff_eq]; exact hkn
        have hjr := DgD.join_row (D := D) (O := O) HI.out.1 HVO3.out.1 ⟨HVO3.out.2.1.trans HI.out.2.1.symm, HVO3.out.2.2.1.trans HI.out.2.2.1.symm⟩ (by
          have h1 := HI.out.2.2.2.2 hle
          have h2 := HVO3.out.2.2.2.1
          have h3 := HSB.out.1
          omega) (by
          have h1 := HI.out.2.2.2.1.2
          have h2 := HVF3.out.2
          have h3 := HDF.out
          rw [HI.out.2.2.1] at h1
          rw [HVO3.out.2.2.1] at h2
          omega)
        have HJR := Lib.hid hjr
        have HJO := Lib.hid (dg_join wr p s' rv' D HDG.out HI.out.1 p2 s2 rv2 O HOG.out HVO3.out.1 ⟨HVO3.out.2.1.trans HI.out.2.1.symm, HVO3.out.2.2.1.trans HI.out.2.2.1.symm⟩ (by
          have h1 := HI.out.2.2.2.2 hle
          have h2 := HVO3.out.2.2.2.1
          have h3 := HSB.out.1
          omega) (by
          have h1 := HI.out.2.2.2.1.2
          have h2 := HVF3.out.2
          have h3 := HDF.out
          rw [HI.out.2.2.1] at h1
          rw [HVO3.out.2.2.1] at h2
          omega) HJ.out)
        have HJS := Lib.hid (D.join_same O)
        obtain ⟨E, hE⟩ : ∃ E, E = D.join O := ⟨_, rfl⟩
        rw [← hE] at HJR HJO HJS
        have HKN := Lib.hid hkn
        clear hjr hkn hE
        go_wp2_with fail
        refine HJO.out.mono ?_
        rintro e w5 ⟨rfl, s5, rv5, h5, hm5⟩
        have H5 := Lib.hid h5
        have HM5 := Lib.hid hm5
        clear h5 hm5 HJO
        go_wp2_with fail
        go_meet
        exact ⟨rfl, s5, rv5, E, H5.out, HM5.out, Lib.hid ⟨HJR.out.1, HJS.out.1.trans HI.out.2.1, HJS.out.2.trans HI.out.2.2.1, HJR.out.2.2 HI.out.2.2.2.1 HVF3.out, fun h => by have := HKN.out; omega⟩⟩
      · have dk : ((k : Int) == (n : Int)) = false := by rw [beq_eq_false_iff_ne]; omega
        have dk2 : (k == n) = false := by rw [beq_eq_false_iff_ne]; exact hkn
        have hlt : k < n := by omega
        have hkl : k < a.length := by have := HN.out; omega
        obtain ⟨b, o, rfl, hc⟩ := (HRA.out.chg HCH.out (by simp)).addr (by omega)
        obtain ⟨c0, c1⟩ := vl_at (l := a) (fun j hj => hc j (by rw [HN.out]; exact hj)) hkl
        have HRK := Lib.hid (fun u (hu : Chg [] wr u) => Rd.at_vl (HRA.out.chg (HCH.out.trans hu) (by simp)) HN.out hkl)
        have hkv := HKA.out a[k] (List.getElem_mem hkl)
        generalize a[k] = v at *
        have HS := Lib.hid (fun wx (hu : Chg [] wr wx) => show Chg [] wr wx ∧ wx.cell? ⟨b, o + k * 2, none⟩ = some (.int .i64 v.x) ∧ wx.cell? ⟨b, o + k * 2 + 1, none⟩ = some (.int .u64 (v.n : Nat)) from ⟨hu, HRK.out wx hu⟩)
        have hx2 := hkv.2.1
        have hk0 : (0 : Int) ≤ (k : Int) := by omega
        have hkn2 : (k : Int) < (n : Int) := by omega
        have HKV := Lib.hid (And.intro hlt hle)
        clear hc hkv hkl hkn HRK
        have HSAME := Lib.hid (show ∃ (s'' : Nat) (rv'' : Value) (D' : DgD), Dg wr p s'' rv'' D' ∧ Mv (fpD p s' rv') wr (fpD p s'' rv'') wr ∧ Hid (D'.ok ∧ D'.depth = dn ∧ D'.factor = fn ∧ D'.few ∧ (k + 1 ≤ n → totP D'.row ≤ (k + 1) * 1125899906842624)) from
          ⟨s', rv', D, HDG.out, Mv.of_chg (Chg.refl _ _), Lib.hid ⟨HI.out.1, HI.out.2.1, HI.out.2.2.1, HI.out.2.2.2.1, fun h => Nat.le_trans (HI.out.2.2.2.2 (by omega)) (Nat.mul_le_mul_right _ (Nat.le_succ k))⟩⟩)
        by_cases g1 : 1 ≤ v.n
        case neg =>
          have e1 : decide ((0 : Int) < (v.n : Int)) = false := decide_eq_false (by omega)
          have e1' : decide (0 < v.n) = false := decide_eq_false (by omega)
          go_wp2_with fail
          go_meet
          exact ⟨rfl, HSAME.out⟩
        have e1 : decide ((0 : Int) < (v.n : Int)) = true := decide_eq_true (by omega)
        have e1' : decide (0 < v.n) = true := decide_eq_true (by omega)
        by_cases g2 : v.n ≤ 1125899906842624
        case neg =>
          have e2 : decide ((v.n : Int) ≤ (1125899906842624 : Int)) = false := decide_eq_false (by omega)
          have e2' : decide (v.n ≤ 1125899906842624) = false := decide_eq_false (by omega)
          go_wp2_with fail
          go_meet
          exact ⟨rfl, HSAME.out⟩
        have e2 : decide ((v.n : Int) ≤ (1125899906842624 : Int)) = true := decide_eq_true (by omega)
        have e2' : decide (v.n ≤ 1125899906842624) = true := decide_eq_true (by omega)
        have HPU := Lib.hid (fun u (hu : Chg [] wr u) => dg_put_any u p s' rv' D (HDG.out.chg hu (by simp)) HI.out.1 v.x hx2 v.n g1 (by
          have h1 := HI.out.2.2.2.2 hle
          have h3 : k * 1125899906842624 ≤ 60 * 1125899906842624 := Nat.mul_le_mul_right _ (by omega)
          omega) (by
          have h1 := HI.out.2.2.2.1.2
          have h3 := HDF.out
          rw [HI.out.2.2.1] at h1
          omega))
        have HG2 := Lib.hid g2
        clear g1 g2 hx2 hlt hle
        go_upto_region 13 with (fail)
        have hSS := HS.out wr.drew (Chg.refl [] wr).drew
        refine startG (S := fun wx => Chg [] wr wx ∧ wx.cell? ⟨b, o + k * 2, none⟩ = some (.int .i64 v.x) ∧ wx.cell? ⟨b, o + k * 2 + 1, none⟩ = some (.int .u64 (v.n : Nat))) (st := 11) (by kernel_rfl) hSS (fun hHeld => ?_)
        refine takeP (i := 0) (v := ?va0) rfl (by kernel_rfl) (by kernel_rfl) (by kernel_rfl) (by decide) (fun _ _ _ h => h) (Or.inl ⟨by rfl, ?ya0⟩) hSS ?ra0
        case ya0 => (intro w _; go_simp; first | done | with_reducible rfl)
        try simp only [Act.put, List.setIfInBounds_toArray, List.set_cons_zero, List.set_cons_succ]
        refine takeP (i := 1) (v := ?va1) rfl (by kernel_rfl) (by kernel_rfl) (by kernel_rfl) (by decide) (fun _ _ _ h => h) (Or.inl ⟨by rfl, ?ya1⟩) hSS ?ra1
        case ya1 => (intro w _; go_simp; first | done | with_reducible rfl)
        try simp only [Act.put, List.setIfInBounds_toArray, List.set_cons_zero, List.set_cons_succ]
        refine takeP (i := 2) (v := ?va2) rfl (by kernel_rfl) (by kernel_rfl) (by kernel_rfl) (by decide) (fun _ _ _ h => h) (Or.inl ⟨by rfl, ?ya2⟩) hSS ?ra2
        case ya2 => (intro w _; go_simp; first | done | with_reducible rfl)
        try simp only [Act.put, List.setIfInBounds_toArray, List.set_cons_zero, List.set_cons_succ]
        refine takeP (i := 3) (v := ?va3) rfl (by kernel_rfl) (by kernel_rfl) (by kernel_rfl) (by decide) (fun _ _ _ h => h) (Or.inl ⟨by rfl, ?ya3⟩) hSS ?ra3
        case ya3 => (intro w _; go_simp; first | done | with_reducible rfl)
        try simp only [Act.put, List.setIfInBounds_toArray, List.set_cons_zero, List.set_cons_succ]
        refine takeP (i := 4) (v := ?va4) rfl (by kernel_rfl) (by kernel_rfl) (by kernel_rfl) (by decide) (fun _ _ _ h => h) (Or.inl ⟨by rfl, ?ya4⟩) hSS ?ra4
        case ya4 => (intro w _; go_simp; first | done | with_reducible rfl)
        try simp only [Act.put, List.setIfInBounds_toArray, List.set_cons_zero, List.set_cons_succ]
        refine takeG (i := 5) (v := ?va5) rfl (by kernel_rfl) (by kernel_rfl) (by kernel_rfl) (by decide) (by kernel_rfl) (by kernel_rfl) (fun _ _ _ h => h) (Or.inl ⟨by rfl, ?ya5⟩) hSS ?ra5
        case ya5 => (intro w hSw; (try dsimp only at hSw); go_simp; first | done | with_reducible rfl)
        try simp only [Act.put, List.setIfInBounds_toArray, List.set_cons_zero, List.set_cons_succ]
        refine takeP (i := 6) (v := ?va6) rfl (by kernel_rfl) (by kernel_rfl) (by kernel_rfl) (by decide) (fun _ _ _ h => h) (Or.inl ⟨by rfl, ?ya6⟩) hSS ?ra6
        case ya6 => (intro w _; go_simp; first | done | with_reducible rfl)
        try simp only [Act.put, List.setIfInBounds_toArray, List.set_cons_zero, List.set_cons_succ]
        refine takeP (i := 7) (v := ?va7) rfl (by kernel_rfl) (by kernel_rfl) (by kernel_rfl) (by decide) (fun _ _ _ h => h) (Or.inl ⟨by rfl, ?ya7⟩) hSS ?ra7
        case ya7 => (intro w _; go_simp; first | done | with_reducible rfl)
        try simp only [Act.put, List.setIfInBounds_toArray, List.set_cons_zero, List.set_cons_succ]
        refine takeP (i := 8) (v := ?va8) rfl (by kernel_rfl) (by kernel_rfl) (by kernel_rfl) (by decide) (fun _ _ _ h => h) (Or.inl ⟨by rfl, ?ya8⟩) hSS ?ra8
        case ya8 => (intro w _; go_simp; first | done | with_reducible rfl)
        try simp only [Act.put, List.setIfInBounds_toArray, List.set_cons_zero, List.set_cons_succ]
        refine takeP (i := 9) (v := ?va9) rfl (by kernel_rfl) (by kernel_rfl) (by kernel_rfl) (by decide) (fun _ _ _ h => h) (Or.inl ⟨by rfl, ?ya9⟩) hSS ?ra9
        case ya9 => (intro w _; go_simp; first | done | with_reducible rfl)
        try simp only [Act.put, List.setIfInBounds_toArray, List.set_cons_zero, List.set_cons_succ]
        refine takeG (i := 10) (v := ?va10) rfl (by kernel_rfl) (by kernel_rfl) (by kernel_rfl) (by decide) (by kernel_rfl) (by kernel_rfl) (fun _ _ _ h => h) (Or.inl ⟨by rfl, ?ya10⟩) hSS ?ra10
        case ya10 => (intro w hSw; (try dsimp only at hSw); go_simp; first | done | with_reducible rfl)
        try simp only [Act.put, List.setIfInBounds_toArray, List.set_cons_zero, List.set_cons_succ]
        refine readyG (rs := [11]) (by kernel_rfl) (by simp) (consG rfl (fun K hK => ?_) nilG)
        refine step_calls rfl 18 _ _ rfl enters_fput _ #[.pointer (some ⟨p, 0, none⟩), .int .i64 v.x, .int .u64 (v.n : Nat)] (by simp [Act.eval]) (HPU.out _ hSS.1) ?_; rintro e wy ⟨kk, s5, rv5, E, rfl, h5, hm5, hi5⟩; refine ⟨_, rfl, ?_⟩
        have H5 := Lib.hid h5
        have HM5 := Lib.hid ((Mv.of_chg (F := fpD p s' rv') hSS.1.nil).trans hm5)
        have HI5 := Lib.hid hi5
        clear h5 hm5 hi5
        refine hK.out _ _ (fun h => absurd rfl h) (fun hHeld => ?_)
        clear hK K hHeld
        try simp only [Act.put, List.setIfInBounds_toArray, List.set_cons_zero, List.set_cons_succ]
        refine doneG (by kernel_rfl) ?_ _
        clear hSS HS HPU
        go_wp2_with fail
        go_meet
        exact ⟨rfl, s5, rv5, E, H5.out, HM5.out, Lib.hid ⟨HI5.out.1, HI5.out.2.1.trans HI.out.2.1, HI5.out.2.2.1.trans HI.out.2.2.1, HI5.out.2.2.2.2 HI.out.2.2.2.1, fun h => by
          have h1 := HI5.out.2.2.2.1
          have h2 := HI.out.2.2.2.2 HKV.out.2
          have h3 := HG2.out
          have h4 : (k + 1) * 1125899906842624 = k * 1125899906842624 + 1125899906842624 := by rw [Nat.add_mul, Nat.one_mul]
          omega⟩⟩
    case rest =>
      rename World => w5
      obtain ⟨rfl, s5, rv5, E, hd5, hm5, HE⟩ := hcut
      have HD5 := Lib.hid hd5
      have HO5 := Lib.hid (HOG.out.chg hm5.chg (fun b hb e => HJ.out b e hb))
      have HC5 := Lib.hid (HCH.out.trans' hm5.chg (fun b hb => .inr (by have := HF.out b hb; rw [← HBC.out]; omega)))
      have HB5 := Lib.hid (HBK.out.chg hm5.chg (fun e => by have := HF.out _ e; omega))
      have HF5 := Lib.hid (hm5.low (L := bc + 1) (by have := HBK.out.lt; omega) HF.out)
      have HJ5 := Lib.hid (show ∀ b ∈ fpD p s5 rv5, b ∉ fpD p2 s2 rv2 from fun b hb e => by
        rcases hm5.fr b hb with h | h
        · exact HJ.out b h e
        · have := HOG.out.lt b e
          omega)
      obtain ⟨nn, hnn⟩ : ∃ z, z = E.row.length := ⟨_, rfl⟩
      have hnl : nn ≤ 1000 := by have := HE.out.1.len; omega
      have hnf : nn ≤ 4 * fn := by have h := HE.out.2.2.2.1.2; rw [HE.out.2.2.1] at h; omega
      have HNN := Lib.hid hnn
      have HNO := Lib.hid (dg_nodes w5 p s5 rv5 E HD5.out nn hnn hnl)
      clear hd5 hm5 hnn HDG HOG HCH HBK HF HJ HI
      have hle2 : k < n + 1 := by omega
      go_wp2_with fail
      refine HNO.out.mono ?_
      rintro e w6 ⟨a6, c6, rfl, ho6, hc6, -⟩
      have HO6 := Lib.hid ho6
      have HC6 := Lib.hid hc6
      have HB6 := Lib.hid (HB5.out.chg hc6 (by simp))
      have HGO := Lib.hid (show Calls Try.prog 20 #[.slice a6 nn c6] w6 fun e w' => e = .returned (.bool true) ∧ Chg [] w6 w' from by
        have h0 : goodP E.row = true := nodes_good HE.out.1.nodes.up HE.out.1.nodes.pos HE.out.1.tot
        have ho := HO6.out
        have e := HNN.out
        subst e
        have h := ref06_good w6 a6 c6 E.row (fun x hx => by
          have h1 := HE.out.1.nodes.ix x hx
          have h2 := two_d HE.out.1.d1 HE.out.1.d2
          have h3 := mem_tot hx
          have h4 := HE.out.1.tot
          unfold DgD.top at h1
          exact ⟨by omega, by omega, by omega⟩) ho.rd (by omega)
        rw [h0] at h
        exact h)
      obtain ⟨T, hT⟩ : ∃ T, T = totP E.row := ⟨_, rfl⟩
      have HTR := Lib.hid (fun u (hu : Chg [] w6 u) => ref07_total u a6 c6 nn E.row HNN.out (HO6.out.chg hu (by simp)).rd hnl HE.out.1.tot)
      have HTD := Lib.hid (fun u (hu : Chg [] w6 u) => dg_total u p s5 rv5 E (HD5.out.chg (HC6.out.trans hu) (by simp)))
      rw [← hT] at HTR HTD
      have HT := Lib.hid hT
      have x0 := HB6.out.cell 0
      have x1 := HB6.out.cell 1
      simp only [List.getElem?_toArray, List.getElem?_cons_zero, List.getElem?_cons_succ] at x0 x1
      have hw4 : IntKind.i64.wrap (4 * (fn : Int)) = ((4 * fn : Nat) : Int) := by have := HDF.out; rw [IntKind.wrap_i64]; omega
      have e1 : decide (((4 * fn : Nat) : Int) < (nn : Int)) = false := decide_eq_false (by omega)
      have e1' : decide (4 * fn < nn) = false := decide_eq_false (by omega)
      have e2 : ((T : Int) != (T : Int)) = false := by simp
      clear ho6 hc6 hT HNO
      go_wp2_with fail
      refine HGO.out.mono ?_
      rintro e w7 ⟨rfl, hc7⟩
      have HC7 := Lib.hid hc7
      clear hc7 x0 x1 HGO
      go_wp2_with fail
      refine (HTR.out _ HC7.out).mono ?_
      rintro e w8 ⟨rfl, hc8⟩
      have HC8 := Lib.hid (HC7.out.trans hc8)
      clear hc8 HTR HC7
      go_wp2_with fail
      refine (HTD.out _ HC8.out).mono ?_
      rintro e w9 ⟨rfl, rfl⟩
      clear hw4 e1 e1'
      go_wp2_with fail
      have HLW := Lib.hid (show ∀ j (hj : j < E.row.length), 1 ≤ E.row[j].i ∧ E.row[j].i < 2 * (P : Int) ∧ (E.row[j].i < (P : Int) → E.row[j].c ≤ T / fn) from fun j hj => by
        have h1 := HE.out.1.nodes.ix _ (List.getElem_mem hj)
        have h2 := HE.out.2.2.2.1.1 _ (List.getElem_mem hj)
        rw [HE.out.2.2.1, ← HT.out] at h2
        unfold DgD.top at h1 h2
        rw [HE.out.2.1, ← HP.out] at h1 h2
        exact ⟨h1.1, h1.2, fun h => h2 (by omega)⟩)
      have HTL := Lib.hid (show T ≤ 9223372036854775807 from by rw [HT.out]; exact HE.out.1.tot)
      have HGN := Lib.hid (fun u (v : Int) => ref16_good u dn P (by have := HDF.out; omega) HP.out v)
      clear e2 hnf
      go_loopw [104] (fun i wx => ∃ j : Nat, j ≤ nn ∧ i = .int .i64 (j : Nat) ∧ Chg [] w6 wx) (fun i _ => nn - (intOf i).toNat)
      case atStart => exact ⟨0, Nat.zero_le _, rfl, HC8.out⟩
      case round =>
        rename World => wj
        obtain ⟨j, hj, rfl, hcj⟩ := hrel
        have HCJ := Lib.hid hcj
        clear hcj
        by_cases hlt : j < nn
        case neg =>
          obtain rfl : j = nn := by omega
          have HD9 := Lib.hid (HD5.out.chg (HC6.out.trans HCJ.out) (by simp))
          have HO9 := Lib.hid (HO5.out.chg (HC6.out.trans HCJ.out) (by simp))
          have HC9 := Lib.hid (HC5.out.trans (HC6.out.trans HCJ.out))
          have HB9 := Lib.hid (HB6.out.chg HCJ.out (by simp))
          go_wp2_with fail
          exact ⟨⟨k + 1, s5, rv5, E, by omega, by go_num, HD9.out, HO9.out, HC9.out, HB9.out, HE, HF5, HJ5⟩, by simp [intOf]; omega⟩
        have hkl : j < E.row.length := by have := HNN.out; omega
        obtain ⟨g1, g2, g3⟩ := HLW.out j hkl
        obtain ⟨b6, o6, rfl, hcc⟩ := (HO6.out.rd.chg HCJ.out (by simp)).addr (by omega)
        rw [HNN.out] at hcc
        obtain ⟨d0, d1⟩ := pr_at hcc hkl
        generalize E.row[j] = x at *
        clear hcc hkl
        obtain ⟨L, hL⟩ : ∃ L, L = T / fn := ⟨_, rfl⟩
        rw [← hL] at g3
        have hff := HDF.out
        have hll : L ≤ T := by rw [hL]; exact Nat.div_le_self _ _
        have htl := HTL.out
        have hz : ((fn : Int) == 0) = false := by rw [beq_eq_false_iff_ne]; omega
        have hz2 : ¬ fn = 0 := by omega
        have hwf : IntKind.u64.wrap (fn : Int) = (fn : Int) := IntWalk.u64_in _ (by omega)
        have hq : (T : Int).tdiv (fn : Int) = (L : Int) := by rw [Int.tdiv_eq_ediv_of_nonneg (by omega), hL]; rfl
        have hq2 : (T : Int) / (fn : Int) = (L : Int) := by rw [hL]; rfl
        have hwl : IntKind.u64.wrap (L : Int) = (L : Int) := IntWalk.u64_in _ (by omega)
        obtain ⟨hsh1, hsh2⟩ := HSH.out
        have HGX := Lib.hid (fun u => show Calls Try.prog 22 #[.int .i64 (dn : Nat), .int .i64 x.i] u fun e w' => e = .returned (.bool true) ∧ u = w' from by
          have h := HGN.out u x.i
          rw [decide_eq_true g1, decide_eq_true g2] at h
          exact h)
        have HG3 := Lib.hid g3
        clear hff hll htl hL g1 g2 g3 HLW
        go_upto_region 20 with (fail)
        obtain ⟨q5, hq5⟩ : ∃ z, z = wj.heap.size := ⟨_, rfl⟩
        have HBQ := Lib.hid (Blk.alloc_new wj #[.int .i64 x.i, .int .u64 x.c] 53)
        have HCW := Lib.hid (HCJ.out.alloc (.cells #[.int .i64 x.i, .int .u64 x.c] 53))
        rw [← hq5] at HBQ ⊢
        clear hq5 d0 d1
        generalize wj.alloc (.cells #[.int .i64 x.i, .int .u64 x.c] 53) = wq at *
        have HS := Lib.hid (fun wx (hu : Chg [] wq wx) => show Chg [] wq wx ∧ wx.cell? ⟨bc, 0, none⟩ = some (.int .i64 (dn : Nat)) ∧ wx.cell? ⟨bc, 1, none⟩ = some (.int .i64 (fn : Nat)) ∧ wx.cell? ⟨q5, 0, none⟩ = some (.int .i64 x.i) ∧ wx.cell? ⟨q5, 1, none⟩ = some (.int .u64 (x.c : Nat)) from ⟨hu, (HB6.out.chg (HCW.out.trans hu) (by simp)).cell 0, (HB6.out.chg (HCW.out.trans hu) (by simp)).cell 1, (HBQ.out.chg hu (by simp)).cell 0, (HBQ.out.chg hu (by simp)).cell 1⟩)
        have hSS := HS.out wq.drew (Chg.refl [] wq).drew
        by_cases g4 : x.i < (P : Int)
        · have e4 : decide (x.i < (P : Int)) = true := decide_eq_true g4
          have e5 : decide ((L : Int) < (x.c : Int)) = false := decide_eq_false (by have := HG3.out g4; omega)
          have e5' : decide (L < x.c) = false := decide_eq_false (by have := HG3.out g4; omega)
          clear g4
          refine startN (S := fun wx => Chg [] wq wx ∧ wx.cell? ⟨bc, 0, none⟩ = some (.int .i64 (dn : Nat)) ∧ wx.cell? ⟨bc, 1, none⟩ = some (.int .i64 (fn : Nat)) ∧ wx.cell? ⟨q5, 0, none⟩ = some (.int .i64 x.i) ∧ wx.cell? ⟨q5, 1, none⟩ = some (.int .u64 (x.c : Nat))) (by kernel_rfl) hSS (fun hHeld => ?_)
          refine takeN (i := 0) (v := ?vb0) rfl (by kernel_rfl) (by kernel_rfl) (by kernel_rfl) (fun _ _ _ h => h) (Or.inl ⟨by rfl, ?yb0⟩) hSS ?rb0
          case yb0 => (intro w hSw; (try dsimp only at hSw); go_simp; first | done | with_reducible rfl)
          try simp only [Act.put, List.setIfInBounds_toArray, List.set_cons_zero, List.set_cons_succ]
          refine takeN (i := 1) (v := ?vb1) rfl (by kernel_rfl) (by kernel_rfl) (by kernel_rfl) (fun _ _ _ h => h) (Or.inl ⟨by rfl, ?yb1⟩) hSS ?rb1
          case yb1 => (intro w hSw; (try dsimp only at hSw); go_simp; first | done | with_reducible rfl)
          try simp only [Act.put, List.setIfInBounds_toArray, List.set_cons_zero, List.set_cons_succ]
          refine takeN (i := 2) (v := ?vb2) rfl (by kernel_rfl) (by kernel_rfl) (by kernel_rfl) (fun _ _ _ h => h) (Or.inl ⟨by rfl, ?yb2⟩) hSS ?rb2
          case yb2 => (intro w hSw; (try dsimp only at hSw); go_simp; first | done | with_reducible rfl)
          try simp only [Act.put, List.setIfInBounds_toArray, List.set_cons_zero, List.set_cons_succ]
          refine takeN (i := 3) (v := ?vb3) rfl (by kernel_rfl) (by kernel_rfl) (by kernel_rfl) (fun _ _ _ h => h) (Or.inl ⟨by rfl, ?yb3⟩) hSS ?rb3
          case yb3 => (intro w hSw; (try dsimp only at hSw); go_simp; first | done | with_reducible rfl)
          try simp only [Act.put, List.setIfInBounds_toArray, List.set_cons_zero, List.set_cons_succ]
          refine readyN (rs := [4]) (by kernel_rfl) (by simp) (consN rfl (fun K hK => ?_) nilN)
          refine step_calls rfl 22 _ _ rfl enters_fgood _ #[.int .i64 (dn : Nat), .int .i64 x.i] (by simp [Act.eval]) (HGX.out _) ?_; rintro e w' ⟨rfl, rfl⟩; refine ⟨_, rfl, ?_⟩
          refine hK.out _ _ hSS (fun hHeld => ?_)
          clear hK K hHeld
          try simp only [Act.put, List.setIfInBounds_toArray, List.set_cons_zero, List.set_cons_succ]
          refine takeN (i := 5) (v := ?vb5) rfl (by kernel_rfl) (by kernel_rfl) (by kernel_rfl) (fun _ _ _ h => h) (Or.inl ⟨by rfl, ?yb5⟩) hSS ?rb5
          case yb5 => (intro w hSw; (try dsimp only at hSw); go_simp; first | done | with_reducible rfl)
          try simp only [Act.put, List.setIfInBounds_toArray, List.set_cons_zero, List.set_cons_succ]
          refine takeN (i := 6) (v := ?vb6) rfl (by kernel_rfl) (by kernel_rfl) (by kernel_rfl) (fun _ _ _ h => h) (Or.inl ⟨by rfl, ?yb6⟩) hSS ?rb6
          case yb6 => (intro w hSw; (try dsimp only at hSw); go_simp; first | done | with_reducible rfl)
          try simp only [Act.put, List.setIfInBounds_toArray, List.set_cons_zero, List.set_cons_succ]
          refine takeN (i := 7) (v := ?vb7) rfl (by kernel_rfl) (by kernel_rfl) (by kernel_rfl) (fun _ _ _ h => h) (Or.inl ⟨by rfl, ?yb7⟩) hSS ?rb7
          case yb7 => (intro w hSw; (try dsimp only at hSw); go_simp; first | done | with_reducible rfl)
          try simp only [Act.put, List.setIfInBounds_toArray, List.set_cons_zero, List.set_cons_succ]
          refine takeN (i := 8) (v := ?vb8) rfl (by kernel_rfl) (by kernel_rfl) (by kernel_rfl) (fun _ _ _ h => h) (Or.inl ⟨by rfl, ?yb8⟩) hSS ?rb8
          case yb8 => (intro w hSw; (try dsimp only at hSw); go_simp; first | done | with_reducible rfl)
          try simp only [Act.put, List.setIfInBounds_toArray, List.set_cons_zero, List.set_cons_succ]
          refine takeN (i := 9) (v := ?vb9) rfl (by kernel_rfl) (by kernel_rfl) (by kernel_rfl) (fun _ _ _ h => h) (Or.inl ⟨by rfl, ?yb9⟩) hSS ?rb9
          case yb9 => (intro w hSw; (try dsimp only at hSw); go_simp; first | done | with_reducible rfl)
          try simp only [Act.put, List.setIfInBounds_toArray, List.set_cons_zero, List.set_cons_succ]
          refine takeN (i := 10) (v := ?vb10) rfl (by kernel_rfl) (by kernel_rfl) (by kernel_rfl) (fun _ _ _ h => h) (Or.inl ⟨by rfl, ?yb10⟩) hSS ?rb10
          case yb10 => (intro w hSw; (try dsimp only at hSw); go_simp; first | done | with_reducible rfl)
          try simp only [Act.put, List.setIfInBounds_toArray, List.set_cons_zero, List.set_cons_succ]
          refine takeN (i := 11) (v := ?vb11) rfl (by kernel_rfl) (by kernel_rfl) (by kernel_rfl) (fun _ _ _ h => h) (Or.inl ⟨by rfl, ?yb11⟩) hSS ?rb11
          case yb11 => (intro w hSw; (try dsimp only at hSw); go_simp; first | done | with_reducible rfl)
          try simp only [Act.put, List.setIfInBounds_toArray, List.set_cons_zero, List.set_cons_succ]
          refine takeN (i := 12) (v := ?vb12) rfl (by kernel_rfl) (by kernel_rfl) (by kernel_rfl) (fun _ _ _ h => h) (Or.inl ⟨by rfl, ?yb12⟩) hSS ?rb12
          case yb12 => (intro w hSw; (try dsimp only at hSw); go_simp; first | done | with_reducible rfl)
          try simp only [Act.put, List.setIfInBounds_toArray, List.set_cons_zero, List.set_cons_succ]
          refine takeN (i := 13) (v := ?vb13) rfl (by kernel_rfl) (by kernel_rfl) (by kernel_rfl) (fun _ _ _ h => h) (Or.inl ⟨by rfl, ?yb13⟩) hSS ?rb13
          case yb13 => (intro w hSw; (try dsimp only at hSw); go_simp; first | done | with_reducible rfl)
          try simp only [Act.put, List.setIfInBounds_toArray, List.set_cons_zero, List.set_cons_succ]
          refine takeN (i := 14) (v := ?vb14) rfl (by kernel_rfl) (by kernel_rfl) (by kernel_rfl) (fun _ _ _ h => h) (Or.inl ⟨by rfl, ?yb14⟩) hSS ?rb14
          case yb14 => (intro w hSw; (try dsimp only at hSw); go_simp; first | done | with_reducible rfl)
          try simp only [Act.put, List.setIfInBounds_toArray, List.set_cons_zero, List.set_cons_succ]
          refine takeN (i := 15) (v := ?vb15) rfl (by kernel_rfl) (by kernel_rfl) (by kernel_rfl) (fun _ _ _ h => h) (Or.inl ⟨by rfl, ?yb15⟩) hSS ?rb15
          case yb15 => (intro w hSw; (try dsimp only at hSw); go_simp; first | done | with_reducible rfl)
          try simp only [Act.put, List.setIfInBounds_toArray, List.set_cons_zero, List.set_cons_succ]
          refine takeN (i := 16) (v := ?vb16) rfl (by kernel_rfl) (by kernel_rfl) (by kernel_rfl) (fun _ _ _ h => h) (Or.inl ⟨by rfl, ?yb16⟩) hSS ?rb16
          case yb16 => (intro w hSw; (try dsimp only at hSw); go_simp; first | done | with_reducible rfl)
          try simp only [Act.put, List.setIfInBounds_toArray, List.set_cons_zero, List.set_cons_succ]
          refine takeN (i := 18) (v := ?vb18) rfl (by kernel_rfl) (by kernel_rfl) (by kernel_rfl) (fun _ _ _ h => h) (Or.inl ⟨by rfl, ?yb18⟩) hSS ?rb18
          case yb18 => (intro w hSw; (try dsimp only at hSw); go_simp; first | done | with_reducible rfl)
          try simp only [Act.put, List.setIfInBounds_toArray, List.set_cons_zero, List.set_cons_succ]
          refine takeN (i := 19) (v := ?vb19) rfl (by kernel_rfl) (by kernel_rfl) (by kernel_rfl) (fun _ _ _ h => h) (Or.inl ⟨by rfl, ?yb19⟩) hSS ?rb19
          case yb19 => (intro w hSw; (try dsimp only at hSw); go_simp; first | done | with_reducible rfl)
          try simp only [Act.put, List.setIfInBounds_toArray, List.set_cons_zero, List.set_cons_succ]
          refine takeN (i := 20) (v := ?vb20) rfl (by kernel_rfl) (by kernel_rfl) (by kernel_rfl) (fun _ _ _ h => h) (Or.inl ⟨by rfl, ?yb20⟩) hSS ?rb20
          case yb20 => (intro w hSw; (try dsimp only at hSw); go_simp; first | done | with_reducible rfl)
          try simp only [Act.put, List.setIfInBounds_toArray, List.set_cons_zero, List.set_cons_succ]
          refine readyN (rs := [17]) (by kernel_rfl) (by simp) (consN rfl (fun K hK => ?_) nilN)
          refine step_callsG (by rfl) 15 _ _ rfl enters_ftotal _ #[.pointer (some ⟨p, 0, none⟩)] (by simp [Act.eval]) (HTD.out _ (HCW.out.trans hSS.1)) ?_; rintro e w' ⟨rfl, rfl⟩; refine ⟨_, rfl, ?_⟩
          refine hK.out _ _ hSS (fun hHeld => ?_)
          clear hK K hHeld
          try simp only [Act.put, List.setIfInBounds_toArray, List.set_cons_zero, List.set_cons_succ]
          refine takeN (i := 21) (v := ?vb21) rfl (by kernel_rfl) (by kernel_rfl) (by kernel_rfl) (fun _ _ _ h => h) (Or.inl ⟨by rfl, ?yb21⟩) hSS ?rb21
          case yb21 => (intro w hSw; (try dsimp only at hSw); go_simp; first | done | with_reducible rfl)
          try simp only [Act.put, List.setIfInBounds_toArray, List.set_cons_zero, List.set_cons_succ]
          refine takeN (i := 22) (v := ?vb22) rfl (by kernel_rfl) (by kernel_rfl) (by kernel_rfl) (fun _ _ _ h => h) (Or.inl ⟨by rfl, ?yb22⟩) hSS ?rb22
          case yb22 => (intro w hSw; (try dsimp only at hSw); go_simp; first | done | with_reducible rfl)
          try simp only [Act.put, List.setIfInBounds_toArray, List.set_cons_zero, List.set_cons_succ]
          refine takeN (i := 23) (v := ?vb23) rfl (by kernel_rfl) (by kernel_rfl) (by kernel_rfl) (fun _ _ _ h => h) (Or.inl ⟨by rfl, ?yb23⟩) hSS ?rb23
          case yb23 => (intro w hSw; (try dsimp only at hSw); go_simp; first | done | with_reducible rfl)
          try simp only [Act.put, List.setIfInBounds_toArray, List.set_cons_zero, List.set_cons_succ]
          refine takeN (i := 24) (v := ?vb24) rfl (by kernel_rfl) (by kernel_rfl) (by kernel_rfl) (fun _ _ _ h => h) (Or.inl ⟨by rfl, ?yb24⟩) hSS ?rb24
          case yb24 => (intro w hSw; (try dsimp only at hSw); go_simp; first | done | with_reducible rfl)
          try simp only [Act.put, List.setIfInBounds_toArray, List.set_cons_zero, List.set_cons_succ]
          refine doneN (by kernel_rfl) ?_ _
          have HCZ := Lib.hid (HCW.out.trans hSS.1)
          clear hSS HS
          go_wp2_with fail
          exact ⟨⟨j + 1, by omega, by go_num, HCZ.out⟩, by simp [intOf]; omega⟩
        · have e4 : decide (x.i < (P : Int)) = false := decide_eq_false g4
          clear g4
          refine startN (S := fun wx => Chg [] wq wx ∧ wx.cell? ⟨bc, 0, none⟩ = some (.int .i64 (dn : Nat)) ∧ wx.cell? ⟨bc, 1, none⟩ = some (.int .i64 (fn : Nat)) ∧ wx.cell? ⟨q5, 0, none⟩ = some (.int .i64 x.i) ∧ wx.cell? ⟨q5, 1, none⟩ = some (.int .u64 (x.c : Nat))) (by kernel_rfl) hSS (fun hHeld => ?_)
          refine takeN (i := 0) (v := ?vc0) rfl (by kernel_rfl) (by kernel_rfl) (by kernel_rfl) (fun _ _ _ h => h) (Or.inl ⟨by rfl, ?yc0⟩) hSS ?rc0
          case yc0 => (intro w hSw; (try dsimp only at hSw); go_simp; first | done | with_reducible rfl)
          try simp only [Act.put, List.setIfInBounds_toArray, List.set_cons_zero, List.set_cons_succ]
          refine takeN (i := 1) (v := ?vc1) rfl (by kernel_rfl) (by kernel_rfl) (by kernel_rfl) (fun _ _ _ h => h) (Or.inl ⟨by rfl, ?yc1⟩) hSS ?rc1
          case yc1 => (intro w hSw; (try dsimp only at hSw); go_simp; first | done | with_reducible rfl)
          try simp only [Act.put, List.setIfInBounds_toArray, List.set_cons_zero, List.set_cons_succ]
          refine takeN (i := 2) (v := ?vc2) rfl (by kernel_rfl) (by kernel_rfl) (by kernel_rfl) (fun _ _ _ h => h) (Or.inl ⟨by rfl, ?yc2⟩) hSS ?rc2
          case yc2 => (intro w hSw; (try dsimp only at hSw); go_simp; first | done | with_reducible rfl)
          try simp only [Act.put, List.setIfInBounds_toArray, List.set_cons_zero, List.set_cons_succ]
          refine takeN (i := 3) (v := ?vc3) rfl (by kernel_rfl) (by kernel_rfl) (by kernel_rfl) (fun _ _ _ h => h) (Or.inl ⟨by rfl, ?yc3⟩) hSS ?rc3
          case yc3 => (intro w hSw; (try dsimp only at hSw); go_simp; first | done | with_reducible rfl)
          try simp only [Act.put, List.setIfInBounds_toArray, List.set_cons_zero, List.set_cons_succ]
          refine readyN (rs := [4]) (by kernel_rfl) (by simp) (consN rfl (fun K hK => ?_) nilN)
          refine step_calls rfl 22 _ _ rfl enters_fgood _ #[.int .i64 (dn : Nat), .int .i64 x.i] (by simp [Act.eval]) (HGX.out _) ?_; rintro e w' ⟨rfl, rfl⟩; refine ⟨_, rfl, ?_⟩
          refine hK.out _ _ hSS (fun hHeld => ?_)
          clear hK K hHeld
          try simp only [Act.put, List.setIfInBounds_toArray, List.set_cons_zero, List.set_cons_succ]
          refine takeN (i := 5) (v := ?vc5) rfl (by kernel_rfl) (by kernel_rfl) (by kernel_rfl) (fun _ _ _ h => h) (Or.inl ⟨by rfl, ?yc5⟩) hSS ?rc5
          case yc5 => (intro w hSw; (try dsimp only at hSw); go_simp; first | done | with_reducible rfl)
          try simp only [Act.put, List.setIfInBounds_toArray, List.set_cons_zero, List.set_cons_succ]
          refine takeN (i := 6) (v := ?vc6) rfl (by kernel_rfl) (by kernel_rfl) (by kernel_rfl) (fun _ _ _ h => h) (Or.inl ⟨by rfl, ?yc6⟩) hSS ?rc6
          case yc6 => (intro w hSw; (try dsimp only at hSw); go_simp; first | done | with_reducible rfl)
          try simp only [Act.put, List.setIfInBounds_toArray, List.set_cons_zero, List.set_cons_succ]
          refine takeN (i := 7) (v := ?vc7) rfl (by kernel_rfl) (by kernel_rfl) (by kernel_rfl) (fun _ _ _ h => h) (Or.inl ⟨by rfl, ?yc7⟩) hSS ?rc7
          case yc7 => (intro w hSw; (try dsimp only at hSw); go_simp; first | done | with_reducible rfl)
          try simp only [Act.put, List.setIfInBounds_toArray, List.set_cons_zero, List.set_cons_succ]
          refine takeN (i := 8) (v := ?vc8) rfl (by kernel_rfl) (by kernel_rfl) (by kernel_rfl) (fun _ _ _ h => h) (Or.inl ⟨by rfl, ?yc8⟩) hSS ?rc8
          case yc8 => (intro w hSw; (try dsimp only at hSw); go_simp; first | done | with_reducible rfl)
          try simp only [Act.put, List.setIfInBounds_toArray, List.set_cons_zero, List.set_cons_succ]
          refine takeN (i := 9) (v := ?vc9) rfl (by kernel_rfl) (by kernel_rfl) (by kernel_rfl) (fun _ _ _ h => h) (Or.inl ⟨by rfl, ?yc9⟩) hSS ?rc9
          case yc9 => (intro w hSw; (try dsimp only at hSw); go_simp; first | done | with_reducible rfl)
          try simp only [Act.put, List.setIfInBounds_toArray, List.set_cons_zero, List.set_cons_succ]
          refine takeN (i := 10) (v := ?vc10) rfl (by kernel_rfl) (by kernel_rfl) (by kernel_rfl) (fun _ _ _ h => h) (Or.inl ⟨by rfl, ?yc10⟩) hSS ?rc10
          case yc10 => (intro w hSw; (try dsimp only at hSw); go_simp; first | done | with_reducible rfl)
          try simp only [Act.put, List.setIfInBounds_toArray, List.set_cons_zero, List.set_cons_succ]
          refine takeN (i := 11) (v := ?vc11) rfl (by kernel_rfl) (by kernel_rfl) (by kernel_rfl) (fun _ _ _ h => h) (Or.inl ⟨by rfl, ?yc11⟩) hSS ?rc11
          case yc11 => (intro w hSw; (try dsimp only at hSw); go_simp; first | done | with_reducible rfl)
          try simp only [Act.put, List.setIfInBounds_toArray, List.set_cons_zero, List.set_cons_succ]
          refine takeN (i := 12) (v := ?vc12) rfl (by kernel_rfl) (by kernel_rfl) (by kernel_rfl) (fun _ _ _ h => h) (Or.inl ⟨by rfl, ?yc12⟩) hSS ?rc12
          case yc12 => (intro w hSw; (try dsimp only at hSw); go_simp; first | done | with_reducible rfl)
          try simp only [Act.put, List.setIfInBounds_toArray, List.set_cons_zero, List.set_cons_succ]
          refine takeN (i := 13) (v := ?vc13) rfl (by kernel_rfl) (by kernel_rfl) (by kernel_rfl) (fun _ _ _ h => h) (Or.inl ⟨by rfl, ?yc13⟩) hSS ?rc13
          case yc13 => (intro w hSw; (try dsimp only at hSw); go_simp; first | done | with_reducible rfl)
          try simp only [Act.put, List.setIfInBounds_toArray, List.set_cons_zero, List.set_cons_succ]
          refine takeN (i := 14) (v := undef) rfl (by kernel_rfl) (by kernel_rfl) (by kernel_rfl) (fun _ _ _ h => h) (Or.inr ⟨by rfl, rfl⟩) hSS ?rc14
          try simp only [Act.put, List.setIfInBounds_toArray, List.set_cons_zero, List.set_cons_succ]
          refine takeN (i := 15) (v := undef) rfl (by kernel_rfl) (by kernel_rfl) (by kernel_rfl) (fun _ _ _ h => h) (Or.inr ⟨by rfl, rfl⟩) hSS ?rc15
          try simp only [Act.put, List.setIfInBounds_toArray, List.set_cons_zero, List.set_cons_succ]
          refine takeN (i := 16) (v := undef) rfl (by kernel_rfl) (by kernel_rfl) (by kernel_rfl) (fun _ _ _ h => h) (Or.inr ⟨by rfl, rfl⟩) hSS ?rc16
          try simp only [Act.put, List.setIfInBounds_toArray, List.set_cons_zero, List.set_cons_succ]
          refine takeN (i := 18) (v := undef) rfl (by kernel_rfl) (by kernel_rfl) (by kernel_rfl) (fun _ _ _ h => h) (Or.inr ⟨by rfl, rfl⟩) hSS ?rc18
          try simp only [Act.put, List.setIfInBounds_toArray, List.set_cons_zero, List.set_cons_succ]
          refine takeN (i := 19) (v := undef) rfl (by kernel_rfl) (by kernel_rfl) (by kernel_rfl) (fun _ _ _ h => h) (Or.inr ⟨by rfl, rfl⟩) hSS ?rc19
          try simp only [Act.put, List.setIfInBounds_toArray, List.set_cons_zero, List.set_cons_succ]
          refine takeN (i := 20) (v := undef) rfl (by kernel_rfl) (by kernel_rfl) (by kernel_rfl) (fun _ _ _ h => h) (Or.inr ⟨by rfl, rfl⟩) hSS ?rc20
          try simp only [Act.put, List.setIfInBounds_toArray, List.set_cons_zero, List.set_cons_succ]
          refine readyN (rs := [17]) (by kernel_rfl) (by simp) (consN rfl (fun K hK => ?_) nilN)
          go_simp
          refine hK.out _ _ hSS (fun hHeld => ?_)
          clear hK K hHeld
          try simp only [Act.put, List.setIfInBounds_toArray, List.set_cons_zero, List.set_cons_succ]
          refine takeN (i := 21) (v := undef) rfl (by kernel_rfl) (by kernel_rfl) (by kernel_rfl) (fun _ _ _ h => h) (Or.inr ⟨by rfl, rfl⟩) hSS ?rc21
          try simp only [Act.put, List.setIfInBounds_toArray, List.set_cons_zero, List.set_cons_succ]
          refine takeN (i := 22) (v := undef) rfl (by kernel_rfl) (by kernel_rfl) (by kernel_rfl) (fun _ _ _ h => h) (Or.inr ⟨by rfl, rfl⟩) hSS ?rc22
          try simp only [Act.put, List.setIfInBounds_toArray, List.set_cons_zero, List.set_cons_succ]
          refine takeN (i := 23) (v := ?vc23) rfl (by kernel_rfl) (by kernel_rfl) (by kernel_rfl) (fun _ _ _ h => h) (Or.inl ⟨by rfl, ?yc23⟩) hSS ?rc23
          case yc23 => (intro w hSw; (try dsimp only at hSw); go_simp; first | done | with_reducible rfl)
          try simp only [Act.put, List.setIfInBounds_toArray, List.set_cons_zero, List.set_cons_succ]
          refine takeN (i := 24) (v := ?vc24) rfl (by kernel_rfl) (by kernel_rfl) (by kernel_rfl) (fun _ _ _ h => h) (Or.inl ⟨by rfl, ?yc24⟩) hSS ?rc24
          case yc24 => (intro w hSw; (try dsimp only at hSw); go_simp; first | done | with_reducible rfl)
          try simp only [Act.put, List.setIfInBounds_toArray, List.set_cons_zero, List.set_cons_succ]
          refine doneN (by kernel_rfl) ?_ _
          have HCZ := Lib.hid (HCW.out.trans hSS.1)
          clear hSS HS
          go_wp2_with fail
          exact ⟨⟨j + 1, by omega, by go_num, HCZ.out⟩, by simp [intOf]; omega⟩
end Go.Proofs.Ytgnbabkafobeoaa
