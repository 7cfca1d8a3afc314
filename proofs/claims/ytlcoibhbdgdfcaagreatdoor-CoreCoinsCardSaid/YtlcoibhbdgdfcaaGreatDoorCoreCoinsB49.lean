/-
  The walk of the law CoreCoins. Conditions: the form's own reach; that the powers of ten read as laid.
-/
import Derived.Test.YtlcoibhbdgdfcaaGreatDoorCoreCoinsB8
import Derived.Test.YtlcoibhbdgdfcaaGreatDoorCoreCoinsB37
import Derived.Test.YtlcoibhbdgdfcaaGreatDoorCoreCoinsB47
import Derived.Test.YtlcoibhbdgdfcaaGreatDoorCoreCoinsB48
namespace Go.Proofs.YtlcoibhbdgdfcaaGreatDoor
open Go.RowKit

/-- What a rank tells of values. -/
structure Told5 (W : Nat) (m : List Vl) (x : Int) (k : Nat) : Prop where
  low : upS x m ≤ W / 2 → k = upS x m
  near : (max k (upS x m) - min k (upS x m)) * W ≤ 2 * sumS m * 16
  le : k ≤ sumS m
theorem told5 {D : TwD} {W word B : Nat} {m : List Vl} (h : D.rq W word B m) (hB : B ≤ 8000) (h4 : W % 4 = 0) (x : Int) : Told5 W m x (rankR x D.rows) := by
  have h1 := TwD.tells_near h4 h.fine (h.tells x)
  have h2 := h.fine.few12 (by have := h.few; omega)
  refine ⟨fun hx => TwD.tells_low (h.tells x) h.fine.ne (by rw [h.fine.W_eq]; exact hx), Nat.le_trans h1 (Nat.mul_le_mul_left _ (by omega)), ?_⟩
  rw [← h.fine.sum]
  exact rankR_le x D.rows
theorem told5_top {D : TwD} {W word B : Nat} {m : List Vl} (h : D.rq W word B m) : rankR 9223372036854775807 D.rows = sumS m := by
  rw [rank_all h.fine.low, h.fine.sum]
set_option maxRecDepth 100000 in
set_option maxHeartbeats 4000000 in
theorem law_CoreCoins (w : World) (ht : w.cell? ⟨0, 1, none⟩ = some (.int .u64 10)) (h0 : 0 < w.heap.size) (c : Cf) (hcR : c.okR) (lo : Option Addr) (lc : Nat) (fs : List Lf) (hr : Rd w 2 (.slice lo fs.length lc) fs.length (lfCells fs)) (hl : fs.length ≤ 140737488351232)
    (hf : ∀ f ∈ fs, f.inW w) (po : Option Addr) (pc : Nat) (ps : List Int) (hrp : Rd w 1 (.slice po ps.length pc) ps.length (ints ps)) (hlp : ps.length ≤ 140737488351232) (x : Int) (_hx1 : -9223372036854775808 ≤ x) (_hx2 : x < 9223372036854775808) :
    Calls Tryz.prog 5 #[c.val, .slice lo fs.length lc, .slice po ps.length pc, .int .i64 x] w fun e w' => e = .returned (.bool true) ∧ Chg [] w w' := by
  obtain ⟨n, hn⟩ : ∃ n, n = fs.length := ⟨_, rfl⟩
  obtain ⟨np, hnp⟩ : ∃ n, n = ps.length := ⟨_, rfl⟩
  rw [← hn] at hr hl ⊢
  rw [← hnp] at hrp hlp ⊢
  have HR := Lib.hid hr
  have HF := Lib.hid hf
  have HN := Lib.hid hn
  have HRP := Lib.hid hrp
  have HNP := Lib.hid hnp
  have HT := Lib.hid (And.intro ht h0)
  obtain ⟨q, hq⟩ : ∃ q, q = w.heap.size := ⟨_, rfl⟩
  have HB0 := Lib.hid (show Blk (w.alloc (.cells c.cells 30)) q c.cells 30 from by rw [hq]; exact Blk.alloc_new _ _ _)
  have HC0 := Lib.hid ((Chg.refl [] w).alloc (.cells c.cells 30))
  have HWD := Lib.hid hcR.word
  simp only [Cf.val, Cf.cells] at HB0 HC0 ⊢
  clear hr hf hn hrp hnp ht h0 hcR _hx1 _hx2
  go_enter Tryz.func5, Tryz.ntmps5
  go_wp2_with fail
  rw [← hq]
  clear hq
  generalize w.alloc (.cells #[.int .i64 c.kind, .int .u64 c.num, .int .u64 c.den, .int .i64 c.side, .int .i64 c.most, .int .i64 c.digits, .int .u64 c.limit, .int .i64 c.depth, .int .i64 c.factor, .int .i64 c.width, .int .u64 c.word] 30) = w0 at *
  refine (core_alive w0 (HC0.out.cell HT.out.1 (by simp))).mono ?_
  rintro e w1 ⟨rfl, hc1⟩
  have HC1 := Lib.hid (HC0.out.trans hc1)
  have HB1 := Lib.hid (HB0.out.chg hc1 (by simp))
  clear hc1 HB0 HC0
  obtain ⟨z0, z1, z2, z3, z4, z5, z6, z7, z8, z9, z10⟩ := cf_cells (c := c) (b := q) HB1.out
  go_wp2_with fail
  refine (core_great w1 c lo lc n fs HN.out (HR.out.chg HC1.out (by simp)) hl (fun f hf => ⟨(HF.out f hf).1.1.chg HC1.out (by simp), (HF.out f hf).1.2⟩)).mono ?_
  rintro e w2 ⟨G, rfl, hc2, hG⟩
  have HC2 := Lib.hid (HC1.out.trans hc2)
  have HB2 := Lib.hid (HB1.out.chg hc2 (by simp))
  have HG := Lib.hid hG
  clear z0 z1 z2 z3 z4 z5 z6 z7 z8 z9 z10 hc2 HB1 HC1 hG
  obtain ⟨z0, z1, z2, z3, z4, z5, z6, z7, z8, z9, z10⟩ := cf_cells (c := c) (b := q) HB2.out
  cases G with
  | true =>
    go_wp2
    go_ret
    exact ⟨rfl, HC2.out⟩
  | false =>
  by_cases hk : c.kind = 5
  case neg =>
    have e5 : (c.kind != 5) = true := by rw [bne_iff_ne]; exact hk
    clear hk
    go_wp2
    go_ret
    exact ⟨rfl, HC2.out⟩
  case pos =>
  have e5 : (c.kind != 5) = false := by rw [hk]; rfl
  have HK := Lib.hid hk
  have HPL := Lib.hid (HG.out rfl)
  have hlfs : ∀ u, Chg [] w u → Lfs u fs := fun u hu => ⟨fun f hf => (HF.out f hf).1.1.chg hu (by simp), fun f hf => (HPL.out.each f hf).1, fun f hf v hv => ⟨(HF.out f hf).2 v hv, (HPL.out.each f hf).2 v hv⟩⟩
  have HLF := Lib.hid hlfs
  have hn12 : n ≤ 12 := by have h1 := HPL.out.few; have h2 := HN.out; omega
  clear hk hlfs
  by_cases hex : ∃ W word, RqC c W word
  case neg =>
    have hno : ∀ u, Calls Tryz.prog 26 #[c.val] u fun e w' => ∃ k : Int, k ≠ 0 ∧ e = .returned (.tuple #[.pointer none, .int .i64 k]) ∧ Chg [] u w' := fun u => (rq_new u c HK.out HWD.out).mono (by
      rintro e w' (h | ⟨W, s, F, h, -⟩)
      · exact h
      · exact absurd ⟨W, c.word, h⟩ hex)
    obtain ⟨K, hKP⟩ : ∃ K : Kd c, ∀ u s F B m, ¬ K.P u s F B m := ⟨kdNone c hno, fun _ _ _ _ _ h => h⟩
    have HTR := Lib.hid (tree_K c K w2 lo lc n fs HN.out hn12 (HR.out.chg HC2.out (by simp)) (HLF.out _ HC2.out) po pc np ps HNP.out (HRP.out.chg HC2.out (by simp)) hlp)
    clear hno hex
    simp only [Cf.val, Cf.cells] at HTR
    go_wp2_with fail
    refine HTR.out.mono ?_
    rintro e w3 ⟨sv, av, nv, cv, ok, rfl, hc3, hok⟩
    have hf : ok = false := by
      cases ok with
      | false => rfl
      | true => obtain ⟨s, F, m, -, -, -, -, h, -⟩ := hok rfl; exact absurd h (hKP _ _ _ _ _)
    subst hf
    have HC3 := Lib.hid (HC2.out.trans hc3)
    clear hok hc3 HTR z0 z1 z2 z3 z4 z5 z6 z7 z8 z9 z10
    go_wp2
    go_ret
    exact ⟨rfl, HC3.out⟩
  case pos =>
  obtain ⟨W, word, hrc⟩ := hex
  obtain ⟨K, hKP⟩ : ∃ K : Kd c, K.P = RqP c W word := ⟨kdReq c W word hrc, rfl⟩
  have HTR := Lib.hid (tree_K c K w2 lo lc n fs HN.out hn12 (HR.out.chg HC2.out (by simp)) (HLF.out _ HC2.out) po pc np ps HNP.out (HRP.out.chg HC2.out (by simp)) hlp)
  have HWI := Lib.hid (show c.width = (W : Int) from by rw [hrc.eq])
  have HRC := Lib.hid hrc
  clear hrc
  simp only [Cf.val, Cf.cells] at HTR
  go_wp2_with fail
  refine HTR.out.mono ?_
  rintro e w3 ⟨sv, av, nv, cv, ok, rfl, hc3, hok⟩
  have HC3 := Lib.hid (HC2.out.trans hc3)
  have HB3 := Lib.hid (HB2.out.chg hc3 (by simp))
  clear hc3 HTR z0 z1 z2 z3 z4 z5 z6 z7 z8 z9 z10 HB2
  cases ok with
  | false =>
    clear hok
    go_wp2
    go_ret
    exact ⟨rfl, HC3.out⟩
  | true =>
  obtain ⟨s, F, m, rfl, rfl, hm360, hmok, hP, hrd⟩ := hok rfl
  have hP' : RqP c W word w3 s F 7968 m := by rw [hKP] at hP; exact hP
  have hsum : sumS m ≤ 8000 := by
    obtain ⟨p, tp, rv, vs, D, -, -, hd, -⟩ := hP'
    have := hd.few
    omega
  have HP := Lib.hid hP'
  have HRD := Lib.hid hrd
  have HTOP := Lib.hid (show upS 9223372036854775807 m = sumS m from upS_all (fun v hv => by have := (hmok v hv).1.2.1; omega))
  clear hok hP hP' hrd hmok
  obtain ⟨D1, hd1, hrk1⟩ := rq_rank c W word HRC.out w3 s F 7968 m HP.out (by omega) x
  have T1 := told5 hd1 (by omega) HRC.out.w4 x
  obtain ⟨k, hk⟩ : ∃ k, k = rankR x D1.rows := ⟨_, rfl⟩
  rw [← hk] at hrk1 T1
  have HRK1 := Lib.hid hrk1
  clear hrk1 hd1 hk
  go_wp2_with fail
  refine HRK1.out.mono ?_
  rintro e w4 ⟨rfl, hc4⟩
  have HC4 := Lib.hid hc4
  clear hc4 HRK1
  obtain ⟨r, hr⟩ : ∃ r, r = upS x m := ⟨_, rfl⟩
  obtain ⟨N, hN⟩ : ∃ N, N = sumS m := ⟨_, rfl⟩
  have HUP := Lib.hid (fun u (hu : Chg [] w3 u) => ref13_up u av cv m.length m rfl (HRD.out.chg hu (by simp)) (by omega) (by omega) x r hr)
  have HUN := Lib.hid (fun u (hu : Chg [] w3 u) => ref13_up u av cv m.length m rfl (HRD.out.chg hu (by simp)) (by omega) (by omega) 9223372036854775807 N (by rw [hN, HTOP.out]))
  obtain ⟨a1, a2, a3⟩ := T1
  rw [← hr, ← hN] at a2
  rw [← hr] at a1
  rw [← hN] at a3 hsum
  have hrN : r ≤ N := by rw [hr, hN]; exact upS_le x m
  have HN2 := Lib.hid hN
  clear hr hN
  go_wp2_with fail
  refine (HUP.out _ HC4.out).mono ?_
  rintro e w5 ⟨rfl, hc5⟩
  have HC5 := Lib.hid (HC4.out.trans hc5)
  clear hc5 HUP HC4
  go_wp2_with fail
  refine (HUN.out _ HC5.out).mono ?_
  rintro e w6 ⟨rfl, hc6⟩
  have HC6 := Lib.hid (HC5.out.trans hc6)
  clear hc6 HUN HC5
  obtain ⟨D2, hd2, hrk2⟩ := rq_rank c W word HRC.out w6 s F 7968 m (HP.out.chg HC6.out (by simp)) (by omega) 9223372036854775807
  rw [told5_top hd2, ← HN2.out] at hrk2
  have HRK2 := Lib.hid hrk2
  clear hrk2 hd2
  obtain ⟨off, hoff⟩ : ∃ off : Nat, off = max k r - min k r := ⟨_, rfl⟩
  have ho1 : max (k : Int) (r : Int) - min (k : Int) (r : Int) = (off : Int) := by omega
  rw [← hoff] at a2
  have hob : off ≤ N := by omega
  have HOFF := Lib.hid hoff
  clear hoff
  go_wp2_with fail
  refine HRK2.out.mono ?_
  rintro e w7 ⟨rfl, hc7⟩
  have HC7 := Lib.hid (HC6.out.trans hc7)
  obtain ⟨z0, z1, z2, z3, z4, z5, z6, z7, z8, z9, z10⟩ := cf_cells (c := c) (b := q) (HB3.out.chg HC7.out (by simp))
  rw [HWI.out] at z9
  clear hc7 HC6 HRK2 z0 z1 z2 z3 z4 z5 z6 z7 z8 z10
  obtain ⟨H, hH⟩ : ∃ H, H = W / 2 := ⟨_, rfl⟩
  rw [← hH] at a1
  have hW64 := HRC.out.w2
  have hHb : H ≤ 32 := by omega
  have hq1 : (W : Int).tdiv 2 = (H : Int) := by rw [Int.tdiv_eq_ediv_of_nonneg (by omega)]; omega
  have hq2 : (W : Int) / 2 = (H : Int) := by omega
  obtain ⟨P, hP⟩ : ∃ P, P = off * W := ⟨_, rfl⟩
  rw [← hP] at a2
  have hP1 : (off : Int) * (W : Int) = (P : Int) := by rw [hP]; push_cast; rfl
  have HA1 := Lib.hid a1
  have dP : decide ((P : Int) ≤ 2 * (N : Int) * 16) = true := decide_eq_true (by omega)
  have dP' : decide (P ≤ 2 * N * 16) = true := decide_eq_true (by omega)
  have hwW : IntKind.u64.wrap (W : Int) = (W : Int) := IntWalk.u64_in _ (by omega)
  have hwP : IntKind.u64.wrap (P : Int) = (P : Int) := IntWalk.u64_in _ (by omega)
  have hwH : IntKind.u64.wrap (H : Int) = (H : Int) := IntWalk.u64_in _ (by omega)
  have k1 : ((k : Int) == (k : Int)) = true := by simp
  have k2 : ((N : Int) == (N : Int)) = true := by simp
  clear hH hP a1 ho1
  by_cases hr : H < r
  · have d1 : decide ((H : Int) < (r : Int)) = true := decide_eq_true (by omega)
    have d1' : decide (H < r) = true := decide_eq_true hr
    go_wp2_with fail
    go_ret
    exact ⟨by simp, HC3.out.trans HC7.out⟩
  · have d1 : decide ((H : Int) < (r : Int)) = false := decide_eq_false (by omega)
    have d1' : decide (H < r) = false := decide_eq_false hr
    obtain rfl : k = r := HA1.out (by omega)
    go_wp2_with fail
    go_ret
    exact ⟨by simp, HC3.out.trans HC7.out⟩
end Go.Proofs.YtlcoibhbdgdfcaaGreatDoor
