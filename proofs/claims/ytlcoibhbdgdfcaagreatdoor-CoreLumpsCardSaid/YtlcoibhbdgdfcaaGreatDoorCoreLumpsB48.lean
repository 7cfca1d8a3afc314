/-
  The walk of the law CoreLumps. Conditions: the form's own reach; that the powers of ten read as laid.
-/
import Derived.Test.YtlcoibhbdgdfcaaGreatDoorCoreLumpsB8
import Derived.Test.YtlcoibhbdgdfcaaGreatDoorCoreLumpsB39
import Derived.Test.YtlcoibhbdgdfcaaGreatDoorCoreLumpsB7
import Derived.Test.YtlcoibhbdgdfcaaGreatDoorCoreLumpsB46
import Derived.Test.YtlcoibhbdgdfcaaGreatDoorCoreLumpsB47
namespace Go.Proofs.YtlcoibhbdgdfcaaGreatDoor
open Go.RowKit

theorem enters_lmost : ∀ (args : Array Value) (w : World), (callFunc 21 args).run Tryz.prog w = .ok (.enter 21 args) w := enters_of Tryz.func21 (by kernel_rfl) rfl
set_option maxRecDepth 100000 in
set_option maxHeartbeats 8000000 in
theorem law_CoreLumps (w : World) (ht : w.cell? ⟨0, 1, none⟩ = some (.int .u64 10)) (h0 : 0 < w.heap.size) (c : Cf) (_hcR : c.okR) (lo : Option Addr) (lc : Nat) (fs : List Lf) (hr : Rd w 2 (.slice lo fs.length lc) fs.length (lfCells fs)) (hl : fs.length ≤ 140737488351232)
    (hf : ∀ f ∈ fs, f.inW w) (po : Option Addr) (pc : Nat) (ps : List Int) (hrp : Rd w 1 (.slice po ps.length pc) ps.length (ints ps)) (hlp : ps.length ≤ 140737488351232) (pn pd : Nat) (hpn : pn < 18446744073709551616) (hpd : pd < 18446744073709551616) (qn qd : Nat) (hqn : qn < 18446744073709551616) (hqd : qd < 18446744073709551616) (x : Int) (_hx1 : -9223372036854775808 ≤ x) (_hx2 : x < 9223372036854775808) :
    Calls Tryz.prog 4 #[c.val, .slice lo fs.length lc, .slice po ps.length pc, .agg #[.int .u64 (pn : Nat), .int .u64 (pd : Nat)], .agg #[.int .u64 (qn : Nat), .int .u64 (qd : Nat)], .int .i64 x] w fun e w' => e = .returned (.bool true) ∧ Chg [] w w' := by
  obtain ⟨n, hn⟩ : ∃ n, n = fs.length := ⟨_, rfl⟩
  obtain ⟨np, hnp⟩ : ∃ n, n = ps.length := ⟨_, rfl⟩
  rw [← hn] at hr hl ⊢
  rw [← hnp] at hrp hlp ⊢
  have HR := Lib.hid hr
  have HF := Lib.hid hf
  have HN := Lib.hid hn
  have HRP := Lib.hid hrp
  have HNP := Lib.hid hnp
  have HT := Lib.hid (And.intro ht h0)
  have HPQ := Lib.hid (And.intro hpn (And.intro hpd (And.intro hqn hqd)))
  obtain ⟨q, hq⟩ : ∃ q, q = w.heap.size := ⟨_, rfl⟩
  obtain ⟨q1, hq1⟩ : ∃ q, q = w.heap.size + 1 := ⟨_, rfl⟩
  obtain ⟨q2, hq2⟩ : ∃ q, q = w.heap.size + 2 := ⟨_, rfl⟩
  have hs1 : (w.alloc (.cells #[.int .i64 c.kind, .int .u64 c.num, .int .u64 c.den, .int .i64 c.side, .int .i64 c.most, .int .i64 c.digits, .int .u64 c.limit, .int .i64 c.depth, .int .i64 c.factor, .int .i64 c.width, .int .u64 c.word] 30)).heap.size = q1 := by rw [World.size_alloc, hq1]
  have hs2 : ((w.alloc (.cells #[.int .i64 c.kind, .int .u64 c.num, .int .u64 c.den, .int .i64 c.side, .int .i64 c.most, .int .i64 c.digits, .int .u64 c.limit, .int .i64 c.depth, .int .i64 c.factor, .int .i64 c.width, .int .u64 c.word] 30)).alloc (.cells #[.int .u64 (pn : Nat), .int .u64 (pd : Nat)] 27)).heap.size = q2 := by rw [World.size_alloc, World.size_alloc, hq2]
  have HB0 := Lib.hid (show Blk (((w.alloc (.cells #[.int .i64 c.kind, .int .u64 c.num, .int .u64 c.den, .int .i64 c.side, .int .i64 c.most, .int .i64 c.digits, .int .u64 c.limit, .int .i64 c.depth, .int .i64 c.factor, .int .i64 c.width, .int .u64 c.word] 30)).alloc (.cells #[.int .u64 (pn : Nat), .int .u64 (pd : Nat)] 27)).alloc (.cells #[.int .u64 (qn : Nat), .int .u64 (qd : Nat)] 27)) q #[.int .i64 c.kind, .int .u64 c.num, .int .u64 c.den, .int .i64 c.side, .int .i64 c.most, .int .i64 c.digits, .int .u64 c.limit, .int .i64 c.depth, .int .i64 c.factor, .int .i64 c.width, .int .u64 c.word] 30 from by rw [hq]; exact ((Blk.alloc_new w _ _).alloc _).alloc _)
  have HBP := Lib.hid (show Blk (((w.alloc (.cells #[.int .i64 c.kind, .int .u64 c.num, .int .u64 c.den, .int .i64 c.side, .int .i64 c.most, .int .i64 c.digits, .int .u64 c.limit, .int .i64 c.depth, .int .i64 c.factor, .int .i64 c.width, .int .u64 c.word] 30)).alloc (.cells #[.int .u64 (pn : Nat), .int .u64 (pd : Nat)] 27)).alloc (.cells #[.int .u64 (qn : Nat), .int .u64 (qd : Nat)] 27)) q1 #[.int .u64 (pn : Nat), .int .u64 (pd : Nat)] 27 from by rw [← hs1]; exact (Blk.alloc_new _ _ _).alloc _)
  have HBQ := Lib.hid (show Blk (((w.alloc (.cells #[.int .i64 c.kind, .int .u64 c.num, .int .u64 c.den, .int .i64 c.side, .int .i64 c.most, .int .i64 c.digits, .int .u64 c.limit, .int .i64 c.depth, .int .i64 c.factor, .int .i64 c.width, .int .u64 c.word] 30)).alloc (.cells #[.int .u64 (pn : Nat), .int .u64 (pd : Nat)] 27)).alloc (.cells #[.int .u64 (qn : Nat), .int .u64 (qd : Nat)] 27)) q2 #[.int .u64 (qn : Nat), .int .u64 (qd : Nat)] 27 from by rw [← hs2]; exact Blk.alloc_new _ _ _)
  have HC0 := Lib.hid ((((Chg.refl [] w).alloc (.cells #[.int .i64 c.kind, .int .u64 c.num, .int .u64 c.den, .int .i64 c.side, .int .i64 c.most, .int .i64 c.digits, .int .u64 c.limit, .int .i64 c.depth, .int .i64 c.factor, .int .i64 c.width, .int .u64 c.word] 30)).alloc (.cells #[.int .u64 (pn : Nat), .int .u64 (pd : Nat)] 27)).alloc (.cells #[.int .u64 (qn : Nat), .int .u64 (qd : Nat)] 27))
  simp only [Cf.val, Cf.cells]
  clear hr hf hn hrp hnp ht h0 _hx1 _hx2 hpn hpd hqn hqd hs1 hs2
  go_enter Tryz.func4, Tryz.ntmps4
  go_wp2_with fail
  rw [← hq2, ← hq1, ← hq]
  clear hq hq1 hq2
  generalize (((w.alloc (.cells #[.int .i64 c.kind, .int .u64 c.num, .int .u64 c.den, .int .i64 c.side, .int .i64 c.most, .int .i64 c.digits, .int .u64 c.limit, .int .i64 c.depth, .int .i64 c.factor, .int .i64 c.width, .int .u64 c.word] 30)).alloc (.cells #[.int .u64 (pn : Nat), .int .u64 (pd : Nat)] 27)).alloc (.cells #[.int .u64 (qn : Nat), .int .u64 (qd : Nat)] 27)) = w0 at *
  refine (core_alive w0 (HC0.out.cell HT.out.1 (by simp))).mono ?_
  rintro e w1 ⟨rfl, hc1⟩
  have HC1 := Lib.hid (HC0.out.trans hc1)
  have HCE := Lib.hid (fun u (hu : Chg [] w0 u) => (⟨cf_cells (c := c) (b := q) (HB0.out.chg hu (by simp)), (HBP.out.chg hu (by simp)).cell 0, (HBP.out.chg hu (by simp)).cell 1, (HBQ.out.chg hu (by simp)).cell 0, (HBQ.out.chg hu (by simp)).cell 1⟩ : _ ∧ u.cell? ⟨q1, 0, none⟩ = some (.int .u64 (pn : Nat)) ∧ u.cell? ⟨q1, 1, none⟩ = some (.int .u64 (pd : Nat)) ∧ u.cell? ⟨q2, 0, none⟩ = some (.int .u64 (qn : Nat)) ∧ u.cell? ⟨q2, 1, none⟩ = some (.int .u64 (qd : Nat))))
  have HK1 := Lib.hid hc1
  clear hc1 HB0 HBP HBQ HC0
  obtain ⟨⟨z0, z1, z2, z3, z4, z5, z6, z7, z8, z9, z10⟩, y0, y1, y2, y3⟩ := HCE.out w1 HK1.out
  go_wp2_with fail
  refine (core_great w1 c lo lc n fs HN.out (HR.out.chg HC1.out (by simp)) hl (fun f hf => ⟨(HF.out f hf).1.1.chg HC1.out (by simp), (HF.out f hf).1.2⟩)).mono ?_
  rintro e w2 ⟨G, rfl, hc2, hG⟩
  have HC2 := Lib.hid (HC1.out.trans hc2)
  have HK2 := Lib.hid (HK1.out.trans hc2)
  have HG := Lib.hid hG
  clear z0 z1 z2 z3 z4 z5 z6 z7 z8 z9 z10 y0 y1 y2 y3 hc2 HC1 HK1 hG
  obtain ⟨⟨z0, z1, z2, z3, z4, z5, z6, z7, z8, z9, z10⟩, y0, y1, y2, y3⟩ := HCE.out w2 HK2.out
  cases G with
  | true =>
    go_wp2
    go_ret
    exact ⟨rfl, HC2.out⟩
  | false =>
  go_wp2_with fail
  refine (ref03_good w2 pn pd).mono ?_
  rintro e w3 ⟨rfl, hc3⟩
  have HC3 := Lib.hid (HC2.out.trans hc3)
  have HK3 := Lib.hid (HK2.out.trans hc3)
  clear z0 z1 z2 z3 z4 z5 z6 z7 z8 z9 z10 y0 y1 y2 y3 hc3 HC2 HK2
  obtain ⟨⟨z0, z1, z2, z3, z4, z5, z6, z7, z8, z9, z10⟩, y0, y1, y2, y3⟩ := HCE.out w3 HK3.out
  obtain ⟨gp, hgp⟩ : ∃ b, b = goodR pn pd := ⟨_, rfl⟩
  rw [← hgp]
  have HGP := Lib.hid hgp
  clear hgp
  cases gp with
  | false =>
    go_wp2
    go_ret
    exact ⟨rfl, HC3.out⟩
  | true =>
  go_wp2_with fail
  refine (ref03_good w3 qn qd).mono ?_
  rintro e w4 ⟨rfl, hc4⟩
  have HC4 := Lib.hid (HC3.out.trans hc4)
  have HK4 := Lib.hid (HK3.out.trans hc4)
  clear z0 z1 z2 z3 z4 z5 z6 z7 z8 z9 z10 y0 y1 y2 y3 hc4 HC3 HK3
  obtain ⟨⟨z0, z1, z2, z3, z4, z5, z6, z7, z8, z9, z10⟩, y0, y1, y2, y3⟩ := HCE.out w4 HK4.out
  obtain ⟨gq, hgq⟩ : ∃ b, b = goodR qn qd := ⟨_, rfl⟩
  rw [← hgq]
  have HGQ := Lib.hid hgq
  clear hgq
  cases gq with
  | false =>
    go_wp2
    go_ret
    exact ⟨rfl, HC4.out⟩
  | true =>
  by_cases hk : c.kind = 6
  case neg =>
    have e5 : (c.kind != 6) = true := by rw [bne_iff_ne]; exact hk
    clear hk
    go_wp2
    go_ret
    exact ⟨rfl, HC4.out⟩
  case pos =>
  have e5 : (c.kind != 6) = false := by rw [hk]; rfl
  have HK := Lib.hid hk
  have HPL := Lib.hid (HG.out (by first | rfl | trivial))
  have hlfs : ∀ u, Chg [] w u → Lfs u fs := fun u hu => ⟨fun f hf => (HF.out f hf).1.1.chg hu (by simp), fun f hf => (HPL.out.each f hf).1, fun f hf v hv => ⟨(HF.out f hf).2 v hv, (HPL.out.each f hf).2 v hv⟩⟩
  have HLF := Lib.hid hlfs
  have hn12 : n ≤ 12 := by have h1 := HPL.out.few; have h2 := HN.out; omega
  clear hk hlfs
  by_cases hex : ∃ most, LmC c most
  case neg =>
    have hno : ∀ u, Calls Tryz.prog 26 #[c.val] u fun e w' => ∃ k : Int, k ≠ 0 ∧ e = .returned (.tuple #[.pointer none, .int .i64 k]) ∧ Chg [] u w' := fun u => (lm_new u c HK.out).mono (by
      rintro e w' (h | ⟨most, s, F, h, -⟩)
      · exact h
      · exact absurd ⟨most, h⟩ hex)
    obtain ⟨K, hKP⟩ : ∃ K : Kd c, ∀ u s F B m, ¬ K.P u s F B m := ⟨kdNone c hno, fun _ _ _ _ _ h => h⟩
    have HTR := Lib.hid (tree_K c K w4 lo lc n fs HN.out hn12 (HR.out.chg HC4.out (by simp)) (HLF.out _ HC4.out) po pc np ps HNP.out (HRP.out.chg HC4.out (by simp)) hlp)
    clear hno hex
    simp only [Cf.val, Cf.cells] at HTR
    go_wp2_with fail
    refine HTR.out.mono ?_
    rintro e w5 ⟨sv, av, nv, cv, ok, rfl, hc5, hok⟩
    have hf : ok = false := by
      cases ok with
      | false => rfl
      | true => obtain ⟨s, F, m, -, -, -, -, h, -⟩ := hok rfl; exact absurd h (hKP _ _ _ _ _)
    subst hf
    have HC5 := Lib.hid (HC4.out.trans hc5)
    clear hok hc5 HTR z0 z1 z2 z3 z4 z5 z6 z7 z8 z9 z10 y0 y1 y2 y3
    go_wp2
    go_ret
    exact ⟨rfl, HC5.out⟩
  case pos =>
  obtain ⟨most, hrc⟩ := hex
  obtain ⟨K, hKP⟩ : ∃ K : Kd c, K.P = LmP c most := ⟨kdLump c most hrc, rfl⟩
  have HTR := Lib.hid (tree_K c K w4 lo lc n fs HN.out hn12 (HR.out.chg HC4.out (by simp)) (HLF.out _ HC4.out) po pc np ps HNP.out (HRP.out.chg HC4.out (by simp)) hlp)
  have HWI := Lib.hid (show c.most = (most : Int) from by rw [hrc.eq])
  have HRC := Lib.hid hrc
  clear hrc
  simp only [Cf.val, Cf.cells] at HTR
  go_wp2_with fail
  refine HTR.out.mono ?_
  rintro e w5 ⟨sv, av, nv, cv, ok, rfl, hc5, hok⟩
  have HC5 := Lib.hid (HC4.out.trans hc5)
  have HK5 := Lib.hid (HK4.out.trans hc5)
  clear hc5 HTR z0 z1 z2 z3 z4 z5 z6 z7 z8 z9 z10 y0 y1 y2 y3 HC4 HK4
  cases ok with
  | false =>
    clear hok
    go_wp2
    go_ret
    exact ⟨rfl, HC5.out⟩
  | true =>
  obtain ⟨s, F, m, rfl, rfl, hm360, hmok, hP, hrd⟩ := hok rfl
  have hP' : LmP c most w5 s F 7968 m := by rw [hKP] at hP; exact hP
  have hsum : sumS m ≤ 8000 := by
    obtain ⟨p, rv, D, -, -, -, -, -, h, -⟩ := hP'
    omega
  have HRD := Lib.hid hrd
  have HM3 := Lib.hid hm360
  have HSUM := Lib.hid hsum
  obtain ⟨D, hDok, hof, hrank⟩ := lm_rank c most w5 s F 7968 m hP' x
  obtain ⟨D2, hD2ok, hof2, hquant⟩ := lm_quant c most w5 s F 7968 m hP'
  have HRK := Lib.hid hrank
  have HQU := Lib.hid hquant
  have HO1 := Lib.hid (hof.fit x)
  have HO2 := Lib.hid (And.intro hD2ok hof2)
  clear hok hP hP' hrd hmok hrank hquant hof hof2 hDok hD2ok hm360 hsum
  generalize rankLoL D.l x = r1 at *
  generalize rankHiL D.l x = r2 at *
  go_wp2_with fail
  refine HRK.out.mono ?_
  rintro e w6 ⟨rfl, hc6⟩
  have HC6 := Lib.hid hc6
  clear hc6 HRK
  obtain ⟨u, hu⟩ : ∃ u, u = upS x m := ⟨_, rfl⟩
  have HUP := Lib.hid (ref13_up w6 av cv m.length m rfl (HRD.out.chg HC6.out (by simp)) (by have := HM3.out; omega) (by have := HSUM.out; omega) x u hu)
  have HO1' := HO1.out
  rw [← hu] at HO1'
  obtain ⟨hr1, hr2⟩ := HO1'
  clear HO1 hu
  go_wp2_with fail
  refine HUP.out.mono ?_
  rintro e w7 ⟨rfl, hc7⟩
  have HC7 := Lib.hid (HC6.out.trans hc7)
  have d1 : decide ((u : Int) < (r1 : Int)) = false := decide_eq_false (by omega)
  have d1' : decide (u < r1) = false := decide_eq_false (by omega)
  have d2 : decide ((r2 : Int) < (u : Int)) = false := decide_eq_false (by omega)
  have d2' : decide (r2 < u) = false := decide_eq_false (by omega)
  clear hc7 HUP HC6 hr1 hr2
  obtain ⟨N, hN⟩ : ∃ N, N = m.length := ⟨_, rfl⟩
  rw [← hN]
  have HNM := Lib.hid hN
  clear hN
  by_cases hz : N = 0
  · have dz : ((N : Int) == 0) = true := by rw [beq_iff_eq]; omega
    clear hz
    go_wp2
    go_ret
    exact ⟨rfl, HC5.out.trans HC7.out⟩
  have dz : ((N : Int) == 0) = false := by rw [beq_eq_false_iff_ne]; omega
  have hne : m ≠ [] := fun e => hz (by rw [HNM.out, e]; rfl)
  have HNE := Lib.hid hne
  obtain ⟨T, hT⟩ : ∃ T, T = totL D2.l := ⟨_, rfl⟩
  have hT0 : 0 < T := by
    have h1 := HO2.out.2
    have hl : D2.l ≠ [] := fun e => hne (h1.nil.1 e)
    obtain ⟨p, r, hpr⟩ := List.exists_cons_of_ne_nil hl
    have h2 := h1.pos p (by rw [hpr]; simp)
    rw [hT, hpr, totL_cons]
    omega
  have HE := Lib.hid (fun (a b : Nat) (hg : true = goodR a b) => show placeE a b T = 0 from by unfold placeE; rw [← hg, if_pos rfl, if_neg (by omega)])
  rw [← hT] at HQU
  have HQA := Lib.hid (fun u (hu : Chg [] w5 u) => HQU.out u hu pn pd HPQ.out.1 HPQ.out.2.1)
  have HQB := Lib.hid (fun u (hu : Chg [] w5 u) => HQU.out u hu qn qd HPQ.out.2.2.1 HPQ.out.2.2.2)
  rw [HE.out pn pd HGP.out, if_pos rfl] at HQA
  rw [HE.out qn qd HGQ.out, if_pos rfl] at HQB
  obtain ⟨va, hva⟩ : ∃ v, v = quantL D2.l (placeT pn pd T) := ⟨_, rfl⟩
  obtain ⟨vb, hvb⟩ : ∃ v, v = quantL D2.l (placeT qn qd T) := ⟨_, rfl⟩
  rw [← hva] at HQA
  rw [← hvb] at HQB
  have HAB := Lib.hid (show loV m ≤ va ∧ va ≤ hiV m ∧ (pn * qd < qn * pd → va ≤ vb) from by
    have h1 := HO2.out.2.between hne (placeT pn pd T)
    refine ⟨by rw [hva]; exact h1.1, by rw [hva]; exact h1.2, fun h => ?_⟩
    rw [hva, hvb]
    exact quantL_mono (placeT_mono (HE.out pn pd HGP.out) (HE.out qn qd HGQ.out) (by omega)) D2.l)
  clear hT hva hvb hz hne HQU hT0
  obtain ⟨⟨z0, z1, z2, z3, z4, z5, z6, z7, z8, z9, z10⟩, y0, y1, y2, y3⟩ := HCE.out w7 (HK5.out.trans HC7.out)
  go_wp2_with fail
  refine (HQA.out _ HC7.out).mono ?_
  rintro e w8 ⟨rfl, hc8⟩
  have HC8 := Lib.hid (HC7.out.trans hc8)
  clear z0 z1 z2 z3 z4 z5 z6 z7 z8 z9 z10 y0 y1 y2 y3 hc8 HC7 HQA
  obtain ⟨⟨z0, z1, z2, z3, z4, z5, z6, z7, z8, z9, z10⟩, y0, y1, y2, y3⟩ := HCE.out w8 (HK5.out.trans HC8.out)
  go_wp2_with fail
  refine (HQB.out _ HC8.out).mono ?_
  rintro e w9 ⟨rfl, hc9⟩
  have HC9 := Lib.hid (HC8.out.trans hc9)
  clear z0 z1 z2 z3 z4 z5 z6 z7 z8 z9 z10 y0 y1 y2 y3 hc9 HC8 HQB
  obtain ⟨lv, hlv⟩ : ∃ v, v = loV m := ⟨_, rfl⟩
  obtain ⟨hv, hhv⟩ : ∃ v, v = hiV m := ⟨_, rfl⟩
  have HEN := Lib.hid (ref14_ends w9 av cv N m HNM.out (by rw [HNM.out]; exact HRD.out.chg HC9.out (by simp)) (by have h1 := HM3.out; have h2 := HNM.out; omega) lv hv true hlv hhv (decide_eq_true HNE.out).symm)
  have HAB' := HAB.out
  rw [← hlv, ← hhv] at HAB'
  obtain ⟨a1, a2, a3⟩ := HAB'
  have HA3 := Lib.hid a3
  clear hlv hhv HAB a3
  go_wp2_with fail
  refine HEN.out.mono ?_
  rintro e w10 ⟨rfl, hc10⟩
  have HC10 := Lib.hid (HC9.out.trans hc10)
  have d3 : decide (va < lv) = false := decide_eq_false (by omega)
  have d4 : decide (hv < va) = false := decide_eq_false (by omega)
  obtain ⟨B, hB⟩ : ∃ B, B = decide (pn * qd < qn * pd) := ⟨_, rfl⟩
  have gd : 0 < pd ∧ 0 < qd := by
    have h1 := HGP.out
    have h2 := HGQ.out
    simp [goodR] at h1 h2
    omega
  have HFW := Lib.hid (fun u => ref01_fewer u pn pd qn qd HPQ.out.1 HPQ.out.2.1 HPQ.out.2.2.1 HPQ.out.2.2.2 gd.1 gd.2 B hB)
  have HBB := Lib.hid (show B = true → va ≤ vb from fun h => HA3.out (of_decide_eq_true (by rw [← hB]; exact h)))
  clear hc10 HC9 HEN hB gd a1 a2
  obtain ⟨⟨z0, z1, z2, z3, z4, z5, z6, z7, z8, z9, z10⟩, y0, y1, y2, y3⟩ := HCE.out w10 (HK5.out.trans HC10.out)
  go_wp2_with fail
  refine (HFW.out w10).mono ?_
  rintro e w11 ⟨rfl, hc11⟩
  have HC11 := Lib.hid (HC10.out.trans hc11)
  have HX := Lib.hid (show ∃ b : Bool, (B && decide (vb < va)) = b ∧ b = false from ⟨_, rfl, by
    cases hBB : B with
    | false => rfl
    | true => have := HBB.out hBB; rw [Bool.true_and]; exact decide_eq_false (by omega)⟩)
  clear z0 z1 z2 z3 z4 z5 z6 z7 z8 z9 z10 y0 y1 y2 y3 hc11 HC10 HFW
  obtain ⟨⟨z0, z1, z2, z3, z4, z5, z6, z7, z8, z9, z10⟩, y0, y1, y2, y3⟩ := HCE.out w11 (HK5.out.trans HC11.out)
  rw [HWI.out] at z4
  have HNW := Lib.hid (fun u => lump_new u (most : Int))
  clear z0 z1 z2 z3 z5 z6 z7 z8 z9 z10 y0 y1 y2 y3
  cases B with
  | false =>
    go_wp2_with fail
    refine (HNW.out w11).mono ?_
    rintro e w12 (⟨hno, -⟩ | ⟨-, p, rfl, hL, hc12, -⟩)
    · exact absurd ⟨by have := HRC.out.m1; omega, by have := HRC.out.m2; omega⟩ hno
    have HC12 := Lib.hid (HC11.out.trans hc12)
    have HL := Lib.hid hL
    clear hL hc12 z4 HNW
    obtain ⟨⟨z0, z1, z2, z3, z4, z5, z6, z7, z8, z9, z10⟩, y0, y1, y2, y3⟩ := HCE.out w12 (HK5.out.trans HC12.out)
    rw [HWI.out] at z4
    clear z0 z1 z2 z3 z5 z6 z7 z8 z9 z10 y0 y1 y2 y3
    have dm : ((most : Int) == (most : Int)) = true := by simp
    go_wp2_with fail
    have hSS : w12.drew.cell? ⟨q, 4, none⟩ = some (.int .i64 (most : Nat)) := z4
    refine startN (S := fun wx => wx.cell? ⟨q, 4, none⟩ = some (.int .i64 (most : Nat))) (by kernel_rfl) hSS (fun hHeld => ?_)
    refine takeN (i := 0) (v := ?va0) rfl (by kernel_rfl) (by kernel_rfl) (by kernel_rfl) (fun _ _ _ h => h) (Or.inl ⟨by rfl, ?ya0⟩) hSS ?ra0
    case ya0 => (intro w hSw; (try dsimp only at hSw); go_simp; first | done | with_reducible rfl)
    try simp only [Act.put, List.setIfInBounds_toArray, List.set_cons_zero, List.set_cons_succ]
    refine takeN (i := 1) (v := ?va1) rfl (by kernel_rfl) (by kernel_rfl) (by kernel_rfl) (fun _ _ _ h => h) (Or.inl ⟨by rfl, ?ya1⟩) hSS ?ra1
    case ya1 => (intro w hSw; (try dsimp only at hSw); go_simp; first | done | with_reducible rfl)
    try simp only [Act.put, List.setIfInBounds_toArray, List.set_cons_zero, List.set_cons_succ]
    refine takeN (i := 2) (v := ?va2) rfl (by kernel_rfl) (by kernel_rfl) (by kernel_rfl) (fun _ _ _ h => h) (Or.inl ⟨by rfl, ?ya2⟩) hSS ?ra2
    case ya2 => (intro w hSw; (try dsimp only at hSw); go_simp; first | done | with_reducible rfl)
    try simp only [Act.put, List.setIfInBounds_toArray, List.set_cons_zero, List.set_cons_succ]
    refine takeN (i := 3) (v := ?va3) rfl (by kernel_rfl) (by kernel_rfl) (by kernel_rfl) (fun _ _ _ h => h) (Or.inl ⟨by rfl, ?ya3⟩) hSS ?ra3
    case ya3 => (intro w hSw; (try dsimp only at hSw); go_simp; first | done | with_reducible rfl)
    try simp only [Act.put, List.setIfInBounds_toArray, List.set_cons_zero, List.set_cons_succ]
    refine takeN (i := 5) (v := ?va5) rfl (by kernel_rfl) (by kernel_rfl) (by kernel_rfl) (fun _ _ _ h => h) (Or.inl ⟨by rfl, ?ya5⟩) hSS ?ra5
    case ya5 => (intro w hSw; (try dsimp only at hSw); go_simp; first | done | with_reducible rfl)
    try simp only [Act.put, List.setIfInBounds_toArray, List.set_cons_zero, List.set_cons_succ]
    refine takeN (i := 6) (v := ?va6) rfl (by kernel_rfl) (by kernel_rfl) (by kernel_rfl) (fun _ _ _ h => h) (Or.inl ⟨by rfl, ?ya6⟩) hSS ?ra6
    case ya6 => (intro w hSw; (try dsimp only at hSw); go_simp; first | done | with_reducible rfl)
    try simp only [Act.put, List.setIfInBounds_toArray, List.set_cons_zero, List.set_cons_succ]
    refine readyN (rs := [4]) (by kernel_rfl) (by simp) (consN rfl (fun K hK => ?_) nilN)
    refine step_callsG (by rfl) 21 _ _ rfl enters_lmost _ #[.pointer (some ⟨p, 0, none⟩)] (by simp [Act.eval]) (lump_most _ p _ _ _ _ (HL.out.chg (Chg.refl [] w12).drew (by simp))) ?_; rintro e w13 ⟨rfl, hc⟩; refine ⟨_, rfl, ?_⟩
    have HC13 := Lib.hid (HC12.out.trans ((Chg.refl [] w12).drew.trans hc))
    have hS13 : w13.cell? ⟨q, 4, none⟩ = some (.int .i64 (most : Nat)) := hc.cell z4 (by simp)
    clear hc
    refine hK.out _ _ hS13 (fun hHeld => ?_)
    clear hK K hHeld
    try simp only [Act.put, List.setIfInBounds_toArray, List.set_cons_zero, List.set_cons_succ]
    refine takeN (i := 7) (v := ?va7) rfl (by kernel_rfl) (by kernel_rfl) (by kernel_rfl) (fun _ _ _ h => h) (Or.inl ⟨by rfl, ?ya7⟩) hS13 ?ra7
    case ya7 => (intro w hSw; (try dsimp only at hSw); go_simp; first | done | with_reducible rfl)
    try simp only [Act.put, List.setIfInBounds_toArray, List.set_cons_zero, List.set_cons_succ]
    refine takeN (i := 8) (v := ?va8) rfl (by kernel_rfl) (by kernel_rfl) (by kernel_rfl) (fun _ _ _ h => h) (Or.inl ⟨by rfl, ?ya8⟩) hS13 ?ra8
    case ya8 => (intro w hSw; (try dsimp only at hSw); go_simp; first | done | with_reducible rfl)
    try simp only [Act.put, List.setIfInBounds_toArray, List.set_cons_zero, List.set_cons_succ]
    refine takeN (i := 9) (v := ?va9) rfl (by kernel_rfl) (by kernel_rfl) (by kernel_rfl) (fun _ _ _ h => h) (Or.inl ⟨by rfl, ?ya9⟩) hS13 ?ra9
    case ya9 => (intro w hSw; (try dsimp only at hSw); go_simp; first | done | with_reducible rfl)
    try simp only [Act.put, List.setIfInBounds_toArray, List.set_cons_zero, List.set_cons_succ]
    refine doneN (by kernel_rfl) ?_ _
    go_wp2_with fail
    go_ret
    exact ⟨by simp, HC5.out.trans HC13.out⟩
  | true =>
    have d5 : decide (vb < va) = false := decide_eq_false (by have := HBB.out rfl; omega)
    go_wp2_with fail
    refine (HNW.out w11).mono ?_
    rintro e w12 (⟨hno, -⟩ | ⟨-, p, rfl, hL, hc12, -⟩)
    · exact absurd ⟨by have := HRC.out.m1; omega, by have := HRC.out.m2; omega⟩ hno
    have HC12 := Lib.hid (HC11.out.trans hc12)
    have HL := Lib.hid hL
    clear hL hc12 z4 HNW
    obtain ⟨⟨z0, z1, z2, z3, z4, z5, z6, z7, z8, z9, z10⟩, y0, y1, y2, y3⟩ := HCE.out w12 (HK5.out.trans HC12.out)
    rw [HWI.out] at z4
    clear z0 z1 z2 z3 z5 z6 z7 z8 z9 z10 y0 y1 y2 y3
    have dm : ((most : Int) == (most : Int)) = true := by simp
    go_wp2_with fail
    have hSS : w12.drew.cell? ⟨q, 4, none⟩ = some (.int .i64 (most : Nat)) := z4
    refine startN (S := fun wx => wx.cell? ⟨q, 4, none⟩ = some (.int .i64 (most : Nat))) (by kernel_rfl) hSS (fun hHeld => ?_)
    refine takeN (i := 0) (v := ?vb0) rfl (by kernel_rfl) (by kernel_rfl) (by kernel_rfl) (fun _ _ _ h => h) (Or.inl ⟨by rfl, ?yb0⟩) hSS ?rb0
    case yb0 => (intro w hSw; (try dsimp only at hSw); go_simp; first | done | with_reducible rfl)
    try simp only [Act.put, List.setIfInBounds_toArray, List.set_cons_zero, List.set_cons_succ]
    refine takeN (i := 1) (v := ?vb1) rfl (by kernel_rfl) (by kernel_rfl) (by kernel_rfl) (fun _ _ _ h => h) (Or.inl ⟨by rfl, ?yb1⟩) hSS ?rb1
    case yb1 => (intro w hSw; (try dsimp only at hSw); go_simp; first | done | with_reducible rfl)
    try simp only [Act.put, List.setIfInBounds_toArray, List.set_cons_zero, List.set_cons_succ]
    refine takeN (i := 2) (v := ?vb2) rfl (by kernel_rfl) (by kernel_rfl) (by kernel_rfl) (fun _ _ _ h => h) (Or.inl ⟨by rfl, ?yb2⟩) hSS ?rb2
    case yb2 => (intro w hSw; (try dsimp only at hSw); go_simp; first | done | with_reducible rfl)
    try simp only [Act.put, List.setIfInBounds_toArray, List.set_cons_zero, List.set_cons_succ]
    refine takeN (i := 3) (v := ?vb3) rfl (by kernel_rfl) (by kernel_rfl) (by kernel_rfl) (fun _ _ _ h => h) (Or.inl ⟨by rfl, ?yb3⟩) hSS ?rb3
    case yb3 => (intro w hSw; (try dsimp only at hSw); go_simp; first | done | with_reducible rfl)
    try simp only [Act.put, List.setIfInBounds_toArray, List.set_cons_zero, List.set_cons_succ]
    refine takeN (i := 5) (v := ?vb5) rfl (by kernel_rfl) (by kernel_rfl) (by kernel_rfl) (fun _ _ _ h => h) (Or.inl ⟨by rfl, ?yb5⟩) hSS ?rb5
    case yb5 => (intro w hSw; (try dsimp only at hSw); go_simp; first | done | with_reducible rfl)
    try simp only [Act.put, List.setIfInBounds_toArray, List.set_cons_zero, List.set_cons_succ]
    refine takeN (i := 6) (v := ?vb6) rfl (by kernel_rfl) (by kernel_rfl) (by kernel_rfl) (fun _ _ _ h => h) (Or.inl ⟨by rfl, ?yb6⟩) hSS ?rb6
    case yb6 => (intro w hSw; (try dsimp only at hSw); go_simp; first | done | with_reducible rfl)
    try simp only [Act.put, List.setIfInBounds_toArray, List.set_cons_zero, List.set_cons_succ]
    refine readyN (rs := [4]) (by kernel_rfl) (by simp) (consN rfl (fun K hK => ?_) nilN)
    refine step_callsG (by rfl) 21 _ _ rfl enters_lmost _ #[.pointer (some ⟨p, 0, none⟩)] (by simp [Act.eval]) (lump_most _ p _ _ _ _ (HL.out.chg (Chg.refl [] w12).drew (by simp))) ?_; rintro e w13 ⟨rfl, hc⟩; refine ⟨_, rfl, ?_⟩
    have HC13 := Lib.hid (HC12.out.trans ((Chg.refl [] w12).drew.trans hc))
    have hS13 : w13.cell? ⟨q, 4, none⟩ = some (.int .i64 (most : Nat)) := hc.cell z4 (by simp)
    clear hc
    refine hK.out _ _ hS13 (fun hHeld => ?_)
    clear hK K hHeld
    try simp only [Act.put, List.setIfInBounds_toArray, List.set_cons_zero, List.set_cons_succ]
    refine takeN (i := 7) (v := ?vb7) rfl (by kernel_rfl) (by kernel_rfl) (by kernel_rfl) (fun _ _ _ h => h) (Or.inl ⟨by rfl, ?yb7⟩) hS13 ?rb7
    case yb7 => (intro w hSw; (try dsimp only at hSw); go_simp; first | done | with_reducible rfl)
    try simp only [Act.put, List.setIfInBounds_toArray, List.set_cons_zero, List.set_cons_succ]
    refine takeN (i := 8) (v := ?vb8) rfl (by kernel_rfl) (by kernel_rfl) (by kernel_rfl) (fun _ _ _ h => h) (Or.inl ⟨by rfl, ?yb8⟩) hS13 ?rb8
    case yb8 => (intro w hSw; (try dsimp only at hSw); go_simp; first | done | with_reducible rfl)
    try simp only [Act.put, List.setIfInBounds_toArray, List.set_cons_zero, List.set_cons_succ]
    refine takeN (i := 9) (v := ?vb9) rfl (by kernel_rfl) (by kernel_rfl) (by kernel_rfl) (fun _ _ _ h => h) (Or.inl ⟨by rfl, ?yb9⟩) hS13 ?rb9
    case yb9 => (intro w hSw; (try dsimp only at hSw); go_simp; first | done | with_reducible rfl)
    try simp only [Act.put, List.setIfInBounds_toArray, List.set_cons_zero, List.set_cons_succ]
    refine doneN (by kernel_rfl) ?_ _
    go_wp2_with fail
    go_ret
    exact ⟨by simp, HC5.out.trans HC13.out⟩
end Go.Proofs.YtlcoibhbdgdfcaaGreatDoor
