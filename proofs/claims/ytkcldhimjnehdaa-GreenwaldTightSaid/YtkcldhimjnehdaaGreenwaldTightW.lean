/-
  The walk of the law GreenwaldTight. Conditions: the form's own reach.
-/
import Derived.Test.YtkcldhimjnehdaaGkBuild
import Derived.Test.YtkcldhimjnehdaaTupFineGood
namespace Go.Proofs.Ytkcldhimjnehdaa
open Go.RowKit

theorem enters_rtimes : ∀ (args : Array Value) (w : World), (callFunc 13 args).run Try.prog w = .ok (.enter 13 args) w := enters_of Try.func13 (by kernel_rfl) rfl
theorem enters_rover : ∀ (args : Array Value) (w : World), (callFunc 12 args).run Try.prog w = .ok (.enter 12 args) w := enters_of Try.func12 (by kernel_rfl) rfl
/-- What Over tells of Times: the limit. -/
theorem over_lim (num den n : Nat) (hg : goodK num den = true) (hn : n < 18446744073709551616) :
    overV (2 * num * n) den = .tuple #[.int .u64 ((2 * num * n / den : Nat) : Int), .int .u64 ((2 * num * n % den : Nat) : Int), .bool true] := by
  obtain ⟨g1, g2, g3⟩ := goodK_of hg
  have hND : 2 * num * n ≤ den * n := Nat.mul_le_mul_right n (by omega)
  have hD64 : den * n < den * 18446744073709551616 := Nat.mul_lt_mul_of_pos_left hn (by omega)
  exact if_pos (by omega)
theorem times_lim (num den n N : Nat) (hg : goodK num den = true) (hn : n < 18446744073709551616) (hN : N = 2 * num * n) : N / 18446744073709551616 < 18446744073709551616 := by
  obtain ⟨g1, g2, g3⟩ := goodK_of hg
  have hND : N ≤ den * n := by rw [hN]; exact Nat.mul_le_mul_right n (by omega)
  have hD64 : den * n < den * 18446744073709551616 := Nat.mul_lt_mul_of_pos_left hn (by omega)
  have : N < 18446744073709551616 * 18446744073709551616 := Nat.lt_of_le_of_lt hND (Nat.lt_of_lt_of_le hD64 (Nat.mul_le_mul_right _ (by omega)))
  omega
set_option maxRecDepth 100000 in
set_option maxHeartbeats 8000000 in
theorem law_GreenwaldTight (w : World) (num den : Nat) (_hnum : num < 18446744073709551616) (_hden : den < 18446744073709551616) (ao : Option Addr) (ca : Nat) (a : List Vl) (hra : Rd w 2 (.slice ao a.length ca) a.length (vlCells a)) (hla : a.length ≤ 140737488351232) (hka : ∀ i ∈ a, i.ok) :
    Calls Try.prog 5 #[.agg #[.int .u64 (num : Nat), .int .u64 (den : Nat)], .slice ao a.length ca] w fun e w' => e = .returned (.bool true) ∧ Chg [] w w' := by
  have HAL := Lib.hid law19_alive
  have hB0 := Blk.alloc_new w #[.int .u64 num, .int .u64 den] 25
  have hC0 := (Chg.refl [] w).alloc (.cells #[.int .u64 num, .int .u64 den] 25)
  have HKA := Lib.hid hka
  have HRA := Lib.hid hra
  obtain ⟨n, hn⟩ : ∃ n, n = a.length := ⟨_, rfl⟩
  rw [← hn] at HRA hla ⊢
  have HN := Lib.hid hn
  clear hka hra hn _hnum _hden
  go_enter Try.func5, Try.ntmps5
  go_wp2_with fail
  refine (HAL.out _).mono ?_
  rintro e w1 ⟨rfl, hc1⟩
  obtain ⟨b0, hb0⟩ : ∃ z, z = w.heap.size := ⟨_, rfl⟩
  have hB1 := hB0.chg hc1 (by simp)
  have HC1 := Lib.hid (hC0.trans' hc1 (by simp))
  rw [← hb0] at hB1 ⊢
  have x0 := hB1.cell 0
  have x1 := hB1.cell 1
  simp only [List.getElem?_toArray, List.getElem?_cons_zero, List.getElem?_cons_succ] at x0 x1
  have HB1 := Lib.hid hB1
  have HBL := Lib.hid hB1.lt
  clear hB0 hC0 hc1 HAL hb0 hB1
  have HBA := Lib.hid (law19_build w1 num den ao ca n a HN.out (HRA.out.chg HC1.out (by simp)) hla (fun v hv => (HKA.out v hv).2.2))
  go_wp2_with fail
  refine HBA.out.mono ?_
  rintro e w2 (⟨hbad, rfl, hc2⟩ | ⟨hok, p, rv, wv, q, sv, yv, rfl, -, -, hc2, -, -, -⟩)
  · go_wp2
    go_ret
    exact ⟨rfl, HC1.out.trans hc2⟩
  · have hB2 := HB1.out.chg hc2 (by simp)
    have HC2 := Lib.hid (HC1.out.trans hc2)
    have x0' := hB2.cell 0
    have x1' := hB2.cell 1
    simp only [List.getElem?_toArray, List.getElem?_cons_zero, List.getElem?_cons_succ] at x0' x1'
    have HB2 := Lib.hid hB2
    have HG := Lib.hid hok.2.2.2
    have HS := Lib.hid hok.2.2.1
    have HA := Lib.hid hok.1
    have HNEW := Lib.hid (fun w => gk_new w num den HG.out)
    have HBL2 := Lib.hid hB2.lt
    clear hc2 hB2 hok x0 x1 HBA
    go_wp2_with fail
    refine (HNEW.out _).mono ?_
    rintro e w3 ⟨s, rfl, ht, hc, hf⟩
    have HT3 := Lib.hid ht
    have HC3 := Lib.hid (HC2.out.trans hc)
    have HF3 := Lib.hid (show ∀ b ∈ fpK s (.slice none 0 0) (.slice none 0 0), w.heap.size ≤ b from fun b hb => by simp [fpK, blkOf] at hb; subst hb; exact Nat.le_trans HC2.out.size hf)
    have HB3 := Lib.hid (HB2.out.chg hc (by simp))
    have HX3 := Lib.hid (show b0 ∉ fpK s (.slice none 0 0) (.slice none 0 0) from fun hb => by simp [fpK, blkOf] at hb; subst hb; have := HBL2.out; omega)
    clear ht hc hf x0' x1'
    go_wp2
    go_loopw [41] (fun i wx => ∃ (j : Nat) (rv' : Value) (wv' : Value), j ≤ n ∧ i = .int .i64 (j : Nat) ∧ Gk wx s rv' wv' (valsG num den (a.take j)) ∧ Chg [] w wx ∧ Hid (Chg [] w3 wx ∨ True) ∧ Hid (∀ b ∈ fpK s rv' wv', w.heap.size ≤ b) ∧ Hid (b0 ∉ fpK s rv' wv') ∧ Hid (Blk wx b0 #[.int .u64 num, .int .u64 den] 25)) (fun i _ => n - (intOf i).toNat)
    case atStart => exact ⟨0, _, _, Nat.zero_le _, rfl, HT3.out, HC3.out, Lib.hid (.inr trivial), HF3, HX3, HB3⟩
    case round =>
      obtain ⟨j, rv', wv', hj, rfl, ht', hch, -, HF, HX, HB⟩ := hrel
      by_cases hlt : j < n
      · have hkl : j < a.length := by have := HN.out; omega
        obtain ⟨b, o, rfl, hc⟩ := (HRA.out.chg hch (by simp)).addr (by omega)
        obtain ⟨c0, c1⟩ := vl_at (l := a) (fun j hj => hc j (by rw [HN.out]; exact hj)) hkl
        have HT := Lib.hid (GkD.vals_take (GkD.new num den) a j hkl)
        have HSJ := Lib.hid (sumS_take a j hkl)
        have HSL := Lib.hid (sumS_take_le a (j + 1))
        have HVM := Lib.hid (show a[j] ∈ a from List.getElem_mem _)
        have hv := HA.out _ HVM.out
        have HOK := Lib.hid (valsG_ok num den (a.take j))
        have HSM := Lib.hid (valsG_same num den (a.take j))
        generalize a[j] = v at *
        obtain ⟨D, hD⟩ : ∃ D, D = valsG num den (a.take j) := ⟨_, rfl⟩
        rw [← hD] at ht' HOK HSM
        have HT := Lib.hid (show valsG num den (a.take (j + 1)) = D.putN v.x v.n from by rw [hD]; exact HT.out)
        clear hc hD
        have hsum : D.total + v.n ≤ 150 := by have h1 := HSJ.out; have h2 := HSL.out; have h3 := HS.out; have h4 := HSM.out.2.2; omega
        have hgd : goodK D.num D.den = true := by rw [HSM.out.1, HSM.out.2.1]; exact HG.out
        have HO2 := Lib.hid (GkD.putN_ok HOK.out v.x v.n)
        have HS2 := Lib.hid (D.putN_same v.x v.n)
        have HT1 := Lib.hid (ht'.chg ((Chg.refl [] wr).alloc (.cells #[.int .i64 v.x, .int .u64 v.n] 59)) (by simp))
        have HC1' := Lib.hid (hch.alloc (.cells #[.int .i64 v.x, .int .u64 v.n] 59))
        have HB1' := Lib.hid (HB.out.chg ((Chg.refl [] wr).alloc (.cells #[.int .i64 v.x, .int .u64 v.n] 59)) (by simp))
        have HPUT := Lib.hid (fun u (h : Gk u s rv' wv' D) => gk_put u s rv' wv' D h HOK.out hgd v.x v.n hv.1 (by omega) (by omega))
        have hv1 := hv.1
        have hv2 := hv.2
        have htt := HS2.out.2.2
        have htl : (D.putN v.x v.n).total ≤ 150 := by omega
        generalize D.putN v.x v.n = E at *
        clear ht' hch hsum hgd hv htt
        go_wp2_with fail
        generalize wr.alloc (.cells #[.int .i64 v.x, .int .u64 v.n] 59) = w4 at *
        refine (HPUT.out _ HT1.out).mono ?_
        rintro e w5 ⟨rfl, rv2, wv2, ht2, hm2⟩
        obtain ⟨k1, k2, k3⟩ := two_left HC1'.out HF.out (B := [b0]) (by simp; exact HB1'.out.lt) (fun b hb hb2 => by simp at hb2; subst hb2; exact HX.out hb) hm2
        have HB5 := Lib.hid (HB1'.out.chg hm2.chg (fun e => HX.out e))
        have HX5 := Lib.hid (show b0 ∉ fpK s rv2 wv2 from fun h => k3 _ h (by simp))
        have hvl : E.vals.length + E.waits.length ≤ 150 := htl
        have hrl := HO2.out.len
        obtain ⟨rn, hrn⟩ : ∃ z, z = E.row.length := ⟨_, rfl⟩
        obtain ⟨wn, hwn⟩ : ∃ z, z = E.waits.length := ⟨_, rfl⟩
        obtain ⟨N, hN⟩ : ∃ z, z = E.vals.length := ⟨_, rfl⟩
        have hw16 : wn < 16 := by rw [hwn]; exact HO2.out.few
        have HROW := Lib.hid (gk_row w5 s rv2 wv2 E ht2 rn wn hrn hwn (by omega) (by omega))
        have hTN : E.total = N + wn := by rw [hN, hwn]; rfl
        have HTOT := Lib.hid (fun u (hu : Chg [] w5 u) => gk_total u s rv2 wv2 E (ht2.chg hu (by simp)))
        rw [hTN] at HTOT
        have HT5 := Lib.hid ht2
        have HC5 := Lib.hid k1
        have HF5 := Lib.hid k2
        rw [← hN, ← hwn] at hvl
        have HRN := Lib.hid hrn
        have HWN := Lib.hid hwn
        have HNN := Lib.hid hN
        have hrl2 : rn ≤ N := by rw [hrn, hN]; exact hrl
        have HRB := Lib.hid (show N ≤ 150 ∧ rn ≤ 150 from by omega)
        clear ht2 hm2 k1 k2 k3 HPUT HT1 HB1' HB HX c0 c1 htl hTN hrl hrn hwn hN
        go_wp2_with fail
        refine HROW.out.mono ?_
        rintro e w6 ⟨a1, cc1, a2, cc2, rfl, ho1, ho2, hc6, -, -⟩
        have HC6 := Lib.hid hc6
        have hfine := HO2.out.fine
        rw [← HNN.out] at hfine
        have HR6 := Lib.hid ho1.rd
        have HTL := Lib.hid (fun u (hu : Chg [] w6 u) => tup_total u a1 cc1 E.row (fun p hp => by have := hfine.bound p hp; have := HRB.out.1; omega) (by rw [← HRN.out]; exact HR6.out.chg hu (by simp)) (by rw [← HRN.out]; have := HRB.out; omega))
        have HGD := Lib.hid (fun u (hu : Chg [] w6 u) => tup_good u a1 cc1 E.row (fun p hp => by have := hfine.bound p hp; have := HRB.out.1; omega) (by rw [← HRN.out]; exact HR6.out.chg hu (by simp)) (by rw [← HRN.out]; have := HRB.out; omega))
        rw [hfine.good (by have := HRB.out; omega), ← HRN.out] at HGD
        have e1 : plusV (stps E.row) = .tuple #[.int .u64 (N : Nat), .bool true] := by
          have h1 : (stps E.row).sum = N := by rw [stps_sum]; exact hfine.total
          unfold plusV
          rw [h1, if_pos (by have := HRB.out; omega)]
        rw [e1, ← HRN.out] at HTL
        have HTIGHT := Lib.hid (fun p (hp : p ∈ E.row) => HO2.out.tight p hp)
        rw [HS2.out.1, HSM.out.1, HS2.out.2.1, HSM.out.2.1, ← HNN.out] at HTIGHT
        clear ho1 ho2 hc6 hfine e1 HROW
        go_wp2_with fail
        refine (HTL.out _ (Chg.refl _ _)).mono ?_
        rintro e w7 ⟨rfl, hc7⟩
        have HB7 := Lib.hid (HB5.out.chg (HC6.out.trans hc7) (by simp))
        have HC7 := Lib.hid hc7
        have y0 := HB7.out.cell 0
        have y1 := HB7.out.cell 1
        simp only [List.getElem?_toArray, List.getElem?_cons_zero, List.getElem?_cons_succ] at y0 y1
        clear hc7
        obtain ⟨M, hM⟩ : ∃ M, M = 2 * num * N := ⟨_, rfl⟩
        obtain ⟨g1, g2, g3⟩ := goodK_of HG.out
        have HTI := Lib.hid (fun u => ref01_times u (2 * num) N M (by rw [hM]) (by omega) (by have := HRB.out; omega))
        have HOV := Lib.hid (fun u => ref01_over u (M / 18446744073709551616) (M % 18446744073709551616) den M (by omega) (times_lim num den N M HG.out (by have := HRB.out; omega) hM) (Nat.mod_lt _ (by omega)) (by omega))
        have HLQ := Lib.hid (show limG num den N = max (M / den) 1 from by rw [limG, hM])
        have e := over_lim num den N HG.out (by have := HRB.out; omega)
        rw [← hM] at e
        rw [e] at HOV
        have hw : IntKind.u64.wrap (2 * (num : Int)) = ((2 * num : Nat) : Int) := by rw [IntKind.wrap_u64]; omega
        generalize M / den = Q at *
        generalize M % den = Rm at *
        generalize M / 18446744073709551616 = hi at *
        generalize M % 18446744073709551616 = lo at *
        obtain ⟨nn, hnn⟩ : ∃ z, z = 2 * num := ⟨_, rfl⟩
        rw [← hnn] at HTI hw
        clear e hM hnn g1 g2 g3
        go_upto_region 13 with (fail)
        have hS0 : Chg [] w7 w7.drew ∧ w7.drew.cell? ⟨b0, 0, none⟩ = some (.int .u64 (num : Nat)) ∧ w7.drew.cell? ⟨b0, 1, none⟩ = some (.int .u64 (den : Nat)) := ⟨(Chg.refl [] _).drew, y0, y1⟩
        refine startG (S := fun wx => Chg [] w7 wx ∧ wx.cell? ⟨b0, 0, none⟩ = some (.int .u64 (num : Nat)) ∧ wx.cell? ⟨b0, 1, none⟩ = some (.int .u64 (den : Nat))) (st := 14) (by kernel_rfl) hS0 (fun hHeld => ?_)
        refine takeP (i := 0) (v := ?vz0) rfl (by kernel_rfl) (by kernel_rfl) (by kernel_rfl) (by decide) (fun _ _ _ h => h) (Or.inl ⟨by rfl, ?yz0⟩) hS0 ?rz0
        case yz0 => (intro w _; go_simp; first | done | with_reducible rfl)
        try simp only [Act.put, List.setIfInBounds_toArray, List.set_cons_zero, List.set_cons_succ]
        refine takeG (i := 1) (v := ?vz1) rfl (by kernel_rfl) (by kernel_rfl) (by kernel_rfl) (by decide) (by kernel_rfl) (by kernel_rfl) (fun _ _ _ h => h) (Or.inl ⟨by rfl, ?yz1⟩) hS0 ?rz1
        case yz1 => (intro w hSw; (try dsimp only at hSw); go_simp; first | done | with_reducible rfl)
        try simp only [Act.put, List.setIfInBounds_toArray, List.set_cons_zero, List.set_cons_succ]
        refine takeP (i := 2) (v := ?vz2) rfl (by kernel_rfl) (by kernel_rfl) (by kernel_rfl) (by decide) (fun _ _ _ h => h) (Or.inl ⟨by rfl, ?yz2⟩) hS0 ?rz2
        case yz2 => (intro w _; go_simp; first | done | with_reducible rfl)
        try simp only [Act.put, List.setIfInBounds_toArray, List.set_cons_zero, List.set_cons_succ]
        refine takeP (i := 3) (v := ?vz3) rfl (by kernel_rfl) (by kernel_rfl) (by kernel_rfl) (by decide) (fun _ _ _ h => h) (Or.inl ⟨by rfl, ?yz3⟩) hS0 ?rz3
        case yz3 => (intro w _; go_simp; first | done | with_reducible rfl)
        try simp only [Act.put, List.setIfInBounds_toArray, List.set_cons_zero, List.set_cons_succ]
        refine takeP (i := 5) (v := ?vz5) rfl (by kernel_rfl) (by kernel_rfl) (by kernel_rfl) (by decide) (fun _ _ _ h => h) (Or.inl ⟨by rfl, ?yz5⟩) hS0 ?rz5
        case yz5 => (intro w _; go_simp; first | done | with_reducible rfl)
        try simp only [Act.put, List.setIfInBounds_toArray, List.set_cons_zero, List.set_cons_succ]
        refine takeG (i := 6) (v := ?vz6) rfl (by kernel_rfl) (by kernel_rfl) (by kernel_rfl) (by decide) (by kernel_rfl) (by kernel_rfl) (fun _ _ _ h => h) (Or.inl ⟨by rfl, ?yz6⟩) hS0 ?rz6
        case yz6 => (intro w hSw; (try dsimp only at hSw); go_simp; first | done | with_reducible rfl)
        try simp only [Act.put, List.setIfInBounds_toArray, List.set_cons_zero, List.set_cons_succ]
        refine readyG (rs := [4]) (by kernel_rfl) (by simp) (consG rfl (fun K hK => ?_) nilG)
        refine step_calls rfl 13 _ _ rfl enters_rtimes _ #[.int .u64 (nn : Nat), .int .u64 (N : Nat)] (by simp [Act.eval]) (HTI.out _) ?_; rintro e w8 ⟨rfl, hc8⟩; refine ⟨_, rfl, ?_⟩
        have hS8 : Chg [] w7 w8 ∧ w8.cell? ⟨b0, 0, none⟩ = some (.int .u64 (num : Nat)) ∧ w8.cell? ⟨b0, 1, none⟩ = some (.int .u64 (den : Nat)) := ⟨hS0.1.trans hc8, hc8.cell hS0.2.1 (by simp), hc8.cell hS0.2.2 (by simp)⟩
        clear hc8
        refine hK.out _ _ (fun _ _ => hS8) (fun hHeld => ?_)
        clear hK K hHeld
        try simp only [Act.put, List.setIfInBounds_toArray, List.set_cons_zero, List.set_cons_succ]
        refine readyG (rs := [7]) (by kernel_rfl) (by simp) (consG rfl (fun K hK => ?_) nilG)
        refine step_calls rfl 12 _ _ rfl enters_rover _ #[.agg #[.int .u64 (hi : Nat), .int .u64 (lo : Nat)], .int .u64 (den : Nat)] (by simp [Act.eval]) (HOV.out _) ?_; rintro e w9 ⟨rfl, hc9⟩; refine ⟨_, rfl, ?_⟩
        have hS9 : Chg [] w7 w9 ∧ w9.cell? ⟨b0, 0, none⟩ = some (.int .u64 (num : Nat)) ∧ w9.cell? ⟨b0, 1, none⟩ = some (.int .u64 (den : Nat)) := ⟨hS8.1.trans hc9, hc9.cell hS8.2.1 (by simp), hc9.cell hS8.2.2 (by simp)⟩
        clear hc9
        refine hK.out _ _ (fun _ _ => hS9) (fun hHeld => ?_)
        clear hK K hHeld
        try simp only [Act.put, List.setIfInBounds_toArray, List.set_cons_zero, List.set_cons_succ]
        refine takeP (i := 8) (v := ?vz8) rfl (by kernel_rfl) (by kernel_rfl) (by kernel_rfl) (by decide) (fun _ _ _ h => h) (Or.inl ⟨by rfl, ?yz8⟩) hS9 ?rz8
        case yz8 => (intro w _; go_simp; first | done | with_reducible rfl)
        try simp only [Act.put, List.setIfInBounds_toArray, List.set_cons_zero, List.set_cons_succ]
        refine takeP (i := 9) (v := ?vz9) rfl (by kernel_rfl) (by kernel_rfl) (by kernel_rfl) (by decide) (fun _ _ _ h => h) (Or.inl ⟨by rfl, ?yz9⟩) hS9 ?rz9
        case yz9 => (intro w _; go_simp; first | done | with_reducible rfl)
        try simp only [Act.put, List.setIfInBounds_toArray, List.set_cons_zero, List.set_cons_succ]
        refine takeP (i := 10) (v := ?vz10) rfl (by kernel_rfl) (by kernel_rfl) (by kernel_rfl) (by decide) (fun _ _ _ h => h) (Or.inl ⟨by rfl, ?yz10⟩) hS9 ?rz10
        case yz10 => (intro w _; go_simp; first | done | with_reducible rfl)
        try simp only [Act.put, List.setIfInBounds_toArray, List.set_cons_zero, List.set_cons_succ]
        refine takeP (i := 11) (v := ?vz11) rfl (by kernel_rfl) (by kernel_rfl) (by kernel_rfl) (by decide) (fun _ _ _ h => h) (Or.inl ⟨by rfl, ?yz11⟩) hS9 ?rz11
        case yz11 => (intro w _; go_simp; first | done | with_reducible rfl)
        try simp only [Act.put, List.setIfInBounds_toArray, List.set_cons_zero, List.set_cons_succ]
        refine takeP (i := 12) (v := ?vz12) rfl (by kernel_rfl) (by kernel_rfl) (by kernel_rfl) (by decide) (fun _ _ _ h => h) (Or.inl ⟨by rfl, ?yz12⟩) hS9 ?rz12
        case yz12 => (intro w _; go_simp; first | done | with_reducible rfl)
        try simp only [Act.put, List.setIfInBounds_toArray, List.set_cons_zero, List.set_cons_succ]
        refine takeP (i := 13) (v := ?vz13) rfl (by kernel_rfl) (by kernel_rfl) (by kernel_rfl) (by decide) (fun _ _ _ h => h) (Or.inl ⟨by rfl, ?yz13⟩) hS9 ?rz13
        case yz13 => (intro w _; go_simp; first | done | with_reducible rfl)
        try simp only [Act.put, List.setIfInBounds_toArray, List.set_cons_zero, List.set_cons_succ]
        refine readyG (rs := [14]) (by kernel_rfl) (by simp) (consG rfl (fun K hK => ?_) nilG)
        go_simp
        refine hK.out _ _ (fun h => absurd rfl h) (fun hHeld => ?_)
        clear hK K hHeld
        try simp only [Act.put, List.setIfInBounds_toArray, List.set_cons_zero, List.set_cons_succ]
        refine doneG (by kernel_rfl) ?_ _
        have HC8' := Lib.hid hS9.1
        clear hS0 hS8 hS9
        have HC8 := Lib.hid (HC7.out.trans HC8'.out)
        have hQT := Lib.hid (show ∀ k (h : k < E.row.length), E.row[k].st + E.row[k].sl ≤ max Q 1 ∧ E.row[k].st + E.row[k].sl ≤ N from fun k h => ⟨by rw [← HLQ.out]; exact HTIGHT.out _ (List.getElem_mem _), by have := HO2.out.fine.bound _ (List.getElem_mem h); rw [← HNN.out] at this; exact this⟩)
        clear HC8' y0 y1 HTI HOV hw HTL
        go_wp2
        go_loopw [75] (fun i wx => ∃ k : Nat, k ≤ rn ∧ i = .int .i64 (k : Nat) ∧ Chg [] w6 wx) (fun i _ => rn - (intOf i).toNat)
        case atStart => exact ⟨0, Nat.zero_le _, rfl, HC8.out⟩
        case round =>
          obtain ⟨k, hk, rfl, hch⟩ := hrel
          by_cases hlt : k < rn
          · have hkl2 : k < E.row.length := by have := HRN.out; omega
            have hR7 := HR6.out.chg hch (by simp)
            have hRB := HRB.out
            obtain ⟨b2, o2, rfl, hcc⟩ := hR7.addr (by omega)
            rw [HRN.out] at hcc
            obtain ⟨d0, d1, d2⟩ := tp_at hcc hkl2
            obtain ⟨hq1, hq2⟩ := hQT.out k hkl2
            generalize E.row[k] = t at *
            have hw : IntKind.u64.wrap ((t.st : Int) + (t.sl : Int)) = ((t.st + t.sl : Nat) : Int) := by rw [IntKind.wrap_u64]; omega
            have hmx : decide (((if (Q : Int) < 1 then 1 else (Q : Int)) : Int) < ((t.st + t.sl : Nat) : Int)) = false := decide_eq_false (by split <;> omega)
            generalize t.st + t.sl = z at *
            clear hcc hR7 hRB hq2
            go_wp2
            exact ⟨⟨k + 1, by omega, by go_num, hch.alloc _⟩, by simp [intOf]; omega⟩
          · obtain rfl : k = rn := by omega
            have HCH := Lib.hid hch
            clear hch
            have hw2 : IntKind.u64.wrap ((N : Int) + (wn : Int)) = ((N + wn : Nat) : Int) := by have := HRB.out; rw [IntKind.wrap_u64]; omega
            have hd1 : decide ((16 : Int) ≤ (wn : Int)) = false := decide_eq_false (by omega)
            have hd1' : decide (16 ≤ wn) = false := decide_eq_false (by omega)
            go_wp2_with fail
            refine (HGD.out _ HCH.out).mono ?_
            rintro e w10 ⟨rfl, hc10⟩
            have HC10 := Lib.hid (HCH.out.trans hc10)
            clear hc10
            go_wp2_with fail
            refine (HTOT.out _ (HC6.out.trans HC10.out)).mono ?_
            rintro e w11 ⟨rfl, rfl⟩
            have HT11 := Lib.hid (HT5.out.chg (HC6.out.trans HC10.out) (by simp))
            have HC11 := Lib.hid (HC5.out.trans (HC6.out.trans HC10.out))
            have HB11 := Lib.hid (HB5.out.chg (HC6.out.trans HC10.out) (by simp))
            have HJ := Lib.hid (show Gk w10 s rv2 wv2 (valsG num den (a.take (j + 1))) from by rw [HT.out]; exact HT11.out)
            go_wp2_with fail
            exact ⟨⟨j + 1, _, _, by omega, by go_num, HJ.out, HC11.out, Lib.hid (.inr trivial), HF5, HX5, HB11⟩, by simp [intOf]; omega⟩
      · obtain rfl : j = n := by omega
        rw [List.take_of_length_le (by have := HN.out; omega)] at ht'
        have HOK := Lib.hid (valsG_ok num den a)
        have HSM := Lib.hid (valsG_same num den a)
        generalize valsG num den a = D at *
        have htl : D.total ≤ 150 := by rw [HSM.out.2.2]; exact HS.out
        have HFL := Lib.hid (gk_flush wr s rv' wv' D ht' ⟨HOK.out.fine, HOK.out.placed, HOK.out.len, by have := HOK.out.few; omega, HOK.out.tight⟩ (by rw [HSM.out.1, HSM.out.2.1]; exact HG.out) (by omega))
        have HO2 := Lib.hid (GkD.flush_ok0 HOK.out)
        have HS2 := Lib.hid D.flush_same
        have HCH := Lib.hid hch
        clear ht' hch
        go_wp2_with fail
        refine HFL.out.mono ?_
        rintro e w5 ⟨rfl, rv2, wv2, ht2, hm2⟩
        generalize D.flush = E at *
        have hvl : E.vals.length + E.waits.length ≤ 150 := by have := HS2.out.2.2.1; unfold GkD.total at this htl; omega
        have hrl := HO2.out.len
        obtain ⟨rn, hrn⟩ : ∃ z, z = E.row.length := ⟨_, rfl⟩
        have HROW := Lib.hid (gk_row w5 s rv2 wv2 E ht2 rn 0 hrn (by rw [HS2.out.2.2.2]; rfl) (by omega) (by omega))
        have HC5 := Lib.hid (HCH.out.trans' hm2.chg (fun b hb => .inr (HF.out b hb)))
        clear ht2 hm2 hvl hrl hrn htl HFL
        go_wp2_with fail
        refine HROW.out.mono ?_
        rintro e w6 ⟨a1, cc1, a2, cc2, rfl, -, -, hc6, -, -⟩
        have HC6 := Lib.hid (HC5.out.trans hc6)
        clear hc6 HROW
        go_wp2
        go_ret
        exact ⟨rfl, HC6.out⟩
end Go.Proofs.Ytkcldhimjnehdaa
