/-
  The walk of the law ReqLow. Conditions: the form's own reach.
-/
import Derived.Test.YtbaobiniianamaaReqJoin
import Derived.Test.YtbaobiniianamaaReqAlive
import Derived.Test.YtbaobiniianamaaReqRank
namespace Go.Proofs.Ytbaobiniianamaa
open Go.RowKit

theorem valsD_ok {l : List Vl} {W : Int} {word : Nat} (h : okV l W) (hx : ∀ v ∈ l, v.ok) : ∃ Wn : Nat, W = (Wn : Int) ∧ 4 ≤ Wn ∧ Wn ≤ 64 ∧ Wn % 4 = 0 ∧ sumS l ≤ 200 ∧ valsD W.toNat word l = valsD Wn word l ∧ (valsD Wn word l).ok Wn word (sumS l) := by
  obtain ⟨-, -, h3, h4⟩ := h
  have hg : 4 ≤ W ∧ W ≤ 64 ∧ W % 4 = 0 := by simpa [goodW] using h4
  obtain ⟨Wn, rfl⟩ := Int.eq_ofNat_of_zero_le (show 0 ≤ W by omega)
  have h5 := TwD.vals_ok (show 4 ≤ Wn by omega) l (TwD.new_ok (W := Wn) (word := word) (by omega)) (fun v hv => by have := (hx v hv).2.1; omega)
  rw [Nat.zero_add] at h5
  exact ⟨Wn, rfl, by omega, by omega, by omega, h3, rfl, h5⟩
theorem valsD_ok2 {l : List Vl} {Wn word : Nat} (h : okV l (Wn : Int)) (hW : 4 ≤ Wn) (hx : ∀ v ∈ l, v.ok) : sumS l ≤ 200 ∧ (valsD Wn word l).ok Wn word (sumS l) := by
  have h5 := TwD.vals_ok hW l (TwD.new_ok (W := Wn) (word := word) (by omega)) (fun v hv => by have := (hx v hv).2.1; omega)
  rw [Nat.zero_add] at h5
  exact ⟨h.2.2.1, h5⟩
theorem valsD_tells {l : List Vl} {Wn word : Nat} (x : Int) (hW : 4 ≤ Wn) (h4 : Wn % 4 = 0) (hx : ∀ v ∈ l, v.ok) : (valsD Wn word l).tells x (upS x l) := by
  have h := TwD.vals_tells (x := x) hW h4 l (TwD.new_ok (W := Wn) (word := word) hW) (TwD.new_tells (W := Wn) (word := word) x) (fun v hv => by have := (hx v hv).2.1; omega)
  rw [Nat.zero_add] at h
  exact h
theorem req_rankF (w : World) (p tp : Nat) (rv : Value) (vs : List Value) (D : TwD) (ht : Tow w p tp rv vs D) {W word n : Nat} (hd : D.fine W word n) (hn : n ≤ 500) (x : Int) (R : Nat) (hRR : R = rankR x D.rows) :
    Calls Try.prog 23 #[.pointer (some ⟨p, 0, none⟩), .int .i64 x] w fun e w' => e = .returned (.int .u64 (R : Nat)) ∧ w = w' :=
  req_rank w p tp rv vs D ht (by have := hd.flat; omega) (by have := hd.few8 hn; omega) x (by rw [hd.sum]; omega) R hRR

set_option maxRecDepth 100000 in
set_option maxHeartbeats 4000000 in
theorem law_ReqLow (w : World) (W : Int) (word : Nat) (hword : word < 18446744073709551616) (ao : Option Addr) (ca : Nat) (a : List Vl) (hra : Rd w 2 (.slice ao a.length ca) a.length (vlCells a)) (hla : a.length ≤ 140737488351232) (hka : ∀ i ∈ a, i.ok)
    (bo : Option Addr) (cb : Nat) (b : List Vl) (hrb : Rd w 2 (.slice bo b.length cb) b.length (vlCells b)) (hlb : b.length ≤ 140737488351232) (hkb : ∀ i ∈ b, i.ok) (x : Int) (_hx1 : -9223372036854775808 ≤ x) (_hx2 : x < 9223372036854775808) :
    Calls Try.prog 8 #[.agg #[.int .i64 W, .int .u64 word], .slice ao a.length ca, .slice bo b.length cb, .int .i64 x] w fun e w' => e = .returned (.bool true) ∧ Chg [] w w' := by
  have HAL := Lib.hid law21_alive
  have hB0 := Blk.alloc_new w #[.int .i64 W, .int .u64 word] 37
  have hC0 := (Chg.refl [] w).alloc (.cells #[.int .i64 W, .int .u64 word] 37)
  have HKA := Lib.hid hka
  have HKB := Lib.hid hkb
  have HRA := Lib.hid hra
  have HRB := Lib.hid hrb
  obtain ⟨n, hn⟩ : ∃ n, n = a.length := ⟨_, rfl⟩
  obtain ⟨m, hm⟩ : ∃ m, m = b.length := ⟨_, rfl⟩
  rw [← hn] at HRA hla ⊢
  rw [← hm] at HRB hlb ⊢
  have HN := Lib.hid hn
  have HM := Lib.hid hm
  clear hka hkb hra hrb hn hm
  go_enter Try.func8, Try.ntmps8
  go_wp2_with fail
  refine (HAL.out _).mono ?_
  rintro e w1 ⟨rfl, hc1⟩
  obtain ⟨b0, hb0⟩ : ∃ z, z = w.heap.size := ⟨_, rfl⟩
  have hB1 := hB0.chg hc1 (by simp)
  have HC1 := Lib.hid (hC0.trans' hc1 (by simp))
  rw [← hb0] at hB1 ⊢
  have x0 := hB1.cell 0
  have x1 := hB1.cell 1
  simp only [List.getElem?_toArray, List.getElem?_cons_zero, List.getElem?_cons_succ] at x0 x1
  have HB1 := Lib.hid hB1
  have HBL := Lib.hid hB1.lt
  clear hB0 hC0 hc1 HAL hb0 hB1
  have HBA := Lib.hid (law21_build w1 W word hword ao ca n a HN.out (HRA.out.chg HC1.out (by simp)) hla (fun v hv => by have := (HKA.out v hv).2.1; omega) (fun v hv => (HKA.out v hv).2.2))
  have HBB := Lib.hid (fun u (hu : Chg [] w1 u) => law21_build u W word hword bo cb m b HM.out ((HRB.out.chg HC1.out (by simp)).chg hu (by simp)) hlb (fun v hv => by have := (HKB.out v hv).2.1; omega) (fun v hv => (HKB.out v hv).2.2))
  go_wp2_with fail
  refine HBA.out.mono ?_
  rintro e w2 (⟨hbad, rfl, hc2⟩ | ⟨hok, p, tp, rv, vs, q, qv, qs, rfl, ht2, hq2, hc2, hf2, hg2, hd2⟩)
  · have hB2 := HB1.out.chg hc2 (by simp)
    have x0 := hB2.cell 0
    have x1 := hB2.cell 1
    simp only [List.getElem?_toArray, List.getElem?_cons_zero, List.getElem?_cons_succ] at x0 x1
    go_wp2_with fail
    refine (HBB.out _ hc2).mono ?_
    rintro e w3 (⟨-, rfl, hc3⟩ | ⟨-, p3, tp3, rv3, vs3, q3, qv3, qs3, rfl, -, -, hc3, -, -, -⟩)
    · go_wp2
      go_ret
      exact ⟨rfl, (HC1.out.trans hc2).trans hc3⟩
    · go_wp2
      go_ret
      exact ⟨rfl, (HC1.out.trans hc2).trans hc3⟩
  · have hB2 := HB1.out.chg hc2 (by simp)
    have HT2 := Lib.hid ht2
    have HC2 := Lib.hid hc2
    have x0 := hB2.cell 0
    have x1 := hB2.cell 1
    simp only [List.getElem?_toArray, List.getElem?_cons_zero, List.getElem?_cons_succ] at x0 x1
    have HB2 := Lib.hid hB2
    have HBX := Lib.hid (show ∀ b ∈ fp p tp rv vs, b0 < b from fun b hb => Nat.lt_of_lt_of_le HBL.out (hf2 b hb))
    have HFP := Lib.hid (show ∀ b ∈ fp p tp rv vs, w.heap.size ≤ b from fun b hb => Nat.le_trans HC1.out.size (hf2 b hb))
    clear ht2 hq2 hc2 hB2 hd2 hg2 hf2
    go_wp2_with fail
    refine (HBB.out _ HC2.out).mono ?_
    rintro e w3 (⟨-, rfl, hc3⟩ | ⟨hok3, p3, tp3, rv3, vs3, q3, qv3, qs3, rfl, ht3, hq3, hc3, hf3, hg3, hd3⟩)
    · go_wp2
      go_ret
      exact ⟨rfl, (HC1.out.trans HC2.out).trans hc3⟩
    · obtain ⟨Wn, rfl, g1, g2, g4, hsa, ea, hoa⟩ := valsD_ok (word := word) hok HKA.out
      obtain ⟨hsb, hob⟩ := valsD_ok2 (word := word) hok3 g1 HKB.out
      have HT2 := Lib.hid (show Tow w2 p tp rv vs (valsD Wn word a) from HT2.out)
      have ht3 : Tow w3 p3 tp3 rv3 vs3 (valsD Wn word b) := ht3
      have hob : (valsD Wn word b).ok Wn word (sumS b) := hob
      have HTA := Lib.hid (valsD_tells (word := word) x g1 g4 HKA.out)
      have HTB := Lib.hid (valsD_tells (word := word) x g1 g4 HKB.out)
      obtain ⟨D, hD⟩ : ∃ D, D = valsD Wn word a := ⟨_, rfl⟩
      obtain ⟨O, hO⟩ : ∃ O, O = valsD Wn word b := ⟨_, rfl⟩
      rw [← hD] at HT2 HTA hoa
      rw [← hO] at ht3 HTB hob
      clear hD hO ea hok hok3 hq3 hg3 hd3
      have HFA := Lib.hid hoa.fine
      have HFB := Lib.hid hob.fine
      have hus := hoa.fit.2.2
      have HDIS := Lib.hid (show ∀ b ∈ fp p tp rv vs, b ∉ fp p3 tp3 rv3 vs3 from fun b hb hb2 => by
        have h1 := HT2.out.lt b hb
        have h2 := hf3 b hb2
        omega)
      have HT3 := Lib.hid (HT2.out.chg hc3 (by simp))
      have HO3 := Lib.hid ht3
      have HC3 := Lib.hid ((HC1.out.trans HC2.out).trans hc3)
      have hB3 := HB2.out.chg hc3 (by simp)
      have x0' := hB3.cell 0
      have x1' := hB3.cell 1
      simp only [List.getElem?_toArray, List.getElem?_cons_zero, List.getElem?_cons_succ] at x0' x1'
      have HB3 := Lib.hid hB3
      obtain ⟨U, hU⟩ : ∃ U, U = upS x a := ⟨_, rfl⟩
      obtain ⟨V, hV⟩ : ∃ V, V = upS x b := ⟨_, rfl⟩
      have hU2 : U ≤ 200 := by have := upS_le x a; omega
      have hV2 : V ≤ 200 := by have := upS_le x b; omega
      have HUA := Lib.hid (fun u (hu : Chg [] w u) => ref13_up u ao ca n a HN.out (HRA.out.chg hu (by simp)) hla (by omega) x U hU)
      have HUB := Lib.hid (fun u (hu : Chg [] w u) => ref13_up u bo cb m b HM.out (HRB.out.chg hu (by simp)) hlb (by omega) x V hV)
      rw [← hU] at HTA
      rw [← hV] at HTB
      have hwq : (Wn : Int).tdiv 2 = ((Wn / 2 : Nat) : Int) := by rw [Int.tdiv_eq_ediv_of_nonneg (by omega)]; omega
      have hw2 : Wn / 2 ≤ 32 := by omega
      have HW2 := Lib.hid (show Wn / 2 = Wn / 2 from rfl)
      obtain ⟨K, hK⟩ : ∃ K, K = Wn / 2 := ⟨_, rfl⟩
      rw [← hK] at hwq hw2
      have HKW := Lib.hid hK
      have hwu : IntKind.u64.wrap (K : Int) = (K : Int) := by rw [IntKind.wrap_u64]; omega
      have hwi : IntKind.i64.wrap (K : Int) = (K : Int) := IntWalk.i64_in _ (by omega)
      clear hK HBA HBB HT2 hc3 hf3 ht3 hB3 x0 x1 HB1 HB2 hoa hob hU hV
      go_wp2_with fail
      refine (HUA.out _ HC3.out).mono ?_
      rintro e w4 ⟨rfl, hc4⟩
      have HC4 := Lib.hid (HC3.out.trans hc4)
      have HT4 := Lib.hid (HT3.out.chg hc4 (by simp))
      have HO4 := Lib.hid (HO3.out.chg hc4 (by simp))
      have hB4 := HB3.out.chg hc4 (by simp)
      have x0 := hB4.cell 0
      have x1 := hB4.cell 1
      simp only [List.getElem?_toArray, List.getElem?_cons_zero, List.getElem?_cons_succ] at x0 x1
      have HB4 := Lib.hid hB4
      clear hc4 hB4 HT3 HO3 HC3 HB3 x0' x1'
      have HJN := Lib.hid (req_joinZ w4 p tp rv vs D HT4.out p3 tp3 rv3 vs3 O HO4.out HDIS.out Wn word word _ _ HFA.out HFB.out g1 g2 hword (by omega) (by omega) (by omega))
      have HRK := Lib.hid (fun (hUK : U ≤ K) => req_rankF w4 p tp rv vs D HT4.out HFA.out (by omega) x U (by rw [TwD.tells_low HTA.out HFA.out.ne (by rw [HFA.out.W_eq, ← HKW.out]; exact hUK)]))
      have HJ5 := Lib.hid (fun u rv' vs' (hu : Tow u p tp rv' vs' (D.joinZ O)) (hk : U + V ≤ K) => req_rankF u p tp rv' vs' _ hu (TwD.joinZ_fine g1 HFA.out HFB.out) (by omega) x (U + V) (by
        have h1 := TwD.joinZ_tells g1 g4 HFA.out HFB.out HTA.out HTB.out
        have h2 := TwD.joinZ_fine g1 HFA.out HFB.out
        rw [TwD.tells_low h1 h2.ne (by rw [h2.W_eq, ← HKW.out]; exact hk)]))
      have hbne : ((U : Int) != (U : Int)) = false := by simp
      have hcs : IntKind.u64.wrap ((U : Int) + (V : Int)) = ((U + V : Nat) : Int) := by rw [IntKind.wrap_u64]; omega
      by_cases hUK : U ≤ K
      · have d1 : decide ((U : Int) ≤ (K : Int)) = true := decide_eq_true (by omega)
        have d1' : decide (U ≤ K) = true := decide_eq_true hUK
        go_wp2_with fail
        refine (HRK.out hUK).mono ?_
        rintro e w5 ⟨rfl, rfl⟩
        go_wp2_with fail
        refine HJN.out.mono ?_
        rintro e w5 ⟨rfl, rv5, vs5, ht5, hm5⟩
        have HC5 := Lib.hid (HC4.out.trans' hm5.chg (fun b hb => .inr (HFP.out b hb)))
        have HT5 := Lib.hid ht5
        have hB5 := HB4.out.chg hm5.chg (fun e => by have h1 := HFP.out _ e; have h2 := HBX.out _ e; omega)
        have z0 := hB5.cell 0
        have z1 := hB5.cell 1
        simp only [List.getElem?_toArray, List.getElem?_cons_zero, List.getElem?_cons_succ] at z0 z1
        have HB5 := Lib.hid hB5
        clear ht5 hm5 hB5 HJN HRK d1 d1' x0 x1
        go_wp2_with fail
        refine (HUB.out _ HC5.out).mono ?_
        rintro e w6 ⟨rfl, hc6⟩
        have HC6 := Lib.hid (HC5.out.trans hc6)
        have HT6 := Lib.hid (HT5.out.chg hc6 (by simp))
        have hB6 := HB5.out.chg hc6 (by simp)
        have x0 := hB6.cell 0
        have x1 := hB6.cell 1
        simp only [List.getElem?_toArray, List.getElem?_cons_zero, List.getElem?_cons_succ] at x0 x1
        clear hc6 hB6 z0 z1 HB5 HUB HUA
        by_cases hk : U + V ≤ K
        · have d2 : decide ((K : Int) < (U : Int) + (V : Int)) = false := decide_eq_false (by omega)
          have d2' : decide (K < U + V) = false := decide_eq_false (by omega)
          have d3 : (((U + V : Nat) : Int) == ((U + V : Nat) : Int)) = true := by simp
          have HRK := Lib.hid (HJ5.out w6 rv5 vs5 HT6.out hk)
          generalize U + V = UV at *
          go_wp2_with fail
          refine HRK.out.mono ?_
          rintro e w7 ⟨rfl, rfl⟩
          go_wp2
          go_ret
          exact ⟨rfl, HC6.out⟩
        · have d2 : decide ((K : Int) < (U : Int) + (V : Int)) = true := decide_eq_true (by omega)
          have d2' : decide (K < U + V) = true := decide_eq_true (by omega)
          generalize U + V = UV at *
          go_wp2
          go_ret
          exact ⟨rfl, HC6.out⟩
      · have d1 : decide ((U : Int) ≤ (K : Int)) = false := decide_eq_false (by omega)
        have d1' : decide (U ≤ K) = false := decide_eq_false hUK
        go_wp2_with fail
        refine HJN.out.mono ?_
        rintro e w5 ⟨rfl, rv5, vs5, ht5, hm5⟩
        have HC5 := Lib.hid (HC4.out.trans' hm5.chg (fun b hb => .inr (HFP.out b hb)))
        have HT5 := Lib.hid ht5
        have hB5 := HB4.out.chg hm5.chg (fun e => by have h1 := HFP.out _ e; have h2 := HBX.out _ e; omega)
        have z0 := hB5.cell 0
        have z1 := hB5.cell 1
        simp only [List.getElem?_toArray, List.getElem?_cons_zero, List.getElem?_cons_succ] at z0 z1
        have HB5 := Lib.hid hB5
        clear ht5 hm5 hB5 HJN HRK d1 d1' x0 x1
        go_wp2_with fail
        refine (HUB.out _ HC5.out).mono ?_
        rintro e w6 ⟨rfl, hc6⟩
        have HC6 := Lib.hid (HC5.out.trans hc6)
        have HT6 := Lib.hid (HT5.out.chg hc6 (by simp))
        have hB6 := HB5.out.chg hc6 (by simp)
        have x0 := hB6.cell 0
        have x1 := hB6.cell 1
        simp only [List.getElem?_toArray, List.getElem?_cons_zero, List.getElem?_cons_succ] at x0 x1
        clear hc6 hB6 z0 z1 HB5 HUB HUA
        by_cases hk : U + V ≤ K
        · have d2 : decide ((K : Int) < (U : Int) + (V : Int)) = false := decide_eq_false (by omega)
          have d2' : decide (K < U + V) = false := decide_eq_false (by omega)
          have d3 : (((U + V : Nat) : Int) == ((U + V : Nat) : Int)) = true := by simp
          have HRK := Lib.hid (HJ5.out w6 rv5 vs5 HT6.out hk)
          generalize U + V = UV at *
          go_wp2_with fail
          refine HRK.out.mono ?_
          rintro e w7 ⟨rfl, rfl⟩
          go_wp2
          go_ret
          exact ⟨rfl, HC6.out⟩
        · have d2 : decide ((K : Int) < (U : Int) + (V : Int)) = true := decide_eq_true (by omega)
          have d2' : decide (K < U + V) = true := decide_eq_true (by omega)
          generalize U + V = UV at *
          go_wp2
          go_ret
          exact ⟨rfl, HC6.out⟩
end Go.Proofs.Ytbaobiniianamaa
