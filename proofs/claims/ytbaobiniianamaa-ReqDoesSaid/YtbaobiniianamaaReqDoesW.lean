/-
  The walk of the law ReqDoes. Conditions: the form's own reach.
-/
import Derived.Test.YtbaobiniianamaaReqErrorsW
import Derived.Test.YtbaobiniianamaaRefQuant
import Derived.Test.YtbaobiniianamaaReqEnds
namespace Go.Proofs.Ytbaobiniianamaa
open Go.RowKit

theorem enters_dsame : ∀ (args : Array Value) (w : World), (callFunc 33 args).run Try.prog w = .ok (.enter 33 args) w := enters_of Try.func33 (by kernel_rfl) rfl
theorem enters_drank : ∀ (args : Array Value) (w : World), (callFunc 23 args).run Try.prog w = .ok (.enter 23 args) w := enters_of Try.func23 (by kernel_rfl) rfl
theorem enters_drrank : ∀ (args : Array Value) (w : World), (callFunc 39 args).run Try.prog w = .ok (.enter 39 args) w := enters_of Try.func39 (by kernel_rfl) rfl
theorem enters_dconfig : ∀ (args : Array Value) (w : World), (callFunc 40 args).run Try.prog w = .ok (.enter 40 args) w := enters_of Try.func40 (by kernel_rfl) rfl
theorem enters_dmost : ∀ (args : Array Value) (w : World), (callFunc 25 args).run Try.prog w = .ok (.enter 25 args) w := enters_of Try.func25 (by kernel_rfl) rfl

set_option maxRecDepth 100000 in
set_option maxHeartbeats 4000000 in
set_option linter.unusedSimpArgs false in
theorem law_ReqDoes (w : World) (W : Int) (word : Nat) (hword : word < 18446744073709551616) (ao : Option Addr) (ca : Nat) (a : List Vl) (hra : Rd w 2 (.slice ao a.length ca) a.length (vlCells a)) (hla : a.length ≤ 140737488351232) (hka : ∀ i ∈ a, i.ok)
    (num den : Nat) (hnum : num < 18446744073709551616) (hden : den < 18446744073709551616) (x : Int) (_hx1 : -9223372036854775808 ≤ x) (_hx2 : x < 9223372036854775808) :
    Calls Try.prog 11 #[.agg #[.int .i64 W, .int .u64 (word : Nat)], .slice ao a.length ca, .agg #[.int .u64 (num : Nat), .int .u64 (den : Nat)], .int .i64 x] w fun e w' => e = .returned (.bool true) ∧ Chg [] w w' := by
  have HAL := Lib.hid law21_alive
  have HKA := Lib.hid hka
  have HRA := Lib.hid hra
  obtain ⟨n, hn⟩ : ∃ n, n = a.length := ⟨_, rfl⟩
  rw [← hn] at HRA hla ⊢
  have HN := Lib.hid hn
  clear hka hra hn
  have hc0 := ((Chg.refl [] w).alloc (.cells #[.int .i64 W, .int .u64 (word : Nat)] 37)).alloc (.cells #[.int .u64 num, .int .u64 den] 64)
  have hb0 := (Blk.alloc_new w #[.int .i64 W, .int .u64 (word : Nat)] 37).alloc (.cells #[.int .u64 num, .int .u64 den] 64)
  have hr0 := Blk.alloc_new (w.alloc (.cells #[.int .i64 W, .int .u64 (word : Nat)] 37)) #[.int .u64 num, .int .u64 den] 64
  rw [World.size_alloc] at hr0
  obtain ⟨bc, hbc⟩ : ∃ z, z = w.heap.size := ⟨_, rfl⟩
  rw [← hbc] at hb0 hr0
  have HBC := Lib.hid hbc
  have HC0 := Lib.hid hc0
  have HB := Lib.hid hb0
  have HR := Lib.hid hr0
  have HBA := Lib.hid (fun u (hu : Chg [] w u) => law21_build u W word hword ao ca n a HN.out (HRA.out.chg hu (by simp)) hla (fun v hv => by have := (HKA.out v hv).2.1; omega) (fun v hv => (HKA.out v hv).2.2))
  clear hc0 hb0 hr0
  go_enter Try.func11, Try.ntmps11
  go_wp2_with fail
  rw [← hbc]
  clear hbc
  generalize (w.alloc (.cells #[.int .i64 W, .int .u64 (word : Nat)] 37)).alloc (.cells #[.int .u64 num, .int .u64 den] 64) = w0 at *
  refine (HAL.out _).mono ?_
  rintro e w4 ⟨rfl, hc1⟩
  have HC4 := Lib.hid (HC0.out.trans hc1)
  have HB4 := Lib.hid (HB.out.chg hc1 (by simp))
  have HR4 := Lib.hid (HR.out.chg hc1 (by simp))
  have x0 := HB4.out.cell 0
  have x1 := HB4.out.cell 1
  simp only [List.getElem?_toArray, List.getElem?_cons_zero, List.getElem?_cons_succ] at x0 x1
  clear hc1 HB HR HC0 HAL
  go_wp2_with fail
  refine (HBA.out _ HC4.out).mono ?_
  clear x0 x1
  rintro e w5 (⟨hbad, rfl, hc5⟩ | ⟨hok, p, tp, rv, vs, q, qv, qs, rfl, ht5, hq5, hc5, hf5, hg5, hd5⟩)
  · go_wp2_with fail
    go_ret
    exact ⟨rfl, HC4.out.trans hc5⟩
  · obtain ⟨Wn, rfl, g1, g2, g4, hsa, ea, hoa⟩ := valsD_ok (word := word) hok HKA.out
    have HC5 := Lib.hid (HC4.out.trans hc5)
    have HB5 := Lib.hid (HB4.out.chg hc5 (by simp))
    have HR5 := Lib.hid (HR4.out.chg hc5 (by simp))
    have HT5 := Lib.hid (show Tow w5 p tp rv vs (valsD Wn word a) from ht5)
    have HQ5 := Lib.hid (show RT w5 q qv qs (valsD Wn word a).W (valsD Wn word a).word (valsD Wn word a).used (valsD Wn word a).rows from hq5)
    have HF := Lib.hid hoa.fine
    have HSP := Lib.hid (valsD_spans (W := Wn) (word := word) (fun v hv => (hok.1 v hv).1))
    have hs5 : sumS a ≤ 500 := by omega
    have HUP := Lib.hid (show upS 9223372036854775807 a = sumS a from upS_all (fun v hv => by have := (HKA.out v hv).2.1; omega))
    generalize valsD Wn word a = D at *
    obtain ⟨N, hNN⟩ : ∃ N, N = sumS a := ⟨_, rfl⟩
    have HNN := Lib.hid hNN
    rw [← hNN] at HF hs5
    obtain ⟨T, hT⟩ : ∃ T, T = placeT num den N := ⟨_, rfl⟩
    obtain ⟨E, hE⟩ : ∃ E, E = placeE num den N := ⟨_, rfl⟩
    obtain ⟨V, hV⟩ : ∃ V, V = if E = 0 then quantR T D.rows else 0 := ⟨_, rfl⟩
    obtain ⟨Ei, hEi⟩ : ∃ z : Int, z = (E : Nat) := ⟨_, rfl⟩
    obtain ⟨lo, hlo⟩ : ∃ z, z = loV a := ⟨_, rfl⟩
    obtain ⟨hi, hhi⟩ : ∃ z, z = hiV a := ⟨_, rfl⟩
    obtain ⟨bb, hbb⟩ : ∃ z, z = decide (a ≠ []) := ⟨_, rfl⟩
    obtain ⟨R, hR⟩ : ∃ R, R = rankR x D.rows := ⟨_, rfl⟩
    obtain ⟨M, hM⟩ : ∃ M, M = D.W * 1024 := ⟨_, rfl⟩
    have hww : D.W = Wn := HF.out.W_eq
    have hfl := HF.out.flat
    have h8 := HF.out.few8 hs5
    have HTW := Lib.hid (fun u (hu : Chg [] w5 u) => HT5.out.chg hu (by simp))
    have HRW := Lib.hid (fun u (hu : Chg [] w5 u) => HQ5.out.chg hu (by simp))
    have HQU := Lib.hid (fun u (hu : Chg [] w5 u) => show Calls Try.prog 37 #[.pointer (some ⟨p, 0, none⟩), .agg #[.int .u64 (num : Nat), .int .u64 (den : Nat)]] u fun e w' => e = .returned (.tuple #[.int .i64 V, .int .i64 Ei]) ∧ Chg [] u w' from by rw [hEi]; exact req_quantF u p tp rv vs D (HTW.out u hu) HF.out hs5 num den hnum hden T E hT hE V hV)
    have HRQ := Lib.hid (fun u (hu : Chg [] w5 u) => show Calls Try.prog 38 #[.pointer (some ⟨q, 0, none⟩), .agg #[.int .u64 (num : Nat), .int .u64 (den : Nat)]] u fun e w' => e = .returned (.tuple #[.int .i64 V, .int .i64 Ei]) ∧ Chg [] u w' from by
      rw [hEi]; exact ref21_quantile u q qv qs D.W D.word D.used D.rows (HRW.out u hu) num den hnum hden (by omega) (by omega) N (by rw [rank_all HF.out.low, HF.out.sum]) (by rw [HF.out.sum]; omega) T E hT hE V hV)
    have HEN := Lib.hid (fun u (hu : Chg [] w5 u) => req_Ends u p tp rv vs D (HTW.out u hu) a HSP.out lo hi bb hlo hhi hbb)
    have HRE := Lib.hid (fun u (hu : Chg [] w u) => ref14_ends u ao ca n a HN.out (HRA.out.chg hu (by simp)) hla lo hi bb hlo hhi hbb)
    have HUA := Lib.hid (fun u (hu : Chg [] w u) => ref13_up u ao ca n a HN.out (HRA.out.chg hu (by simp)) hla (by omega) 9223372036854775807 N (by rw [HUP.out, HNN.out]))
    have HTO := Lib.hid (fun u (hu : Chg [] w5 u) => show Calls Try.prog 28 #[.pointer (some ⟨p, 0, none⟩)] u fun e w' => e = .returned (.int .u64 (N : Nat)) ∧ u = w' from by have h := req_total u p tp rv vs D (HTW.out u hu); rw [HF.out.tot] at h; exact h)
    have HSA := Lib.hid (fun u (hu : Chg [] w5 u) => law21_same u p tp rv vs D (HTW.out u hu) q qv qs D.W D.word (HRW.out u hu) HF.out hs5)
    have HRK := Lib.hid (fun u (hu : Chg [] w5 u) => req_rankF u p tp rv vs D (HTW.out u hu) HF.out hs5 x R hR)
    have HRR := Lib.hid (fun u (hu : Chg [] w5 u) => ref21_rank u q qv qs D.W D.word D.used D.rows (HRW.out u hu) (by omega) (by omega) x (by rw [HF.out.sum]; omega) R hR)
    have HCF := Lib.hid (fun u (hu : Chg [] w5 u) => show Calls Try.prog 40 #[.pointer (some ⟨p, 0, none⟩)] u fun e w' => e = .returned (.agg #[.int .i64 (Wn : Nat), .int .u64 (word : Nat)]) ∧ Chg [] u w' from by have h := req_config u p tp rv vs D (HTW.out u hu); rw [hww, HF.out.word_eq] at h; exact h)
    have HMO := Lib.hid (fun u (hu : Chg [] w5 u) => show Calls Try.prog 25 #[.pointer (some ⟨p, 0, none⟩)] u fun e w' => e = .returned (.int .u64 (M : Nat)) ∧ u = w' from by rw [hM]; exact req_most u p tp rv vs D (HTW.out u hu) (by omega))
    have hw1 : IntKind.u64.wrap (Wn : Int) = (Wn : Int) := IntWalk.u64_in _ (by omega)
    have hw2 : IntKind.u64.wrap ((Wn : Int) * 1024) = (M : Int) := by rw [hM, hww, IntKind.wrap_u64]; omega
    have hceq := cfg_eql (Wn : Int) (Wn : Int) (word : Int) (word : Int)
    have e1 : ((R : Int) == (R : Int)) = true := by simp
    have e2 : (V == V) = true := by simp
    have e3 : (Ei == Ei) = true := by simp
    have e4 : (lo == lo) = true := by simp
    have e5 : (hi == hi) = true := by simp
    have e6 : (bb == bb) = true := by simp
    have e7 : ((N : Int) == (N : Int)) = true := by simp
    have e8 : ((M : Int) == (M : Int)) = true := by simp
    have e9 : ((Wn : Int) == (Wn : Int)) = true := by simp
    have e10 : ((word : Int) == (word : Int)) = true := by simp
    clear ht5 hq5 hc5 hf5 hg5 hd5 hok ea hoa hsa HB4 HR4 HC4 HBA hNN hT hE hV hEi hlo hhi hbb hR hM hww hfl h8
    have r0 := HR5.out.cell 0
    have r1 := HR5.out.cell 1
    simp only [List.getElem?_toArray, List.getElem?_cons_zero, List.getElem?_cons_succ] at r0 r1
    go_wp2_with fail
    refine (HQU.out _ (Chg.refl _ _)).mono ?_
    rintro e w6 ⟨rfl, hc6⟩
    have H56 := Lib.hid hc6
    have HR6 := Lib.hid (HR5.out.chg hc6 (by simp))
    clear hc6 r0 r1
    have r0 := HR6.out.cell 0
    have r1 := HR6.out.cell 1
    simp only [List.getElem?_toArray, List.getElem?_cons_zero, List.getElem?_cons_succ] at r0 r1
    go_wp2_with fail
    refine (HRQ.out _ H56.out).mono ?_
    rintro e w7 ⟨rfl, hc7⟩
    have H57 := Lib.hid (H56.out.trans hc7)
    clear hc7 r0 r1 H56 HR6
    go_wp2_with fail
    refine (HEN.out _ H57.out).mono ?_
    rintro e w8 ⟨rfl, hc8⟩
    have H58 := Lib.hid (H57.out.trans hc8)
    clear hc8 H57
    go_wp2_with fail
    refine (HRE.out _ (HC5.out.trans H58.out)).mono ?_
    rintro e w9 ⟨rfl, hc9⟩
    have H59 := Lib.hid (H58.out.trans hc9)
    clear hc9 H58
    go_wp2_with fail
    refine (HUA.out _ (HC5.out.trans H59.out)).mono ?_
    rintro e w10 ⟨rfl, hc10⟩
    have H60 := Lib.hid (H59.out.trans hc10)
    clear hc10 H59
    have hKC := Lib.hid (fun u (hu : Chg [] w5 u) => show u.cell? ⟨bc, 0, none⟩ = some (.int .i64 (Wn : Nat)) ∧ u.cell? ⟨bc, 1, none⟩ = some (.int .u64 (word : Nat)) from by
      have h := HB5.out.chg hu (by simp)
      exact ⟨h.cell 0, h.cell 1⟩)
    have hK0 := hKC.out _ H60.out
    go_wp2_with fail
    refine startG (S := fun wx => wx.cell? ⟨bc, 0, none⟩ = some (.int .i64 (Wn : Nat)) ∧ wx.cell? ⟨bc, 1, none⟩ = some (.int .u64 (word : Nat))) (st := 58) (by kernel_rfl) hK0 (fun hHeld => ?_)
    refine takeP (i := 0) (v := ?vz0) rfl (by kernel_rfl) (by kernel_rfl) (by kernel_rfl) (by decide) (fun _ _ _ h => h) (Or.inl ⟨by rfl, ?yz0⟩) hK0 ?rz0
    case yz0 => (intro w _; go_simp; first | done | with_reducible rfl)
    try simp only [Act.put, List.setIfInBounds_toArray, List.set_cons_zero, List.set_cons_succ]
    refine takeP (i := 1) (v := ?vz1) rfl (by kernel_rfl) (by kernel_rfl) (by kernel_rfl) (by decide) (fun _ _ _ h => h) (Or.inl ⟨by rfl, ?yz1⟩) hK0 ?rz1
    case yz1 => (intro w _; go_simp; first | done | with_reducible rfl)
    try simp only [Act.put, List.setIfInBounds_toArray, List.set_cons_zero, List.set_cons_succ]
    refine readyG (rs := [2]) (by kernel_rfl) (by simp) (consG rfl (fun K hK => ?_) nilG)
    refine step_calls rfl 33 _ _ rfl enters_dsame _ #[.pointer (some ⟨p, 0, none⟩), .pointer (some ⟨q, 0, none⟩)] (by simp [Act.eval, Act.put]) (HSA.out _ ((H60.out).drew)) ?_; rintro e wz1 ⟨rfl, hcz1⟩; refine ⟨_, rfl, ?_⟩
    have HZ1 := Lib.hid ((((H60.out).drew)).trans hcz1)
    have hK1 := hKC.out _ HZ1.out
    clear hcz1
    refine hK.out _ _ (fun _ _ => hK1) (fun hHeld => ?_)
    clear hK K hHeld
    try simp only [Act.put, List.setIfInBounds_toArray, List.set_cons_zero, List.set_cons_succ]
    refine takeP (i := 3) (v := ?vz3) rfl (by kernel_rfl) (by kernel_rfl) (by kernel_rfl) (by decide) (fun _ _ _ h => h) (Or.inl ⟨by rfl, ?yz3⟩) hK1 ?rz3
    case yz3 => (intro w _; go_simp; first | done | with_reducible rfl)
    try simp only [Act.put, List.setIfInBounds_toArray, List.set_cons_zero, List.set_cons_succ]
    refine takeP (i := 4) (v := ?vz4) rfl (by kernel_rfl) (by kernel_rfl) (by kernel_rfl) (by decide) (fun _ _ _ h => h) (Or.inl ⟨by rfl, ?yz4⟩) hK1 ?rz4
    case yz4 => (intro w _; go_simp; first | done | with_reducible rfl)
    try simp only [Act.put, List.setIfInBounds_toArray, List.set_cons_zero, List.set_cons_succ]
    refine takeP (i := 5) (v := ?vz5) rfl (by kernel_rfl) (by kernel_rfl) (by kernel_rfl) (by decide) (fun _ _ _ h => h) (Or.inl ⟨by rfl, ?yz5⟩) hK1 ?rz5
    case yz5 => (intro w _; go_simp; first | done | with_reducible rfl)
    try simp only [Act.put, List.setIfInBounds_toArray, List.set_cons_zero, List.set_cons_succ]
    refine takeP (i := 7) (v := ?vz7) rfl (by kernel_rfl) (by kernel_rfl) (by kernel_rfl) (by decide) (fun _ _ _ h => h) (Or.inl ⟨by rfl, ?yz7⟩) hK1 ?rz7
    case yz7 => (intro w _; go_simp; first | done | with_reducible rfl)
    try simp only [Act.put, List.setIfInBounds_toArray, List.set_cons_zero, List.set_cons_succ]
    refine takeP (i := 8) (v := ?vz8) rfl (by kernel_rfl) (by kernel_rfl) (by kernel_rfl) (by decide) (fun _ _ _ h => h) (Or.inl ⟨by rfl, ?yz8⟩) hK1 ?rz8
    case yz8 => (intro w _; go_simp; first | done | with_reducible rfl)
    try simp only [Act.put, List.setIfInBounds_toArray, List.set_cons_zero, List.set_cons_succ]
    refine readyG (rs := [6]) (by kernel_rfl) (by simp) (consG rfl (fun K hK => ?_) nilG)
    refine step_callsG (by rfl) 23 _ _ rfl enters_drank _ #[.pointer (some ⟨p, 0, none⟩), .int .i64 x] (by simp [Act.eval, Act.put]) (HRK.out _ HZ1.out) ?_; rintro e wq ⟨rfl, rfl⟩; refine ⟨_, rfl, ?_⟩
    refine hK.out _ _ (fun _ _ => hK1) (fun hHeld => ?_)
    clear hK K hHeld
    try simp only [Act.put, List.setIfInBounds_toArray, List.set_cons_zero, List.set_cons_succ]
    refine readyG (rs := [9]) (by kernel_rfl) (by simp) (consG rfl (fun K hK => ?_) nilG)
    refine step_callsG (by rfl) 39 _ _ rfl enters_drrank _ #[.pointer (some ⟨q, 0, none⟩), .int .i64 x] (by simp [Act.eval, Act.put]) (HRR.out _ HZ1.out) ?_; rintro e wz2 ⟨rfl, hcz2⟩; refine ⟨_, rfl, ?_⟩
    have HZ2 := Lib.hid ((HZ1.out).trans hcz2)
    have hK2 := hKC.out _ HZ2.out
    clear hcz2
    refine hK.out _ _ (fun _ _ => hK2) (fun hHeld => ?_)
    clear hK K hHeld
    try simp only [Act.put, List.setIfInBounds_toArray, List.set_cons_zero, List.set_cons_succ]
    refine takeP (i := 10) (v := ?vz10) rfl (by kernel_rfl) (by kernel_rfl) (by kernel_rfl) (by decide) (fun _ _ _ h => h) (Or.inl ⟨by rfl, ?yz10⟩) hK2 ?rz10
    case yz10 => (intro w _; go_simp; first | done | with_reducible rfl)
    try simp only [Act.put, List.setIfInBounds_toArray, List.set_cons_zero, List.set_cons_succ]
    refine takeP (i := 11) (v := ?vz11) rfl (by kernel_rfl) (by kernel_rfl) (by kernel_rfl) (by decide) (fun _ _ _ h => h) (Or.inl ⟨by rfl, ?yz11⟩) hK2 ?rz11
    case yz11 => (intro w _; go_simp; first | done | with_reducible rfl)
    try simp only [Act.put, List.setIfInBounds_toArray, List.set_cons_zero, List.set_cons_succ]
    refine takeP (i := 12) (v := ?vz12) rfl (by kernel_rfl) (by kernel_rfl) (by kernel_rfl) (by decide) (fun _ _ _ h => h) (Or.inl ⟨by rfl, ?yz12⟩) hK2 ?rz12
    case yz12 => (intro w _; go_simp; first | done | with_reducible rfl)
    try simp only [Act.put, List.setIfInBounds_toArray, List.set_cons_zero, List.set_cons_succ]
    refine takeP (i := 13) (v := ?vz13) rfl (by kernel_rfl) (by kernel_rfl) (by kernel_rfl) (by decide) (fun _ _ _ h => h) (Or.inl ⟨by rfl, ?yz13⟩) hK2 ?rz13
    case yz13 => (intro w _; go_simp; first | done | with_reducible rfl)
    try simp only [Act.put, List.setIfInBounds_toArray, List.set_cons_zero, List.set_cons_succ]
    refine takeP (i := 14) (v := ?vz14) rfl (by kernel_rfl) (by kernel_rfl) (by kernel_rfl) (by decide) (fun _ _ _ h => h) (Or.inl ⟨by rfl, ?yz14⟩) hK2 ?rz14
    case yz14 => (intro w _; go_simp; first | done | with_reducible rfl)
    try simp only [Act.put, List.setIfInBounds_toArray, List.set_cons_zero, List.set_cons_succ]
    refine takeP (i := 15) (v := ?vz15) rfl (by kernel_rfl) (by kernel_rfl) (by kernel_rfl) (by decide) (fun _ _ _ h => h) (Or.inl ⟨by rfl, ?yz15⟩) hK2 ?rz15
    case yz15 => (intro w _; go_simp; first | done | with_reducible rfl)
    try simp only [Act.put, List.setIfInBounds_toArray, List.set_cons_zero, List.set_cons_succ]
    refine takeP (i := 16) (v := ?vz16) rfl (by kernel_rfl) (by kernel_rfl) (by kernel_rfl) (by decide) (fun _ _ _ h => h) (Or.inl ⟨by rfl, ?yz16⟩) hK2 ?rz16
    case yz16 => (intro w _; go_simp; first | done | with_reducible rfl)
    try simp only [Act.put, List.setIfInBounds_toArray, List.set_cons_zero, List.set_cons_succ]
    refine takeP (i := 17) (v := ?vz17) rfl (by kernel_rfl) (by kernel_rfl) (by kernel_rfl) (by decide) (fun _ _ _ h => h) (Or.inl ⟨by rfl, ?yz17⟩) hK2 ?rz17
    case yz17 => (intro w _; go_simp; first | done | with_reducible rfl)
    try simp only [Act.put, List.setIfInBounds_toArray, List.set_cons_zero, List.set_cons_succ]
    refine takeP (i := 18) (v := ?vz18) rfl (by kernel_rfl) (by kernel_rfl) (by kernel_rfl) (by decide) (fun _ _ _ h => h) (Or.inl ⟨by rfl, ?yz18⟩) hK2 ?rz18
    case yz18 => (intro w _; go_simp; first | done | with_reducible rfl)
    try simp only [Act.put, List.setIfInBounds_toArray, List.set_cons_zero, List.set_cons_succ]
    refine takeP (i := 19) (v := ?vz19) rfl (by kernel_rfl) (by kernel_rfl) (by kernel_rfl) (by decide) (fun _ _ _ h => h) (Or.inl ⟨by rfl, ?yz19⟩) hK2 ?rz19
    case yz19 => (intro w _; go_simp; first | done | with_reducible rfl)
    try simp only [Act.put, List.setIfInBounds_toArray, List.set_cons_zero, List.set_cons_succ]
    refine takeP (i := 20) (v := ?vz20) rfl (by kernel_rfl) (by kernel_rfl) (by kernel_rfl) (by decide) (fun _ _ _ h => h) (Or.inl ⟨by rfl, ?yz20⟩) hK2 ?rz20
    case yz20 => (intro w _; go_simp; first | done | with_reducible rfl)
    try simp only [Act.put, List.setIfInBounds_toArray, List.set_cons_zero, List.set_cons_succ]
    refine takeP (i := 21) (v := ?vz21) rfl (by kernel_rfl) (by kernel_rfl) (by kernel_rfl) (by decide) (fun _ _ _ h => h) (Or.inl ⟨by rfl, ?yz21⟩) hK2 ?rz21
    case yz21 => (intro w _; go_simp; first | done | with_reducible rfl)
    try simp only [Act.put, List.setIfInBounds_toArray, List.set_cons_zero, List.set_cons_succ]
    refine takeP (i := 22) (v := ?vz22) rfl (by kernel_rfl) (by kernel_rfl) (by kernel_rfl) (by decide) (fun _ _ _ h => h) (Or.inl ⟨by rfl, ?yz22⟩) hK2 ?rz22
    case yz22 => (intro w _; go_simp; first | done | with_reducible rfl)
    try simp only [Act.put, List.setIfInBounds_toArray, List.set_cons_zero, List.set_cons_succ]
    refine takeP (i := 23) (v := ?vz23) rfl (by kernel_rfl) (by kernel_rfl) (by kernel_rfl) (by decide) (fun _ _ _ h => h) (Or.inl ⟨by rfl, ?yz23⟩) hK2 ?rz23
    case yz23 => (intro w _; go_simp; first | done | with_reducible rfl)
    try simp only [Act.put, List.setIfInBounds_toArray, List.set_cons_zero, List.set_cons_succ]
    refine takeP (i := 24) (v := ?vz24) rfl (by kernel_rfl) (by kernel_rfl) (by kernel_rfl) (by decide) (fun _ _ _ h => h) (Or.inl ⟨by rfl, ?yz24⟩) hK2 ?rz24
    case yz24 => (intro w _; go_simp; first | done | with_reducible rfl)
    try simp only [Act.put, List.setIfInBounds_toArray, List.set_cons_zero, List.set_cons_succ]
    refine takeP (i := 25) (v := ?vz25) rfl (by kernel_rfl) (by kernel_rfl) (by kernel_rfl) (by decide) (fun _ _ _ h => h) (Or.inl ⟨by rfl, ?yz25⟩) hK2 ?rz25
    case yz25 => (intro w _; go_simp; first | done | with_reducible rfl)
    try simp only [Act.put, List.setIfInBounds_toArray, List.set_cons_zero, List.set_cons_succ]
    refine takeP (i := 26) (v := ?vz26) rfl (by kernel_rfl) (by kernel_rfl) (by kernel_rfl) (by decide) (fun _ _ _ h => h) (Or.inl ⟨by rfl, ?yz26⟩) hK2 ?rz26
    case yz26 => (intro w _; go_simp; first | done | with_reducible rfl)
    try simp only [Act.put, List.setIfInBounds_toArray, List.set_cons_zero, List.set_cons_succ]
    refine takeP (i := 27) (v := ?vz27) rfl (by kernel_rfl) (by kernel_rfl) (by kernel_rfl) (by decide) (fun _ _ _ h => h) (Or.inl ⟨by rfl, ?yz27⟩) hK2 ?rz27
    case yz27 => (intro w _; go_simp; first | done | with_reducible rfl)
    try simp only [Act.put, List.setIfInBounds_toArray, List.set_cons_zero, List.set_cons_succ]
    refine takeP (i := 28) (v := ?vz28) rfl (by kernel_rfl) (by kernel_rfl) (by kernel_rfl) (by decide) (fun _ _ _ h => h) (Or.inl ⟨by rfl, ?yz28⟩) hK2 ?rz28
    case yz28 => (intro w _; go_simp; first | done | with_reducible rfl)
    try simp only [Act.put, List.setIfInBounds_toArray, List.set_cons_zero, List.set_cons_succ]
    refine takeP (i := 29) (v := ?vz29) rfl (by kernel_rfl) (by kernel_rfl) (by kernel_rfl) (by decide) (fun _ _ _ h => h) (Or.inl ⟨by rfl, ?yz29⟩) hK2 ?rz29
    case yz29 => (intro w _; go_simp; first | done | with_reducible rfl)
    try simp only [Act.put, List.setIfInBounds_toArray, List.set_cons_zero, List.set_cons_succ]
    refine takeP (i := 30) (v := ?vz30) rfl (by kernel_rfl) (by kernel_rfl) (by kernel_rfl) (by decide) (fun _ _ _ h => h) (Or.inl ⟨by rfl, ?yz30⟩) hK2 ?rz30
    case yz30 => (intro w _; go_simp; first | done | with_reducible rfl)
    try simp only [Act.put, List.setIfInBounds_toArray, List.set_cons_zero, List.set_cons_succ]
    refine takeP (i := 31) (v := ?vz31) rfl (by kernel_rfl) (by kernel_rfl) (by kernel_rfl) (by decide) (fun _ _ _ h => h) (Or.inl ⟨by rfl, ?yz31⟩) hK2 ?rz31
    case yz31 => (intro w _; go_simp; first | done | with_reducible rfl)
    try simp only [Act.put, List.setIfInBounds_toArray, List.set_cons_zero, List.set_cons_succ]
    refine takeP (i := 32) (v := ?vz32) rfl (by kernel_rfl) (by kernel_rfl) (by kernel_rfl) (by decide) (fun _ _ _ h => h) (Or.inl ⟨by rfl, ?yz32⟩) hK2 ?rz32
    case yz32 => (intro w _; go_simp; first | done | with_reducible rfl)
    try simp only [Act.put, List.setIfInBounds_toArray, List.set_cons_zero, List.set_cons_succ]
    refine takeP (i := 33) (v := ?vz33) rfl (by kernel_rfl) (by kernel_rfl) (by kernel_rfl) (by decide) (fun _ _ _ h => h) (Or.inl ⟨by rfl, ?yz33⟩) hK2 ?rz33
    case yz33 => (intro w _; go_simp; first | done | with_reducible rfl)
    try simp only [Act.put, List.setIfInBounds_toArray, List.set_cons_zero, List.set_cons_succ]
    refine takeP (i := 34) (v := ?vz34) rfl (by kernel_rfl) (by kernel_rfl) (by kernel_rfl) (by decide) (fun _ _ _ h => h) (Or.inl ⟨by rfl, ?yz34⟩) hK2 ?rz34
    case yz34 => (intro w _; go_simp; first | done | with_reducible rfl)
    try simp only [Act.put, List.setIfInBounds_toArray, List.set_cons_zero, List.set_cons_succ]
    refine takeP (i := 35) (v := ?vz35) rfl (by kernel_rfl) (by kernel_rfl) (by kernel_rfl) (by decide) (fun _ _ _ h => h) (Or.inl ⟨by rfl, ?yz35⟩) hK2 ?rz35
    case yz35 => (intro w _; go_simp; first | done | with_reducible rfl)
    try simp only [Act.put, List.setIfInBounds_toArray, List.set_cons_zero, List.set_cons_succ]
    refine takeP (i := 36) (v := ?vz36) rfl (by kernel_rfl) (by kernel_rfl) (by kernel_rfl) (by decide) (fun _ _ _ h => h) (Or.inl ⟨by rfl, ?yz36⟩) hK2 ?rz36
    case yz36 => (intro w _; go_simp; first | done | with_reducible rfl)
    try simp only [Act.put, List.setIfInBounds_toArray, List.set_cons_zero, List.set_cons_succ]
    refine takeP (i := 37) (v := ?vz37) rfl (by kernel_rfl) (by kernel_rfl) (by kernel_rfl) (by decide) (fun _ _ _ h => h) (Or.inl ⟨by rfl, ?yz37⟩) hK2 ?rz37
    case yz37 => (intro w _; go_simp; first | done | with_reducible rfl)
    try simp only [Act.put, List.setIfInBounds_toArray, List.set_cons_zero, List.set_cons_succ]
    refine takeP (i := 38) (v := ?vz38) rfl (by kernel_rfl) (by kernel_rfl) (by kernel_rfl) (by decide) (fun _ _ _ h => h) (Or.inl ⟨by rfl, ?yz38⟩) hK2 ?rz38
    case yz38 => (intro w _; go_simp; first | done | with_reducible rfl)
    try simp only [Act.put, List.setIfInBounds_toArray, List.set_cons_zero, List.set_cons_succ]
    refine takeP (i := 40) (v := ?vz40) rfl (by kernel_rfl) (by kernel_rfl) (by kernel_rfl) (by decide) (fun _ _ _ h => h) (Or.inl ⟨by rfl, ?yz40⟩) hK2 ?rz40
    case yz40 => (intro w _; go_simp; first | done | with_reducible rfl)
    try simp only [Act.put, List.setIfInBounds_toArray, List.set_cons_zero, List.set_cons_succ]
    refine readyG (rs := [39]) (by kernel_rfl) (by simp) (consG rfl (fun K hK => ?_) nilG)
    refine step_callsG (by rfl) 28 _ _ rfl enters_total' _ #[.pointer (some ⟨p, 0, none⟩)] (by simp [Act.eval, Act.put]) (HTO.out _ HZ2.out) ?_; rintro e wq ⟨rfl, rfl⟩; refine ⟨_, rfl, ?_⟩
    refine hK.out _ _ (fun _ _ => hK2) (fun hHeld => ?_)
    clear hK K hHeld
    try simp only [Act.put, List.setIfInBounds_toArray, List.set_cons_zero, List.set_cons_succ]
    refine takeP (i := 41) (v := ?vz41) rfl (by kernel_rfl) (by kernel_rfl) (by kernel_rfl) (by decide) (fun _ _ _ h => h) (Or.inl ⟨by rfl, ?yz41⟩) hK2 ?rz41
    case yz41 => (intro w _; go_simp; first | done | with_reducible rfl)
    try simp only [Act.put, List.setIfInBounds_toArray, List.set_cons_zero, List.set_cons_succ]
    refine takeP (i := 42) (v := ?vz42) rfl (by kernel_rfl) (by kernel_rfl) (by kernel_rfl) (by decide) (fun _ _ _ h => h) (Or.inl ⟨by rfl, ?yz42⟩) hK2 ?rz42
    case yz42 => (intro w _; go_simp; first | done | with_reducible rfl)
    try simp only [Act.put, List.setIfInBounds_toArray, List.set_cons_zero, List.set_cons_succ]
    refine takeP (i := 43) (v := ?vz43) rfl (by kernel_rfl) (by kernel_rfl) (by kernel_rfl) (by decide) (fun _ _ _ h => h) (Or.inl ⟨by rfl, ?yz43⟩) hK2 ?rz43
    case yz43 => (intro w _; go_simp; first | done | with_reducible rfl)
    try simp only [Act.put, List.setIfInBounds_toArray, List.set_cons_zero, List.set_cons_succ]
    refine takeP (i := 44) (v := ?vz44) rfl (by kernel_rfl) (by kernel_rfl) (by kernel_rfl) (by decide) (fun _ _ _ h => h) (Or.inl ⟨by rfl, ?yz44⟩) hK2 ?rz44
    case yz44 => (intro w _; go_simp; first | done | with_reducible rfl)
    try simp only [Act.put, List.setIfInBounds_toArray, List.set_cons_zero, List.set_cons_succ]
    refine takeG (i := 46) (v := ?vz46) rfl (by kernel_rfl) (by kernel_rfl) (by kernel_rfl) (by decide) (by kernel_rfl) (by kernel_rfl) (fun _ _ _ h => h) (Or.inl ⟨by rfl, ?yz46⟩) hK2 ?rz46
    case yz46 => (intro w hSw; (try dsimp only at hSw); go_simp; first | done | with_reducible rfl)
    try simp only [Act.put, List.setIfInBounds_toArray, List.set_cons_zero, List.set_cons_succ]
    refine readyG (rs := [45]) (by kernel_rfl) (by simp) (consG rfl (fun K hK => ?_) nilG)
    refine step_callsG (by rfl) 40 _ _ rfl enters_dconfig _ #[.pointer (some ⟨p, 0, none⟩)] (by simp [Act.eval, Act.put]) (HCF.out _ HZ2.out) ?_; rintro e wz3 ⟨rfl, hcz3⟩; refine ⟨_, rfl, ?_⟩
    have HZ3 := Lib.hid ((HZ2.out).trans hcz3)
    have hK3 := hKC.out _ HZ3.out
    clear hcz3
    refine hK.out _ _ (fun _ _ => hK3) (fun hHeld => ?_)
    clear hK K hHeld
    try simp only [Act.put, List.setIfInBounds_toArray, List.set_cons_zero, List.set_cons_succ]
    refine takeP (i := 47) (v := ?vz47) rfl (by kernel_rfl) (by kernel_rfl) (by kernel_rfl) (by decide) (fun _ _ _ h => h) (Or.inl ⟨by rfl, ?yz47⟩) hK3 ?rz47
    case yz47 => (intro w _; go_simp; first | done | with_reducible rfl)
    try simp only [Act.put, List.setIfInBounds_toArray, List.set_cons_zero, List.set_cons_succ]
    refine takeP (i := 48) (v := ?vz48) rfl (by kernel_rfl) (by kernel_rfl) (by kernel_rfl) (by decide) (fun _ _ _ h => h) (Or.inl ⟨by rfl, ?yz48⟩) hK3 ?rz48
    case yz48 => (intro w _; go_simp; first | done | with_reducible rfl)
    try simp only [Act.put, List.setIfInBounds_toArray, List.set_cons_zero, List.set_cons_succ]
    refine takeP (i := 49) (v := ?vz49) rfl (by kernel_rfl) (by kernel_rfl) (by kernel_rfl) (by decide) (fun _ _ _ h => h) (Or.inl ⟨by rfl, ?yz49⟩) hK3 ?rz49
    case yz49 => (intro w _; go_simp; first | done | with_reducible rfl)
    try simp only [Act.put, List.setIfInBounds_toArray, List.set_cons_zero, List.set_cons_succ]
    refine takeP (i := 50) (v := ?vz50) rfl (by kernel_rfl) (by kernel_rfl) (by kernel_rfl) (by decide) (fun _ _ _ h => h) (Or.inl ⟨by rfl, ?yz50⟩) hK3 ?rz50
    case yz50 => (intro w _; go_simp; first | done | with_reducible rfl)
    try simp only [Act.put, List.setIfInBounds_toArray, List.set_cons_zero, List.set_cons_succ]
    refine takeP (i := 52) (v := ?vz52) rfl (by kernel_rfl) (by kernel_rfl) (by kernel_rfl) (by decide) (fun _ _ _ h => h) (Or.inl ⟨by rfl, ?yz52⟩) hK3 ?rz52
    case yz52 => (intro w _; go_simp; first | done | with_reducible rfl)
    try simp only [Act.put, List.setIfInBounds_toArray, List.set_cons_zero, List.set_cons_succ]
    refine takeG (i := 53) (v := ?vz53) rfl (by kernel_rfl) (by kernel_rfl) (by kernel_rfl) (by decide) (by kernel_rfl) (by kernel_rfl) (fun _ _ _ h => h) (Or.inl ⟨by rfl, ?yz53⟩) hK3 ?rz53
    case yz53 => (intro w hSw; (try dsimp only at hSw); go_simp; first | done | with_reducible rfl)
    try simp only [Act.put, List.setIfInBounds_toArray, List.set_cons_zero, List.set_cons_succ]
    refine takeP (i := 54) (v := ?vz54) rfl (by kernel_rfl) (by kernel_rfl) (by kernel_rfl) (by decide) (fun _ _ _ h => h) (Or.inl ⟨by rfl, ?yz54⟩) hK3 ?rz54
    case yz54 => (intro w _; go_simp; first | done | with_reducible rfl)
    try simp only [Act.put, List.setIfInBounds_toArray, List.set_cons_zero, List.set_cons_succ]
    refine takeP (i := 55) (v := ?vz55) rfl (by kernel_rfl) (by kernel_rfl) (by kernel_rfl) (by decide) (fun _ _ _ h => h) (Or.inl ⟨by rfl, ?yz55⟩) hK3 ?rz55
    case yz55 => (intro w _; go_simp; first | done | with_reducible rfl)
    try simp only [Act.put, List.setIfInBounds_toArray, List.set_cons_zero, List.set_cons_succ]
    refine readyG (rs := [51]) (by kernel_rfl) (by simp) (consG rfl (fun K hK => ?_) nilG)
    refine step_callsG (by rfl) 25 _ _ rfl enters_dmost _ #[.pointer (some ⟨p, 0, none⟩)] (by simp [Act.eval, Act.put]) (HMO.out _ HZ3.out) ?_; rintro e wq ⟨rfl, rfl⟩; refine ⟨_, rfl, ?_⟩
    refine hK.out _ _ (fun _ _ => hK3) (fun hHeld => ?_)
    clear hK K hHeld
    try simp only [Act.put, List.setIfInBounds_toArray, List.set_cons_zero, List.set_cons_succ]
    refine takeP (i := 56) (v := ?vz56) rfl (by kernel_rfl) (by kernel_rfl) (by kernel_rfl) (by decide) (fun _ _ _ h => h) (Or.inl ⟨by rfl, ?yz56⟩) hK3 ?rz56
    case yz56 => (intro w _; go_simp; first | done | with_reducible rfl)
    try simp only [Act.put, List.setIfInBounds_toArray, List.set_cons_zero, List.set_cons_succ]
    refine takeP (i := 57) (v := ?vz57) rfl (by kernel_rfl) (by kernel_rfl) (by kernel_rfl) (by decide) (fun _ _ _ h => h) (Or.inl ⟨by rfl, ?yz57⟩) hK3 ?rz57
    case yz57 => (intro w _; go_simp; first | done | with_reducible rfl)
    try simp only [Act.put, List.setIfInBounds_toArray, List.set_cons_zero, List.set_cons_succ]
    refine readyG (rs := [58]) (by kernel_rfl) (by simp) (consG rfl (fun K hK => ?_) nilG)
    go_simp
    refine hK.out _ _ (fun h => absurd rfl h) (fun hHeld => ?_)
    clear hK K hHeld
    try simp only [Act.put, List.setIfInBounds_toArray, List.set_cons_zero, List.set_cons_succ]
    refine doneG (by kernel_rfl) ?_ _
    go_wp2
    go_ret
    exact ⟨rfl, HC5.out.trans HZ3.out⟩
end Go.Proofs.Ytbaobiniianamaa
