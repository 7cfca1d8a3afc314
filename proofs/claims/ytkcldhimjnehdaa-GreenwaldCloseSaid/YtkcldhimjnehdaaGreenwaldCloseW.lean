/-
  The walk of the law GreenwaldClose. Conditions: the form's own reach.
-/
import Derived.Test.YtkcldhimjnehdaaGkClose
import Derived.Test.YtkcldhimjnehdaaPlace
namespace Go.Proofs.Ytkcldhimjnehdaa
open Go.RowKit

theorem GkD.flush2 (D : GkD) : D.flush.flush = D.flush := by
  have h := D.flush_same.2.2.2
  generalize D.flush = E at *
  unfold GkD.flush
  rw [if_pos h]
theorem sumS_pos {l : List Vl} (h : ∀ v ∈ l, 1 ≤ v.n) (hl : l ≠ []) : 1 ≤ sumS l := by
  cases l with
  | nil => exact absurd rfl hl
  | cons v l => have := h v (by simp); simp only [sumS]; omega
theorem enters_gtotal : ∀ (args : Array Value) (w : World), (callFunc 22 args).run Try.prog w = .ok (.enter 22 args) w := enters_of Try.func22 (by kernel_rfl) rfl
theorem enters_rplace : ∀ (args : Array Value) (w : World), (callFunc 21 args).run Try.prog w = .ok (.enter 21 args) w := enters_of Try.func21 (by kernel_rfl) rfl
set_option maxRecDepth 100000 in
set_option maxHeartbeats 8000000 in
theorem law_GreenwaldClose (w : World) (num den : Nat) (_hnum : num < 18446744073709551616) (_hden : den < 18446744073709551616) (ao : Option Addr) (ca : Nat) (a : List Vl) (hra : Rd w 2 (.slice ao a.length ca) a.length (vlCells a)) (hla : a.length ≤ 140737488351232) (hka : ∀ i ∈ a, i.ok)
    (pn pd : Nat) (hpn : pn < 18446744073709551616) (hpd : pd < 18446744073709551616) (x : Int) (_hx1 : -9223372036854775808 ≤ x) (_hx2 : x < 9223372036854775808) :
    Calls Try.prog 4 #[.agg #[.int .u64 (num : Nat), .int .u64 (den : Nat)], .slice ao a.length ca, .agg #[.int .u64 (pn : Nat), .int .u64 (pd : Nat)], .int .i64 x] w fun e w' => e = .returned (.bool true) ∧ Chg [] w w' := by
  have HAL := Lib.hid law19_alive
  have HKA := Lib.hid hka
  have HRA := Lib.hid hra
  obtain ⟨n, hn⟩ : ∃ n, n = a.length := ⟨_, rfl⟩
  rw [← hn] at HRA hla ⊢
  have HN := Lib.hid hn
  have HPN := Lib.hid (show pn < 18446744073709551616 ∧ pd < 18446744073709551616 from ⟨hpn, hpd⟩)
  clear hka hra hn _hnum _hden hpn hpd
  have hc0 := ((Chg.refl [] w).alloc (.cells #[.int .u64 num, .int .u64 den] 25)).alloc (.cells #[.int .u64 pn, .int .u64 pd] 25)
  have hb0 := (Blk.alloc_new w #[.int .u64 num, .int .u64 den] 25).alloc (.cells #[.int .u64 pn, .int .u64 pd] 25)
  have hr0 := Blk.alloc_new (w.alloc (.cells #[.int .u64 num, .int .u64 den] 25)) #[.int .u64 pn, .int .u64 pd] 25
  rw [World.size_alloc] at hr0
  obtain ⟨bc, hbc⟩ : ∃ z, z = w.heap.size := ⟨_, rfl⟩
  rw [← hbc] at hb0 hr0
  have HC0 := Lib.hid hc0
  have HB := Lib.hid hb0
  have HR := Lib.hid hr0
  have HBA := Lib.hid (fun u (hu : Chg [] w u) => law19_build u num den ao ca n a HN.out (HRA.out.chg hu (by simp)) hla (fun v hv => (HKA.out v hv).2.2))
  clear hc0 hb0 hr0
  go_enter Try.func4, Try.ntmps4
  go_wp2_with fail
  rw [← hbc]
  clear hbc
  generalize (w.alloc (.cells #[.int .u64 num, .int .u64 den] 25)).alloc (.cells #[.int .u64 pn, .int .u64 pd] 25) = w0 at *
  refine (HAL.out _).mono ?_
  rintro e w4 ⟨rfl, hc1⟩
  have HC4 := Lib.hid (HC0.out.trans hc1)
  have HB4 := Lib.hid (HB.out.chg hc1 (by simp))
  have HR4 := Lib.hid (HR.out.chg hc1 (by simp))
  have x0 := HB4.out.cell 0
  have x1 := HB4.out.cell 1
  simp only [List.getElem?_toArray, List.getElem?_cons_zero, List.getElem?_cons_succ] at x0 x1
  clear hc1 HB HR HC0 HAL
  go_wp2_with fail
  refine (HBA.out _ HC4.out).mono ?_
  clear x0 x1
  rintro e w5 (⟨hbad, rfl, hc5⟩ | ⟨hok, p, rv, wv, q, sv, yv, rfl, ht5, -, hc5, hf5, -, -⟩)
  · go_wp2_with fail
    go_ret
    exact ⟨rfl, HC4.out.trans hc5⟩
  · have HC5 := Lib.hid (HC4.out.trans hc5)
    have HB5 := Lib.hid (HB4.out.chg hc5 (by simp))
    have HR5 := Lib.hid (HR4.out.chg hc5 (by simp))
    have HOK := Lib.hid (valsG_ok num den a)
    have HSM := Lib.hid (valsG_same num den a)
    have HUP := Lib.hid (valsG_up num den a)
    have HG := Lib.hid hok.2.2.2
    have HA := Lib.hid hok.1
    have hs : sumS a ≤ 150 := hok.2.2.1
    generalize valsG num den a = D at *
    obtain ⟨N, hNN⟩ : ∃ N, N = sumS a := ⟨_, rfl⟩
    have HNN := Lib.hid hNN
    rw [← hNN] at HSM hs
    have hgd : goodK D.num D.den = true := by rw [HSM.out.1, HSM.out.2.1]; exact HG.out
    have hto := HSM.out.2.2
    have HRK := Lib.hid (gk_rank w5 p rv wv D ht5 HOK.out hgd (by omega) x)
    obtain ⟨r1, r2⟩ := GkD.rank_is HOK.out x
    rw [HUP.out] at r1 r2
    obtain ⟨U, hU⟩ : ∃ U, U = upS x a := ⟨_, rfl⟩
    have HUA := Lib.hid (fun u (hu : Chg [] w u) => ref13_up u ao ca n a HN.out (HRA.out.chg hu (by simp)) hla (by omega) x U hU)
    rw [← hU] at r1 r2
    generalize (rankF 0 D.flush.row x).1 = R1 at *
    generalize (rankF 0 D.flush.row x).2 = R2 at *
    have HFB := Lib.hid (show ∀ b ∈ fpK p rv wv, w.heap.size ≤ b ∧ bc + 1 < b from fun b hb => ⟨Nat.le_trans HC4.out.size (hf5 b hb), Nat.lt_of_lt_of_le HR4.out.lt (hf5 b hb)⟩)
    have HS := Lib.hid hs
    have d1 : decide ((U : Int) < (R1 : Int)) = false := decide_eq_false (by omega)
    have d1' : decide (U < R1) = false := decide_eq_false (by omega)
    have d2 : decide ((R2 : Int) < (U : Int)) = false := decide_eq_false (by omega)
    have d2' : decide (R2 < U) = false := decide_eq_false (by omega)
    clear ht5 hc5 hf5 hok hs hgd hto hNN hU r1 r2 HB4 HR4 HBA
    go_wp2_with fail
    refine HRK.out.mono ?_
    rintro e w6 ⟨rfl, rv2, wv2, ht6, hm6⟩
    have HT6 := Lib.hid ht6
    have HC6 := Lib.hid (HC5.out.trans' hm6.chg (fun b hb => .inr (HFB.out b hb).1))
    have HB6 := Lib.hid (HB5.out.chg hm6.chg (fun e => by have := (HFB.out _ e).2; omega))
    have HR6 := Lib.hid (HR5.out.chg hm6.chg (fun e => by have := (HFB.out _ e).2; omega))
    have HFB6 := Lib.hid (show ∀ b ∈ fpK p rv2 wv2, w.heap.size ≤ b ∧ bc + 1 < b from fun b hb => by
      rcases hm6.fr b hb with h | h
      · exact HFB.out b h
      · have h1 := HC5.out.size
        have h2 := HR5.out.lt
        exact ⟨by omega, by omega⟩)
    clear ht6 hm6 HRK HB5 HR5 HFB
    go_wp2_with fail
    refine (HUA.out _ HC6.out).mono ?_
    rintro e w7 ⟨rfl, hc7⟩
    have H67 := Lib.hid hc7
    have HR7 := Lib.hid (HR6.out.chg hc7 (by simp))
    have y0 := HR7.out.cell 0
    have y1 := HR7.out.cell 1
    simp only [List.getElem?_toArray, List.getElem?_cons_zero, List.getElem?_cons_succ] at y0 y1
    have HGP := Lib.hid (fun u => ref03_good u pn pd)
    clear hc7 HUA
    go_wp2_with fail
    refine (HGP.out _).mono ?_
    rintro e w8 ⟨rfl, hc8⟩
    have H68 := Lib.hid (H67.out.trans hc8)
    clear hc8 y0 y1
    by_cases hp : goodP pn pd = true
    case neg =>
      have hp' : goodP pn pd = false := by simpa using hp
      clear hp
      go_wp2_with fail
      go_ret
      exact ⟨rfl, HC6.out.trans H68.out⟩
    by_cases hz : n = 0
    · have hz' : ((n : Int) == 0) = true := by rw [beq_iff_eq]; omega
      clear hz
      go_wp2_with fail
      go_ret
      exact ⟨rfl, HC6.out.trans H68.out⟩
    have hz' : ((n : Int) == 0) = false := by rw [beq_eq_false_iff_ne]; omega
    have hN1 : 1 ≤ N := by rw [HNN.out]; exact sumS_pos (fun v hv => (HA.out v hv).1) (fun e => by have := HN.out; rw [e] at this; exact hz this)
    have hE : placeE pn pd N = 0 := by unfold placeE; rw [if_pos hp, if_neg (by omega)]
    obtain ⟨hT1, hT2⟩ := placeT_of hE
    obtain ⟨T, hT⟩ : ∃ T, T = placeT pn pd N := ⟨_, rfl⟩
    rw [← hT] at hT1 hT2
    have HPL := Lib.hid (fun u => ref03_place u pn pd N HPN.out.1 HPN.out.2 (by have := HS.out; omega) T 0 hT hE.symm)
    have htt : D.flush.total = N := by rw [D.flush_same.2.2.1]; exact HSM.out.2.2
    have HTO := Lib.hid (fun u (hu : Chg [] w6 u) => show Calls Try.prog 22 #[.pointer (some ⟨p, 0, none⟩)] u fun e w' => e = .returned (.int .u64 (N : Nat)) ∧ u = w' from by rw [← htt]; exact gk_total u p rv2 wv2 D.flush (HT6.out.chg hu (by simp)))
    obtain ⟨q1, q2, -, -⟩ := D.flush_same
    have HQU := Lib.hid (fun u (hu : Chg [] w6 u) => gk_quantile u p rv2 wv2 D.flush (HT6.out.chg hu (by simp)) (GkD.flush_ok0 HOK.out) (by rw [q1, q2, HSM.out.1, HSM.out.2.1]; exact HG.out) (by have := HS.out; omega) pn pd HPN.out.1 HPN.out.2 T 0 (by rw [htt]; exact hT) (by rw [htt]; exact hE.symm))
    rw [GkD.flush2] at HQU
    obtain ⟨n1, n2⟩ := GkD.near_is HOK.out hT1 (show T ≤ D.total from by rw [HSM.out.2.2]; exact hT2)
    rw [HSM.out.1, HSM.out.2.1, HSM.out.2.2, HUP.out, HUP.out] at n2
    rw [HUP.out, HUP.out] at n1
    obtain ⟨V, hV⟩ : ∃ V, V = foundX T D.flush.row := ⟨_, rfl⟩
    rw [← hV] at HQU n1 n2
    have HNE := Lib.hid (fun u (hu : Chg [] w u) => law19_near u ao ca n a HN.out (HRA.out.chg hu (by simp)) hla (by have := HS.out; have := HNN.out; omega) (fun v hv => by have := (HKA.out v hv).2.1; omega) V T (by have := HS.out; omega) num den HG.out n1 (by rw [← HNN.out]; exact n2))
    have HR8 := Lib.hid (HR6.out.chg H68.out (by simp))
    have y0 := HR8.out.cell 0
    have y1 := HR8.out.cell 1
    simp only [List.getElem?_toArray, List.getElem?_cons_zero, List.getElem?_cons_succ] at y0 y1
    clear hN1 hE hT1 hT2 hT htt q1 q2 n1 n2 hV hz
    go_upto_region 12 with (fail)
    have hSS : Chg [] w6 w8.drew ∧ w8.drew.cell? ⟨bc + 1, 0, none⟩ = some (.int .u64 (pn : Nat)) ∧ w8.drew.cell? ⟨bc + 1, 1, none⟩ = some (.int .u64 (pd : Nat)) := ⟨H68.out.drew, y0, y1⟩
    refine startG (S := fun wx => Chg [] w6 wx ∧ wx.cell? ⟨bc + 1, 0, none⟩ = some (.int .u64 (pn : Nat)) ∧ wx.cell? ⟨bc + 1, 1, none⟩ = some (.int .u64 (pd : Nat))) (st := 8) (by kernel_rfl) hSS (fun hHeld => ?_)
    refine takeG (i := 0) (v := ?vz0) rfl (by kernel_rfl) (by kernel_rfl) (by kernel_rfl) (by decide) (by kernel_rfl) (by kernel_rfl) (fun _ _ _ h => h) (Or.inl ⟨by rfl, ?yz0⟩) hSS ?rz0
    case yz0 => (intro w hSw; (try dsimp only at hSw); go_simp; first | done | with_reducible rfl)
    try simp only [Act.put, List.setIfInBounds_toArray, List.set_cons_zero, List.set_cons_succ]
    refine takeP (i := 1) (v := ?vz1) rfl (by kernel_rfl) (by kernel_rfl) (by kernel_rfl) (by decide) (fun _ _ _ h => h) (Or.inl ⟨by rfl, ?yz1⟩) hSS ?rz1
    case yz1 => (intro w _; go_simp; first | done | with_reducible rfl)
    try simp only [Act.put, List.setIfInBounds_toArray, List.set_cons_zero, List.set_cons_succ]
    refine readyG (rs := [2]) (by kernel_rfl) (by simp) (consG rfl (fun K hK => ?_) nilG)
    refine step_calls rfl 22 _ _ rfl enters_gtotal _ #[.pointer (some ⟨p, 0, none⟩)] (by simp [Act.eval]) (HTO.out _ hSS.1) ?_; rintro e wq ⟨rfl, rfl⟩; refine ⟨_, rfl, ?_⟩
    refine hK.out _ _ (fun _ _ => hSS) (fun hHeld => ?_)
    clear hK K hHeld
    try simp only [Act.put, List.setIfInBounds_toArray, List.set_cons_zero, List.set_cons_succ]
    refine readyG (rs := [3]) (by kernel_rfl) (by simp) (consG rfl (fun K hK => ?_) nilG)
    refine step_calls rfl 21 _ _ rfl enters_rplace _ #[.agg #[.int .u64 (pn : Nat), .int .u64 (pd : Nat)], .int .u64 (N : Nat)] (by simp [Act.eval]) (HPL.out _) ?_; rintro e w9 ⟨rfl, hc9⟩; refine ⟨_, rfl, ?_⟩
    have hS9 : Chg [] w6 w9 ∧ w9.cell? ⟨bc + 1, 0, none⟩ = some (.int .u64 (pn : Nat)) ∧ w9.cell? ⟨bc + 1, 1, none⟩ = some (.int .u64 (pd : Nat)) := ⟨hSS.1.trans hc9, hc9.cell hSS.2.1 (by simp), hc9.cell hSS.2.2 (by simp)⟩
    clear hc9
    refine hK.out _ _ (fun _ _ => hS9) (fun hHeld => ?_)
    clear hK K hHeld
    try simp only [Act.put, List.setIfInBounds_toArray, List.set_cons_zero, List.set_cons_succ]
    refine takeP (i := 4) (v := ?vz4) rfl (by kernel_rfl) (by kernel_rfl) (by kernel_rfl) (by decide) (fun _ _ _ h => h) (Or.inl ⟨by rfl, ?yz4⟩) hS9 ?rz4
    case yz4 => (intro w _; go_simp; first | done | with_reducible rfl)
    try simp only [Act.put, List.setIfInBounds_toArray, List.set_cons_zero, List.set_cons_succ]
    refine takeP (i := 5) (v := ?vz5) rfl (by kernel_rfl) (by kernel_rfl) (by kernel_rfl) (by decide) (fun _ _ _ h => h) (Or.inl ⟨by rfl, ?yz5⟩) hS9 ?rz5
    case yz5 => (intro w _; go_simp; first | done | with_reducible rfl)
    try simp only [Act.put, List.setIfInBounds_toArray, List.set_cons_zero, List.set_cons_succ]
    refine takeP (i := 6) (v := ?vz6) rfl (by kernel_rfl) (by kernel_rfl) (by kernel_rfl) (by decide) (fun _ _ _ h => h) (Or.inl ⟨by rfl, ?yz6⟩) hS9 ?rz6
    case yz6 => (intro w _; go_simp; first | done | with_reducible rfl)
    try simp only [Act.put, List.setIfInBounds_toArray, List.set_cons_zero, List.set_cons_succ]
    refine takeP (i := 7) (v := ?vz7) rfl (by kernel_rfl) (by kernel_rfl) (by kernel_rfl) (by decide) (fun _ _ _ h => h) (Or.inl ⟨by rfl, ?yz7⟩) hS9 ?rz7
    case yz7 => (intro w _; go_simp; first | done | with_reducible rfl)
    try simp only [Act.put, List.setIfInBounds_toArray, List.set_cons_zero, List.set_cons_succ]
    refine readyG (rs := [8]) (by kernel_rfl) (by simp) (consG rfl (fun K hK => ?_) nilG)
    go_simp
    refine hK.out _ _ (fun h => absurd rfl h) (fun hHeld => ?_)
    clear hK K hHeld
    try simp only [Act.put, List.setIfInBounds_toArray, List.set_cons_zero, List.set_cons_succ]
    refine doneG (by kernel_rfl) ?_ _
    have H69 := Lib.hid hS9.1
    have y0 := hS9.2.1
    have y1 := hS9.2.2
    clear hSS hS9
    go_wp2_with fail
    refine (HQU.out _ H69.out).mono ?_
    rintro e w10 (⟨h, -⟩ | ⟨-, rfl, rv3, wv3, ht10, hm10⟩)
    · exact absurd rfl h
    have HC10 := Lib.hid ((HC6.out.trans H69.out).trans' hm10.chg (fun b hb => .inr (HFB6.out b hb).1))
    have HB10 := Lib.hid ((HB6.out.chg H69.out (by simp)).chg hm10.chg (fun e => by have := (HFB6.out _ e).2; omega))
    have z0 := HB10.out.cell 0
    have z1 := HB10.out.cell 1
    simp only [List.getElem?_toArray, List.getElem?_cons_zero, List.getElem?_cons_succ] at z0 z1
    clear ht10 hm10 y0 y1
    go_wp2_with fail
    refine (HNE.out _ HC10.out).mono ?_
    rintro e w11 ⟨rfl, hc11⟩
    have HE := Lib.hid (HC10.out.trans hc11)
    clear hc11
    go_wp2
    go_ret
    exact ⟨rfl, HE.out⟩
end Go.Proofs.Ytkcldhimjnehdaa
