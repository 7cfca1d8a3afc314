/-
  The walk of (*Sketch).Put (layer 22). Conditions: the form's own reach.
  The walk of (*Sketch).Join (layer 22). Conditions: the form's own reach.
  The walks of suite's calls through its interface, at the kind Lumps. Conditions: the form's own reach.
  suite's sketch of lumps: New, Put, Join, Rank, Quantile, whatever comes. Conditions: the form's own reach.
-/
import Derived.Test.YtmehcfocfljoeaaGreatDoorSlotsErrorsB40
import Derived.Test.YtmehcfocfljoeaaGreatDoorSlotsErrorsB38
import Derived.Test.YtmehcfocfljoeaaGreatDoorSlotsErrorsB6
import Derived.Test.YtmehcfocfljoeaaGreatDoorSlotsErrorsB34
import Derived.Test.YtmehcfocfljoeaaGreatDoorSlotsErrorsB11
import Derived.Test.YtmehcfocfljoeaaGreatDoorSlotsErrorsB4
namespace Go.Proofs.YtmehcfocfljoeaaGreatDoor
open Go.RowKit

/-- A sketch of lumps in the heap, whole. -/
def LmS (w : World) (p : Nat) (rv : Value) (D : LmD) : Prop := Lms w p rv (D.most : Int) D.l (totL D.l)
namespace LmS
variable {w w1 : World} {p : Nat} {rv : Value} {D : LmD}
theorem lt (h : LmS w p rv D) : ∀ b ∈ fpL p rv, b < w.heap.size := Lms.lt h
theorem chg {F : List Nat} (h : LmS w p rv D) (k : Chg F w w1) (hF : ∀ b ∈ fpL p rv, b ∉ F) : LmS w1 p rv D := Lms.chg h k hF
end LmS
theorem lump_put_zero (w : World) (p : Nat) (x : Int) : Calls Tryz.prog 433 #[.pointer (some ⟨p, 0, none⟩), .int .i64 x, .int .u64 (0 : Nat)] w fun e w' => e = .returned (.int .i64 1) ∧ Chg [] w w' := by
  go_enter Tryz.func433, Tryz.ntmps433
  go_wp2
  go_ret
  exact ⟨rfl, Chg.refl _ _⟩
set_option maxRecDepth 100000 in
set_option maxHeartbeats 2000000 in
theorem lump_put_full (w : World) (p : Nat) (rv : Value) (D : LmD) (h : LmS w p rv D) (ht : totL D.l ≤ 9223372036854775807) (x : Int) (n : Nat) (h1 : 1 ≤ n) (hn : n < 18446744073709551616) (hfull : 9223372036854775807 < totL D.l + n) :
    Calls Tryz.prog 433 #[.pointer (some ⟨p, 0, none⟩), .int .i64 x, .int .u64 (n : Nat)] w fun e w' => e = .returned (.int .i64 6) ∧ Chg [] w w' := by
  obtain ⟨-, -, c2⟩ := Lms.cells h
  obtain ⟨T, hT⟩ : ∃ T, T = totL D.l := ⟨_, rfl⟩
  rw [← hT] at c2 ht hfull
  have d0 : ((n : Int) == 0) = false := by rw [beq_eq_false_iff_ne]; omega
  have HPL := Lib.hid (fun u b0 hb0 => wide_plus2 u T n (by omega) hn b0 hb0)
  have e : plusV [T, n] = .tuple #[.int .u64 0, .bool false] := by
    unfold plusV
    rw [if_neg (by simp; omega)]
  rw [e] at HPL
  clear e hT h ht hfull hn h1
  go_enter Tryz.func433, Tryz.ntmps433
  go_wp2_with fail
  refine (HPL.out _ _ rfl).mono ?_
  rintro e w1 ⟨rfl, rfl⟩
  clear HPL
  go_wp2
  go_ret
  exact ⟨rfl, (Chg.refl [] w).alloc _⟩
set_option maxRecDepth 100000 in
set_option maxHeartbeats 2000000 in
theorem lump_put (w : World) (p : Nat) (rv : Value) (D : LmD) (h : LmS w p rv D) (hok : D.ok) (x : Int) (n : Nat) (h1 : 1 ≤ n) (ht : totL D.l + n ≤ 9223372036854775807) :
    Calls Tryz.prog 433 #[.pointer (some ⟨p, 0, none⟩), .int .i64 x, .int .u64 (n : Nat)] w fun e w' => e = .returned (.int .i64 0) ∧ ∃ rv', LmS w' p rv' (D.put x n) ∧ Mv (fpL p rv) w (fpL p rv') w' := by
  obtain ⟨-, -, c2⟩ := Lms.cells h
  obtain ⟨ao, cap, hrv⟩ := h.own.shape
  subst hrv
  obtain ⟨T, hT⟩ : ∃ T, T = totL D.l := ⟨_, rfl⟩
  have HT := Lib.hid hT
  have HH := Lib.hid h
  have HOK := Lib.hid hok
  have HTL := Lib.hid ht
  have HH1 := Lib.hid h1
  rw [← hT] at c2 ht
  have d0 : ((n : Int) == 0) = false := by rw [beq_eq_false_iff_ne]; omega
  have HPL := Lib.hid (fun u b0 hb0 => wide_plus2 u T n (by omega) (by omega) b0 hb0)
  obtain ⟨S, hS⟩ : ∃ S, S = T + n := ⟨_, rfl⟩
  have e : plusV [T, n] = .tuple #[.int .u64 (S : Nat), .bool true] := by
    have e0 : [T, n].sum = S := by simp [hS]
    unfold plusV
    rw [e0, if_pos (by omega)]
  rw [e] at HPL
  clear e hT h hok ht hS h1
  go_enter Tryz.func433, Tryz.ntmps433
  go_wp2_with fail
  refine (HPL.out _ _ rfl).mono ?_
  rintro e w1 ⟨rfl, rfl⟩
  have HC := Lib.hid ((Chg.refl [] w).alloc (.cells #[.int .u64 (T : Nat), .int .u64 (n : Nat)] 23))
  clear HPL c2
  generalize w.alloc (.cells #[.int .u64 (T : Nat), .int .u64 (n : Nat)] 23) = w1 at *
  have hL := HH.out.chg HC.out (by simp)
  have HLY := Lib.hid (lump_lay w1 p ao cap D.l.length (D.most : Int) D.l rfl (totL D.l) hL HOK.out.rises (by have h1 := HOK.out.few; have h2 := HOK.out.m2; omega) ⟨n, x, x⟩ (Nat.le_refl _) (by have h1 := HTL.out; show totL D.l + n < _; omega))
  clear hL
  go_wp2_with fail
  refine HLY.out.mono ?_
  rintro e w2 ⟨rfl, a2, c2, hL2, hm2⟩
  have hlen := lay_len HOK.out.rises ⟨n, x, x⟩
  have htot : totL D.l + (⟨n, x, x⟩ : Lp).n = totL (layL D.l ⟨n, x, x⟩) := (totL_lay _ _).symm
  rw [htot] at hL2
  have hPR := lump_press w2 p a2 c2 _ (D.most : Int) (layL D.l ⟨n, x, x⟩) rfl hL2 (lay_rises HOK.out.rises _) (by have h1 := HOK.out.few; have h2 := HOK.out.m2; omega) D.most rfl (by have := HOK.out.m1; omega) (by rw [totL_lay]; have h1 := HTL.out; show totL D.l + n < _; omega)
  have HPR := Lib.hid hPR
  have HM2 := Lib.hid hm2
  clear hL2 hm2 hPR HLY hlen htot
  go_wp2_with fail
  refine HPR.out.mono ?_
  rintro e w3 ⟨rfl, a3, c3, hL3, hm3⟩
  have HL3 := Lib.hid hL3
  have HM3 := Lib.hid hm3
  clear hL3 hm3 HPR
  go_wp2
  go_ret
  refine ⟨rfl, .slice a3 (pressL D.most (layL D.l ⟨n, x, x⟩)).length c3, ?_, ((Mv.of_chg (HC.out.mono (by simp))).trans HM2.out).trans HM3.out⟩
  have h1 := HL3.out
  have h2 : totL (layL D.l ⟨n, x, x⟩) = totL (pressL D.most (layL D.l ⟨n, x, x⟩)) := (LmD.pressedT (HOK.out.m1) (lay_rises HOK.out.rises _)).symm
  rw [h2] at h1
  exact h1
end Go.Proofs.YtmehcfocfljoeaaGreatDoor

namespace Go.Proofs.YtmehcfocfljoeaaGreatDoor
open Go.RowKit

theorem enters_plus : ∀ (args : Array Value) (w : World), (callFunc 142 args).run Tryz.prog w = .ok (.enter 142 args) w := enters_of Tryz.func142 (by kernel_rfl) rfl
set_option maxRecDepth 100000 in
set_option maxHeartbeats 4000000 in
theorem lump_join (w : World) (p : Nat) (rv : Value) (D : LmD) (hd : LmS w p rv D) (hok : D.ok) (q : Nat) (qv : Value) (O : LmD) (ho : LmS w q qv O) (hoko : O.ok) (hm : D.most = O.most) (ht : totL D.l + totL O.l ≤ 9223372036854775807) :
    Calls Tryz.prog 452 #[.pointer (some ⟨p, 0, none⟩), .pointer (some ⟨q, 0, none⟩)] w fun e w' => e = .returned (.int .i64 0) ∧ ∃ rv', LmS w' p rv' (D.join O) ∧ Mv (fpL p rv) w (fpL p rv') w' := by
  obtain ⟨T, hT⟩ : ∃ T, T = totL D.l := ⟨_, rfl⟩
  obtain ⟨U, hU⟩ : ∃ U, U = totL O.l := ⟨_, rfl⟩
  obtain ⟨ao, cap, hrv⟩ := hd.own.shape
  obtain ⟨bo, bcap, hqv⟩ := ho.own.shape
  subst hrv hqv
  have HD := Lib.hid hd
  have HO := Lib.hid ho
  have HOK := Lib.hid hok
  have HOKO := Lib.hid hoko
  have HT := Lib.hid hT
  have HU := Lib.hid hU
  rw [← hT, ← hU] at ht
  obtain ⟨n, hn⟩ : ∃ n, n = O.l.length := ⟨_, rfl⟩
  have HN := Lib.hid hn
  have hn64 : n ≤ 64 := by have h1 := hoko.few; have h2 := hoko.m2; omega
  have HCE := Lib.hid (fun wx (hu : Chg [] w wx) => show wx.cell? ⟨p, 0, none⟩ = some (.int .i64 (D.most : Nat)) ∧ wx.cell? ⟨q, 0, none⟩ = some (.int .i64 (D.most : Nat)) ∧ wx.cell? ⟨p, 2, none⟩ = some (.int .u64 (T : Nat)) ∧ wx.cell? ⟨q, 2, none⟩ = some (.int .u64 (U : Nat)) from by
    have h1 := Lms.cells (HD.out.chg hu (by simp))
    have h2 := Lms.cells (HO.out.chg hu (by simp))
    rw [← hT] at h1
    rw [← hU, ← hm] at h2
    exact ⟨h1.1, h2.1, h1.2.2, h2.2.2⟩)
  obtain ⟨c0, c1, c2, c3⟩ := HCE.out w (Chg.refl _ _)
  obtain ⟨S, hS⟩ : ∃ S, S = T + U := ⟨_, rfl⟩
  have e : plusV [T, U] = .tuple #[.int .u64 (S : Nat), .bool true] := by
    have e0 : [T, U].sum = S := by simp [hS]
    unfold plusV
    rw [e0, if_pos (by omega)]
  have HPL := Lib.hid (fun u g (hg : Rd u 1 (.slice (some ⟨g, 0, none⟩) 2 2) 2 (u64s [T, U])) => show Calls Tryz.prog 142 #[.slice (some ⟨g, 0, none⟩) 2 2] u fun e w' => e = .returned (.tuple #[.int .u64 (S : Nat), .bool true]) ∧ u = w' from by
    rw [← e]
    exact wide_plus u (some ⟨g, 0, none⟩) 2 [T, U] (by intro v hv; simp at hv; omega) hg (by simp))
  have HST := Lib.hid (And.intro ht hS)
  have hne : ((D.most : Int) != (D.most : Int)) = false := by simp
  clear hd ho hok hoko hm hT hU hn e ht hS
  go_enter Tryz.func452, Tryz.ntmps452
  go_wp2_with fail
  go_quiet (fail)
  go_wp2_with fail
  have HC0 := Lib.hid (show Chg [] w (w.drewN nq) from (Chg.refl [] w).drewN nq)
  clear c0 c1 c2 c3
  generalize w.drewN nq = w1 at *
  have hSS := HCE.out w1.drew HC0.out.drew
  refine startN (S := fun wx => wx.cell? ⟨p, 0, none⟩ = some (.int .i64 (D.most : Nat)) ∧ wx.cell? ⟨q, 0, none⟩ = some (.int .i64 (D.most : Nat)) ∧ wx.cell? ⟨p, 2, none⟩ = some (.int .u64 (T : Nat)) ∧ wx.cell? ⟨q, 2, none⟩ = some (.int .u64 (U : Nat))) (by kernel_rfl) hSS (fun hHeld => ?_)
  refine takeN (i := 0) (v := ?va0) rfl (by kernel_rfl) (by kernel_rfl) (by kernel_rfl) (fun _ _ _ h => h) (Or.inl ⟨by rfl, ?ya0⟩) hSS ?ra0
  case ya0 => (intro w hSw; (try dsimp only at hSw); go_simp; first | done | with_reducible rfl)
  try simp only [Act.put, List.setIfInBounds_toArray, List.set_cons_zero, List.set_cons_succ]
  refine takeN (i := 1) (v := ?va1) rfl (by kernel_rfl) (by kernel_rfl) (by kernel_rfl) (fun _ _ _ h => h) (Or.inl ⟨by rfl, ?ya1⟩) hSS ?ra1
  case ya1 => (intro w hSw; (try dsimp only at hSw); go_simp; first | done | with_reducible rfl)
  try simp only [Act.put, List.setIfInBounds_toArray, List.set_cons_zero, List.set_cons_succ]
  refine takeN (i := 2) (v := ?va2) rfl (by kernel_rfl) (by kernel_rfl) (by kernel_rfl) (fun _ _ _ h => h) (Or.inl ⟨by rfl, ?ya2⟩) hSS ?ra2
  case ya2 => (intro w hSw; (try dsimp only at hSw); go_simp; first | done | with_reducible rfl)
  try simp only [Act.put, List.setIfInBounds_toArray, List.set_cons_zero, List.set_cons_succ]
  refine takeN (i := 3) (v := ?va3) rfl (by kernel_rfl) (by kernel_rfl) (by kernel_rfl) (fun _ _ _ h => h) (Or.inl ⟨by rfl, ?ya3⟩) hSS ?ra3
  case ya3 => (intro w hSw; (try dsimp only at hSw); go_simp; first | done | with_reducible rfl)
  try simp only [Act.put, List.setIfInBounds_toArray, List.set_cons_zero, List.set_cons_succ]
  refine takeN (i := 4) (v := ?va4) rfl (by kernel_rfl) (by kernel_rfl) (by kernel_rfl) (fun _ _ _ h => h) (Or.inl ⟨by rfl, ?ya4⟩) hSS ?ra4
  case ya4 => (intro w hSw; (try dsimp only at hSw); go_simp; first | done | with_reducible rfl)
  try simp only [Act.put, List.setIfInBounds_toArray, List.set_cons_zero, List.set_cons_succ]
  refine takeN (i := 5) (v := ?va5) rfl (by kernel_rfl) (by kernel_rfl) (by kernel_rfl) (fun _ _ _ h => h) (Or.inl ⟨by rfl, ?ya5⟩) hSS ?ra5
  case ya5 => (intro w hSw; (try dsimp only at hSw); go_simp; first | done | with_reducible rfl)
  try simp only [Act.put, List.setIfInBounds_toArray, List.set_cons_zero, List.set_cons_succ]
  refine takeN (i := 6) (v := ?va6) rfl (by kernel_rfl) (by kernel_rfl) (by kernel_rfl) (fun _ _ _ h => h) (Or.inl ⟨by rfl, ?ya6⟩) hSS ?ra6
  case ya6 => (intro w hSw; (try dsimp only at hSw); go_simp; first | done | with_reducible rfl)
  try simp only [Act.put, List.setIfInBounds_toArray, List.set_cons_zero, List.set_cons_succ]
  refine takeN (i := 7) (v := ?va7) rfl (by kernel_rfl) (by kernel_rfl) (by kernel_rfl) (fun _ _ _ h => h) (Or.inl ⟨by rfl, ?ya7⟩) hSS ?ra7
  case ya7 => (intro w hSw; (try dsimp only at hSw); go_simp; first | done | with_reducible rfl)
  try simp only [Act.put, List.setIfInBounds_toArray, List.set_cons_zero, List.set_cons_succ]
  refine readyN (rs := [8]) (by kernel_rfl) (by simp) (consN rfl (fun K hK => ?_) nilN)
  refine step_bU2 rfl 30 34 rfl T U (by simp [Act.eval]) (by simp [Act.eval]) ?_; intro gb w2 hr hc hg
  have HC2 := Lib.hid (HC0.out.drew.trans hc)
  have HR2 := Lib.hid hr
  clear hr hc hg
  refine hK.out _ _ (HCE.out _ HC2.out) (fun hHeld => ?_)
  clear hK K hHeld
  try simp only [Act.put, List.setIfInBounds_toArray, List.set_cons_zero, List.set_cons_succ]
  refine readyN (rs := [9]) (by kernel_rfl) (by simp) (consN rfl (fun K hK => ?_) nilN)
  refine step_callsG (by rfl) 142 _ _ rfl enters_plus _ #[.slice (some ⟨gb, 0, none⟩) 2 2] (by simp [Act.eval]) (HPL.out _ gb HR2.out) ?_; rintro e w3 ⟨rfl, rfl⟩; refine ⟨_, rfl, ?_⟩
  refine hK.out _ _ (HCE.out _ HC2.out) (fun hHeld => ?_)
  clear hK K hHeld
  try simp only [Act.put, List.setIfInBounds_toArray, List.set_cons_zero, List.set_cons_succ]
  refine takeN (i := 10) (v := ?va10) rfl (by kernel_rfl) (by kernel_rfl) (by kernel_rfl) (fun _ _ _ h => h) (Or.inl ⟨by rfl, ?ya10⟩) (HCE.out _ HC2.out) ?ra10
  case ya10 => (intro w hSw; (try dsimp only at hSw); go_simp; first | done | with_reducible rfl)
  try simp only [Act.put, List.setIfInBounds_toArray, List.set_cons_zero, List.set_cons_succ]
  refine takeN (i := 11) (v := ?va11) rfl (by kernel_rfl) (by kernel_rfl) (by kernel_rfl) (fun _ _ _ h => h) (Or.inl ⟨by rfl, ?ya11⟩) (HCE.out _ HC2.out) ?ra11
  case ya11 => (intro w hSw; (try dsimp only at hSw); go_simp; first | done | with_reducible rfl)
  try simp only [Act.put, List.setIfInBounds_toArray, List.set_cons_zero, List.set_cons_succ]
  refine takeN (i := 12) (v := ?va12) rfl (by kernel_rfl) (by kernel_rfl) (by kernel_rfl) (fun _ _ _ h => h) (Or.inl ⟨by rfl, ?ya12⟩) (HCE.out _ HC2.out) ?ra12
  case ya12 => (intro w hSw; (try dsimp only at hSw); go_simp; first | done | with_reducible rfl)
  try simp only [Act.put, List.setIfInBounds_toArray, List.set_cons_zero, List.set_cons_succ]
  refine takeN (i := 13) (v := ?va13) rfl (by kernel_rfl) (by kernel_rfl) (by kernel_rfl) (fun _ _ _ h => h) (Or.inl ⟨by rfl, ?ya13⟩) (HCE.out _ HC2.out) ?ra13
  case ya13 => (intro w hSw; (try dsimp only at hSw); go_simp; first | done | with_reducible rfl)
  try simp only [Act.put, List.setIfInBounds_toArray, List.set_cons_zero, List.set_cons_succ]
  refine takeN (i := 14) (v := ?va14) rfl (by kernel_rfl) (by kernel_rfl) (by kernel_rfl) (fun _ _ _ h => h) (Or.inl ⟨by rfl, ?ya14⟩) (HCE.out _ HC2.out) ?ra14
  case ya14 => (intro w hSw; (try dsimp only at hSw); go_simp; first | done | with_reducible rfl)
  try simp only [Act.put, List.setIfInBounds_toArray, List.set_cons_zero, List.set_cons_succ]
  refine doneN (by kernel_rfl) ?_ _
  clear HPL hSS HR2 hHeld
  have HLU := Lib.hid (lump_lumps w2 q bo O.l.length bcap (O.most : Int) O.l (totL O.l) rfl (HO.out.chg HC2.out (by simp)) (by have := HN.out; omega))
  rw [← HN.out] at HLU
  go_wp2_with fail
  refine HLU.out.mono ?_
  rintro e w3 ⟨a1, c1, rfl, ho1, hc1, hf1⟩
  have HC3 := Lib.hid (HC2.out.trans hc1)
  have HRD := Lib.hid ho1.rd
  have HF1 := Lib.hid (show ∀ b ∈ abl a1, w.heap.size ≤ b from fun b hb => Nat.le_trans HC2.out.size (hf1 b hb))
  have HD3 := Lib.hid (HD.out.chg HC3.out (by simp))
  have HLT := Lib.hid (show ∀ b ∈ fpL p (.slice ao D.l.length cap), b < w.heap.size from HD.out.lt)
  clear ho1 hc1 hf1 HLU HCE HC0 HC2 HD HO
  go_wp2_with fail
  go_loopw [44] (fun i wx => ∃ (k : Nat) (a : Option Addr) (c : Nat), k ≤ n ∧ i = .int .i64 (k : Nat) ∧ Hid (Lms wx p (.slice a (layAll D.l (O.l.take k)).length c) (D.most : Int) (layAll D.l (O.l.take k)) (totL (layAll D.l (O.l.take k))) ∧ Mv (fpL p (.slice ao D.l.length cap)) w3 (fpL p (.slice a (layAll D.l (O.l.take k)).length c)) wx)) (fun i _ => n - (intOf i).toNat)
  case atStart => exact ⟨0, ao, cap, Nat.zero_le _, rfl, Lib.hid ⟨HD3.out, Mv.refl _ _⟩⟩
  case round =>
    obtain ⟨k, a, c, hk, rfl, HLM⟩ := hrel
    by_cases hlt : k < n
    · have hkl : k < O.l.length := by have := HN.out; omega
      have hm1 := HLM.out.2
      have hrd := HRD.out.chg hm1.chg (fun b hb e => by
        have h1 := HLT.out b e
        have h2 := HF1.out b (by simpa using hb)
        omega)
      obtain ⟨g, o, rfl, hc⟩ := hrd.addr (by omega)
      obtain ⟨d0, d1, d2⟩ := lp_at (l := O.l) (fun j hj => hc j (by rw [HN.out]; exact hj)) hkl
      have hLK := layAll_take D.l O.l k hkl
      have hin : O.l[k] ∈ O.l := List.getElem_mem hkl
      obtain ⟨x1, x2, -, x4, x5⟩ := layAll_ok (fun _ => true) (fun _ _ _ => rfl) (O.l.take k) HOK.out.rises HOK.out.each (fun q hq => HOKO.out.each q (List.mem_of_mem_take hq))
      have hb1 : totL (O.l.take k) + O.l[k].n ≤ totL O.l := by
        have h1 := totL_take_le O.l (k + 1)
        rw [List.take_succ_eq_append_getElem hkl, totL_app, totL_cons, totL_nil] at h1
        omega
      have HLK := Lib.hid hLK
      generalize O.l[k] = y at *
      have hw4 : Lms (wr.alloc (.cells #[.int .u64 (y.n : Nat), .int .i64 y.lo, .int .i64 y.hi] 256)) p (.slice a (layAll D.l (O.l.take k)).length c) (D.most : Int) (layAll D.l (O.l.take k)) (totL (layAll D.l (O.l.take k))) := HLM.out.1.chg ((Chg.refl [] wr).alloc _) (by simp)
      have hlen : (layAll D.l (O.l.take k)).length ≤ 1000 := by
        rw [List.length_take] at x5
        have h1 := HOK.out.few
        have h2 := HOK.out.m2
        omega
      have HLY := Lib.hid (lump_lay _ p a c _ (D.most : Int) _ rfl _ hw4 x1 hlen y (Nat.le_refl _) (by rw [x4]; have h1 := HST.out.1; rw [HT.out, HU.out] at h1; omega))
      have hbx := Blk.alloc_new wr #[.int .u64 (y.n : Nat), .int .i64 y.lo, .int .i64 y.hi] 256
      clear hw4 x1 x2 x4 x5 hb1 hin hlen hc hrd hLK hm1
      go_wp2_with fail
      refine HLY.out.mono ?_
      rintro e w5 ⟨rfl, a5, c5, hL5, hm5⟩
      rw [← HLK.out] at hL5 hm5
      have htt : totL (layAll D.l (O.l.take k)) + y.n = totL (layAll D.l (O.l.take (k + 1))) := by rw [HLK.out, totL_lay]
      rw [htt] at hL5
      have HL5 := Lib.hid (And.intro hL5 ((HLM.out.2.trans (Mv.alloc _ _ _)).trans hm5))
      clear hL5 hm5 htt HLY hbx d0 d1 d2
      go_wp2_with fail
      exact ⟨⟨k + 1, a5, c5, by omega, by go_num, HL5⟩, by simp [intOf]; omega⟩
    · obtain rfl : k = n := by omega
      have hfull : O.l.take k = O.l := List.take_of_length_le (by have := HN.out; omega)
      have hL := HLM.out
      rw [hfull] at hL
      obtain ⟨x1, x2, -, x4, x5⟩ := layAll_ok (fun _ => true) (fun _ _ _ => rfl) O.l HOK.out.rises HOK.out.each HOKO.out.each
      have HPR := Lib.hid (lump_press wr p a c _ (D.most : Int) (layAll D.l O.l) rfl hL.1 x1 (by have h1 := HOK.out.few; have h2 := HOK.out.m2; have h3 := HN.out; omega) D.most rfl (by have := HOK.out.m1; omega) (by rw [x4]; have h1 := HST.out.1; rw [HT.out, HU.out] at h1; omega))
      have HLL := Lib.hid hL
      have HX1 := Lib.hid x1
      clear hL hfull x1 x2 x4 x5 HLM
      go_wp2_with fail
      refine HPR.out.mono ?_
      rintro e w5 ⟨rfl, a5, c5, hL5, hm5⟩
      have HL5 := Lib.hid hL5
      have HM5 := Lib.hid hm5
      clear hL5 hm5 HPR
      go_wp2
      go_ret
      refine ⟨rfl, .slice a5 (pressL D.most (layAll D.l O.l)).length c5, ?_, ((Mv.of_chg (HC3.out.mono (by simp))).trans HLL.out.2).trans HM5.out⟩
      have h1 := HL5.out
      have h2 : totL (layAll D.l O.l) = totL (pressL D.most (layAll D.l O.l)) := (LmD.pressedT (HOK.out.m1) HX1.out).symm
      rw [h2] at h1
      exact h1
end Go.Proofs.YtmehcfocfljoeaaGreatDoor

namespace Go.Proofs.YtmehcfocfljoeaaGreatDoor
open Go.RowKit

set_option maxRecDepth 100000 in
set_option maxHeartbeats 4000000 in
theorem sk_put_lumps (w : World) (s p : Nat) (c : Cf) (h : Sk w s c 174 p) (x : Int) (n : Nat) (R : Ending → World → Prop)
    (HP0 : Calls Tryz.prog 433 #[.pointer (some ⟨p, 0, none⟩), .int .i64 x, .int .u64 n] w fun e w' => ∃ k, e = .returned (.int .i64 k) ∧ R e w') :
    Calls Tryz.prog 34 #[.pointer (some ⟨s, 0, none⟩), .int .i64 x, .int .u64 n] w R := by
  have c11 := h.core
  have HP := Lib.hid HP0
  clear h HP0
  go_enter Tryz.func34, Tryz.ntmps34
  go_wp2_with fail
  refine HP.out.mono ?_
  rintro e w1 ⟨k, rfl, hR⟩
  have HR := Lib.hid hR
  clear hR HP
  go_wp2_with fail
  exact HR.out
set_option maxRecDepth 100000 in
set_option maxHeartbeats 4000000 in
theorem sk_quant_lumps (w : World) (s p : Nat) (c : Cf) (h : Sk w s c 174 p) (num den : Nat) (x k : Int)
    (HP0 : ∀ u, Chg [] w u → Calls Tryz.prog 434 #[.pointer (some ⟨p, 0, none⟩), .agg #[.int .u64 (num : Nat), .int .u64 (den : Nat)]] u fun e w' => e = .returned (.tuple #[.int .i64 x, .int .i64 k]) ∧ Chg [] u w') :
    Calls Tryz.prog 25 #[.pointer (some ⟨s, 0, none⟩), .agg #[.int .u64 (num : Nat), .int .u64 (den : Nat)]] w fun e w' => e = .returned (.tuple #[.int .i64 x, .int .i64 k]) ∧ Chg [] w w' := by
  have c11 := (Sk.nil h ((Chg.refl [] w).alloc (.cells #[.int .u64 (num : Nat), .int .u64 (den : Nat)] 25))).core
  have HP := Lib.hid HP0
  have HC := Lib.hid ((Chg.refl [] w).alloc (.cells #[.int .u64 (num : Nat), .int .u64 (den : Nat)] 25))
  clear h HP0
  go_enter Tryz.func25, Tryz.ntmps25
  go_wp2_with fail
  have c11d := c11
  rw [← World.cell?_drew] at c11d
  go_region_with (go_at_call 434; refine (HP.out _ HC.out.drew).mono ?_; rintro e w1 ⟨rfl, hc⟩)
  all_goals
    go_wp2
    go_ret2
    exact ⟨rfl, HC.out.drew.trans hc⟩
set_option maxRecDepth 100000 in
set_option maxHeartbeats 4000000 in
theorem core_total_lumps (w : World) (p : Nat) (n : Nat)
    (HP0 : ∀ u, Chg [] w u → Calls Tryz.prog 435 #[.pointer (some ⟨p, 0, none⟩)] u fun e w' => e = .returned (.int .u64 (n : Nat)) ∧ Chg [] u w') :
    Calls Tryz.prog 450 #[.agg #[.pointer (some ⟨p, 0, none⟩)]] w fun e w' => e = .returned (.int .u64 (n : Nat)) ∧ Chg [] w w' := by
  have HP := Lib.hid HP0
  have HC := Lib.hid ((Chg.refl [] w).alloc (.cells #[.pointer (some ⟨p, 0, none⟩)] 174))
  clear HP0
  go_enter Tryz.func450, Tryz.ntmps450
  go_wp2_with fail
  refine (HP.out _ HC.out).mono ?_
  rintro e w1 ⟨rfl, hc⟩
  go_wp2
  go_ret
  exact ⟨rfl, HC.out.trans hc⟩
set_option maxRecDepth 100000 in
set_option maxHeartbeats 4000000 in
theorem sk_total_lumps (w : World) (s p : Nat) (c : Cf) (h : Sk w s c 174 p) (n : Nat)
    (HP0 : ∀ u, Chg [] w u → Calls Tryz.prog 435 #[.pointer (some ⟨p, 0, none⟩)] u fun e w' => e = .returned (.int .u64 (n : Nat)) ∧ Chg [] u w') :
    Calls Tryz.prog 27 #[.pointer (some ⟨s, 0, none⟩)] w fun e w' => e = .returned (.int .u64 (n : Nat)) ∧ Chg [] w w' := by
  have c11 := h.core
  have HT := Lib.hid (core_total_lumps w p n HP0)
  clear h HP0
  go_enter Tryz.func27, Tryz.ntmps27
  go_wp2_with fail
  refine HT.out.mono ?_
  rintro e w1 ⟨rfl, hc⟩
  go_wp2
  go_ret
  exact ⟨rfl, hc⟩
set_option maxRecDepth 100000 in
set_option maxHeartbeats 4000000 in
theorem core_rank_lumps (w : World) (p : Nat) (x : Int) (a : Nat) (b : Nat)
    (HP0 : ∀ u, Chg [] w u → Calls Tryz.prog 453 #[.pointer (some ⟨p, 0, none⟩), .int .i64 x] u fun e w' => e = .returned (.tuple #[.int .u64 (a : Nat), .int .u64 (b : Nat)]) ∧ Chg [] u w') :
    Calls Tryz.prog 449 #[.agg #[.pointer (some ⟨p, 0, none⟩)], .int .i64 x] w fun e w' => e = .returned (.tuple #[.int .u64 (a : Nat), .int .u64 (b : Nat)]) ∧ Chg [] w w' := by
  have HP := Lib.hid HP0
  have HC := Lib.hid ((Chg.refl [] w).alloc (.cells #[.pointer (some ⟨p, 0, none⟩)] 174))
  clear HP0
  go_enter Tryz.func449, Tryz.ntmps449
  go_wp2_with fail
  refine (HP.out _ HC.out).mono ?_
  rintro e w1 ⟨rfl, hc⟩
  go_wp2
  go_ret2
  exact ⟨rfl, HC.out.trans hc⟩
set_option maxRecDepth 100000 in
set_option maxHeartbeats 4000000 in
theorem sk_rank_lumps (w : World) (s p : Nat) (c : Cf) (h : Sk w s c 174 p) (x : Int) (a : Nat) (b : Nat)
    (HP0 : ∀ u, Chg [] w u → Calls Tryz.prog 453 #[.pointer (some ⟨p, 0, none⟩), .int .i64 x] u fun e w' => e = .returned (.tuple #[.int .u64 (a : Nat), .int .u64 (b : Nat)]) ∧ Chg [] u w') :
    Calls Tryz.prog 26 #[.pointer (some ⟨s, 0, none⟩), .int .i64 x] w fun e w' => e = .returned (.tuple #[.int .u64 (a : Nat), .int .u64 (b : Nat)]) ∧ Chg [] w w' := by
  have c11 := h.core
  have HT := Lib.hid (core_rank_lumps w p x a b HP0)
  clear h HP0
  go_enter Tryz.func26, Tryz.ntmps26
  go_wp2_with fail
  refine HT.out.mono ?_
  rintro e w1 ⟨rfl, hc⟩
  go_wp2
  go_ret2
  exact ⟨rfl, hc⟩
theorem ta_lumps (u : World) (q : Nat) : (Instr.typeAssert (.iface 174 (.agg #[.pointer (some ⟨q, 0, none⟩)])) 99 174 false).run Tryz.prog u = .ok (.agg #[.pointer (some ⟨q, 0, none⟩)]) u := by kernel_rfl
theorem fa_lumps (u : World) (q : Nat) : (Instr.field 174 (.agg #[.pointer (some ⟨q, 0, none⟩)]) 0).run Tryz.prog u = .ok (.pointer (some ⟨q, 0, none⟩)) u := by kernel_rfl
set_option maxRecDepth 100000 in
set_option maxHeartbeats 4000000 in
theorem core_join_lumps (w : World) (p q : Nat) (R : Ending → World → Prop)
    (HP0 : ∀ u, Chg [] w u → Calls Tryz.prog 452 #[.pointer (some ⟨p, 0, none⟩), .pointer (some ⟨q, 0, none⟩)] u fun e w' => ∃ k, e = .returned (.int .i64 k) ∧ R e w') :
    Calls Tryz.prog 448 #[.agg #[.pointer (some ⟨p, 0, none⟩)], .iface 174 (.agg #[.pointer (some ⟨q, 0, none⟩)])] w fun e w' => ∃ k, e = .returned (.int .i64 k) ∧ R e w' := by
  have HP := Lib.hid HP0
  have HC := Lib.hid ((Chg.refl [] w).alloc (.cells #[.pointer (some ⟨p, 0, none⟩)] 174))
  have ta := ta_lumps
  have fa := fa_lumps
  clear HP0
  go_enter Tryz.func448, Tryz.ntmps448
  go_wp2_with fail
  go_region_with (go_at_call 452; refine (HP.out _ HC.out.drew).mono ?_; rintro e w1 ⟨k, rfl, hR⟩)
  all_goals
    have HR := Lib.hid hR
    clear hR HP
    go_wp2
    go_ret
    exact ⟨k, rfl, HR.out⟩
set_option maxRecDepth 100000 in
set_option maxHeartbeats 4000000 in
theorem sk_join_lumps (w : World) (s p o q : Nat) (c d : Cf) (h : Sk w s c 174 p) (h' : Sk w o d 174 q) (hk : c.kind = d.kind) (R : Ending → World → Prop)
    (HP0 : ∀ u, Chg [] w u → Calls Tryz.prog 452 #[.pointer (some ⟨p, 0, none⟩), .pointer (some ⟨q, 0, none⟩)] u fun e w' => ∃ k, e = .returned (.int .i64 k) ∧ R e w') :
    Calls Tryz.prog 35 #[.pointer (some ⟨s, 0, none⟩), .pointer (some ⟨o, 0, none⟩)] w R := by
  have HS := Lib.hid (fun u (hu : Chg [] w u) => (⟨(h.nil hu).kind, (h.nil hu).core, (h'.nil hu).kind, (h'.nil hu).core⟩ : _ ∧ _ ∧ _ ∧ _))
  have HT := Lib.hid (fun u (hu : Chg [] w u) => core_join_lumps u p q R (fun v hv => HP0 v (hu.trans hv)))
  obtain ⟨k0, hk0⟩ : ∃ k, k = c.kind := ⟨_, rfl⟩
  rw [← hk, ← hk0] at HS
  have hkk : (k0 != k0) = false := by simp
  clear h h' HP0 hk hk0
  go_enter Tryz.func35, Tryz.ntmps35
  obtain ⟨c0, c11, d0, d11⟩ := HS.out w (Chg.refl _ _)
  go_wp2_with fail
  go_quiet (fail)
  clear c0 c11 d0 d11
  have HC := Lib.hid ((Chg.refl [] w).drewN nq)
  generalize w.drewN nq = w0 at *
  obtain ⟨c0, c11, d0, d11⟩ := HS.out w0 HC.out
  obtain ⟨k0', k11, e0, e11⟩ := HS.out w0.drew HC.out.drew
  go_wp2_with fail
  go_region_with (go_at_call 448; refine (HT.out _ HC.out.drew).mono ?_; rintro e w1 ⟨k, rfl, hR⟩)
  all_goals
    have HR := Lib.hid hR
    clear hR HT
    go_wp2_with fail
    go_ret
    exact HR.out
end Go.Proofs.YtmehcfocfljoeaaGreatDoor

namespace Go.Proofs.YtmehcfocfljoeaaGreatDoor
open Go.RowKit

/-- A config of lumps. -/
structure LmC (c : Cf) (most : Nat) : Prop where
  eq : c = { Cf.none 6 with most := (most : Int) }
  m1 : 2 ≤ most
  m2 : most ≤ 64
/-- A sketch of lumps behind the values m. -/
def LmP (c : Cf) (most : Nat) (w : World) (s : Nat) (F : List Nat) (B : Nat) (m : List Vl) : Prop :=
  ∃ p rv D, Sk w s c 174 p ∧ LmS w p rv D ∧ D.most = most ∧ D.ok ∧ OfL D.l m ∧ sumS m ≤ B ∧ F = s :: fpL p rv ∧ s ∉ fpL p rv
namespace LmP
variable {c : Cf} {most s B : Nat} {w w1 : World} {F : List Nat} {m : List Vl}
theorem lt (h : LmP c most w s F B m) : ∀ b ∈ F, b < w.heap.size := by
  obtain ⟨p, rv, D, h1, h2, h3, h4, h5, h6, rfl, h7⟩ := h
  intro b hb
  rcases List.mem_cons.1 hb with rfl | hb
  · exact Blk.lt h1
  · exact h2.lt b hb
theorem chg {G : List Nat} (h : LmP c most w s F B m) (k : Chg G w w1) (hF : ∀ b ∈ F, b ∉ G) : LmP c most w1 s F B m := by
  obtain ⟨p, rv, D, h1, h2, h3, h4, h5, h6, rfl, h7⟩ := h
  exact ⟨p, rv, D, h1.chg k (hF s (by simp)), h2.chg k (fun b hb => hF b (by simp [hb])), h3, h4, h5, h6, rfl, h7⟩
theorem mono {B' : Nat} (h : LmP c most w s F B m) (hB : B ≤ B') : LmP c most w s F B' m := by
  obtain ⟨p, rv, D, h1, h2, h3, h4, h5, h6, rfl, h7⟩ := h
  exact ⟨p, rv, D, h1, h2, h3, h4, h5, by omega, rfl, h7⟩
end LmP
def FreshL (c : Cf) (B : Nat) (w' : World) (T : Nat) (d : Value) (k : Int) : Prop :=
  T = 174 ∧ ((k = 1 ∧ ¬ (2 ≤ c.most ∧ c.most ≤ 64)) ∨ (k = 0 ∧ (2 ≤ c.most ∧ c.most ≤ 64) ∧ ∃ p, d = .agg #[.pointer (some ⟨p, 0, none⟩)] ∧ LmS w' p (.slice none 0 0) ⟨c.most.toNat, []⟩ ∧ B ≤ p))
set_option maxRecDepth 100000 in
set_option maxHeartbeats 2000000 in
theorem fresh_lump (w : World) (c : Cf) (hk : c.kind = 6) : Calls Tryz.prog 45 #[c.val] w fun e w' => ∃ T d k, e = .returned (.tuple #[.iface T d, .int .i64 k]) ∧ FreshL c w.heap.size w' T d k ∧ Chg [] w w' := by
  obtain ⟨k, num, den, side, most, digits, limit, depth, factor, width, word⟩ := c
  simp only at hk
  subst hk
  have HC0 := Lib.hid ((Chg.refl [] w).alloc (.cells #[.int .i64 6, .int .u64 num, .int .u64 den, .int .i64 side, .int .i64 most, .int .i64 digits, .int .u64 limit, .int .i64 depth, .int .i64 factor, .int .i64 width, .int .u64 word] 28))
  have HN := Lib.hid (fun u => lump_new u most)
  simp only [FreshL, Cf.val, Cf.cells]
  go_enter Tryz.func45, Tryz.ntmps45
  go_wp2_with fail
  refine (HN.out _).mono ?_
  rintro e w1 (⟨hg, rfl, hc1⟩ | ⟨hg, p, rfl, ht, hc1, hf⟩)
  · have HC1 := Lib.hid (HC0.out.trans hc1)
    have HG := Lib.hid hg
    clear hc1 hg HN HC0
    go_wp2
    go_ret2
    exact ⟨_, _, 1, rfl, ⟨rfl, .inl ⟨rfl, HG.out⟩⟩, HC1.out⟩
  · have HC1 := Lib.hid (HC0.out.trans hc1)
    have HG := Lib.hid hg
    have HT := Lib.hid ht
    have HF := Lib.hid (show w.heap.size ≤ p from by simp only [World.size_alloc] at hf; omega)
    clear hc1 hg HN HC0 hf ht
    go_wp2
    go_ret2
    refine ⟨_, _, 0, rfl, ⟨rfl, .inr ⟨rfl, HG.out, p, rfl, ?_, HF.out⟩⟩, HC1.out⟩
    have := HT.out
    have e : ((most.toNat : Nat) : Int) = most := by have := HG.out; omega
    unfold LmS
    rw [e]
    exact this
theorem lm_new (w : World) (c : Cf) (hk : c.kind = 6) : Calls Tryz.prog 30 #[c.val] w fun e w' =>
    (∃ k : Int, k ≠ 0 ∧ e = .returned (.tuple #[.pointer none, .int .i64 k]) ∧ Chg [] w w') ∨
    (∃ most s F, LmC c most ∧ e = .returned (.tuple #[.pointer (some ⟨s, 0, none⟩), .int .i64 0]) ∧ LmP c most w' s F 0 [] ∧ Chg [] w w' ∧ ∀ b ∈ F, w.heap.size ≤ b) := by
  refine (suite_newK w c _ (fun u => bare_lump u c hk) (FreshL c w.heap.size) (fun u hu => (fresh_lump u c hk).mono ?_)).mono ?_
  · rintro e w' ⟨T, d, k, rfl, ⟨rfl, h⟩, hc⟩
    refine ⟨_, d, k, rfl, ⟨rfl, ?_⟩, hc⟩
    rcases h with h | ⟨h1, h2, p, h3, h4, h5⟩
    · exact .inl h
    · exact .inr ⟨h1, h2, p, h3, h4, Nat.le_trans hu.size h5⟩
  · rintro e w' (⟨h1, rfl, hc⟩ | ⟨hs, T, d, k, w1, ⟨rfl, h⟩, hc, ⟨hk, rfl, rfl⟩ | ⟨rfl, rfl, rfl⟩⟩)
    · exact .inl ⟨1, by decide, rfl, hc⟩
    · exact .inl ⟨k, hk, rfl, hc⟩
    · rcases h with ⟨h1, -⟩ | ⟨-, hg, p, rfl, ht, hf⟩
      · exact absurd h1 (by decide)
      · have hce : c = { Cf.none 6 with most := c.most } := Cf.same_eq hs
        have hk1 : Chg [] w1 (w1.alloc (.cells (c.cells ++ #[.iface 174 (.agg #[.pointer (some ⟨p, 0, none⟩)])]) 101)) := (Chg.refl _ _).alloc _
        refine .inr ⟨c.most.toNat, w1.heap.size, _, ⟨?_, by omega, by omega⟩, rfl, ⟨p, _, _, Blk.alloc_new _ _ _, ht.chg hk1 (by simp), rfl, LmD.new_ok (by omega) (by omega), OfL.new, by simp [sumS], rfl, fun e => absurd (ht.lt _ e) (by omega)⟩, hc.trans hk1, fun b hb => ?_⟩
        · rw [Int.toNat_of_nonneg (by omega)]; exact hce
        · simp only [fpL, blkOf_none, List.mem_cons, List.not_mem_nil, or_false] at hb
          rcases hb with rfl | rfl
          · exact hc.size
          · exact hf
theorem lm_next {c : Cf} {most : Nat} {w w' : World} {s p : Nat} {rv rv' : Value} {D : LmD} {B : Nat} {m : List Vl} (hs : Sk w s c 174 p) (hn : s ∉ fpL p rv)
    (hm : Mv (fpL p rv) w (fpL p rv') w') (ht : LmS w' p rv' D) (h1 : D.most = most) (h2 : D.ok) (h3 : OfL D.l m) (h4 : sumS m ≤ B) : LmP c most w' s (s :: fpL p rv') B m :=
  ⟨p, rv', D, hs.chg hm.chg hn, ht, h1, h2, h3, h4, rfl, fun e => (hm.apart (G := [s]) (by simpa using hn) (by simpa using Blk.lt hs)) s (by simp) e⟩
theorem lm_put (c : Cf) (most : Nat) (w : World) (s : Nat) (F : List Nat) (B : Nat) (m : List Vl) (h : LmP c most w s F B m) (hB : B ≤ 1000000000) (x : Int) (hxr : InR x) (n : Nat) (hn : n ≤ 1000000000) :
    Calls Tryz.prog 34 #[.pointer (some ⟨s, 0, none⟩), .int .i64 x, .int .u64 (n : Nat)] w fun e w' =>
      ∃ (k : Int) (F' : List Nat), e = .returned (.int .i64 k) ∧ Mv F w F' w' ∧ ((k = 0 ∧ LmP c most w' s F' (B + n) (m ++ [⟨x, n⟩])) ∨ (k ≠ 0 ∧ LmP c most w' s F' (B + n) m)) := by
  obtain ⟨p, rv, D, hs, ht, hd, hok, hof, hsum, rfl, hnm⟩ := h
  have htot := hof.tot
  refine sk_put_lumps w s p c hs x n _ ?_
  by_cases h0 : n = 0
  · subst h0
    refine (lump_put_zero w p x).mono ?_
    rintro e w' ⟨rfl, hu⟩
    exact ⟨1, rfl, 1, _, rfl, Mv.of_chg (hu.mono (by simp)), .inr ⟨by decide, p, rv, D, hs.nil hu, ht.chg hu (by simp), hd, hok, hof, by omega, rfl, hnm⟩⟩
  · obtain ⟨k1, k2⟩ := LmD.put_ok hok hxr (n := n) (by omega) (by omega)
    refine (lump_put w p rv D ht hok x n (by omega) (by omega)).mono ?_
    rintro e w' ⟨rfl, rv', ht', hm'⟩
    exact ⟨0, rfl, 0, _, rfl, mv_sk hm', .inl ⟨rfl, lm_next hs hnm hm' ht' hd k1 ((hof.put x (by omega)).press (by have := hok.m1; omega)) (by rw [sumS_app]; simp only [sumS]; omega)⟩⟩
theorem lm_join (c : Cf) (most : Nat) (w : World) (s : Nat) (F : List Nat) (B : Nat) (a : List Vl) (h : LmP c most w s F B a) (o : Nat) (G : List Nat) (B2 : Nat) (b : List Vl) (ho : LmP c most w o G B2 b) (hB : B + B2 ≤ 1000000000) :
    Calls Tryz.prog 35 #[.pointer (some ⟨s, 0, none⟩), .pointer (some ⟨o, 0, none⟩)] w fun e w' =>
      ∃ (F' : List Nat), e = .returned (.int .i64 0) ∧ Mv F w F' w' ∧ LmP c most w' s F' (B + B2) (a ++ b) := by
  obtain ⟨p, rv, D, hs, ht, hd, hok, hof, hsum, rfl, hnm⟩ := h
  obtain ⟨q, qv, O, hso, hto, hdo, hoko, hofo, hsumo, rfl, hnmo⟩ := ho
  have htot := hof.tot
  have htoto := hofo.tot
  obtain ⟨k1, k2⟩ := LmD.join_ok hok hoko (by omega)
  refine sk_join_lumps w s p o q c c hs hso rfl _ (fun u hu => ?_)
  refine (lump_join u p rv D (ht.chg hu (by simp)) hok q qv O (hto.chg hu (by simp)) hoko (by omega) (by omega)).mono ?_
  rintro e w' ⟨rfl, rv', ht', hm'⟩
  have hm2 : Mv (fpL p rv) w (fpL p rv') w' := (Mv.of_chg (hu.mono (by simp))).trans hm'
  exact ⟨0, rfl, _, rfl, mv_sk hm2, lm_next hs hnm hm2 ht' hd k1 ((hof.join hofo).press (by have := hok.m1; omega)) (by rw [sumS_app]; omega)⟩
end Go.Proofs.YtmehcfocfljoeaaGreatDoor
