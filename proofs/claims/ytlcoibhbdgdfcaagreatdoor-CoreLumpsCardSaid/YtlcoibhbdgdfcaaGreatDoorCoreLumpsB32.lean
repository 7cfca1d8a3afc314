/-
  The walk of (*Sketch).Join (layer 22). Conditions: the form's own reach.
  The walks of suite's calls through its interface, at the kind Lumps. Conditions: the form's own reach.
-/
import Derived.Test.YtlcoibhbdgdfcaaGreatDoorCoreLumpsB28
import Derived.Test.YtlcoibhbdgdfcaaGreatDoorCoreLumpsB31
import Derived.Test.YtlcoibhbdgdfcaaGreatDoorCoreLumpsB4
namespace Go.Proofs.YtlcoibhbdgdfcaaGreatDoor
open Go.RowKit

theorem enters_plus : ∀ (args : Array Value) (w : World), (callFunc 96 args).run Tryz.prog w = .ok (.enter 96 args) w := enters_of Tryz.func96 (by kernel_rfl) rfl
set_option maxRecDepth 100000 in
set_option maxHeartbeats 4000000 in
theorem lump_join (w : World) (p : Nat) (rv : Value) (D : LmD) (hd : LmS w p rv D) (hok : D.ok) (q : Nat) (qv : Value) (O : LmD) (ho : LmS w q qv O) (hoko : O.ok) (hm : D.most = O.most) (ht : totL D.l + totL O.l ≤ 9223372036854775807) :
    Calls Tryz.prog 380 #[.pointer (some ⟨p, 0, none⟩), .pointer (some ⟨q, 0, none⟩)] w fun e w' => e = .returned (.int .i64 0) ∧ ∃ rv', LmS w' p rv' (D.join O) ∧ Mv (fpL p rv) w (fpL p rv') w' := by
  obtain ⟨T, hT⟩ : ∃ T, T = totL D.l := ⟨_, rfl⟩
  obtain ⟨U, hU⟩ : ∃ U, U = totL O.l := ⟨_, rfl⟩
  obtain ⟨ao, cap, hrv⟩ := hd.own.shape
  obtain ⟨bo, bcap, hqv⟩ := ho.own.shape
  subst hrv hqv
  have HD := Lib.hid hd
  have HO := Lib.hid ho
  have HOK := Lib.hid hok
  have HOKO := Lib.hid hoko
  have HT := Lib.hid hT
  have HU := Lib.hid hU
  rw [← hT, ← hU] at ht
  obtain ⟨n, hn⟩ : ∃ n, n = O.l.length := ⟨_, rfl⟩
  have HN := Lib.hid hn
  have hn64 : n ≤ 64 := by have h1 := hoko.few; have h2 := hoko.m2; omega
  have HCE := Lib.hid (fun wx (hu : Chg [] w wx) => show wx.cell? ⟨p, 0, none⟩ = some (.int .i64 (D.most : Nat)) ∧ wx.cell? ⟨q, 0, none⟩ = some (.int .i64 (D.most : Nat)) ∧ wx.cell? ⟨p, 2, none⟩ = some (.int .u64 (T : Nat)) ∧ wx.cell? ⟨q, 2, none⟩ = some (.int .u64 (U : Nat)) from by
    have h1 := Lms.cells (HD.out.chg hu (by simp))
    have h2 := Lms.cells (HO.out.chg hu (by simp))
    rw [← hT] at h1
    rw [← hU, ← hm] at h2
    exact ⟨h1.1, h2.1, h1.2.2, h2.2.2⟩)
  obtain ⟨c0, c1, c2, c3⟩ := HCE.out w (Chg.refl _ _)
  obtain ⟨S, hS⟩ : ∃ S, S = T + U := ⟨_, rfl⟩
  have e : plusV [T, U] = .tuple #[.int .u64 (S : Nat), .bool true] := by
    have e0 : [T, U].sum = S := by simp [hS]
    unfold plusV
    rw [e0, if_pos (by omega)]
  have HPL := Lib.hid (fun u g (hg : Rd u 1 (.slice (some ⟨g, 0, none⟩) 2 2) 2 (u64s [T, U])) => show Calls Tryz.prog 96 #[.slice (some ⟨g, 0, none⟩) 2 2] u fun e w' => e = .returned (.tuple #[.int .u64 (S : Nat), .bool true]) ∧ u = w' from by
    rw [← e]
    exact wide_plus u (some ⟨g, 0, none⟩) 2 [T, U] (by intro v hv; simp at hv; omega) hg (by simp))
  have HST := Lib.hid (And.intro ht hS)
  have hne : ((D.most : Int) != (D.most : Int)) = false := by simp
  clear hd ho hok hoko hm hT hU hn e ht hS
  go_enter Tryz.func380, Tryz.ntmps380
  go_wp2_with fail
  go_quiet (fail)
  go_wp2_with fail
  have HC0 := Lib.hid (show Chg [] w (w.drewN nq) from (Chg.refl [] w).drewN nq)
  clear c0 c1 c2 c3
  generalize w.drewN nq = w1 at *
  have hSS := HCE.out w1.drew HC0.out.drew
  refine startN (S := fun wx => wx.cell? ⟨p, 0, none⟩ = some (.int .i64 (D.most : Nat)) ∧ wx.cell? ⟨q, 0, none⟩ = some (.int .i64 (D.most : Nat)) ∧ wx.cell? ⟨p, 2, none⟩ = some (.int .u64 (T : Nat)) ∧ wx.cell? ⟨q, 2, none⟩ = some (.int .u64 (U : Nat))) (by kernel_rfl) hSS (fun hHeld => ?_)
  refine takeN (i := 0) (v := ?va0) rfl (by kernel_rfl) (by kernel_rfl) (by kernel_rfl) (fun _ _ _ h => h) (Or.inl ⟨by rfl, ?ya0⟩) hSS ?ra0
  case ya0 => (intro w hSw; (try dsimp only at hSw); go_simp; first | done | with_reducible rfl)
  try simp only [Act.put, List.setIfInBounds_toArray, List.set_cons_zero, List.set_cons_succ]
  refine takeN (i := 1) (v := ?va1) rfl (by kernel_rfl) (by kernel_rfl) (by kernel_rfl) (fun _ _ _ h => h) (Or.inl ⟨by rfl, ?ya1⟩) hSS ?ra1
  case ya1 => (intro w hSw; (try dsimp only at hSw); go_simp; first | done | with_reducible rfl)
  try simp only [Act.put, List.setIfInBounds_toArray, List.set_cons_zero, List.set_cons_succ]
  refine takeN (i := 2) (v := ?va2) rfl (by kernel_rfl) (by kernel_rfl) (by kernel_rfl) (fun _ _ _ h => h) (Or.inl ⟨by rfl, ?ya2⟩) hSS ?ra2
  case ya2 => (intro w hSw; (try dsimp only at hSw); go_simp; first | done | with_reducible rfl)
  try simp only [Act.put, List.setIfInBounds_toArray, List.set_cons_zero, List.set_cons_succ]
  refine takeN (i := 3) (v := ?va3) rfl (by kernel_rfl) (by kernel_rfl) (by kernel_rfl) (fun _ _ _ h => h) (Or.inl ⟨by rfl, ?ya3⟩) hSS ?ra3
  case ya3 => (intro w hSw; (try dsimp only at hSw); go_simp; first | done | with_reducible rfl)
  try simp only [Act.put, List.setIfInBounds_toArray, List.set_cons_zero, List.set_cons_succ]
  refine takeN (i := 4) (v := ?va4) rfl (by kernel_rfl) (by kernel_rfl) (by kernel_rfl) (fun _ _ _ h => h) (Or.inl ⟨by rfl, ?ya4⟩) hSS ?ra4
  case ya4 => (intro w hSw; (try dsimp only at hSw); go_simp; first | done | with_reducible rfl)
  try simp only [Act.put, List.setIfInBounds_toArray, List.set_cons_zero, List.set_cons_succ]
  refine takeN (i := 5) (v := ?va5) rfl (by kernel_rfl) (by kernel_rfl) (by kernel_rfl) (fun _ _ _ h => h) (Or.inl ⟨by rfl, ?ya5⟩) hSS ?ra5
  case ya5 => (intro w hSw; (try dsimp only at hSw); go_simp; first | done | with_reducible rfl)
  try simp only [Act.put, List.setIfInBounds_toArray, List.set_cons_zero, List.set_cons_succ]
  refine takeN (i := 6) (v := ?va6) rfl (by kernel_rfl) (by kernel_rfl) (by kernel_rfl) (fun _ _ _ h => h) (Or.inl ⟨by rfl, ?ya6⟩) hSS ?ra6
  case ya6 => (intro w hSw; (try dsimp only at hSw); go_simp; first | done | with_reducible rfl)
  try simp only [Act.put, List.setIfInBounds_toArray, List.set_cons_zero, List.set_cons_succ]
  refine takeN (i := 7) (v := ?va7) rfl (by kernel_rfl) (by kernel_rfl) (by kernel_rfl) (fun _ _ _ h => h) (Or.inl ⟨by rfl, ?ya7⟩) hSS ?ra7
  case ya7 => (intro w hSw; (try dsimp only at hSw); go_simp; first | done | with_reducible rfl)
  try simp only [Act.put, List.setIfInBounds_toArray, List.set_cons_zero, List.set_cons_succ]
  refine readyN (rs := [8]) (by kernel_rfl) (by simp) (consN rfl (fun K hK => ?_) nilN)
  refine step_bU2 rfl 30 34 rfl T U (by simp [Act.eval]) (by simp [Act.eval]) ?_; intro gb w2 hr hc hg
  have HC2 := Lib.hid (HC0.out.drew.trans hc)
  have HR2 := Lib.hid hr
  clear hr hc hg
  refine hK.out _ _ (HCE.out _ HC2.out) (fun hHeld => ?_)
  clear hK K hHeld
  try simp only [Act.put, List.setIfInBounds_toArray, List.set_cons_zero, List.set_cons_succ]
  refine readyN (rs := [9]) (by kernel_rfl) (by simp) (consN rfl (fun K hK => ?_) nilN)
  refine step_callsG (by rfl) 96 _ _ rfl enters_plus _ #[.slice (some ⟨gb, 0, none⟩) 2 2] (by simp [Act.eval]) (HPL.out _ gb HR2.out) ?_; rintro e w3 ⟨rfl, rfl⟩; refine ⟨_, rfl, ?_⟩
  refine hK.out _ _ (HCE.out _ HC2.out) (fun hHeld => ?_)
  clear hK K hHeld
  try simp only [Act.put, List.setIfInBounds_toArray, List.set_cons_zero, List.set_cons_succ]
  refine takeN (i := 10) (v := ?va10) rfl (by kernel_rfl) (by kernel_rfl) (by kernel_rfl) (fun _ _ _ h => h) (Or.inl ⟨by rfl, ?ya10⟩) (HCE.out _ HC2.out) ?ra10
  case ya10 => (intro w hSw; (try dsimp only at hSw); go_simp; first | done | with_reducible rfl)
  try simp only [Act.put, List.setIfInBounds_toArray, List.set_cons_zero, List.set_cons_succ]
  refine takeN (i := 11) (v := ?va11) rfl (by kernel_rfl) (by kernel_rfl) (by kernel_rfl) (fun _ _ _ h => h) (Or.inl ⟨by rfl, ?ya11⟩) (HCE.out _ HC2.out) ?ra11
  case ya11 => (intro w hSw; (try dsimp only at hSw); go_simp; first | done | with_reducible rfl)
  try simp only [Act.put, List.setIfInBounds_toArray, List.set_cons_zero, List.set_cons_succ]
  refine takeN (i := 12) (v := ?va12) rfl (by kernel_rfl) (by kernel_rfl) (by kernel_rfl) (fun _ _ _ h => h) (Or.inl ⟨by rfl, ?ya12⟩) (HCE.out _ HC2.out) ?ra12
  case ya12 => (intro w hSw; (try dsimp only at hSw); go_simp; first | done | with_reducible rfl)
  try simp only [Act.put, List.setIfInBounds_toArray, List.set_cons_zero, List.set_cons_succ]
  refine takeN (i := 13) (v := ?va13) rfl (by kernel_rfl) (by kernel_rfl) (by kernel_rfl) (fun _ _ _ h => h) (Or.inl ⟨by rfl, ?ya13⟩) (HCE.out _ HC2.out) ?ra13
  case ya13 => (intro w hSw; (try dsimp only at hSw); go_simp; first | done | with_reducible rfl)
  try simp only [Act.put, List.setIfInBounds_toArray, List.set_cons_zero, List.set_cons_succ]
  refine takeN (i := 14) (v := ?va14) rfl (by kernel_rfl) (by kernel_rfl) (by kernel_rfl) (fun _ _ _ h => h) (Or.inl ⟨by rfl, ?ya14⟩) (HCE.out _ HC2.out) ?ra14
  case ya14 => (intro w hSw; (try dsimp only at hSw); go_simp; first | done | with_reducible rfl)
  try simp only [Act.put, List.setIfInBounds_toArray, List.set_cons_zero, List.set_cons_succ]
  refine doneN (by kernel_rfl) ?_ _
  clear HPL hSS HR2 hHeld
  have HLU := Lib.hid (lump_lumps w2 q bo O.l.length bcap (O.most : Int) O.l (totL O.l) rfl (HO.out.chg HC2.out (by simp)) (by have := HN.out; omega))
  rw [← HN.out] at HLU
  go_wp2_with fail
  refine HLU.out.mono ?_
  rintro e w3 ⟨a1, c1, rfl, ho1, hc1, hf1⟩
  have HC3 := Lib.hid (HC2.out.trans hc1)
  have HRD := Lib.hid ho1.rd
  have HF1 := Lib.hid (show ∀ b ∈ abl a1, w.heap.size ≤ b from fun b hb => Nat.le_trans HC2.out.size (hf1 b hb))
  have HD3 := Lib.hid (HD.out.chg HC3.out (by simp))
  have HLT := Lib.hid (show ∀ b ∈ fpL p (.slice ao D.l.length cap), b < w.heap.size from HD.out.lt)
  clear ho1 hc1 hf1 HLU HCE HC0 HC2 HD HO
  go_wp2_with fail
  go_loopw [44] (fun i wx => ∃ (k : Nat) (a : Option Addr) (c : Nat), k ≤ n ∧ i = .int .i64 (k : Nat) ∧ Hid (Lms wx p (.slice a (layAll D.l (O.l.take k)).length c) (D.most : Int) (layAll D.l (O.l.take k)) (totL (layAll D.l (O.l.take k))) ∧ Mv (fpL p (.slice ao D.l.length cap)) w3 (fpL p (.slice a (layAll D.l (O.l.take k)).length c)) wx)) (fun i _ => n - (intOf i).toNat)
  case atStart => exact ⟨0, ao, cap, Nat.zero_le _, rfl, Lib.hid ⟨HD3.out, Mv.refl _ _⟩⟩
  case round =>
    obtain ⟨k, a, c, hk, rfl, HLM⟩ := hrel
    by_cases hlt : k < n
    · have hkl : k < O.l.length := by have := HN.out; omega
      have hm1 := HLM.out.2
      have hrd := HRD.out.chg hm1.chg (fun b hb e => by
        have h1 := HLT.out b e
        have h2 := HF1.out b (by simpa using hb)
        omega)
      obtain ⟨g, o, rfl, hc⟩ := hrd.addr (by omega)
      obtain ⟨d0, d1, d2⟩ := lp_at (l := O.l) (fun j hj => hc j (by rw [HN.out]; exact hj)) hkl
      have hLK := layAll_take D.l O.l k hkl
      have hin : O.l[k] ∈ O.l := List.getElem_mem hkl
      obtain ⟨x1, x2, -, x4, x5⟩ := layAll_ok (fun _ => true) (fun _ _ _ => rfl) (O.l.take k) HOK.out.rises HOK.out.each (fun q hq => HOKO.out.each q (List.mem_of_mem_take hq))
      have hb1 : totL (O.l.take k) + O.l[k].n ≤ totL O.l := by
        have h1 := totL_take_le O.l (k + 1)
        rw [List.take_succ_eq_append_getElem hkl, totL_app, totL_cons, totL_nil] at h1
        omega
      have HLK := Lib.hid hLK
      generalize O.l[k] = y at *
      have hw4 : Lms (wr.alloc (.cells #[.int .u64 (y.n : Nat), .int .i64 y.lo, .int .i64 y.hi] 194)) p (.slice a (layAll D.l (O.l.take k)).length c) (D.most : Int) (layAll D.l (O.l.take k)) (totL (layAll D.l (O.l.take k))) := HLM.out.1.chg ((Chg.refl [] wr).alloc _) (by simp)
      have hlen : (layAll D.l (O.l.take k)).length ≤ 1000 := by
        rw [List.length_take] at x5
        have h1 := HOK.out.few
        have h2 := HOK.out.m2
        omega
      have HLY := Lib.hid (lump_lay _ p a c _ (D.most : Int) _ rfl _ hw4 x1 hlen y (Nat.le_refl _) (by rw [x4]; have h1 := HST.out.1; rw [HT.out, HU.out] at h1; omega))
      have hbx := Blk.alloc_new wr #[.int .u64 (y.n : Nat), .int .i64 y.lo, .int .i64 y.hi] 194
      clear hw4 x1 x2 x4 x5 hb1 hin hlen hc hrd hLK hm1
      go_wp2_with fail
      refine HLY.out.mono ?_
      rintro e w5 ⟨rfl, a5, c5, hL5, hm5⟩
      rw [← HLK.out] at hL5 hm5
      have htt : totL (layAll D.l (O.l.take k)) + y.n = totL (layAll D.l (O.l.take (k + 1))) := by rw [HLK.out, totL_lay]
      rw [htt] at hL5
      have HL5 := Lib.hid (And.intro hL5 ((HLM.out.2.trans (Mv.alloc _ _ _)).trans hm5))
      clear hL5 hm5 htt HLY hbx d0 d1 d2
      go_wp2_with fail
      exact ⟨⟨k + 1, a5, c5, by omega, by go_num, HL5⟩, by simp [intOf]; omega⟩
    · obtain rfl : k = n := by omega
      have hfull : O.l.take k = O.l := List.take_of_length_le (by have := HN.out; omega)
      have hL := HLM.out
      rw [hfull] at hL
      obtain ⟨x1, x2, -, x4, x5⟩ := layAll_ok (fun _ => true) (fun _ _ _ => rfl) O.l HOK.out.rises HOK.out.each HOKO.out.each
      have HPR := Lib.hid (lump_press wr p a c _ (D.most : Int) (layAll D.l O.l) rfl hL.1 x1 (by have h1 := HOK.out.few; have h2 := HOK.out.m2; have h3 := HN.out; omega) D.most rfl (by have := HOK.out.m1; omega) (by rw [x4]; have h1 := HST.out.1; rw [HT.out, HU.out] at h1; omega))
      have HLL := Lib.hid hL
      have HX1 := Lib.hid x1
      clear hL hfull x1 x2 x4 x5 HLM
      go_wp2_with fail
      refine HPR.out.mono ?_
      rintro e w5 ⟨rfl, a5, c5, hL5, hm5⟩
      have HL5 := Lib.hid hL5
      have HM5 := Lib.hid hm5
      clear hL5 hm5 HPR
      go_wp2
      go_ret
      refine ⟨rfl, .slice a5 (pressL D.most (layAll D.l O.l)).length c5, ?_, ((Mv.of_chg (HC3.out.mono (by simp))).trans HLL.out.2).trans HM5.out⟩
      have h1 := HL5.out
      have h2 : totL (layAll D.l O.l) = totL (pressL D.most (layAll D.l O.l)) := (LmD.pressedT (HOK.out.m1) HX1.out).symm
      rw [h2] at h1
      exact h1
end Go.Proofs.YtlcoibhbdgdfcaaGreatDoor

namespace Go.Proofs.YtlcoibhbdgdfcaaGreatDoor
open Go.RowKit

set_option maxRecDepth 100000 in
set_option maxHeartbeats 4000000 in
theorem sk_put_lumps (w : World) (s p : Nat) (c : Cf) (h : Sk w s c 169 p) (x : Int) (n : Nat) (R : Ending → World → Prop)
    (HP0 : Calls Tryz.prog 179 #[.pointer (some ⟨p, 0, none⟩), .int .i64 x, .int .u64 n] w fun e w' => ∃ k, e = .returned (.int .i64 k) ∧ R e w') :
    Calls Tryz.prog 24 #[.pointer (some ⟨s, 0, none⟩), .int .i64 x, .int .u64 n] w R := by
  have c11 := h.core
  have HP := Lib.hid HP0
  clear h HP0
  go_enter Tryz.func24, Tryz.ntmps24
  go_wp2_with fail
  refine HP.out.mono ?_
  rintro e w1 ⟨k, rfl, hR⟩
  have HR := Lib.hid hR
  clear hR HP
  go_wp2_with fail
  exact HR.out
set_option maxRecDepth 100000 in
set_option maxHeartbeats 4000000 in
theorem sk_quant_lumps (w : World) (s p : Nat) (c : Cf) (h : Sk w s c 169 p) (num den : Nat) (x k : Int)
    (HP0 : ∀ u, Chg [] w u → Calls Tryz.prog 180 #[.pointer (some ⟨p, 0, none⟩), .agg #[.int .u64 (num : Nat), .int .u64 (den : Nat)]] u fun e w' => e = .returned (.tuple #[.int .i64 x, .int .i64 k]) ∧ Chg [] u w') :
    Calls Tryz.prog 17 #[.pointer (some ⟨s, 0, none⟩), .agg #[.int .u64 (num : Nat), .int .u64 (den : Nat)]] w fun e w' => e = .returned (.tuple #[.int .i64 x, .int .i64 k]) ∧ Chg [] w w' := by
  have c11 := (Sk.nil h ((Chg.refl [] w).alloc (.cells #[.int .u64 (num : Nat), .int .u64 (den : Nat)] 27))).core
  have HP := Lib.hid HP0
  have HC := Lib.hid ((Chg.refl [] w).alloc (.cells #[.int .u64 (num : Nat), .int .u64 (den : Nat)] 27))
  clear h HP0
  go_enter Tryz.func17, Tryz.ntmps17
  go_wp2_with fail
  have c11d := c11
  rw [← World.cell?_drew] at c11d
  go_region_with (go_at_call 180; refine (HP.out _ HC.out.drew).mono ?_; rintro e w1 ⟨rfl, hc⟩)
  all_goals
    go_wp2
    go_ret2
    exact ⟨rfl, HC.out.drew.trans hc⟩
set_option maxRecDepth 100000 in
set_option maxHeartbeats 4000000 in
theorem core_total_lumps (w : World) (p : Nat) (n : Nat)
    (HP0 : ∀ u, Chg [] w u → Calls Tryz.prog 181 #[.pointer (some ⟨p, 0, none⟩)] u fun e w' => e = .returned (.int .u64 (n : Nat)) ∧ Chg [] u w') :
    Calls Tryz.prog 378 #[.agg #[.pointer (some ⟨p, 0, none⟩)]] w fun e w' => e = .returned (.int .u64 (n : Nat)) ∧ Chg [] w w' := by
  have HP := Lib.hid HP0
  have HC := Lib.hid ((Chg.refl [] w).alloc (.cells #[.pointer (some ⟨p, 0, none⟩)] 169))
  clear HP0
  go_enter Tryz.func378, Tryz.ntmps378
  go_wp2_with fail
  refine (HP.out _ HC.out).mono ?_
  rintro e w1 ⟨rfl, hc⟩
  go_wp2
  go_ret
  exact ⟨rfl, HC.out.trans hc⟩
set_option maxRecDepth 100000 in
set_option maxHeartbeats 4000000 in
theorem sk_total_lumps (w : World) (s p : Nat) (c : Cf) (h : Sk w s c 169 p) (n : Nat)
    (HP0 : ∀ u, Chg [] w u → Calls Tryz.prog 181 #[.pointer (some ⟨p, 0, none⟩)] u fun e w' => e = .returned (.int .u64 (n : Nat)) ∧ Chg [] u w') :
    Calls Tryz.prog 25 #[.pointer (some ⟨s, 0, none⟩)] w fun e w' => e = .returned (.int .u64 (n : Nat)) ∧ Chg [] w w' := by
  have c11 := h.core
  have HT := Lib.hid (core_total_lumps w p n HP0)
  clear h HP0
  go_enter Tryz.func25, Tryz.ntmps25
  go_wp2_with fail
  refine HT.out.mono ?_
  rintro e w1 ⟨rfl, hc⟩
  go_wp2
  go_ret
  exact ⟨rfl, hc⟩
set_option maxRecDepth 100000 in
set_option maxHeartbeats 4000000 in
theorem core_rank_lumps (w : World) (p : Nat) (x : Int) (a : Nat) (b : Nat)
    (HP0 : ∀ u, Chg [] w u → Calls Tryz.prog 381 #[.pointer (some ⟨p, 0, none⟩), .int .i64 x] u fun e w' => e = .returned (.tuple #[.int .u64 (a : Nat), .int .u64 (b : Nat)]) ∧ Chg [] u w') :
    Calls Tryz.prog 377 #[.agg #[.pointer (some ⟨p, 0, none⟩)], .int .i64 x] w fun e w' => e = .returned (.tuple #[.int .u64 (a : Nat), .int .u64 (b : Nat)]) ∧ Chg [] w w' := by
  have HP := Lib.hid HP0
  have HC := Lib.hid ((Chg.refl [] w).alloc (.cells #[.pointer (some ⟨p, 0, none⟩)] 169))
  clear HP0
  go_enter Tryz.func377, Tryz.ntmps377
  go_wp2_with fail
  refine (HP.out _ HC.out).mono ?_
  rintro e w1 ⟨rfl, hc⟩
  go_wp2
  go_ret2
  exact ⟨rfl, HC.out.trans hc⟩
set_option maxRecDepth 100000 in
set_option maxHeartbeats 4000000 in
theorem sk_rank_lumps (w : World) (s p : Nat) (c : Cf) (h : Sk w s c 169 p) (x : Int) (a : Nat) (b : Nat)
    (HP0 : ∀ u, Chg [] w u → Calls Tryz.prog 381 #[.pointer (some ⟨p, 0, none⟩), .int .i64 x] u fun e w' => e = .returned (.tuple #[.int .u64 (a : Nat), .int .u64 (b : Nat)]) ∧ Chg [] u w') :
    Calls Tryz.prog 15 #[.pointer (some ⟨s, 0, none⟩), .int .i64 x] w fun e w' => e = .returned (.tuple #[.int .u64 (a : Nat), .int .u64 (b : Nat)]) ∧ Chg [] w w' := by
  have c11 := h.core
  have HT := Lib.hid (core_rank_lumps w p x a b HP0)
  clear h HP0
  go_enter Tryz.func15, Tryz.ntmps15
  go_wp2_with fail
  refine HT.out.mono ?_
  rintro e w1 ⟨rfl, hc⟩
  go_wp2
  go_ret2
  exact ⟨rfl, hc⟩
theorem ta_lumps (u : World) (q : Nat) : (Instr.typeAssert (.iface 169 (.agg #[.pointer (some ⟨q, 0, none⟩)])) 94 169 false).run Tryz.prog u = .ok (.agg #[.pointer (some ⟨q, 0, none⟩)]) u := by kernel_rfl
theorem fa_lumps (u : World) (q : Nat) : (Instr.field 169 (.agg #[.pointer (some ⟨q, 0, none⟩)]) 0).run Tryz.prog u = .ok (.pointer (some ⟨q, 0, none⟩)) u := by kernel_rfl
set_option maxRecDepth 100000 in
set_option maxHeartbeats 4000000 in
theorem core_join_lumps (w : World) (p q : Nat) (R : Ending → World → Prop)
    (HP0 : ∀ u, Chg [] w u → Calls Tryz.prog 380 #[.pointer (some ⟨p, 0, none⟩), .pointer (some ⟨q, 0, none⟩)] u fun e w' => ∃ k, e = .returned (.int .i64 k) ∧ R e w') :
    Calls Tryz.prog 376 #[.agg #[.pointer (some ⟨p, 0, none⟩)], .iface 169 (.agg #[.pointer (some ⟨q, 0, none⟩)])] w fun e w' => ∃ k, e = .returned (.int .i64 k) ∧ R e w' := by
  have HP := Lib.hid HP0
  have HC := Lib.hid ((Chg.refl [] w).alloc (.cells #[.pointer (some ⟨p, 0, none⟩)] 169))
  have ta := ta_lumps
  have fa := fa_lumps
  clear HP0
  go_enter Tryz.func376, Tryz.ntmps376
  go_wp2_with fail
  go_region_with (go_at_call 380; refine (HP.out _ HC.out.drew).mono ?_; rintro e w1 ⟨k, rfl, hR⟩)
  all_goals
    have HR := Lib.hid hR
    clear hR HP
    go_wp2
    go_ret
    exact ⟨k, rfl, HR.out⟩
set_option maxRecDepth 100000 in
set_option maxHeartbeats 4000000 in
theorem sk_join_lumps (w : World) (s p o q : Nat) (c d : Cf) (h : Sk w s c 169 p) (h' : Sk w o d 169 q) (hk : c.kind = d.kind) (R : Ending → World → Prop)
    (HP0 : ∀ u, Chg [] w u → Calls Tryz.prog 380 #[.pointer (some ⟨p, 0, none⟩), .pointer (some ⟨q, 0, none⟩)] u fun e w' => ∃ k, e = .returned (.int .i64 k) ∧ R e w') :
    Calls Tryz.prog 38 #[.pointer (some ⟨s, 0, none⟩), .pointer (some ⟨o, 0, none⟩)] w R := by
  have HS := Lib.hid (fun u (hu : Chg [] w u) => (⟨(h.nil hu).kind, (h.nil hu).core, (h'.nil hu).kind, (h'.nil hu).core⟩ : _ ∧ _ ∧ _ ∧ _))
  have HT := Lib.hid (fun u (hu : Chg [] w u) => core_join_lumps u p q R (fun v hv => HP0 v (hu.trans hv)))
  obtain ⟨k0, hk0⟩ : ∃ k, k = c.kind := ⟨_, rfl⟩
  rw [← hk, ← hk0] at HS
  have hkk : (k0 != k0) = false := by simp
  clear h h' HP0 hk hk0
  go_enter Tryz.func38, Tryz.ntmps38
  obtain ⟨c0, c11, d0, d11⟩ := HS.out w (Chg.refl _ _)
  go_wp2_with fail
  go_quiet (fail)
  clear c0 c11 d0 d11
  have HC := Lib.hid ((Chg.refl [] w).drewN nq)
  generalize w.drewN nq = w0 at *
  obtain ⟨c0, c11, d0, d11⟩ := HS.out w0 HC.out
  obtain ⟨k0', k11, e0, e11⟩ := HS.out w0.drew HC.out.drew
  go_wp2_with fail
  go_region_with (go_at_call 376; refine (HT.out _ HC.out.drew).mono ?_; rintro e w1 ⟨k, rfl, hR⟩)
  all_goals
    have HR := Lib.hid hR
    clear hR HT
    go_wp2_with fail
    go_ret
    exact HR.out
end Go.Proofs.YtlcoibhbdgdfcaaGreatDoor
