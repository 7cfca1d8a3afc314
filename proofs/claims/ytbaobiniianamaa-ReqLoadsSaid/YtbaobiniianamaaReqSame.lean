/-
  The walk of the statements' same: a tower and the document's. Conditions: the form's own reach.
-/
import Derived.Test.YtbaobiniianamaaRefJoin
import Derived.Test.YtbaobiniianamaaRefRank
import Derived.Test.YtbaobiniianamaaReqRank
import Derived.Test.YtbaobiniianamaaSteps
namespace Go.Proofs.Ytbaobiniianamaa
open Go.RowKit

theorem enters_rows' : ∀ (args : Array Value) (w : World), (callFunc 27 args).run Try.prog w = .ok (.enter 27 args) w := enters_of Try.func27 (by kernel_rfl) rfl
theorem enters_total' : ∀ (args : Array Value) (w : World), (callFunc 28 args).run Try.prog w = .ok (.enter 28 args) w := enters_of Try.func28 (by kernel_rfl) rfl
theorem enters_used : ∀ (args : Array Value) (w : World), (callFunc 21 args).run Try.prog w = .ok (.enter 21 args) w := enters_of Try.func21 (by kernel_rfl) rfl
theorem enters_same21 : ∀ (args : Array Value) (w : World), (callFunc 36 args).run Try.prog w = .ok (.enter 36 args) w := enters_of Try.func36 (by kernel_rfl) rfl
theorem enters_rtotal : ∀ (args : Array Value) (w : World), (callFunc 55 args).run Try.prog w = .ok (.enter 55 args) w := enters_of Try.func55 (by kernel_rfl) rfl

set_option maxRecDepth 100000 in
set_option maxHeartbeats 4000000 in
set_option linter.unusedSimpArgs false in
theorem law21_same (w : World) (p tp : Nat) (rv : Value) (vs : List Value) (D : TwD) (ht : Tow w p tp rv vs D) (q : Nat) (qv : Value) (qs : List Value) (W word : Nat) (hq : RT w q qv qs W word D.used D.rows) {W1 word1 n : Nat} (hd : D.fine W1 word1 n) (hn : n ≤ 500) :
    Calls Try.prog 33 #[.pointer (some ⟨p, 0, none⟩), .pointer (some ⟨q, 0, none⟩)] w fun e w' => e = .returned (.bool true) ∧ Chg [] w w' := by
  have h8 := hd.few8 hn
  have hfl := hd.flat
  obtain ⟨qo, qc, hqv⟩ : ∃ ro rc, qv = .slice ro D.rows.length rc := hq.own.shape
  subst hqv
  obtain ⟨-, -, k2, k3⟩ := hq.cells
  have HT := Lib.hid (fun u (hu : Chg [] w u) => ht.chg hu (by simp))
  have HQ := Lib.hid (fun u (hu : Chg [] w u) => hq.chg hu (by simp))
  have HRW := Lib.hid (fun u (hu : Chg [] w u) => req_rows u p tp rv vs D (HT.out u hu) (by omega) (by omega))
  have HTO := Lib.hid (fun u (hu : Chg [] w u) => req_total u p tp rv vs D (HT.out u hu))
  have HUS := Lib.hid (fun u (hu : Chg [] w u) => req_used u p tp rv vs D (HT.out u hu))
  have HRT := Lib.hid (fun u (hu : Chg [] w u) => ref21_total u q _ qs W word D.used D.rows (HQ.out u hu) (by omega) (by omega) (by rw [hd.sum]; omega) D.total (by rw [rank_all hd.low, hd.sum, hd.tot]))
  have HFL := Lib.hid (show D.rows.flatten.length ≤ 100000 by omega)
  obtain ⟨m, hm⟩ : ∃ m, m = D.rows.length := ⟨_, rfl⟩
  rw [← hm] at HRW k3 HQ h8
  have HM := Lib.hid hm
  obtain ⟨T, hT⟩ : ∃ T, T = D.total := ⟨_, rfl⟩
  rw [← hT] at HTO HRT
  obtain ⟨U, hU⟩ : ∃ U, U = D.used := ⟨_, rfl⟩
  rw [← hU] at HUS k2
  have hUU : ((U : Int) == (U : Int)) = true := by simp
  have hTT : ((T : Int) == (T : Int)) = true := by simp
  have hKC := Lib.hid (fun u (hu : Chg [] w u) => show u.cell? ⟨q, 3, none⟩ = some (.slice qo m qc) ∧ u.cell? ⟨q, 2, none⟩ = some (.int .i64 (U : Nat)) from ⟨by have := (HQ.out u hu).cells.2.2.2; exact this, by rw [hU]; exact (HQ.out u hu).cells.2.2.1⟩)
  have hK0 := hKC.out w (Chg.refl [] w)
  have HU := Lib.hid hU
  clear ht hq hd hfl hm hT hU k2 k3 hn
  go_enter Try.func33, Try.ntmps33
  go_wp2_with fail
  refine startG (S := fun wx => wx.cell? ⟨q, 3, none⟩ = some (.slice qo m qc) ∧ wx.cell? ⟨q, 2, none⟩ = some (.int .i64 (U : Nat))) (st := 23) (by kernel_rfl) hK0 (fun hHeld => ?_)
  refine takeP (i := 0) (v := ?vz0) rfl (by kernel_rfl) (by kernel_rfl) (by kernel_rfl) (by decide) (fun _ _ _ h => h) (Or.inl ⟨by rfl, ?yz0⟩) hK0 ?rz0
  case yz0 => (intro w _; go_simp; first | done | with_reducible rfl)
  try simp only [Act.put, List.setIfInBounds_toArray, List.set_cons_zero, List.set_cons_succ]
  refine takeP (i := 2) (v := ?vz2) rfl (by kernel_rfl) (by kernel_rfl) (by kernel_rfl) (by decide) (fun _ _ _ h => h) (Or.inl ⟨by rfl, ?yz2⟩) hK0 ?rz2
  case yz2 => (intro w _; go_simp; first | done | with_reducible rfl)
  try simp only [Act.put, List.setIfInBounds_toArray, List.set_cons_zero, List.set_cons_succ]
  refine takeP (i := 3) (v := ?vz3) rfl (by kernel_rfl) (by kernel_rfl) (by kernel_rfl) (by decide) (fun _ _ _ h => h) (Or.inl ⟨by rfl, ?yz3⟩) hK0 ?rz3
  case yz3 => (intro w _; go_simp; first | done | with_reducible rfl)
  try simp only [Act.put, List.setIfInBounds_toArray, List.set_cons_zero, List.set_cons_succ]
  refine takeP (i := 4) (v := ?vz4) rfl (by kernel_rfl) (by kernel_rfl) (by kernel_rfl) (by decide) (fun _ _ _ h => h) (Or.inl ⟨by rfl, ?yz4⟩) hK0 ?rz4
  case yz4 => (intro w _; go_simp; first | done | with_reducible rfl)
  try simp only [Act.put, List.setIfInBounds_toArray, List.set_cons_zero, List.set_cons_succ]
  refine takeG (i := 5) (v := ?vz5) rfl (by kernel_rfl) (by kernel_rfl) (by kernel_rfl) (by decide) (by kernel_rfl) (by kernel_rfl) (fun _ _ _ h => h) (Or.inl ⟨by rfl, ?yz5⟩) hK0 ?rz5
  case yz5 => (intro w hSw; (try dsimp only at hSw); go_simp; first | done | with_reducible rfl)
  try simp only [Act.put, List.setIfInBounds_toArray, List.set_cons_zero, List.set_cons_succ]
  refine readyG (rs := [1]) (by kernel_rfl) (by simp) (consG rfl (fun K hK => ?_) nilG)
  refine step_calls rfl 27 _ _ rfl enters_rows' _ #[.pointer (some ⟨p, 0, none⟩)] (by simp [Act.eval, Act.put]) (HRW.out _ ((Chg.refl [] w).drew)) ?_; rintro e w2 ⟨ro, rc, us, rfl, ⟨hx1, hx2, -, -⟩, hc2⟩; refine ⟨_, rfl, ?_⟩
  have HC2 := Lib.hid (((Chg.refl [] w).drew).trans hc2)
  have HX := Lib.hid (show RowsR w2 (.slice ro m rc) m us D.rows from ⟨HM.out ▸ hx1.rd, HM.out, hx2.1, fun j h h' => (hx2.2.1 j h h').rd⟩)
  have HY := Lib.hid (show RowsR w2 (.slice qo m qc) m qs D.rows from by have h := (HQ.out w2 HC2.out).rowsR; rw [← HM.out] at h; exact h)
  have hK2 := hKC.out w2 HC2.out
  clear hx1 hx2 hc2
  refine hK.out _ _ (fun _ _ => hK2) (fun hHeld => ?_)
  clear hK K hHeld
  try simp only [Act.put, List.setIfInBounds_toArray, List.set_cons_zero, List.set_cons_succ]
  refine readyG (rs := [6]) (by kernel_rfl) (by simp) (consG rfl (fun K hK => ?_) nilG)
  refine step_calls rfl 36 _ _ rfl enters_same21 _ #[.slice ro m rc, .slice qo m qc] (by simp [Act.eval, Act.put]) (ref21_same w2 ro qo rc qc m us qs D.rows HX.out HY.out HFL.out (by omega)) ?_; rintro e w3 ⟨rfl, hc3⟩; refine ⟨_, rfl, ?_⟩
  have HC3 := Lib.hid (HC2.out.trans hc3)
  have hK3 := hKC.out w3 HC3.out
  refine hK.out _ _ (fun _ _ => hK3) (fun hHeld => ?_)
  clear hK K hHeld
  try simp only [Act.put, List.setIfInBounds_toArray, List.set_cons_zero, List.set_cons_succ]
  refine takeP (i := 7) (v := ?vz7) rfl (by kernel_rfl) (by kernel_rfl) (by kernel_rfl) (by decide) (fun _ _ _ h => h) (Or.inl ⟨by rfl, ?yz7⟩) hK3 ?rz7
  case yz7 => (intro w _; go_simp; first | done | with_reducible rfl)
  try simp only [Act.put, List.setIfInBounds_toArray, List.set_cons_zero, List.set_cons_succ]
  refine takeP (i := 8) (v := ?vz8) rfl (by kernel_rfl) (by kernel_rfl) (by kernel_rfl) (by decide) (fun _ _ _ h => h) (Or.inl ⟨by rfl, ?yz8⟩) hK3 ?rz8
  case yz8 => (intro w _; go_simp; first | done | with_reducible rfl)
  try simp only [Act.put, List.setIfInBounds_toArray, List.set_cons_zero, List.set_cons_succ]
  refine takeP (i := 10) (v := ?vz10) rfl (by kernel_rfl) (by kernel_rfl) (by kernel_rfl) (by decide) (fun _ _ _ h => h) (Or.inl ⟨by rfl, ?yz10⟩) hK3 ?rz10
  case yz10 => (intro w _; go_simp; first | done | with_reducible rfl)
  try simp only [Act.put, List.setIfInBounds_toArray, List.set_cons_zero, List.set_cons_succ]
  refine takeP (i := 11) (v := ?vz11) rfl (by kernel_rfl) (by kernel_rfl) (by kernel_rfl) (by decide) (fun _ _ _ h => h) (Or.inl ⟨by rfl, ?yz11⟩) hK3 ?rz11
  case yz11 => (intro w _; go_simp; first | done | with_reducible rfl)
  try simp only [Act.put, List.setIfInBounds_toArray, List.set_cons_zero, List.set_cons_succ]
  refine takeP (i := 12) (v := ?vz12) rfl (by kernel_rfl) (by kernel_rfl) (by kernel_rfl) (by decide) (fun _ _ _ h => h) (Or.inl ⟨by rfl, ?yz12⟩) hK3 ?rz12
  case yz12 => (intro w _; go_simp; first | done | with_reducible rfl)
  try simp only [Act.put, List.setIfInBounds_toArray, List.set_cons_zero, List.set_cons_succ]
  refine takeG (i := 13) (v := ?vz13) rfl (by kernel_rfl) (by kernel_rfl) (by kernel_rfl) (by decide) (by kernel_rfl) (by kernel_rfl) (fun _ _ _ h => h) (Or.inl ⟨by rfl, ?yz13⟩) hK3 ?rz13
  case yz13 => (intro w hSw; (try dsimp only at hSw); go_simp; first | done | with_reducible rfl)
  try simp only [Act.put, List.setIfInBounds_toArray, List.set_cons_zero, List.set_cons_succ]
  refine readyG (rs := [9]) (by kernel_rfl) (by simp) (consG rfl (fun K hK => ?_) nilG)
  refine step_callsG (by rfl) 21 _ _ rfl enters_used _ #[.pointer (some ⟨p, 0, none⟩)] (by simp [Act.eval, Act.put]) (HUS.out _ HC3.out) ?_; rintro e w4 ⟨rfl, rfl⟩; refine ⟨_, rfl, ?_⟩
  refine hK.out _ _ (fun _ _ => hK3) (fun hHeld => ?_)
  clear hK K hHeld
  try simp only [Act.put, List.setIfInBounds_toArray, List.set_cons_zero, List.set_cons_succ]
  refine takeP (i := 14) (v := ?vz14) rfl (by kernel_rfl) (by kernel_rfl) (by kernel_rfl) (by decide) (fun _ _ _ h => h) (Or.inl ⟨by rfl, ?yz14⟩) hK3 ?rz14
  case yz14 => (intro w _; go_simp; first | done | with_reducible rfl)
  try simp only [Act.put, List.setIfInBounds_toArray, List.set_cons_zero, List.set_cons_succ]
  refine takeP (i := 15) (v := ?vz15) rfl (by kernel_rfl) (by kernel_rfl) (by kernel_rfl) (by decide) (fun _ _ _ h => h) (Or.inl ⟨by rfl, ?yz15⟩) hK3 ?rz15
  case yz15 => (intro w _; go_simp; first | done | with_reducible rfl)
  try simp only [Act.put, List.setIfInBounds_toArray, List.set_cons_zero, List.set_cons_succ]
  refine takeP (i := 16) (v := ?vz16) rfl (by kernel_rfl) (by kernel_rfl) (by kernel_rfl) (by decide) (fun _ _ _ h => h) (Or.inl ⟨by rfl, ?yz16⟩) hK3 ?rz16
  case yz16 => (intro w _; go_simp; first | done | with_reducible rfl)
  try simp only [Act.put, List.setIfInBounds_toArray, List.set_cons_zero, List.set_cons_succ]
  refine takeP (i := 17) (v := ?vz17) rfl (by kernel_rfl) (by kernel_rfl) (by kernel_rfl) (by decide) (fun _ _ _ h => h) (Or.inl ⟨by rfl, ?yz17⟩) hK3 ?rz17
  case yz17 => (intro w _; go_simp; first | done | with_reducible rfl)
  try simp only [Act.put, List.setIfInBounds_toArray, List.set_cons_zero, List.set_cons_succ]
  refine takeP (i := 19) (v := ?vz19) rfl (by kernel_rfl) (by kernel_rfl) (by kernel_rfl) (by decide) (fun _ _ _ h => h) (Or.inl ⟨by rfl, ?yz19⟩) hK3 ?rz19
  case yz19 => (intro w _; go_simp; first | done | with_reducible rfl)
  try simp only [Act.put, List.setIfInBounds_toArray, List.set_cons_zero, List.set_cons_succ]
  refine readyG (rs := [18]) (by kernel_rfl) (by simp) (consG rfl (fun K hK => ?_) nilG)
  refine step_callsG (by rfl) 28 _ _ rfl enters_total' _ #[.pointer (some ⟨p, 0, none⟩)] (by simp [Act.eval, Act.put]) (HTO.out _ HC3.out) ?_; rintro e w4 ⟨rfl, rfl⟩; refine ⟨_, rfl, ?_⟩
  refine hK.out _ _ (fun _ _ => hK3) (fun hHeld => ?_)
  clear hK K hHeld
  try simp only [Act.put, List.setIfInBounds_toArray, List.set_cons_zero, List.set_cons_succ]
  refine readyG (rs := [20]) (by kernel_rfl) (by simp) (consG rfl (fun K hK => ?_) nilG)
  refine step_callsG (by rfl) 55 _ _ rfl enters_rtotal _ #[.pointer (some ⟨q, 0, none⟩)] (by simp [Act.eval, Act.put]) (HRT.out _ HC3.out) ?_; rintro e w5 ⟨rfl, hc5⟩; refine ⟨_, rfl, ?_⟩
  have HC5 := Lib.hid (HC3.out.trans hc5)
  have hK5 := hKC.out w5 HC5.out
  refine hK.out _ _ (fun _ _ => hK5) (fun hHeld => ?_)
  clear hK K hHeld
  try simp only [Act.put, List.setIfInBounds_toArray, List.set_cons_zero, List.set_cons_succ]
  refine takeP (i := 21) (v := ?vz21) rfl (by kernel_rfl) (by kernel_rfl) (by kernel_rfl) (by decide) (fun _ _ _ h => h) (Or.inl ⟨by rfl, ?yz21⟩) hK5 ?rz21
  case yz21 => (intro w _; go_simp; first | done | with_reducible rfl)
  try simp only [Act.put, List.setIfInBounds_toArray, List.set_cons_zero, List.set_cons_succ]
  refine takeP (i := 22) (v := ?vz22) rfl (by kernel_rfl) (by kernel_rfl) (by kernel_rfl) (by decide) (fun _ _ _ h => h) (Or.inl ⟨by rfl, ?yz22⟩) hK5 ?rz22
  case yz22 => (intro w _; go_simp; first | done | with_reducible rfl)
  try simp only [Act.put, List.setIfInBounds_toArray, List.set_cons_zero, List.set_cons_succ]
  refine readyG (rs := [23]) (by kernel_rfl) (by simp) (consG rfl (fun K hK => ?_) nilG)
  go_simp
  refine hK.out _ _ (fun h => absurd rfl h) (fun hHeld => ?_)
  clear hK K hHeld
  try simp only [Act.put, List.setIfInBounds_toArray, List.set_cons_zero, List.set_cons_succ]
  refine doneG (by kernel_rfl) ?_ _
  go_wp2
  go_ret
  exact ⟨rfl, HC5.out⟩
end Go.Proofs.Ytbaobiniianamaa
