/-
  The walks of (*Tower).Most, Total, Used, ends, Ends, Config. Conditions: the form's own reach.
-/
import Derived.Test.YtbaobiniianamaaTower
namespace Go.Proofs.Ytbaobiniianamaa
open Go.RowKit

set_option maxRecDepth 100000 in
set_option maxHeartbeats 1000000 in
theorem req_total (w : World) (p tp : Nat) (rv : Value) (vs : List Value) (D : TwD) (ht : Tow w p tp rv vs D) :
    Calls Try.prog 28 #[.pointer (some ⟨p, 0, none⟩)] w fun e w' => e = .returned (.int .u64 (D.total : Nat)) ∧ w = w' := by
  obtain ⟨c0, c1, c2, c3, c4, c5, c6⟩ := ht.cells
  go_enter Try.func28, Try.ntmps28
  go_wp2
  go_ret
  exact ⟨rfl, rfl⟩

set_option maxRecDepth 100000 in
set_option maxHeartbeats 1000000 in
theorem req_most (w : World) (p tp : Nat) (rv : Value) (vs : List Value) (D : TwD) (ht : Tow w p tp rv vs D) (hW : D.W ≤ 64) :
    Calls Try.prog 25 #[.pointer (some ⟨p, 0, none⟩)] w fun e w' => e = .returned (.int .u64 (D.W * 1024 : Nat)) ∧ w = w' := by
  obtain ⟨c0, c1, c2, c3, c4, c5, c6⟩ := ht.cells
  have e1 : IntKind.u64.wrap (D.W : Int) = (D.W : Int) := IntWalk.u64_in _ (by omega)
  have e2 : IntKind.u64.wrap ((D.W : Int) * 1024) = ((D.W * 1024 : Nat) : Int) := by rw [IntKind.wrap_u64]; omega
  go_enter Try.func25, Try.ntmps25
  go_wp2
  go_ret
  refine ⟨?_, rfl⟩
  rw [show ((D.W * 1024 : Nat) : Int) = (D.W : Int) * 1024 from by omega]
  rfl

set_option maxRecDepth 100000 in
set_option maxHeartbeats 1000000 in
theorem req_used (w : World) (p tp : Nat) (rv : Value) (vs : List Value) (D : TwD) (ht : Tow w p tp rv vs D) :
    Calls Try.prog 21 #[.pointer (some ⟨p, 0, none⟩)] w fun e w' => e = .returned (.int .i64 (D.used : Nat)) ∧ w = w' := by
  obtain ⟨c0, c1, c2, c3, c4, c5, c6⟩ := ht.cells
  have HU := Lib.hid (coins_used w tp D.word D.used ht.tape)
  go_enter Try.func21, Try.ntmps21
  go_wp2_with fail
  refine HU.out.mono ?_
  rintro e w' ⟨rfl, hw⟩
  subst hw
  go_wp2
  go_ret
  exact ⟨rfl, rfl⟩

/-- The least and the greatest value, with two more. -/
def TwD.ends (D : TwD) (lo hi : Int) : TwD := if D.total = 0 then { D with least := lo, most := hi } else { D with least := min D.least lo, most := max D.most hi }
set_option maxRecDepth 100000 in
set_option maxHeartbeats 2000000 in
theorem req_ends (w : World) (p tp : Nat) (rv : Value) (vs : List Value) (D : TwD) (ht : Tow w p tp rv vs D) (lo hi : Int) :
    Calls Try.prog 51 #[.pointer (some ⟨p, 0, none⟩), .int .i64 lo, .int .i64 hi] w fun e w' => e = .returned (.tuple #[]) ∧ Tow w' p tp rv vs (D.ends lo hi) ∧ Chg [p] w w' := by
  obtain ⟨c0, c1, c2, c3, c4, c5, c6⟩ := ht.cells
  have f5 := ht.blk.free 5
  have f6 := ht.blk.free 6
  have HE := Lib.hid (fun a b => show Tow ((w.setCell ⟨p, 5, none⟩ (.int .i64 a)).setCell ⟨p, 6, none⟩ (.int .i64 b)) p tp rv vs { D with least := a, most := b } from by
    have k : Chg [p] w ((w.setCell ⟨p, 5, none⟩ (.int .i64 a)).setCell ⟨p, 6, none⟩ (.int .i64 b)) := ((Chg.refl _ w).setCell (a := ⟨p, 5, none⟩) (.inl (by simp)) _).setCell (a := ⟨p, 6, none⟩) (.inl (by simp)) _
    exact ⟨(ht.blk.setCell 5 _).setCell 6 _, ht.tape.chg k (by simpa using ht.ne_tape.symm), ht.own.chg k (fun b hb e => by simp at e; subst e; exact ht.p_rv hb),
      ht.rows.chg k (fun v hv b hb e => by simp at e; subst e; obtain ⟨i, hi, rfl⟩ := List.getElem_of_mem hv; exact ht.p_row i hi hb)⟩)
  have HK := Lib.hid (fun a b => show Chg [p] w ((w.setCell ⟨p, 5, none⟩ (.int .i64 a)).setCell ⟨p, 6, none⟩ (.int .i64 b)) from ((Chg.refl _ w).setCell (a := ⟨p, 5, none⟩) (.inl (by simp)) _).setCell (a := ⟨p, 6, none⟩) (.inl (by simp)) _)
  by_cases h0 : D.total = 0
  · have hz : ((D.total : Int) == 0) = true := by rw [beq_iff_eq]; omega
    have HV := Lib.hid (show D.ends lo hi = { D with least := lo, most := hi } from if_pos h0)
    clear h0
    go_enter Try.func51, Try.ntmps51
    go_wp2
    refine bodyPost_ret (results_none rfl _ _ _) rfl ?_
    rw [HV.out]
    exact ⟨rfl, HE.out _ _, HK.out _ _⟩
  · have hz : ((D.total : Int) == 0) = false := by rw [beq_eq_false_iff_ne]; omega
    have HV := Lib.hid (show D.ends lo hi = { D with least := min D.least lo, most := max D.most hi } from if_neg h0)
    clear h0
    go_enter Try.func51, Try.ntmps51
    go_wp2_with fail
    go_region_with (fail)
    all_goals
      go_end0
      rw [HV.out]
      exact ⟨rfl, (HE.out _ _).chg ((Chg.refl [] _).drew) (by simp), (HK.out _ _).drew⟩
end Go.Proofs.Ytbaobiniianamaa
