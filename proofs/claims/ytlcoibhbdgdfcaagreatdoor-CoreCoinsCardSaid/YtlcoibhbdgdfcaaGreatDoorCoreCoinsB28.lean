/-
  The walks of suite's calls through its interface, at the kind Req. Conditions: the form's own reach.
-/
import Derived.Test.YtlcoibhbdgdfcaaGreatDoorCoreCoinsB4
namespace Go.Proofs.YtlcoibhbdgdfcaaGreatDoor
open Go.RowKit

set_option maxRecDepth 100000 in
set_option maxHeartbeats 4000000 in
theorem sk_put_req (w : World) (s p : Nat) (c : Cf) (h : Sk w s c 167 p) (x : Int) (n : Nat) (R : Ending → World → Prop)
    (HP0 : Calls Tryz.prog 337 #[.pointer (some ⟨p, 0, none⟩), .int .i64 x, .int .u64 n] w fun e w' => ∃ k, e = .returned (.int .i64 k) ∧ R e w') :
    Calls Tryz.prog 24 #[.pointer (some ⟨s, 0, none⟩), .int .i64 x, .int .u64 n] w R := by
  have c11 := h.core
  have HP := Lib.hid HP0
  clear h HP0
  go_enter Tryz.func24, Tryz.ntmps24
  go_wp2_with fail
  refine HP.out.mono ?_
  rintro e w1 ⟨k, rfl, hR⟩
  have HR := Lib.hid hR
  clear hR HP
  go_wp2_with fail
  exact HR.out
set_option maxRecDepth 100000 in
set_option maxHeartbeats 4000000 in
theorem sk_quant_req (w : World) (s p : Nat) (c : Cf) (h : Sk w s c 167 p) (num den : Nat) (x k : Int)
    (HP0 : ∀ u, Chg [] w u → Calls Tryz.prog 338 #[.pointer (some ⟨p, 0, none⟩), .agg #[.int .u64 (num : Nat), .int .u64 (den : Nat)]] u fun e w' => e = .returned (.tuple #[.int .i64 x, .int .i64 k]) ∧ Chg [] u w') :
    Calls Tryz.prog 17 #[.pointer (some ⟨s, 0, none⟩), .agg #[.int .u64 (num : Nat), .int .u64 (den : Nat)]] w fun e w' => e = .returned (.tuple #[.int .i64 x, .int .i64 k]) ∧ Chg [] w w' := by
  have c11 := (Sk.nil h ((Chg.refl [] w).alloc (.cells #[.int .u64 (num : Nat), .int .u64 (den : Nat)] 27))).core
  have HP := Lib.hid HP0
  have HC := Lib.hid ((Chg.refl [] w).alloc (.cells #[.int .u64 (num : Nat), .int .u64 (den : Nat)] 27))
  clear h HP0
  go_enter Tryz.func17, Tryz.ntmps17
  go_wp2_with fail
  have c11d := c11
  rw [← World.cell?_drew] at c11d
  go_region_with (go_at_call 338; refine (HP.out _ HC.out.drew).mono ?_; rintro e w1 ⟨rfl, hc⟩)
  all_goals
    go_wp2
    go_ret2
    exact ⟨rfl, HC.out.drew.trans hc⟩
set_option maxRecDepth 100000 in
set_option maxHeartbeats 4000000 in
theorem core_total_req (w : World) (p : Nat) (n : Nat)
    (HP0 : ∀ u, Chg [] w u → Calls Tryz.prog 339 #[.pointer (some ⟨p, 0, none⟩)] u fun e w' => e = .returned (.int .u64 (n : Nat)) ∧ Chg [] u w') :
    Calls Tryz.prog 367 #[.agg #[.pointer (some ⟨p, 0, none⟩)]] w fun e w' => e = .returned (.int .u64 (n : Nat)) ∧ Chg [] w w' := by
  have HP := Lib.hid HP0
  have HC := Lib.hid ((Chg.refl [] w).alloc (.cells #[.pointer (some ⟨p, 0, none⟩)] 167))
  clear HP0
  go_enter Tryz.func367, Tryz.ntmps367
  go_wp2_with fail
  refine (HP.out _ HC.out).mono ?_
  rintro e w1 ⟨rfl, hc⟩
  go_wp2
  go_ret
  exact ⟨rfl, HC.out.trans hc⟩
set_option maxRecDepth 100000 in
set_option maxHeartbeats 4000000 in
theorem sk_total_req (w : World) (s p : Nat) (c : Cf) (h : Sk w s c 167 p) (n : Nat)
    (HP0 : ∀ u, Chg [] w u → Calls Tryz.prog 339 #[.pointer (some ⟨p, 0, none⟩)] u fun e w' => e = .returned (.int .u64 (n : Nat)) ∧ Chg [] u w') :
    Calls Tryz.prog 25 #[.pointer (some ⟨s, 0, none⟩)] w fun e w' => e = .returned (.int .u64 (n : Nat)) ∧ Chg [] w w' := by
  have c11 := h.core
  have HT := Lib.hid (core_total_req w p n HP0)
  clear h HP0
  go_enter Tryz.func25, Tryz.ntmps25
  go_wp2_with fail
  refine HT.out.mono ?_
  rintro e w1 ⟨rfl, hc⟩
  go_wp2
  go_ret
  exact ⟨rfl, hc⟩
set_option maxRecDepth 100000 in
set_option maxHeartbeats 4000000 in
theorem core_rank_req (w : World) (p : Nat) (x : Int) (a : Nat)
    (HP0 : ∀ u, Chg [] w u → Calls Tryz.prog 370 #[.pointer (some ⟨p, 0, none⟩), .int .i64 x] u fun e w' => e = .returned (.int .u64 (a : Nat)) ∧ Chg [] u w') :
    Calls Tryz.prog 366 #[.agg #[.pointer (some ⟨p, 0, none⟩)], .int .i64 x] w fun e w' => e = .returned (.tuple #[.int .u64 (a : Nat), .int .u64 (a : Nat)]) ∧ Chg [] w w' := by
  have HP := Lib.hid HP0
  have HC := Lib.hid ((Chg.refl [] w).alloc (.cells #[.pointer (some ⟨p, 0, none⟩)] 167))
  clear HP0
  go_enter Tryz.func366, Tryz.ntmps366
  go_wp2_with fail
  refine (HP.out _ HC.out).mono ?_
  rintro e w1 ⟨rfl, hc⟩
  go_wp2
  go_ret2
  exact ⟨rfl, HC.out.trans hc⟩
set_option maxRecDepth 100000 in
set_option maxHeartbeats 4000000 in
theorem sk_rank_req (w : World) (s p : Nat) (c : Cf) (h : Sk w s c 167 p) (x : Int) (a : Nat)
    (HP0 : ∀ u, Chg [] w u → Calls Tryz.prog 370 #[.pointer (some ⟨p, 0, none⟩), .int .i64 x] u fun e w' => e = .returned (.int .u64 (a : Nat)) ∧ Chg [] u w') :
    Calls Tryz.prog 15 #[.pointer (some ⟨s, 0, none⟩), .int .i64 x] w fun e w' => e = .returned (.tuple #[.int .u64 (a : Nat), .int .u64 (a : Nat)]) ∧ Chg [] w w' := by
  have c11 := h.core
  have HT := Lib.hid (core_rank_req w p x a HP0)
  clear h HP0
  go_enter Tryz.func15, Tryz.ntmps15
  go_wp2_with fail
  refine HT.out.mono ?_
  rintro e w1 ⟨rfl, hc⟩
  go_wp2
  go_ret2
  exact ⟨rfl, hc⟩
theorem ta_req (u : World) (q : Nat) : (Instr.typeAssert (.iface 167 (.agg #[.pointer (some ⟨q, 0, none⟩)])) 94 167 false).run Tryz.prog u = .ok (.agg #[.pointer (some ⟨q, 0, none⟩)]) u := by kernel_rfl
theorem fa_req (u : World) (q : Nat) : (Instr.field 167 (.agg #[.pointer (some ⟨q, 0, none⟩)]) 0).run Tryz.prog u = .ok (.pointer (some ⟨q, 0, none⟩)) u := by kernel_rfl
set_option maxRecDepth 100000 in
set_option maxHeartbeats 4000000 in
theorem core_join_req (w : World) (p q : Nat) (R : Ending → World → Prop)
    (HP0 : ∀ u, Chg [] w u → Calls Tryz.prog 369 #[.pointer (some ⟨p, 0, none⟩), .pointer (some ⟨q, 0, none⟩)] u fun e w' => ∃ k, e = .returned (.int .i64 k) ∧ R e w') :
    Calls Tryz.prog 365 #[.agg #[.pointer (some ⟨p, 0, none⟩)], .iface 167 (.agg #[.pointer (some ⟨q, 0, none⟩)])] w fun e w' => ∃ k, e = .returned (.int .i64 k) ∧ R e w' := by
  have HP := Lib.hid HP0
  have HC := Lib.hid ((Chg.refl [] w).alloc (.cells #[.pointer (some ⟨p, 0, none⟩)] 167))
  have ta := ta_req
  have fa := fa_req
  clear HP0
  go_enter Tryz.func365, Tryz.ntmps365
  go_wp2_with fail
  go_region_with (go_at_call 369; refine (HP.out _ HC.out.drew).mono ?_; rintro e w1 ⟨k, rfl, hR⟩)
  all_goals
    have HR := Lib.hid hR
    clear hR HP
    go_wp2
    go_ret
    exact ⟨k, rfl, HR.out⟩
set_option maxRecDepth 100000 in
set_option maxHeartbeats 4000000 in
theorem sk_join_req (w : World) (s p o q : Nat) (c d : Cf) (h : Sk w s c 167 p) (h' : Sk w o d 167 q) (hk : c.kind = d.kind) (R : Ending → World → Prop)
    (HP0 : ∀ u, Chg [] w u → Calls Tryz.prog 369 #[.pointer (some ⟨p, 0, none⟩), .pointer (some ⟨q, 0, none⟩)] u fun e w' => ∃ k, e = .returned (.int .i64 k) ∧ R e w') :
    Calls Tryz.prog 38 #[.pointer (some ⟨s, 0, none⟩), .pointer (some ⟨o, 0, none⟩)] w R := by
  have HS := Lib.hid (fun u (hu : Chg [] w u) => (⟨(h.nil hu).kind, (h.nil hu).core, (h'.nil hu).kind, (h'.nil hu).core⟩ : _ ∧ _ ∧ _ ∧ _))
  have HT := Lib.hid (fun u (hu : Chg [] w u) => core_join_req u p q R (fun v hv => HP0 v (hu.trans hv)))
  obtain ⟨k0, hk0⟩ : ∃ k, k = c.kind := ⟨_, rfl⟩
  rw [← hk, ← hk0] at HS
  have hkk : (k0 != k0) = false := by simp
  clear h h' HP0 hk hk0
  go_enter Tryz.func38, Tryz.ntmps38
  obtain ⟨c0, c11, d0, d11⟩ := HS.out w (Chg.refl _ _)
  go_wp2_with fail
  go_quiet (fail)
  clear c0 c11 d0 d11
  have HC := Lib.hid ((Chg.refl [] w).drewN nq)
  generalize w.drewN nq = w0 at *
  obtain ⟨c0, c11, d0, d11⟩ := HS.out w0 HC.out
  obtain ⟨k0', k11, e0, e11⟩ := HS.out w0.drew HC.out.drew
  go_wp2_with fail
  go_region_with (go_at_call 365; refine (HT.out _ HC.out.drew).mono ?_; rintro e w1 ⟨k, rfl, hR⟩)
  all_goals
    have HR := Lib.hid hR
    clear hR HT
    go_wp2_with fail
    go_ret
    exact HR.out
end Go.Proofs.YtlcoibhbdgdfcaaGreatDoor
