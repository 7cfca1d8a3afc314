/-
  The walks of a digest's Quantile, at a single node (layer 17). Conditions: the form's own reach.
-/
import Derived.Test.YtgnbabkafobeoaaRefDgPut
import Derived.Test.YtgnbabkafobeoaaBitLen
import Derived.Test.YtgnbabkafobeoaaPlaceF
namespace Go.Proofs.Ytgnbabkafobeoaa
open Go.RowKit

theorem enters_qtotal : ∀ (args : Array Value) (w : World), (callFunc 15 args).run Try.prog w = .ok (.enter 15 args) w := enters_of Try.func15 (by kernel_rfl) rfl
theorem enters_qplace : ∀ (args : Array Value) (w : World), (callFunc 38 args).run Try.prog w = .ok (.enter 38 args) w := enters_of Try.func38 (by kernel_rfl) rfl
set_option maxRecDepth 100000 in
theorem bits_len (w : World) (x : Nat) (hx : x < 1000000) (n : Nat) (hn : Lib.bitLen x = n) : Calls Try.prog 70 #[.int .u64 (x : Nat)] w fun e w' => e = .returned (.int .i64 (n : Nat)) ∧ w = w' := by
  have HL := Lib.hid (bits_len64 (x : Int) w (by omega) (by omega))
  rw [Int.toNat_natCast, hn] at HL
  clear hn
  go_enter Try.func70, Try.ntmps70
  go_wp2_with fail
  refine HL.out.mono ?_
  rintro e w' ⟨rfl, rfl⟩
  go_wp2_with fail
  go_ret
  exact ⟨rfl, rfl⟩
set_option maxRecDepth 100000 in
theorem insertion1 (w : World) (a f : Value) : Calls Try.prog 88 #[a, .int .i64 0, .int .i64 1, f] w fun e w' => e = .returned (.tuple #[]) ∧ w = w' := by
  go_enter Try.func88, Try.ntmps88
  go_wp2
  go_loopw [8] (fun i wx => i = .int .i64 1 ∧ wx = w) (fun _ _ => 0)
  case atStart => exact ⟨rfl, rfl⟩
  case round =>
    obtain ⟨rfl, rfl⟩ := hrel
    go_wp2_with fail
    go_end0
    exact ⟨rfl, rfl⟩
set_option maxRecDepth 100000 in
set_option maxHeartbeats 2000000 in
theorem pdq1 (w : World) (a f : Value) (l : Int) : Calls Try.prog 79 #[a, .int .i64 0, .int .i64 1, .int .i64 l, f] w fun e w' => e = .returned (.tuple #[]) ∧ w = w' := by
  have HI := Lib.hid (insertion1 w a f)
  go_enter Try.func79, Try.ntmps79
  go_wp2
  go_loopw [1, 2, 3, 10, 11] (fun a1 b1 l1 x y wx => a1 = .int .i64 0 ∧ b1 = .int .i64 1 ∧ l1 = .int .i64 l ∧ x = .bool true ∧ y = .bool true ∧ wx = w) (fun _ _ _ _ _ _ => 0)
  case atStart => exact ⟨rfl, rfl, rfl, rfl, rfl, rfl⟩
  case round =>
    obtain ⟨rfl, rfl, rfl, rfl, rfl, rfl⟩ := hrel
    go_wp2_with fail
    refine HI.out.mono ?_
    rintro e w' ⟨rfl, rfl⟩
    go_wp2_with fail
    refine bodyPost_ret (results_none rfl _ _ _) rfl ?_
    exact ⟨rfl, rfl⟩
set_option maxRecDepth 100000 in
theorem sort1 (w : World) (ao : Option Addr) (c : Nat) (f : Value) : Calls Try.prog 60 #[.slice ao 1 c, f] w fun e w' => e = .returned (.tuple #[]) ∧ w = w' := by
  have HL := Lib.hid (bits_len w 1 (by omega) 1 (by decide))
  have HP := Lib.hid (pdq1 w (.slice ao 1 c) f 1)
  go_enter Try.func60, Try.ntmps60
  go_wp2_with fail
  refine HL.out.mono ?_
  rintro e w' ⟨rfl, rfl⟩
  go_wp2_with fail
  refine HP.out.mono ?_
  rintro e w' ⟨rfl, rfl⟩
  go_wp2_with fail
  go_end0
  exact ⟨rfl, rfl⟩
set_option maxRecDepth 100000 in
theorem tree_level13 (w : World) : Calls Try.prog 55 #[.agg #[.int .i64 3], .int .i64 13] w fun e w' => e = .returned (.int .i64 3) ∧ Chg [] w w' := by
  have HG := Lib.hid (fun u => tree_good u 3 8 (by omega) (by omega) rfl 13 (by omega))
  rw [show decide ((1 : Int) ≤ 13 ∧ (13 : Int) < 2 * ((8 : Nat) : Int)) = true from by decide] at HG
  have HL := Lib.hid (fun u => bits_len u 13 (by omega) 4 (by decide))
  have HC := Lib.hid ((Chg.refl [] w).alloc (.cells #[.int .i64 3] 76))
  have b0 := (Blk.alloc_new w #[.int .i64 3] 76).cell 0
  go_enter Try.func55, Try.ntmps55
  go_wp2_with fail
  refine (HG.out _).mono ?_
  rintro e w1 ⟨rfl, hc1⟩
  go_wp2_with fail
  refine (HL.out _).mono ?_
  rintro e w2 ⟨rfl, rfl⟩
  go_wp2_with fail
  go_ret
  exact ⟨rfl, HC.out.trans hc1⟩
set_option maxRecDepth 100000 in
set_option maxHeartbeats 2000000 in
theorem tree_range13 (w : World) : Calls Try.prog 35 #[.agg #[.int .i64 3], .int .i64 13] w fun e w' => e = .returned (.tuple #[.int .i64 5, .int .i64 5]) ∧ Chg [] w w' := by
  have HL := Lib.hid (fun u => tree_level13 u)
  have HLV := Lib.hid (fun u => tree_leaves u 3 8 (by omega) (by omega) rfl)
  have HB := Lib.hid (Blk.alloc_new w #[.int .i64 3] 76)
  have HC := Lib.hid ((Chg.refl [] w).alloc (.cells #[.int .i64 3] 76))
  have b0 := HB.out.cell 0
  go_enter Try.func35, Try.ntmps35
  go_wp2_with fail
  refine (HL.out _).mono ?_
  rintro e w1 ⟨rfl, hc1⟩
  have b0' := (HB.out.chg hc1 (by simp)).cell 0
  simp only [List.getElem?_toArray, List.getElem?_cons_zero] at b0'
  have HC1 := Lib.hid (HC.out.trans hc1)
  clear hc1 b0
  go_wp2_with fail
  go_region_with (first | (go_at_call 50; refine (HLV.out _).mono ?_; rintro e w2 ⟨rfl, hc2⟩))
  all_goals
    go_wp2
    go_quiet (fail)
    go_wp2_with fail
    go_ret2
    exact ⟨rfl, by with_reducible (repeat (first | exact HC1.out.trans (Chg.trans ((Chg.refl [] _).drew) hc2) | exact HC1.out.trans hc2 | apply Chg.drew | apply Chg.drewN))⟩
def D13 (a b : Int) : DgD := ⟨3, 1, [⟨13, 2⟩], a, b⟩
set_option maxRecDepth 100000 in
set_option maxHeartbeats 1000000 in
theorem told1 (w : World) (p s : Nat) (rv : Value) (a b : Int) (h : Dg w p s rv (D13 a b)) : Calls Try.prog 39 #[.pointer (some ⟨p, 0, none⟩)] w fun e w' => ∃ a3 c3, e = .returned (.slice a3 1 c3) ∧ Rd w' 2 (.slice a3 1 c3) 1 (prCells [⟨13, 2⟩]) ∧ Chg [] w w' := by
  have hb := Blk.alloc_new w #[.pointer (some ⟨p, 0, none⟩)] 29
  have b0 := hb.cell 0
  have hc0 := (Chg.refl [] w).alloc (.cells #[.pointer (some ⟨p, 0, none⟩)] 29)
  have h1 := h.chg hc0 (by simp)
  obtain ⟨-, -, -, c3, -, -⟩ := h1.cells
  have HP := Lib.hid (strip_pairs _ s rv [⟨13, 2⟩] h1.strip 1 rfl (by omega))
  have HC0 := Lib.hid hc0
  clear h h1 hc0 hb
  go_enter Try.func39, Try.ntmps39
  go_wp2_with fail
  refine HP.out.mono ?_
  rintro e w1 ⟨a3, c3', rfl, ho1, hc1, hf1⟩
  have HO1 := Lib.hid ho1
  have HC1 := Lib.hid (HC0.out.trans hc1)
  clear ho1 hc1 hf1 HP
  go_wp2_with fail
  refine (sort1 w1 a3 c3' _).mono ?_
  rintro e w2 ⟨rfl, rfl⟩
  go_wp2_with fail
  go_ret
  exact ⟨a3, c3', rfl, HO1.out.rd, HC1.out⟩
end Go.Proofs.Ytgnbabkafobeoaa
