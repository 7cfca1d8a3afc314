/-
  The walks of a nil sketch (layer 19), and of what is refused. Conditions: the form's own reach.
-/
import Derived.Test.YtkcldhimjnehdaaGkRow
import Derived.Laws.StructEq
namespace Go.Proofs.Ytkcldhimjnehdaa
open Go.RowKit

theorem ratio_under : Try.prog.underlying 25 = some (.struct (Try.prog.fieldsOf 25)) := by kernel_rfl
theorem ratio_stood : Try.prog.stoodInHeld 25 = false := by kernel_rfl
theorem ratio_eql (a b : Int) (m n : Int) (w : World) : (binOp .eql 25 (.agg #[.int .u64 a, .int .u64 m]) (.agg #[.int .u64 b, .int .u64 n])).run Try.prog w = .ok (.bool (a == b && m == n)) w := by
  have u4 := Try.underlying23
  have a4 := Try.isAgg23
  have z4 := Try.sizeOf23
  rw [run_eql_struct, show (10000 : Nat) = 9999 + 1 from rfl, run_equalIn_agg w 9999 25 _ _ ratio_under ratio_stood]
  simp only [Program.fieldsOf, Try.underlying25]
  go_simp
  by_cases h1 : a = b <;> by_cases h2 : m = n <;> simp [h1, h2]
theorem ratio_neq (a b : Int) (m n : Int) (w : World) : (binOp .neq 25 (.agg #[.int .u64 a, .int .u64 m]) (.agg #[.int .u64 b, .int .u64 n])).run Try.prog w = .ok (.bool (!(a == b && m == n))) w := by
  have u4 := Try.underlying23
  have a4 := Try.isAgg23
  have z4 := Try.sizeOf23
  rw [run_neq_struct, show (10000 : Nat) = 9999 + 1 from rfl, run_equalIn_agg w 9999 25 _ _ ratio_under ratio_stood]
  simp only [Program.fieldsOf, Try.underlying25]
  go_simp
  by_cases h1 : a = b <;> by_cases h2 : m = n <;> simp [h1, h2]
set_option maxRecDepth 100000 in
theorem gk_nil_total (w : World) : Calls Try.prog 22 #[.pointer none] w fun e w' => e = .returned (.int .u64 0) ∧ w = w' := by
  go_enter Try.func22, Try.ntmps22
  go_wp2
  go_ret
  exact ⟨rfl, rfl⟩
set_option maxRecDepth 100000 in
theorem gk_nil_flush (w : World) : Calls Try.prog 28 #[.pointer none] w fun e w' => e = .returned (.tuple #[]) ∧ w = w' := by
  go_enter Try.func28, Try.ntmps28
  go_wp2
  refine bodyPost_ret (results_none rfl _ _ _) rfl ?_
  exact ⟨rfl, rfl⟩
set_option maxRecDepth 100000 in
theorem gk_nil_put (w : World) (x : Int) (n : Nat) : Calls Try.prog 26 #[.pointer none, .int .i64 x, .int .u64 n] w fun e w' => e = .returned (.int .i64 2) ∧ w = w' := by
  go_enter Try.func26, Try.ntmps26
  go_wp2
  go_ret
  exact ⟨rfl, rfl⟩
set_option maxRecDepth 100000 in
theorem gk_nil_join (w : World) (v : Value) : Calls Try.prog 38 #[.pointer none, v] w fun e w' => e = .returned (.int .i64 2) ∧ w = w' := by
  go_enter Try.func38, Try.ntmps38
  go_wp2
  go_ret
  exact ⟨rfl, rfl⟩
set_option maxRecDepth 100000 in
theorem gk_nil_rank (w : World) (x : Int) : Calls Try.prog 18 #[.pointer none, .int .i64 x] w fun e w' => e = .returned (.tuple #[.int .u64 0, .int .u64 0]) ∧ w = w' := by
  go_enter Try.func18, Try.ntmps18
  go_wp2
  go_ret2
  exact ⟨rfl, rfl⟩
set_option maxRecDepth 100000 in
theorem gk_nil_ends (w : World) : Calls Try.prog 31 #[.pointer none] w fun e w' => e = .returned (.tuple #[.int .i64 0, .int .i64 0, .bool false]) ∧ w = w' := by
  go_enter Try.func31, Try.ntmps31
  go_wp2
  refine bodyPost_ret (v := .tuple #[.int .i64 0, .int .i64 0, .bool false]) (by simp [results, Try.results31, go_sem]) rfl ?_
  exact ⟨rfl, rfl⟩
set_option maxRecDepth 100000 in
theorem gk_nil_row (w : World) : Calls Try.prog 27 #[.pointer none] w fun e w' => e = .returned (.tuple #[.slice none 0 0, .slice none 0 0]) ∧ w = w' := by
  go_enter Try.func27, Try.ntmps27
  go_wp2
  go_ret2
  exact ⟨rfl, rfl⟩
set_option maxRecDepth 100000 in
theorem gk_nil_quantile (w : World) (num den : Nat) : Calls Try.prog 23 #[.pointer none, .agg #[.int .u64 (num : Nat), .int .u64 (den : Nat)]] w fun e w' => e = .returned (.tuple #[.int .i64 0, .int .i64 2]) ∧ Chg [] w w' := by
  go_enter Try.func23, Try.ntmps23
  go_wp2
  go_ret2
  exact ⟨rfl, by with_reducible (repeat (first | exact Chg.refl _ _ | apply Chg.alloc))⟩
set_option maxRecDepth 100000 in
theorem gk_nil_part (w : World) : Calls Try.prog 35 #[.pointer none] w fun e w' => e = .returned (.agg #[.int .u64 0, .int .u64 0]) ∧ Chg [] w w' := by
  have hb := Blk.alloc_new w #[.int .u64 0, .int .u64 0] 25
  have z0 := hb.cell 0
  have z1 := hb.cell 1
  have f0 := hb.free 0
  have f1 := hb.free 1
  go_enter Try.func35, Try.ntmps35
  go_wp2
  have hb2 := Blk.alloc_new w #[.int .u64 0, .int .u64 0] 25
  have y0 := hb2.cell 0
  have y1 := hb2.cell 1
  refine bodyPost_ret (v := .agg #[.int .u64 0, .int .u64 0]) (by simp [results, Try.results35, go_sem, y0, y1]) rfl ⟨rfl, ?_⟩
  with_reducible (repeat (first | exact Chg.refl _ _ | apply Chg.alloc))
set_option maxRecDepth 100000 in
theorem gk_put_zero (w : World) (p : Nat) (x : Int) : Calls Try.prog 26 #[.pointer (some ⟨p, 0, none⟩), .int .i64 x, .int .u64 0] w fun e w' => e = .returned (.int .i64 1) ∧ w = w' := by
  go_enter Try.func26, Try.ntmps26
  go_wp2
  go_ret
  exact ⟨rfl, rfl⟩
set_option maxRecDepth 100000 in
theorem gk_put_long (w : World) (p : Nat) (x : Int) : Calls Try.prog 26 #[.pointer (some ⟨p, 0, none⟩), .int .i64 x, .int .u64 1025] w fun e w' => e = .returned (.int .i64 3) ∧ w = w' := by
  go_enter Try.func26, Try.ntmps26
  go_wp2
  go_ret
  exact ⟨rfl, rfl⟩
set_option maxRecDepth 100000 in
theorem gk_join_none (w : World) (p : Nat) : Calls Try.prog 38 #[.pointer (some ⟨p, 0, none⟩), .pointer none] w fun e w' => e = .returned (.int .i64 2) ∧ w = w' := by
  go_enter Try.func38, Try.ntmps38
  go_wp2
  go_ret
  exact ⟨rfl, rfl⟩
set_option maxRecDepth 100000 in
set_option maxHeartbeats 1000000 in
theorem gk_join_match (w : World) (p : Nat) (rv wv : Value) (D : GkD) (h : Gk w p rv wv D) (q : Nat) (sv yv : Value) (O : GkD) (k : Gk w q sv yv O) (hne : ¬ (D.num = O.num ∧ D.den = O.den)) :
    Calls Try.prog 38 #[.pointer (some ⟨p, 0, none⟩), .pointer (some ⟨q, 0, none⟩)] w fun e w' => e = .returned (.int .i64 8) ∧ Chg [] w w' := by
  obtain ⟨c0, c1, -, -, -⟩ := h.cells
  obtain ⟨d0, d1, -, -, -⟩ := k.cells
  have hn : (!((D.num : Int) == (O.num : Int) && (D.den : Int) == (O.den : Int))) = true := by
    rw [Bool.not_eq_true', Bool.and_eq_false_iff, beq_eq_false_iff_ne, beq_eq_false_iff_ne]
    omega
  have hq := ratio_neq (D.num : Nat) (O.num : Nat) (D.den : Nat) (O.den : Nat)
  rw [hn] at hq
  clear hn
  go_enter Try.func38, Try.ntmps38
  go_wp2
  go_quiet (fail)
  go_wp2
  go_ret
  refine ⟨rfl, ?_⟩
  with_reducible (repeat (first | exact Chg.refl _ _ | apply Chg.drew | apply Chg.drewN))
end Go.Proofs.Ytkcldhimjnehdaa
