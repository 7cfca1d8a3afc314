/-
  The walks of a nil digest (layer 17), of what is refused, and of Config. Conditions: the form's own reach.
-/
import Derived.Test.YtgnbabkafobeoaaDgPut2
import Derived.Laws.StructEq
namespace Go.Proofs.Ytgnbabkafobeoaa
open Go.RowKit

theorem dcfg_under : Try.prog.underlying 23 = some (.struct (Try.prog.fieldsOf 23)) := by kernel_rfl
theorem dcfg_stood : Try.prog.stoodInHeld 23 = false := by kernel_rfl
theorem dcfg_eql (a b : Int) (m n : Int) (w : World) : (binOp .eql 23 (.agg #[.int .i64 a, .int .i64 m]) (.agg #[.int .i64 b, .int .i64 n])).run Try.prog w = .ok (.bool (a == b && m == n)) w := by
  have u4 := Try.underlying3
  have a4 := Try.isAgg3
  have z4 := Try.sizeOf3
  rw [run_eql_struct, show (10000 : Nat) = 9999 + 1 from rfl, run_equalIn_agg w 9999 23 _ _ dcfg_under dcfg_stood]
  simp only [Program.fieldsOf, Try.underlying23]
  go_simp
  by_cases h1 : a = b <;> by_cases h2 : m = n <;> simp [h1, h2]
theorem dcfg_neq (a b : Int) (m n : Int) (w : World) : (binOp .neq 23 (.agg #[.int .i64 a, .int .i64 m]) (.agg #[.int .i64 b, .int .i64 n])).run Try.prog w = .ok (.bool (!(a == b && m == n))) w := by
  have u4 := Try.underlying3
  have a4 := Try.isAgg3
  have z4 := Try.sizeOf3
  rw [run_neq_struct, show (10000 : Nat) = 9999 + 1 from rfl, run_equalIn_agg w 9999 23 _ _ dcfg_under dcfg_stood]
  simp only [Program.fieldsOf, Try.underlying23]
  go_simp
  by_cases h1 : a = b <;> by_cases h2 : m = n <;> simp [h1, h2]
set_option maxRecDepth 100000 in
theorem dg_nil_total (w : World) : Calls Try.prog 15 #[.pointer none] w fun e w' => e = .returned (.int .u64 0) ∧ w = w' := by
  go_enter Try.func15, Try.ntmps15
  go_wp2
  go_ret
  exact ⟨rfl, rfl⟩
set_option maxRecDepth 100000 in
theorem dg_nil_most (w : World) : Calls Try.prog 31 #[.pointer none] w fun e w' => e = .returned (.int .i64 0) ∧ w = w' := by
  go_enter Try.func31, Try.ntmps31
  go_wp2
  go_ret
  exact ⟨rfl, rfl⟩
set_option maxRecDepth 100000 in
theorem dg_nil_put (w : World) (x : Int) (n : Nat) : Calls Try.prog 18 #[.pointer none, .int .i64 x, .int .u64 n] w fun e w' => e = .returned (.int .i64 2) ∧ w = w' := by
  go_enter Try.func18, Try.ntmps18
  go_wp2
  go_ret
  exact ⟨rfl, rfl⟩
set_option maxRecDepth 100000 in
theorem dg_nil_join (w : World) (v : Value) : Calls Try.prog 17 #[.pointer none, v] w fun e w' => e = .returned (.int .i64 2) ∧ w = w' := by
  go_enter Try.func17, Try.ntmps17
  go_wp2
  go_ret
  exact ⟨rfl, rfl⟩
set_option maxRecDepth 100000 in
theorem dg_nil_rank (w : World) (x : Int) : Calls Try.prog 11 #[.pointer none, .int .i64 x] w fun e w' => e = .returned (.tuple #[.int .u64 0, .int .u64 0]) ∧ w = w' := by
  go_enter Try.func11, Try.ntmps11
  go_wp2
  go_ret2
  exact ⟨rfl, rfl⟩
set_option maxRecDepth 100000 in
theorem dg_nil_ends (w : World) : Calls Try.prog 25 #[.pointer none] w fun e w' => e = .returned (.tuple #[.int .i64 0, .int .i64 0, .bool false]) ∧ w = w' := by
  go_enter Try.func25, Try.ntmps25
  go_wp2
  refine bodyPost_ret (v := .tuple #[.int .i64 0, .int .i64 0, .bool false]) (by simp [results, Try.results25, go_sem]) rfl ?_
  exact ⟨rfl, rfl⟩
set_option maxRecDepth 100000 in
theorem dg_nil_nodes (w : World) : Calls Try.prog 19 #[.pointer none] w fun e w' => e = .returned (.slice none 0 0) ∧ w = w' := by
  go_enter Try.func19, Try.ntmps19
  go_wp2
  go_ret
  exact ⟨rfl, rfl⟩
set_option maxRecDepth 100000 in
theorem dg_nil_quantile (w : World) (num den : Nat) : Calls Try.prog 16 #[.pointer none, .agg #[.int .u64 (num : Nat), .int .u64 (den : Nat)]] w fun e w' => e = .returned (.tuple #[.int .i64 0, .int .i64 2]) ∧ Chg [] w w' := by
  go_enter Try.func16, Try.ntmps16
  go_wp2
  go_ret2
  exact ⟨rfl, by with_reducible (repeat (first | exact Chg.refl _ _ | apply Chg.alloc))⟩
set_option maxRecDepth 100000 in
theorem dg_nil_config (w : World) : Calls Try.prog 32 #[.pointer none] w fun e w' => e = .returned (.agg #[.int .i64 0, .int .i64 0]) ∧ Chg [] w w' := by
  have hb := Blk.alloc_new w #[.int .i64 0, .int .i64 0] 23
  have z0 := hb.cell 0
  have z1 := hb.cell 1
  have f0 := hb.free 0
  have f1 := hb.free 1
  go_enter Try.func32, Try.ntmps32
  go_wp2
  have hb2 := Blk.alloc_new w #[.int .i64 0, .int .i64 0] 23
  have y0 := hb2.cell 0
  have y1 := hb2.cell 1
  refine bodyPost_ret (v := .agg #[.int .i64 0, .int .i64 0]) (by simp [results, Try.results32, go_sem, y0, y1]) rfl ⟨rfl, ?_⟩
  with_reducible (repeat (first | exact Chg.refl _ _ | apply Chg.alloc))
set_option maxRecDepth 100000 in
theorem dg_config (w : World) (p s : Nat) (rv : Value) (D : DgD) (h : Dg w p s rv D) : Calls Try.prog 32 #[.pointer (some ⟨p, 0, none⟩)] w fun e w' => e = .returned (.agg #[.int .i64 (D.depth : Nat), .int .i64 (D.factor : Nat)]) ∧ Chg [] w w' := by
  obtain ⟨c0, c1, -, -, -, -⟩ := (h.chg ((Chg.refl [] w).alloc (.cells #[.int .i64 0, .int .i64 0] 23)) (by simp)).cells
  have hb := Blk.alloc_new w #[.int .i64 0, .int .i64 0] 23
  have z0 := hb.cell 0
  have z1 := hb.cell 1
  have f0 := hb.free 0
  have f1 := hb.free 1
  go_enter Try.func32, Try.ntmps32
  go_wp2
  have hb2 := Blk.alloc_new w #[.int .i64 (D.depth : Nat), .int .i64 (D.factor : Nat)] 23
  have y0 := hb2.cell 0
  have y1 := hb2.cell 1
  refine bodyPost_ret (v := .agg #[.int .i64 (D.depth : Nat), .int .i64 (D.factor : Nat)]) (by simp [results, Try.results32, go_sem, y0, y1]) rfl ⟨rfl, ?_⟩
  with_reducible (repeat (first | exact Chg.refl _ _ | apply Chg.alloc))
set_option maxRecDepth 100000 in
theorem dg_put_zero (w : World) (p : Nat) (x : Int) : Calls Try.prog 18 #[.pointer (some ⟨p, 0, none⟩), .int .i64 x, .int .u64 0] w fun e w' => e = .returned (.int .i64 1) ∧ w = w' := by
  go_enter Try.func18, Try.ntmps18
  go_wp2
  go_ret
  exact ⟨rfl, rfl⟩
set_option maxRecDepth 100000 in
theorem dg_join_none (w : World) (p : Nat) : Calls Try.prog 17 #[.pointer (some ⟨p, 0, none⟩), .pointer none] w fun e w' => e = .returned (.int .i64 2) ∧ w = w' := by
  go_enter Try.func17, Try.ntmps17
  go_wp2
  go_ret
  exact ⟨rfl, rfl⟩
set_option maxRecDepth 100000 in
set_option maxHeartbeats 1000000 in
theorem dg_put_range (w : World) (p s : Nat) (rv : Value) (D : DgD) (h : Dg w p s rv D) (hok : D.ok) (x : Int) (hx : x < 0 ∨ ((2 ^ D.depth : Nat) : Int) ≤ x) (hx2 : x < 9223372036854775808) : Calls Try.prog 18 #[.pointer (some ⟨p, 0, none⟩), .int .i64 x, .int .u64 1] w fun e w' => e = .returned (.int .i64 7) ∧ Chg [] w w' := by
  obtain ⟨-, -, c2, -, -, -⟩ := h.cells
  have HL := Lib.hid (tree_leaf_out w D.depth (2 ^ D.depth) hok.d1 hok.d2 rfl x hx hx2)
  clear h hok hx hx2
  go_enter Try.func18, Try.ntmps18
  go_wp2_with fail
  refine HL.out.mono ?_
  rintro e w1 ⟨rfl, hc1⟩
  go_wp2_with fail
  go_ret
  exact ⟨rfl, hc1⟩
set_option maxRecDepth 100000 in
set_option maxHeartbeats 1000000 in
theorem dg_put_full (w : World) (p s : Nat) (rv : Value) (D : DgD) (h : Dg w p s rv D) (hok : D.ok) (c : Nat) (hc : c + totP D.row = 9223372036854775808) : Calls Try.prog 18 #[.pointer (some ⟨p, 0, none⟩), .int .i64 0, .int .u64 (c : Nat)] w fun e w' => e = .returned (.int .i64 6) ∧ Chg [] w w' := by
  obtain ⟨-, -, c2, -, -, -⟩ := h.cells
  have hp := two_d hok.d1 hok.d2
  have HL := Lib.hid (tree_leaf w D.depth (2 ^ D.depth) hok.d1 hok.d2 rfl 0 (by omega) (by omega))
  obtain ⟨T, hT⟩ : ∃ T, T = totP D.row := ⟨_, rfl⟩
  have htt := hok.tot
  have HTO := Lib.hid (fun u (hu : Chg [] w u) => dg_total u p s rv D (h.chg hu (by simp)))
  rw [← hT] at HTO hc htt
  have HPL := Lib.hid (fun u b0 hb0 => wide_plus2 u T c (by omega) (by omega) b0 hb0)
  have e : plusV [T, c] = .tuple #[.int .u64 0, .bool false] := by
    unfold plusV
    rw [if_neg (by simp; omega)]
  rw [e] at HPL
  have d0 : ((c : Int) == 0) = false := by rw [beq_eq_false_iff_ne]; omega
  obtain ⟨L, hL⟩ : ∃ L : Int, L = ((2 ^ D.depth : Nat) : Int) + 0 := ⟨_, rfl⟩
  rw [← hL] at HL
  clear h hok hc htt hT e hp hL
  go_enter Try.func18, Try.ntmps18
  go_wp2_with fail
  refine HL.out.mono ?_
  rintro e w1 ⟨rfl, hc1⟩
  go_wp2_with fail
  refine (HTO.out _ hc1).mono ?_
  rintro e w2 ⟨rfl, rfl⟩
  go_wp2_with fail
  refine (HPL.out _ _ rfl).mono ?_
  rintro e w2 ⟨rfl, rfl⟩
  go_wp2_with fail
  go_ret
  exact ⟨rfl, hc1.alloc _⟩
set_option maxRecDepth 100000 in
set_option maxHeartbeats 1000000 in
theorem dg_join_match (w : World) (p s : Nat) (rv : Value) (D : DgD) (h : Dg w p s rv D) (q t : Nat) (sv : Value) (O : DgD) (k : Dg w q t sv O) (hne : ¬ (D.depth = O.depth ∧ D.factor = O.factor)) :
    Calls Try.prog 17 #[.pointer (some ⟨p, 0, none⟩), .pointer (some ⟨q, 0, none⟩)] w fun e w' => e = .returned (.int .i64 8) ∧ Chg [] w w' := by
  obtain ⟨c0, c1, -, -, -, -⟩ := h.cells
  obtain ⟨d0, d1, -, -, -, -⟩ := k.cells
  have hn : (!((D.depth : Int) == (O.depth : Int) && (D.factor : Int) == (O.factor : Int))) = true := by
    rw [Bool.not_eq_true', Bool.and_eq_false_iff, beq_eq_false_iff_ne, beq_eq_false_iff_ne]
    omega
  have hq := dcfg_neq (D.depth : Nat) (O.depth : Nat) (D.factor : Nat) (O.factor : Nat)
  rw [hn] at hq
  clear hn
  go_enter Try.func17, Try.ntmps17
  go_wp2
  go_quiet (fail)
  go_wp2
  go_ret
  refine ⟨rfl, ?_⟩
  with_reducible (repeat (first | exact Chg.refl _ _ | apply Chg.drew | apply Chg.drewN))
end Go.Proofs.Ytgnbabkafobeoaa
