/-
  The walks of a nil tower, of New with any width, of what is refused, and of Config. Conditions: the form's own reach.
-/
import Derived.Test.YtbaobiniianamaaReqBuild
import Derived.Laws.StructEq
namespace Go.Proofs.Ytbaobiniianamaa
open Go.RowKit

def cfgV (W : Int) (word : Nat) : Value := .agg #[.int .i64 W, .int .u64 (word : Nat)]
theorem cfg_under : Try.prog.underlying 37 = some (.struct (Try.prog.fieldsOf 37)) := by kernel_rfl
theorem cfg_stood : Try.prog.stoodInHeld 37 = false := by kernel_rfl
theorem cfg_eql (a b : Int) (m n : Int) (w : World) : (binOp .eql 37 (.agg #[.int .i64 a, .int .u64 m]) (.agg #[.int .i64 b, .int .u64 n])).run Try.prog w = .ok (.bool (a == b && m == n)) w := by
  have u3 := Try.underlying3
  have a3 := Try.isAgg3
  have z3 := Try.sizeOf3
  have u4 := Try.underlying35
  have a4 := Try.isAgg35
  have z4 := Try.sizeOf35
  rw [run_eql_struct, show (10000 : Nat) = 9999 + 1 from rfl, run_equalIn_agg w 9999 37 _ _ cfg_under cfg_stood]
  simp only [Program.fieldsOf, Try.underlying37]
  go_simp
  by_cases h1 : a = b <;> by_cases h2 : m = n <;> simp [h1, h2]
theorem cfg_neq (a b : Int) (m n : Int) (w : World) : (binOp .neq 37 (.agg #[.int .i64 a, .int .u64 m]) (.agg #[.int .i64 b, .int .u64 n])).run Try.prog w = .ok (.bool (!(a == b && m == n))) w := by
  have u3 := Try.underlying3
  have a3 := Try.isAgg3
  have z3 := Try.sizeOf3
  have u4 := Try.underlying35
  have a4 := Try.isAgg35
  have z4 := Try.sizeOf35
  rw [run_neq_struct, show (10000 : Nat) = 9999 + 1 from rfl, run_equalIn_agg w 9999 37 _ _ cfg_under cfg_stood]
  simp only [Program.fieldsOf, Try.underlying37]
  go_simp
  by_cases h1 : a = b <;> by_cases h2 : m = n <;> simp [h1, h2]

set_option maxRecDepth 100000 in
theorem req_nil_total (w : World) : Calls Try.prog 28 #[.pointer none] w fun e w' => e = .returned (.int .u64 0) ∧ w = w' := by
  go_enter Try.func28, Try.ntmps28
  go_wp2
  go_ret
  exact ⟨rfl, rfl⟩
set_option maxRecDepth 100000 in
theorem req_nil_most (w : World) : Calls Try.prog 25 #[.pointer none] w fun e w' => e = .returned (.int .u64 0) ∧ w = w' := by
  go_enter Try.func25, Try.ntmps25
  go_wp2
  go_ret
  exact ⟨rfl, rfl⟩
set_option maxRecDepth 100000 in
theorem req_nil_rank (w : World) (x : Int) : Calls Try.prog 23 #[.pointer none, .int .i64 x] w fun e w' => e = .returned (.int .u64 0) ∧ w = w' := by
  go_enter Try.func23, Try.ntmps23
  go_wp2
  go_ret
  exact ⟨rfl, rfl⟩
set_option maxRecDepth 100000 in
theorem req_nil_used (w : World) : Calls Try.prog 21 #[.pointer none] w fun e w' => e = .returned (.int .i64 0) ∧ w = w' := by
  go_enter Try.func21, Try.ntmps21
  go_wp2
  go_ret
  exact ⟨rfl, rfl⟩
set_option maxRecDepth 100000 in
theorem req_nil_rows (w : World) : Calls Try.prog 27 #[.pointer none] w fun e w' => e = .returned (.slice none 0 0) ∧ w = w' := by
  go_enter Try.func27, Try.ntmps27
  go_wp2
  go_ret
  exact ⟨rfl, rfl⟩
set_option maxRecDepth 100000 in
theorem req_nil_put (w : World) (x : Int) (n : Nat) : Calls Try.prog 26 #[.pointer none, .int .i64 x, .int .u64 n] w fun e w' => e = .returned (.int .i64 2) ∧ w = w' := by
  go_enter Try.func26, Try.ntmps26
  go_wp2
  go_ret
  exact ⟨rfl, rfl⟩
set_option maxRecDepth 100000 in
theorem req_nil_join (w : World) (v : Value) : Calls Try.prog 29 #[.pointer none, v] w fun e w' => e = .returned (.int .i64 2) ∧ w = w' := by
  go_enter Try.func29, Try.ntmps29
  go_wp2
  go_ret
  exact ⟨rfl, rfl⟩
set_option maxRecDepth 100000 in
theorem req_nil_ends (w : World) : Calls Try.prog 31 #[.pointer none] w fun e w' => e = .returned (.tuple #[.int .i64 0, .int .i64 0, .bool false]) ∧ w = w' := by
  go_enter Try.func31, Try.ntmps31
  go_wp2
  go_ret3
  exact ⟨rfl, rfl⟩
set_option maxRecDepth 100000 in
theorem req_nil_quantile (w : World) (num den : Nat) : Calls Try.prog 37 #[.pointer none, .agg #[.int .u64 (num : Nat), .int .u64 (den : Nat)]] w fun e w' => e = .returned (.tuple #[.int .i64 0, .int .i64 2]) ∧ Chg [] w w' := by
  go_enter Try.func37, Try.ntmps37
  go_wp2
  go_ret2
  exact ⟨rfl, (Chg.refl [] w).alloc _⟩
set_option maxRecDepth 100000 in
theorem req_nil_config (w : World) : Calls Try.prog 40 #[.pointer none] w fun e w' => e = .returned (.agg #[.int .i64 0, .int .u64 0]) ∧ Chg [] w w' := by
  have hb := Blk.alloc_new w #[.int .i64 0, .int .u64 0] 37
  have z0 := hb.cell 0
  have z1 := hb.cell 1
  have f0 := hb.free 0
  have f1 := hb.free 1
  go_enter Try.func40, Try.ntmps40
  go_wp2
  have hb2 := Blk.alloc_new w #[.int .i64 0, .int .u64 0] 37
  have y0 := hb2.cell 0
  have y1 := hb2.cell 1
  refine bodyPost_ret (v := .agg #[.int .i64 0, .int .u64 0]) (by simp [results, Try.results40, go_sem, y0, y1]) rfl ⟨rfl, ?_⟩
  with_reducible (repeat (first | exact Chg.refl _ _ | apply Chg.alloc))
set_option maxRecDepth 100000 in
theorem req_config (w : World) (p tp : Nat) (rv : Value) (vs : List Value) (D : TwD) (ht : Tow w p tp rv vs D) : Calls Try.prog 40 #[.pointer (some ⟨p, 0, none⟩)] w fun e w' => e = .returned (.agg #[.int .i64 (D.W : Nat), .int .u64 (D.word : Nat)]) ∧ Chg [] w w' := by
  obtain ⟨c0, c1, -, -, -, -, -⟩ := (ht.chg ((Chg.refl [] w).alloc (.cells #[.int .i64 0, .int .u64 0] 37)) (by simp)).cells
  have hb := Blk.alloc_new w #[.int .i64 0, .int .u64 0] 37
  have z0 := hb.cell 0
  have z1 := hb.cell 1
  have f0 := hb.free 0
  have f1 := hb.free 1
  go_enter Try.func40, Try.ntmps40
  go_wp2
  have hb2 := Blk.alloc_new w #[.int .i64 (D.W : Nat), .int .u64 (D.word : Nat)] 37
  have y0 := hb2.cell 0
  have y1 := hb2.cell 1
  refine bodyPost_ret (v := .agg #[.int .i64 (D.W : Nat), .int .u64 (D.word : Nat)]) (by simp [results, Try.results40, go_sem, y0, y1]) rfl ⟨rfl, ?_⟩
  with_reducible (repeat (first | exact Chg.refl _ _ | apply Chg.alloc))

/-- New with any width. -/
def NewR (w w' : World) (W : Int) (word : Nat) (e : Ending) : Prop :=
  (goodW W = false ∧ e = .returned (.tuple #[.pointer none, .int .i64 1]) ∧ Chg [] w w') ∨
  (goodW W = true ∧ ∃ p tp rv, e = .returned (.tuple #[.pointer (some ⟨p, 0, none⟩), .int .i64 0]) ∧ Tow w' p tp rv [.slice none 0 0] (TwD.new W.toNat word) ∧ Chg [] w w' ∧ ∀ b ∈ fp p tp rv [.slice none 0 0], w.heap.size ≤ b)
set_option maxRecDepth 100000 in
theorem req_newF (w : World) (W : Int) (word : Nat) : Calls Try.prog 24 #[.agg #[.int .i64 W, .int .u64 (word : Nat)]] w fun e w' => NewR w w' W word e := by
  by_cases h : goodW W = true
  · have hw : 4 ≤ W ∧ W ≤ 64 ∧ W % 4 = 0 := by simpa [goodW] using h
    obtain ⟨Wn, rfl⟩ := Int.eq_ofNat_of_zero_le (show 0 ≤ W by omega)
    refine (req_new w Wn word (by omega) (by omega) (by omega)).mono ?_
    rintro e w' ⟨p, tp, rv, rfl, h1, h2, h3⟩
    exact .inr ⟨h, p, tp, rv, rfl, h1, h2, h3⟩
  · have hf : goodW W = false := by simpa using h
    have hw : ¬ (4 ≤ W ∧ W ≤ 64 ∧ W % 4 = 0) := by simpa [goodW] using h
    have HF := Lib.hid hf
    have hc := (Chg.refl [] w).alloc (.cells #[.int .i64 W, .int .u64 (word : Nat)] 37)
    have hb := Blk.alloc_new w #[.int .i64 W, .int .u64 (word : Nat)] 37
    have b0 := hb.cell 0
    have b1 := hb.cell 1
    clear h hf
    by_cases h1 : W < 4
    · have d1 : decide (W < 4) = true := decide_eq_true h1
      go_enter Try.func24, Try.ntmps24
      go_wp2
      go_ret2
      exact .inl ⟨HF.out, rfl, hc⟩
    · have d1 : decide (W < 4) = false := decide_eq_false h1
      by_cases h2 : 64 < W
      · have d2 : decide (64 < W) = true := decide_eq_true h2
        go_enter Try.func24, Try.ntmps24
        go_wp2
        go_ret2
        exact .inl ⟨HF.out, rfl, hc⟩
      · have d2 : decide (64 < W) = false := decide_eq_false h2
        have d3 : W.tmod 4 = W % 4 := Int.tmod_eq_emod_of_nonneg (by omega)
        have d4 : (W % 4 != 0) = true := by rw [bne_iff_ne]; omega
        go_enter Try.func24, Try.ntmps24
        go_wp2
        go_ret2
        exact .inl ⟨HF.out, rfl, hc⟩
set_option maxRecDepth 100000 in
theorem req_join_none (w : World) (p : Nat) : Calls Try.prog 29 #[.pointer (some ⟨p, 0, none⟩), .pointer none] w fun e w' => e = .returned (.int .i64 2) ∧ w = w' := by
  go_enter Try.func29, Try.ntmps29
  go_wp2
  go_ret
  exact ⟨rfl, rfl⟩
set_option maxRecDepth 100000 in
theorem req_put_zero (w : World) (p : Nat) (x : Int) : Calls Try.prog 26 #[.pointer (some ⟨p, 0, none⟩), .int .i64 x, .int .u64 0] w fun e w' => e = .returned (.int .i64 1) ∧ w = w' := by
  go_enter Try.func26, Try.ntmps26
  go_wp2
  go_ret
  exact ⟨rfl, rfl⟩
set_option maxRecDepth 100000 in
theorem req_put_long (w : World) (p : Nat) (x : Int) : Calls Try.prog 26 #[.pointer (some ⟨p, 0, none⟩), .int .i64 x, .int .u64 1025] w fun e w' => e = .returned (.int .i64 3) ∧ w = w' := by
  go_enter Try.func26, Try.ntmps26
  go_wp2
  go_ret
  exact ⟨rfl, rfl⟩
set_option maxRecDepth 100000 in
set_option maxHeartbeats 1000000 in
theorem req_join_match (w : World) (p tp : Nat) (rv : Value) (vs : List Value) (D : TwD) (ht : Tow w p tp rv vs D) (q tq : Nat) (qv : Value) (us : List Value) (O : TwD) (ho : Tow w q tq qv us O) (hne : D.W ≠ O.W) :
    Calls Try.prog 29 #[.pointer (some ⟨p, 0, none⟩), .pointer (some ⟨q, 0, none⟩)] w fun e w' => e = .returned (.int .i64 8) ∧ Chg [] w w' := by
  obtain ⟨c0, -, -, -, -, -, -⟩ := ht.cells
  obtain ⟨d0, -, -, -, -, -, -⟩ := ho.cells
  have hn : ((D.W : Int) != (O.W : Int)) = true := by rw [bne_iff_ne]; omega
  go_enter Try.func29, Try.ntmps29
  go_wp2
  go_quiet (fail)
  go_wp2
  go_ret
  refine ⟨rfl, ?_⟩
  with_reducible (repeat (first | exact Chg.refl _ _ | apply Chg.drew | apply Chg.drewN))
end Go.Proofs.Ytbaobiniianamaa
