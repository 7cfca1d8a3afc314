/-
  The walks of req.New and of (*Tower).Rank. Conditions: the form's own reach.
-/
import Derived.Test.YtbaobiniianamaaTower
namespace Go.Proofs.Ytbaobiniianamaa
open Go.RowKit

theorem make_rows (w : World) : (Instr.makeSlice 47 (.int .i64 1) (.int .i64 1)).run Try.prog w = .ok (.slice (some ⟨w.heap.size, 0, none⟩) 1 1) (w.alloc (.cells #[.slice none 0 0] 22)) := by
  obtain ⟨i, hi, hz0, hz1, hz2⟩ := info_parts info_intsT
  have h := run_makeSlice (P := Try.prog) w 47 22 i (.slice none 0 0) under_rowsT hi hz0 .i64 .i64 1 1 (by omega) (by omega) (by rw [hz1]; decide) (by rw [hz2]; decide) (by omega)
  rw [hz1] at h
  have e : madeCells (Value.slice none 0 0).cells ((1 : Int).toNat * 1) = #[.slice none 0 0] := by
    apply Array.toList_inj.1
    have := toList_madeCells_one (Value.slice none 0 0) 1
    simpa [Value.cells] using this
  rw [e] at h
  simpa using h

/-- A tower without values. -/
def TwD.new (W word : Nat) : TwD := ⟨W, word, 0, 0, [[]], 0, 0⟩
theorem rows_nil (w : World) : RowsW w [.slice none 0 0] [[]] :=
  ⟨rfl, fun j h h' => by
    obtain rfl : j = 0 := by simp at h; omega
    exact Own.nil _ _ _, fun j k h h' hne => by simp at h h'; omega⟩

set_option maxRecDepth 100000 in
set_option maxHeartbeats 2000000 in
theorem req_new (w : World) (W word : Nat) (hW : 4 ≤ W) (hW2 : W ≤ 64) (hW4 : W % 4 = 0) :
    Calls Try.prog 24 #[.agg #[.int .i64 W, .int .u64 word]] w fun e w' => ∃ p tp rv, e = .returned (.tuple #[.pointer (some ⟨p, 0, none⟩), .int .i64 0]) ∧
      Tow w' p tp rv [.slice none 0 0] (TwD.new W word) ∧ Chg [] w w' ∧ ∀ b ∈ fp p tp rv [.slice none 0 0], w.heap.size ≤ b := by
  have e1 : decide ((W : Int) < 4) = false := decide_eq_false (by omega)
  have e2 : decide ((64 : Int) < (W : Int)) = false := decide_eq_false (by omega)
  have e3 : ((W : Int).tmod 4 != 0) = false := by rw [bne_eq_false_iff_eq, Int.tmod_eq_emod_of_nonneg (by omega)]; omega
  have e4 : ((W : Int) % 4 != 0) = false := by rw [bne_eq_false_iff_eq]; omega
  have hbx := Blk.alloc_new w #[.int .i64 W, .int .u64 word] 37
  have c0 := hbx.cell 0
  have c1 := hbx.cell 1
  have hmk := make_rows
  clear hW4
  go_enter Try.func24, Try.ntmps24
  go_wp2_with fail
  go_region_law (refine step_calls rfl 43 _ _ rfl (enters_of Try.func43 (by kernel_rfl) rfl) _ #[.int .u64 word] (by simp [Act.eval]) (coins_new _ word) ?_; rintro e w1 ⟨rfl, ht1, hc1⟩; refine ⟨_, rfl, ?_⟩; have hcc : Chg [] (w.alloc (.cells #[.int .i64 W, .int .u64 word] 37)) w1 := Chg.trans (by with_reducible (repeat (first | exact Chg.refl _ _ | apply Chg.drew | apply Chg.alloc))) hc1; have c0' := (hbx.chg hcc (by simp)).cell 0; have c1' := (hbx.chg hcc (by simp)).cell 1; have ca0 := fun o => ((hbx.chg hcc (by simp)).alloc o).cell 0; have ca1 := fun o => ((hbx.chg hcc (by simp)).alloc o).cell 1)
  all_goals
    clear hmk ca0 ca1 c0' c1' e1 e2 e3 e4 c0 c1
    go_wp2
    go_ret2
  all_goals
    have hs1 := hcc.size
    simp only [World.size_alloc] at hs1
    first
    | (refine ⟨w1.heap.size + 1, w.heap.size + 1, .slice (some ⟨w1.heap.size, 0, none⟩) 1 1, rfl, ⟨?_, ?_, ?_, rows_nil _⟩, ?_, ?_⟩
       · have := Blk.alloc_new (w1.alloc (.cells #[.slice none 0 0] 22)) (twCells (w.heap.size + 1) (.slice (some ⟨w1.heap.size, 0, none⟩) 1 1) (TwD.new W word)) 86
         rw [World.size_alloc] at this
         exact this
       · have h2 : Tape w1 (w.heap.size + 1) word 0 := by simpa using ht1
         exact h2.chg (((Chg.refl [] w1).alloc _).alloc _) (by simp)
       · exact (Own.lit w1 22 1 1 #[.slice none 0 0] rfl (by unfold maxLen; omega)).alloc _
       · exact ((((Chg.refl [] w).alloc _).trans hcc).alloc _).alloc _
       · intro b hb
         simp [fp] at hb
         omega)
    | (refine ⟨w1.heap.size, w.heap.size + 1 + 1, .slice (some ⟨w.heap.size + 1, 0, none⟩) 1 1, rfl, ⟨?_, ?_, ?_, rows_nil _⟩, ?_, ?_⟩
       · exact Blk.alloc_new w1 (twCells (w.heap.size + 1 + 1) (.slice (some ⟨w.heap.size + 1, 0, none⟩) 1 1) (TwD.new W word)) 86
       · have h2 : Tape w1 (w.heap.size + 1 + 1) word 0 := by simpa using ht1
         exact h2.chg ((Chg.refl [] w1).alloc _) (by simp)
       · have h3 := Own.lit (w.alloc (.cells #[.int .i64 W, .int .u64 word] 37)) 22 1 1 #[.slice none 0 0] rfl (by unfold maxLen; omega)
         rw [World.size_alloc] at h3
         exact (h3.drew.chg hc1 (by simp)).alloc _
       · exact (((Chg.refl [] w).alloc _).trans hcc).alloc _
       · intro b hb
         simp [fp] at hb
         omega)
    | trace_state
end Go.Proofs.Ytbaobiniianamaa
