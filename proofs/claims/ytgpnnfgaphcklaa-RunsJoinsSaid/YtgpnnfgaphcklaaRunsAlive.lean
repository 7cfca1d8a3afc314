/-
  The walk of the layer's alive. Conditions: the form's own reach.
-/
import Derived.Test.YtgpnnfgaphcklaaRunsPut
import Derived.Test.YtgpnnfgaphcklaaRunsGood
namespace Go.Proofs.Ytgpnnfgaphcklaa
open Go.RowKit

theorem put_alive : ([] : List UInt8) ++ putB [⟨-1, 5⟩, ⟨3, 1⟩] = [2, 1, 5, 3, 1] := by
  have h1 : zig (-1) = 1 := by decide
  have h2 : gapN 3 (-1) = 3 := by decide
  simp only [putB, bodyTo, List.length_cons, List.length_nil, List.range_succ, List.range_zero, List.map_append, List.map_cons, List.map_nil, List.flatten_append, List.flatten_cons, List.flatten_nil, pairB, List.nil_append, List.append_nil]
  simp [h1, h2, natB_lt]
theorem good_alive : goodP [⟨1, 1⟩] = true := by simp [goodP, goodTo, List.range_succ]

set_option maxRecDepth 100000 in
set_option maxHeartbeats 1000000 in
theorem law06_alive (w : World) : Calls Try.prog 31 #[] w fun e w' => e = .returned (.bool true) ∧ Chg [] w w' := by
  have HQ := Lib.hid (new_quill w)
  go_enter Try.func31, Try.ntmps31
  go_wp2_with fail
  refine (runs_put _ w.heap.size [w.heap.size] [] (some ⟨w.heap.size + 1, 0, none⟩) 2 [⟨-1, 5⟩, ⟨3, 1⟩] (by simp [Pr.ok]) (HQ.out.alloc _) ?_ (fun _ b hb => by simp [blkOf] at hb; subst hb; simp) (by simp)).mono ?_
  · have := Rd.lit (w.alloc (.cells #[.slice none 0 0] 41)) #[.int .i64 (-1), .int .u64 5, .int .i64 3, .int .u64 1] 47 2 2 2 (by simp)
    simpa [prCells, Pr.cells] using this
  rintro e w1 ⟨rfl, F1, hq1, hm1⟩
  rw [put_alive] at hq1
  have hc1 := hm1.chg_own (((Chg.refl [] w).alloc _).alloc _) (by simp)
  clear hm1 HQ
  go_wp2_with fail
  refine (quill_text w1 w.heap.size F1 _ hq1).mono ?_
  rintro e w2 ⟨rfl, rfl⟩
  go_wp2_with fail
  refine (runs_good _ (some ⟨w1.heap.size, 0, none⟩) 1 [⟨1, 1⟩] 1 (by simp [Pr.ok]) ?_ (by simp)).mono ?_
  · have := Rd.lit w1 #[.int .i64 1, .int .u64 1] 47 2 1 1 (by simp)
    simpa [prCells, Pr.cells] using this
  rintro e w2 ⟨rfl, hc2⟩
  rw [good_alive]
  go_wp2
  go_ret
  exact ⟨rfl, (hc1.alloc _).trans hc2⟩
end Go.Proofs.Ytgpnnfgaphcklaa
