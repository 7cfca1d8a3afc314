/-
  The walk of the document's New of towers. Conditions: the form's own reach.
-/
import Derived.Test.YtbaobiniianamaaRefTower
import Derived.Test.YtbaobiniianamaaReqNew
namespace Go.Proofs.Ytbaobiniianamaa
open Go.RowKit

set_option maxRecDepth 100000 in
set_option maxHeartbeats 1000000 in
theorem ref21_new (w : World) (W word : Nat) :
    Calls Try.prog 50 #[.int .i64 W, .int .u64 word] w fun e w' => ∃ p rv, e = .returned (.pointer (some ⟨p, 0, none⟩)) ∧
      RT w' p rv [.slice none 0 0] W word 0 [[]] ∧ Chg [] w w' ∧ ∀ b ∈ fpR p rv [.slice none 0 0], w.heap.size ≤ b := by
  go_enter Try.func50, Try.ntmps50
  go_wp2
  go_ret
  refine ⟨w.heap.size + 1, .slice (some ⟨w.heap.size, 0, none⟩) 1 1, rfl, ⟨?_, ?_, rfl, ?_, ?_⟩, ((Chg.refl [] w).alloc _).alloc _, ?_⟩
  · have := Blk.alloc_new (w.alloc (.cells #[.slice none 0 0] 22)) #[.int .i64 (W : Nat), .int .u64 (word : Nat), .int .i64 ((0 : Nat) : Int), .slice (some ⟨w.heap.size, 0, none⟩) 1 1] 89
    rw [World.size_alloc] at this
    exact this
  · exact (Own.lit w 22 1 1 #[.slice none 0 0] rfl (by unfold maxLen; omega)).alloc _
  · intro j hj hj'
    obtain rfl : j = 0 := by simp at hj; omega
    exact (Own.nil _ 2 _).rd
  · intro v hv b hb
    simp at hv
    subst hv
    simp at hb
  · intro b hb
    simp [fpR] at hb
    omega
end Go.Proofs.Ytbaobiniianamaa
