/-
  A slice of the program's own, one cell of it set. Conditions: none.
-/
import Derived.Test.YtbaobiniianamaaBase2
namespace Go.Proofs.Ytbaobiniianamaa
open Go.RowKit

theorem Own.set {w : World} {e : TypeId} {size n cap g o : Nat} {xs : List Value} (h : Own w e size (.slice (some ⟨g, o, none⟩) n cap) n xs) (j : Nat) (u : Value) :
    Own (w.setCell ⟨g, o + j, none⟩ u) e size (.slice (some ⟨g, o, none⟩) n cap) n (xs.set j u) := by
  obtain ⟨hl, ⟨h1, _⟩ | ⟨g', o', cp, cur, h1, hg, h2, h3, h4, h5⟩⟩ := h
  · simp at h1
  · simp only [Value.slice.injEq, Option.some.injEq, Addr.mk.injEq, true_and, and_true] at h1
    obtain ⟨⟨rfl, rfl⟩, rfl⟩ := h1
    have hb : Blk w g cur e := hg
    refine ⟨by rw [List.length_set]; exact hl, .inr ⟨g, o, cap, _, rfl, hb.setCell (o + j) u, h2, h3, by simpa using h4, ?_⟩⟩
    rw [Array.toList_setIfInBounds, ← h5]
    rw [List.drop_set, if_neg (by omega), Nat.add_sub_cancel_left, List.take_set]
end Go.Proofs.Ytbaobiniianamaa
