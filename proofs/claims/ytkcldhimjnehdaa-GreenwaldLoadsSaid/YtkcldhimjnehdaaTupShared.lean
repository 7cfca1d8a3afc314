/-
  Laws on rows of tuples that several texts use. Conditions: none.
-/
import Derived.Test.YtkcldhimjnehdaaTupIns
import Derived.Test.YtkcldhimjnehdaaPlainPlay
namespace Go.Proofs.Ytkcldhimjnehdaa
open Go.RowKit

/-- Two slices of the program's own, of unlike elements, share no block. -/
theorem Own.apart {w : World} {e1 e2 : TypeId} {s1 s2 n1 n2 : Nat} {v1 v2 : Value} {x1 x2 : List Value} (h1 : Own w e1 s1 v1 n1 x1) (h2 : Own w e2 s2 v2 n2 x2) (hne : e1 ≠ e2) : ∀ b ∈ blkOf v1, b ∉ blkOf v2 := by
  intro b hb hb2
  obtain ⟨_, ⟨rfl, _⟩ | ⟨g, o, cap, cur, rfl, hg, _⟩⟩ := h1
  · simp at hb
  obtain ⟨_, ⟨rfl, _⟩ | ⟨g2, o2, cap2, cur2, rfl, hg2, _⟩⟩ := h2
  · simp at hb2
  simp only [blkOf_some, List.mem_singleton] at hb hb2
  subst hb
  subst hb2
  rw [hg] at hg2
  simp only [Option.some.injEq, Obj.cells.injEq] at hg2
  exact hne hg2.2.1
theorem sorted_get {l : List Tp} (h : l.Pairwise fun p q => p.x ≤ q.x) : ∀ j k, (hjk : j ≤ k) → (h : k < l.length) → (l[j]'(by omega)).x ≤ l[k].x := by
  intro j k hjk hk
  rcases Nat.lt_or_ge j k with h1 | h1
  · exact List.pairwise_iff_getElem.1 h j k (by omega) hk h1
  · obtain rfl : j = k := by omega
    exact Int.le_refl _
theorem spF_sorted (n : Nat) {r : List Tp} (h : r.Pairwise fun p q => p.x ≤ q.x) : (spF n r).Pairwise fun p q => p.x ≤ q.x := by
  induction r generalizing n with
  | nil => exact List.Pairwise.nil
  | cons p r ih =>
    obtain ⟨h1, h2⟩ := List.pairwise_cons.1 h
    rw [spF]
    refine List.pairwise_cons.2 ⟨fun s hs => ?_, ih _ h2⟩
    obtain ⟨q, hq, hx⟩ := spF_x_mem hs
    rw [hx]
    exact h1 q hq

end Go.Proofs.Ytkcldhimjnehdaa
