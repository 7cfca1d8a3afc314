/-
  More plain laws on worlds and slices. Conditions: none.
-/
import Derived.Test.YtbaobiniianamaaBase
namespace Go.Proofs.Ytbaobiniianamaa
open Go.RowKit

/-- A slice that came in: its block is an old one, or it has no elements. -/
def Old (B : Nat) (v : Value) (n : Nat) : Prop := ∀ x ∈ blkOf v, x < B ∨ n = 0
theorem Rd.chg_old {w w1 : World} {F : List Nat} {size n : Nat} {v : Value} {xs : List Value} {B : Nat} (h : Rd w size v n xs) (k : Chg F w w1) (ho : Old B v n) (hF : ∀ b ∈ F, B ≤ b) : Rd w1 size v n xs := by
  by_cases h0 : n = 0
  · obtain ⟨h1, ao, cap, rfl, _⟩ := h
    exact ⟨h1, ao, cap, rfl, .inl h0⟩
  · exact h.chg k (fun b hb hbF => by
      rcases ho b hb with h1 | h1
      · have := hF b hbF; omega
      · exact h0 h1)
theorem Old.mono {B B' : Nat} {v : Value} {n : Nat} (h : Old B v n) (hB : B ≤ B') : Old B' v n := fun x hx => (h x hx).imp (fun h => Nat.lt_of_lt_of_le h hB) id
end Go.Proofs.Ytbaobiniianamaa
