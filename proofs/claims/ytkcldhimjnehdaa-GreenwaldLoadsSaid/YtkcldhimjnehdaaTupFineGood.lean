/-
  Plain law: a row that is so can be. Conditions: none.
-/
import Derived.Test.YtkcldhimjnehdaaTupGood
import Derived.Test.YtkcldhimjnehdaaPlainMerged
import Derived.Test.YtkcldhimjnehdaaTupAsk
namespace Go.Proofs.Ytkcldhimjnehdaa

theorem stps_sum (l : List Tp) : (stps l).sum = tot l := rfl
theorem sumTo_tot (l : List Tp) (k : Nat) : sumTo (stps l) k = tot (l.take k) := by
  rw [sumTo, stps, ← List.map_take]
  rfl
theorem FineT.good {l : List Tp} {n : Nat} (h : FineT l n) (hn : n ≤ 9223372036854775807) : goodT l = true := by
  have hs : (stps l).sum = n := h.total
  have hok : ∀ k, k ≤ l.length → okTo l n k = true := by
    intro k
    induction k with
    | zero => intro _; rfl
    | succ k ih =>
      intro hk
      rw [okTo_succ, ih (by omega), Bool.true_and, okT]
      have hkl : k < l.length := by omega
      have e : l.getD k default = l[k] := by simp [List.getD, hkl]
      rw [e, sumTo_tot, tot_step l k hkl]
      have h1 := h.pos _ (List.getElem_mem hkl)
      have h2 := h.high _ (spot_at l k hkl)
      simp only at h2
      refine decide_eq_true ⟨h1, by omega, fun h0 => ?_⟩
      have hk1 : k - 1 < l.length := by omega
      have e1 : l.getD (k - 1) default = l[k - 1] := by simp [List.getD, hk1]
      rw [e1]
      exact List.pairwise_iff_getElem.1 h.up _ _ _ _ (by omega)
  rw [goodT, hs, decide_eq_true hn, hok _ (Nat.le_refl _), Bool.true_and, Bool.true_and, headOk]
  cases hl : l with
  | nil => rfl
  | cons p r =>
    have := h.first p (by rw [hl]; rfl)
    simp [List.getD, this.1, this.2]
end Go.Proofs.Ytkcldhimjnehdaa
