/-
  How a slice within what came in is opened. Conditions: the form's own reach.
-/
import Derived.Test.YtbaobiniianamaaLawBase
namespace Go.Proofs.Ytbaobiniianamaa
open Go.ChangeShapes Go.WideShapes Go.ChangeAt Go.RowKit

section
variable {H : Type} {enc : TypeId × Value → H} {P : Program} {W : World}
/-- A slice that came in: its elements' cells, one behind the other; what each reads as; and the form's reach. -/
theorem open_rowsS {t e : TypeId} {v : Value} {d : DataW H} {ps : List MemPlace} (ht : P.underlying t = some (.slice e)) (hval : ∃ a0 len0 cp, v = .slice a0 len0 cp)
    (hd : DataW.Trod enc P W 0 (fun _ => true) true t v d ps) (hr : Reached P t d) (hpos : 0 < P.cellsOf e) :
    ∃ (ao : Option Addr) (cap : Nat) (xs : List (List Value)), v = .slice ao xs.length cap ∧ Rd W (P.cellsOf e) v xs.length xs.flatten ∧ (∀ b ∈ abl ao, b < W.heap.size ∨ xs.length = 0) ∧
      xs.length * P.bytesOf e ≤ 140737488351232 ∧ xs.length ≤ maxLen ∧
      ∀ x ∈ xs, x.length = P.cellsOf e ∧ ∃ (n : Nat) (y : DataW H × List MemPlace), DataW.trod enc P W 0 (fun _ => true) true n e x = some y ∧ Reached P e y.1 := by
  obtain ⟨a0, len0, cp, rfl⟩ := hval
  obtain ⟨fuel, hf⟩ := hd
  rcases Go.Deep.open_slice ht hf with ⟨hcs, hx⟩ | ⟨a, len, cap, m, n, D, Pl, hcs, _, hlc, hcm, hm, hx, hel⟩
  · simp [Value.cells] at hcs
    obtain ⟨rfl, rfl, rfl⟩ := hcs
    exact ⟨none, 0, [], rfl, ⟨by simp, none, 0, rfl, .inl rfl⟩, by simp, by simp, by simp [maxLen], by simp⟩
  · simp [Value.cells] at hcs
    obtain ⟨rfl, rfl, rfl⟩ := hcs
    simp only [Prod.mk.injEq] at hx
    obtain ⟨rfl, rfl⟩ := hx
    simp only [if_true] at hm
    obtain rfl := hm.symm
    simp only [Reached, DataW.weights, ht, List.all_cons, List.all_append, Bool.and_eq_true, reachBytes] at hr
    obtain ⟨hr0, hr1, _⟩ := hr
    have hr0 := of_decide_eq_true hr0
    have key : ∀ i, i < len0 → ∃ x : List Value, x.length = P.cellsOf e ∧ (∀ j, j < P.cellsOf e → W.cell? ((a.add (i * P.cellsOf e)).add j) = x[j]?) ∧ ∃ (n : Nat) (y : DataW H × List MemPlace), DataW.trod enc P W 0 (fun _ => true) true n e x = some y ∧ Reached P e y.1 := by
      intro i hi
      obtain ⟨x, h1, h2⟩ := hel i (by omega)
      simp only [World.cells?, Nat.zero_le, if_true] at h1
      obtain ⟨hl, hc⟩ := mapM_cells h1
      exact ⟨x, hl, hc, n, _, h2, reached_all hr1 _ (List.mem_map.2 ⟨i, by simpa using hi, rfl⟩)⟩
    obtain ⟨X, hX⟩ := Go.Deep.choose_lt key
    have hlen : ((List.range len0).map X).length = len0 := by simp
    have hfl : ∀ n, n ≤ len0 → (((List.range n).map X).flatten).length = n * P.cellsOf e := by
      intro n
      induction n with
      | zero => simp
      | succ n ih =>
        intro hn
        rw [List.range_succ, List.map_append, List.flatten_append, List.length_append, ih (by omega)]
        simp [(hX n (by omega)).1, Nat.succ_mul]
    have hget : ∀ n i j, n ≤ len0 → i < n → j < P.cellsOf e → (((List.range n).map X).flatten)[i * P.cellsOf e + j]? = (X i)[j]? := by
      intro n
      induction n with
      | zero => intro i j _ hi; omega
      | succ n ih =>
        intro i j hn hi hj
        rw [List.range_succ, List.map_append, List.flatten_append]
        by_cases hin : i < n
        · rw [List.getElem?_append_left, ih i j (by omega) hin hj]
          rw [hfl n (by omega)]
          have : (i + 1) * P.cellsOf e ≤ n * P.cellsOf e := Nat.mul_le_mul_right _ (by omega)
          rw [Nat.succ_mul] at this
          omega
        · obtain rfl : i = n := by omega
          rw [List.getElem?_append_right (by rw [hfl i (by omega)]; omega), hfl i (by omega)]
          simp
    refine ⟨some a, cp, (List.range len0).map X, by rw [hlen], ?_, ?_, ?_, by rw [hlen]; omega, ?_⟩
    · rw [hlen]
      refine ⟨hfl len0 (Nat.le_refl _), some a, cp, rfl, ?_⟩
      by_cases h0 : len0 = 0
      · exact .inl h0
      · right
        obtain ⟨b, off, spot⟩ := a
        have hspot : spot = none := by
          obtain ⟨hl, hc, _⟩ := hX 0 (by omega)
          have := hc 0 hpos
          have hs : (X 0)[0]? = some ((X 0)[0]'(by omega)) := List.getElem?_eq_getElem _
          rw [hs] at this
          simpa [Addr.add] using World.cell?_spot this
        subst hspot
        refine ⟨b, off, rfl, fun j hj => ?_⟩
        have hdiv : j / P.cellsOf e < len0 := Nat.div_lt_of_lt_mul (by rw [Nat.mul_comm]; exact hj)
        have hmod := Nat.mod_lt j hpos
        have e1 := hget len0 (j / P.cellsOf e) (j % P.cellsOf e) (Nat.le_refl _) hdiv hmod
        have e2 := (hX (j / P.cellsOf e) hdiv).2.1 (j % P.cellsOf e) hmod
        rw [Nat.mul_comm, Nat.div_add_mod] at e1
        rw [e1, ← e2, Go.Deep.add_add, Nat.mul_comm, Nat.div_add_mod]
        by_cases hj0 : j = 0
        · subst hj0; simp [Addr.add]
        · simp [Addr.add, hj0]
    · intro b hb
      by_cases h0 : len0 = 0
      · exact .inr (by simpa using h0)
      · left
        simp only [abl_some, List.mem_singleton] at hb
        subst hb
        obtain ⟨hl, hc, _⟩ := hX 0 (by omega)
        have := hc 0 hpos
        have hs : (X 0)[0]? = some ((X 0)[0]'(by omega)) := List.getElem?_eq_getElem _
        rw [hs] at this
        have hlt := World.block_lt_of_cell? W _ this
        simpa [Addr.add] using hlt
    · rw [hlen]
      have : len0 * P.bytesOf e ≤ (((List.range len0).map D).length + ((List.range (cp - len0)).map fun j => D (len0 + j)).length) * P.bytesOf e := Nat.mul_le_mul_right _ (by simp)
      omega
    · intro x hx
      obtain ⟨i, hi, rfl⟩ := List.mem_map.1 hx
      obtain ⟨h1, _, h2⟩ := hX i (by simpa using hi)
      exact ⟨h1, h2⟩
end
end Go.Proofs.Ytbaobiniianamaa
