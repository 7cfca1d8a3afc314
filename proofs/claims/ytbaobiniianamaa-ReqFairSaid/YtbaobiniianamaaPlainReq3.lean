/-
  Towers of rows, plainly: what bounds them. Conditions: none.
-/
import Derived.Test.YtbaobiniianamaaPlainReq2
namespace Go.Proofs.Ytbaobiniianamaa

theorem step_fits {W : Nat} (c : Nat → Bool) {h : Nat} {s : Nat × List (List Int)} (hW : 4 ≤ W) (hh : h < s.2.length) (h2 : s.2.length ≤ s.1 + 1) :
    s.2.length ≤ (stepR W c h s).2.length ∧ (stepR W c h s).2.length ≤ (stepR W c h s).1 + 1 ∧ (stepR W c h s).1 + (stepR W c h s).2.flatten.length ≤ s.1 + s.2.flatten.length := by
  obtain ⟨u, l⟩ := s
  obtain ⟨A, r, B, rfl, rfl⟩ := split_at hh
  simp only at h2
  rw [stepR_split]
  split
  · exact ⟨Nat.le_refl _, h2, Nat.le_refl _⟩
  · next hlt =>
    have hk := keepN_le (n := r.length) (k := W / 2) (by omega)
    have hl := half_len (W := W) (c u) r rfl rfl (by omega)
    simp only [List.length_append, List.length_cons, List.flatten_append, List.flatten_cons, hl, List.length_take, (sort_ok r).2.2] at h2 ⊢
    cases B with
    | nil => simp at h2 ⊢; omega
    | cons b B => simp at h2 ⊢; omega
theorem settle_fits {W : Nat} {c : Nat → Bool} (hW : 4 ≤ W) {s : Nat × List (List Int)} (h1 : 1 ≤ s.2.length) (h2 : s.2.length ≤ s.1 + 1) :
    1 ≤ (settle W c s).2.length ∧ (settle W c s).2.length ≤ (settle W c s).1 + 1 ∧ (settle W c s).1 + (settle W c s).2.flatten.length ≤ s.1 + s.2.flatten.length := by
  obtain ⟨h', hi, _⟩ := settleF_inv (c := c) hW (fun _ t => 1 ≤ t.2.length ∧ t.2.length ≤ t.1 + 1 ∧ t.1 + t.2.flatten.length ≤ s.1 + s.2.flatten.length)
    (fun h t hi hh => by have := step_fits c hW hh hi.2.1; omega) (needF 0 s) 0 s (Nat.le_refl _) ⟨h1, h2, Nat.le_refl _⟩
  exact hi
/-- Behind settling no row is too long. -/
theorem settle_short {W : Nat} {c : Nat → Bool} (hW : 4 ≤ W) (s : Nat × List (List Int)) : ∀ r ∈ (settle W c s).2, r.length < W := by
  obtain ⟨h', hi, hn⟩ := settleF_inv (c := c) hW (fun h t => ∀ j (hj : j < t.2.length), j < h → t.2[j].length < W)
    (fun h t hi hh j hj hjh => by
      obtain ⟨u, l⟩ := t
      obtain ⟨A, r, B, rfl, rfl⟩ := split_at hh
      have hs := stepR_split W c u A r B
      by_cases hlt : r.length < W
      · rw [if_pos hlt] at hs
        simp only [hs] at hj ⊢
        by_cases hjA : j < A.length
        · exact hi j hj hjA
        · obtain rfl : j = A.length := by omega
          simpa using hlt
      · rw [if_neg hlt] at hs
        have hk := keepN_le (n := r.length) (k := W / 2) (by omega)
        simp only [hs] at hj ⊢
        by_cases hjA : j < A.length
        · have := hi j (by simp; omega) hjA
          rw [List.getElem_append_left hjA] at this ⊢
          exact this
        · obtain rfl : j = A.length := by omega
          rw [List.getElem_append_right (Nat.le_refl _)]
          simp only [Nat.sub_self, List.getElem_cons_zero, List.length_take, (sort_ok r).2.2]
          omega) (needF 0 s) 0 s (Nat.le_refl _) (fun j hj hjh => by omega)
  intro r hr
  obtain ⟨j, hj, rfl⟩ := List.getElem_of_mem hr
  exact hi j hj (by have : ¬ h' < (settle W c s).2.length := hn; omega)
/-- Rows above the first one are not empty. -/
theorem settle_full {W : Nat} {c : Nat → Bool} (hW : 4 ≤ W) (s : Nat × List (List Int)) (h : ∀ r ∈ s.2.tail, 1 ≤ r.length) : ∀ r ∈ (settle W c s).2.tail, 1 ≤ r.length := by
  obtain ⟨h', hi, hn⟩ := settleF_inv (c := c) hW (fun _ t => ∀ r ∈ t.2.tail, 1 ≤ r.length)
    (fun h t hi hh => by
      obtain ⟨u, l⟩ := t
      obtain ⟨A, r, B, rfl, rfl⟩ := split_at hh
      rw [stepR_split]
      split
      · exact hi
      · next hlt =>
        have hk := keepN_le (n := r.length) (k := W / 2) (by omega)
        have hl := half_len (W := W) (c u) r rfl rfl (by omega)
        have hb : 1 ≤ (B.headD [] ++ halveL ((sortL r).drop (keepN r.length (W / 2))) (c u)).length := by
          rw [List.length_append, hl]; omega
        have hst : 1 ≤ ((sortL r).take (keepN r.length (W / 2))).length := by rw [List.length_take, (sort_ok r).2.2]; omega
        intro q hq
        cases A with
        | nil =>
          simp only [List.nil_append, List.tail_cons, List.mem_cons] at hq hi
          rcases hq with rfl | hq
          · exact hb
          · exact hi q (List.mem_of_mem_tail hq)
        | cons a A =>
          simp only [List.cons_append, List.tail_cons, List.mem_append, List.mem_cons] at hq hi
          rcases hq with hq | rfl | rfl | hq
          · exact hi q (.inl hq)
          · exact hst
          · exact hb
          · exact hi q (.inr (.inr (List.mem_of_mem_tail hq)))) (needF 0 s) 0 s (Nat.le_refl _) h
  exact hi
theorem wsum_full : ∀ (l : List (List Int)), (∀ r ∈ l, 1 ≤ r.length) → 2 ^ l.length ≤ totR l + 1
  | [], _ => by simp [totR, wsum]
  | r :: l, h => by
    have h1 := wsum_full l (fun q hq => h q (by simp [hq]))
    have h2 := h r (by simp)
    show 2 ^ (l.length + 1) ≤ r.length + 2 * totR l + 1
    rw [Nat.pow_succ]
    omega
theorem rows_few {l : List (List Int)} (h : ∀ r ∈ l.tail, 1 ≤ r.length) : 2 ^ l.length ≤ totR l + 2 := by
  cases l with
  | nil => simp [totR, wsum]
  | cons r l =>
    have h1 := wsum_full l (by simpa using h)
    show 2 ^ (l.length + 1) ≤ r.length + 2 * totR l + 2
    rw [Nat.pow_succ]
    omega
theorem settle_tot {W : Nat} {c : Nat → Bool} (hW : 4 ≤ W) (s : Nat × List (List Int)) : totR (settle W c s).2 = totR s.2 := by
  obtain ⟨h', hi, hn⟩ := settleF_inv (c := c) hW (fun _ t => totR t.2 = totR s.2) (fun h t hi hh => (step_tot c hW hh).trans hi) (needF 0 s) 0 s (Nat.le_refl _) rfl
  exact hi
end Go.Proofs.Ytbaobiniianamaa
