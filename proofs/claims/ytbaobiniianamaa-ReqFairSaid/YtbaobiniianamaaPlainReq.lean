/-
  Towers of rows, plainly: how they settle. Conditions: none.
-/
import Derived.Test.YtbaobiniianamaaPlainCoins
namespace Go.Proofs.Ytbaobiniianamaa

/-- How many of a row of n stay, of which so many are asked to. -/
def keepN (n k : Nat) : Nat := if (n - min k n) % 2 = 1 then min k n + 1 else min k n
/-- One look at the row at h: if it is too long, the least ones stay, and of the others every other one goes up. -/
def stepR (W : Nat) (c : Nat → Bool) (h : Nat) (s : Nat × List (List Int)) : Nat × List (List Int) :=
  if (s.2.getD h []).length < W then s else
    (s.1 + 1, ((if h + 1 = s.2.length then s.2 ++ [[]] else s.2).set h ((sortL (s.2.getD h [])).take (keepN (s.2.getD h []).length (W / 2)))).set (h + 1)
      ((if h + 1 = s.2.length then s.2 ++ [[]] else s.2).getD (h + 1) [] ++ halveL ((sortL (s.2.getD h [])).drop (keepN (s.2.getD h []).length (W / 2))) (c s.1)))
def settleF (W : Nat) (c : Nat → Bool) : Nat → Nat → Nat × List (List Int) → Nat × List (List Int)
  | 0, _, s => s
  | f + 1, h, s => if h < s.2.length then settleF W c f (h + 1) (stepR W c h s) else s
/-- So many steps are enough from h on. -/
def needF (h : Nat) (s : Nat × List (List Int)) : Nat := 2 * (s.2.drop h).flatten.length + (s.2.length - h)
def settle (W : Nat) (c : Nat → Bool) (s : Nat × List (List Int)) : Nat × List (List Int) := settleF W c (needF 0 s) 0 s

theorem split_at {l : List (List Int)} {h : Nat} (hh : h < l.length) : ∃ A r B, l = A ++ r :: B ∧ A.length = h :=
  ⟨l.take h, l[h], l.drop (h + 1), by rw [List.getElem_cons_drop, List.take_append_drop], by simp; omega⟩
theorem stepR_split (W : Nat) (c : Nat → Bool) (u : Nat) (A : List (List Int)) (r : List Int) (B : List (List Int)) :
    stepR W c A.length (u, A ++ r :: B) = if r.length < W then (u, A ++ r :: B) else
      (u + 1, A ++ (sortL r).take (keepN r.length (W / 2)) :: (B.headD [] ++ halveL ((sortL r).drop (keepN r.length (W / 2))) (c u)) :: B.tail) := by
  have e : (A ++ r :: B).getD A.length [] = r := by simp [List.getD]
  unfold stepR
  simp only [e]
  split
  · rfl
  · congr 1
    cases B with
    | nil =>
      have h1 : A.length + 1 = (A ++ [r]).length := by simp
      rw [if_pos h1]
      have h2 : (A ++ [r] ++ [[]] : List (List Int)).getD (A.length + 1) [] = [] := by
        rw [List.append_assoc]; simp [List.getD]
      rw [h2, List.append_assoc, List.set_append_right _ _ (Nat.le_refl _), Nat.sub_self]
      rw [List.set_append_right _ _ (by omega)]
      simp
    | cons b B =>
      have h1 : ¬ (A.length + 1 = (A ++ r :: b :: B).length) := by simp
      rw [if_neg h1]
      have h2 : (A ++ r :: b :: B : List (List Int)).getD (A.length + 1) [] = b := by simp [List.getD]
      rw [h2, List.set_append_right _ _ (Nat.le_refl _), Nat.sub_self]
      rw [List.set_append_right _ _ (by omega)]
      simp
theorem halveL_length (l : List Int) : (halveL l false).length = (l.length + 1) / 2 ∧ (halveL l true).length = l.length / 2 := by
  induction l with
  | nil => exact ⟨rfl, rfl⟩
  | cons x l ih =>
    simp only [halveL, List.length_cons]
    omega
theorem keepN_le {n k : Nat} (h : k ≤ n) : k ≤ keepN n k ∧ keepN n k ≤ k + 1 ∧ keepN n k ≤ n ∧ (n - keepN n k) % 2 = 0 := by
  unfold keepN
  rw [Nat.min_eq_left h]
  split <;> omega
theorem half_len {n m W : Nat} (c : Bool) (l : List Int) (hl : l.length = n) (hm : m = keepN n (W / 2)) (hn : W ≤ n) : (halveL ((sortL l).drop m) c).length = (n - m) / 2 := by
  have h1 := halveL_length ((sortL l).drop m)
  have h2 := (sort_ok l).2.2
  have h3 := keepN_le (n := n) (k := W / 2) (by omega)
  rw [← hm] at h3
  rw [List.length_drop, h2, hl] at h1
  cases c with
  | true => exact h1.2
  | false => rw [h1.1]; omega
theorem needF_step {W : Nat} (c : Nat → Bool) {h : Nat} {s : Nat × List (List Int)} (hW : 4 ≤ W) (hh : h < s.2.length) : needF (h + 1) (stepR W c h s) + 1 ≤ needF h s := by
  obtain ⟨u, l⟩ := s
  obtain ⟨A, r, B, rfl, rfl⟩ := split_at hh
  rw [stepR_split]
  have e2 : (A ++ r :: B).drop (A.length + 1) = B := by
    rw [show A ++ r :: B = (A ++ [r]) ++ B by simp, List.drop_left' (by simp)]
  split
  · unfold needF
    simp only [List.drop_left, e2]
    simp
    omega
  · next hlt =>
    have hk := keepN_le (n := r.length) (k := W / 2) (by omega)
    have hl := half_len (W := W) (c u) r rfl rfl (by omega)
    have e3 : (A ++ (sortL r).take (keepN r.length (W / 2)) :: (B.headD [] ++ halveL ((sortL r).drop (keepN r.length (W / 2))) (c u)) :: B.tail).drop (A.length + 1) = (B.headD [] ++ halveL ((sortL r).drop (keepN r.length (W / 2))) (c u)) :: B.tail := by
      rw [List.append_cons, List.drop_left' (by simp)]
    unfold needF
    simp only [List.drop_left, e3]
    have hB : (B.headD [] ++ halveL ((sortL r).drop (keepN r.length (W / 2))) (c u)).length + B.tail.flatten.length = B.flatten.length + (r.length - keepN r.length (W / 2)) / 2 := by
      rw [List.length_append, hl]
      cases B with
      | nil => simp
      | cons b B => simp; omega
    have hT : B.tail.length + 1 ≤ B.length + 1 := by simp
    rw [List.flatten_cons, List.length_append, hB]
    simp only [List.flatten_cons, List.length_append, List.length_cons]
    cases B with
    | nil => simp; omega
    | cons b B => simp; omega
theorem settleF_enough (W : Nat) (c : Nat → Bool) (hW : 4 ≤ W) : ∀ (f h : Nat) (s : Nat × List (List Int)), needF h s ≤ f → settleF W c f h s = settleF W c (needF h s) h s := by
  intro f
  induction f with
  | zero => intro h s hn; rw [show needF h s = 0 by omega]
  | succ f ih =>
    intro h s hn
    by_cases hh : h < s.2.length
    · have h1 := needF_step c hW hh
      obtain ⟨m, hm⟩ : ∃ m, needF h s = m + 1 := ⟨needF h s - 1, by omega⟩
      rw [hm, settleF, if_pos hh, settleF, if_pos hh, ih _ _ (by omega)]
      by_cases hmn : needF (h + 1) (stepR W c h s) = m
      · rw [hmn]
      · clear ih
        -- m is enough, too
        have gen : ∀ (f h : Nat) (s : Nat × List (List Int)) (d : Nat), needF h s ≤ f → settleF W c (f + d) h s = settleF W c f h s := by
          intro f
          induction f with
          | zero =>
            intro h s d hn
            cases d with
            | zero => rfl
            | succ d =>
              have : ¬ h < s.2.length := by unfold needF at hn; omega
              simp only [settleF, if_neg this]
          | succ f ih =>
            intro h s d hn
            rw [show f + 1 + d = f + d + 1 by omega, settleF, settleF]
            by_cases hh : h < s.2.length
            · rw [if_pos hh, if_pos hh]
              have := needF_step c hW hh
              exact ih _ _ d (by omega)
            · rw [if_neg hh, if_neg hh]
        have := gen (needF (h + 1) (stepR W c h s)) (h + 1) (stepR W c h s) (m - needF (h + 1) (stepR W c h s)) (Nat.le_refl _)
        rw [← this]
        congr 1
        omega
    · rw [settleF, if_neg hh]
      cases hm : needF h s with
      | zero => rfl
      | succ m => rw [settleF, if_neg hh]
/-- What holds of each step from one to the next holds of the end. -/
theorem settleF_inv {W : Nat} {c : Nat → Bool} (hW : 4 ≤ W) (I : Nat → Nat × List (List Int) → Prop) (hI : ∀ h s, I h s → h < s.2.length → I (h + 1) (stepR W c h s)) :
    ∀ (f h : Nat) (s : Nat × List (List Int)), needF h s ≤ f → I h s → ∃ h', I h' (settleF W c f h s) ∧ ¬ h' < (settleF W c f h s).2.length := by
  intro f
  induction f with
  | zero => intro h s hn hi; exact ⟨h, hi, by rw [settleF]; unfold needF at hn; omega⟩
  | succ f ih =>
    intro h s hn hi
    rw [settleF]
    by_cases hh : h < s.2.length
    · rw [if_pos hh]
      exact ih _ _ (by have := needF_step c hW hh; omega) (hI h s hi hh)
    · rw [if_neg hh]
      exact ⟨h, hi, hh⟩
theorem settleF_at {W : Nat} {c : Nat → Bool} {B h u : Nat} {rows : List (List Int)} {R : Nat × List (List Int)} (h1 : settleF W c (B - h) h (u, rows) = R) (h2 : needF h (u, rows) ≤ B - h) (hW : 4 ≤ W) (hh : h < rows.length) :
    h + 1 ≤ B ∧ settleF W c (B - (h + 1)) (h + 1) (stepR W c h (u, rows)) = R ∧ needF (h + 1) (stepR W c h (u, rows)) ≤ B - (h + 1) := by
  have h3 := needF_step (s := (u, rows)) c hW hh
  obtain ⟨m, hm⟩ : ∃ m, B - h = m + 1 := ⟨B - h - 1, by omega⟩
  rw [hm, settleF, if_pos hh] at h1
  rw [show B - (h + 1) = m by omega]
  exact ⟨by omega, h1, by omega⟩
theorem settleF_end {W : Nat} {c : Nat → Bool} {B h u : Nat} {rows : List (List Int)} {R : Nat × List (List Int)} (h1 : settleF W c (B - h) h (u, rows) = R) (hh : ¬ h < rows.length) : R = (u, rows) := by
  cases hm : B - h with
  | zero => rw [hm, settleF] at h1; exact h1.symm
  | succ m => rw [hm, settleF, if_neg hh] at h1; exact h1.symm
theorem step_flat {W : Nat} (c : Nat → Bool) {h : Nat} {s : Nat × List (List Int)} (hh : h < s.2.length) : (stepR W c h s).2.flatten.length ≤ s.2.flatten.length := by
  obtain ⟨u, l⟩ := s
  obtain ⟨A, r, B, rfl, rfl⟩ := split_at hh
  rw [stepR_split]
  split
  · exact Nat.le_refl _
  · next hlt =>
    have hk := keepN_le (n := r.length) (k := W / 2) (by omega)
    have hl := half_len (W := W) (c u) r rfl rfl (by omega)
    simp only [List.flatten_append, List.flatten_cons, List.length_append, hl, List.length_take, (sort_ok r).2.2]
    cases B with
    | nil => simp; omega
    | cons b B => simp; omega
end Go.Proofs.Ytbaobiniianamaa
