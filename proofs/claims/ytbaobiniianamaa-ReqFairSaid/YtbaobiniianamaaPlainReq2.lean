/-
  Towers of rows, plainly: what a settled tower counts. Conditions: none.
-/
import Derived.Test.YtbaobiniianamaaPlainReq
namespace Go.Proofs.Ytbaobiniianamaa

/-- What the rows tell, each of a row twice as much as one of the row below. -/
def wsum (φ : List Int → Nat) : List (List Int) → Nat
  | [] => 0
  | r :: l => φ r + 2 * wsum φ l
theorem wsum_app (φ : List Int → Nat) (A B : List (List Int)) : wsum φ (A ++ B) = wsum φ A + 2 ^ A.length * wsum φ B := by
  induction A with
  | nil => simp [wsum]
  | cons a A ih =>
    simp only [List.cons_append, wsum, ih, List.length_cons, Nat.pow_succ]
    rw [Nat.mul_add, Nat.mul_assoc, Nat.mul_left_comm]
    omega
def totR (l : List (List Int)) : Nat := wsum List.length l
def rankR (x : Int) (l : List (List Int)) : Nat := wsum (fun r => upL r x) l
theorem wsum_le {φ ψ : List Int → Nat} (h : ∀ r, φ r ≤ ψ r) (l : List (List Int)) : wsum φ l ≤ wsum ψ l := by
  induction l with
  | nil => exact Nat.le_refl _
  | cons r l ih => have := h r; simp only [wsum]; omega
theorem rankR_le (x : Int) (l : List (List Int)) : rankR x l ≤ totR l := wsum_le (fun _ => List.countP_le_length) l
theorem upL_app (a b : List Int) (x : Int) : upL (a ++ b) x = upL a x + upL b x := List.countP_append
theorem wsum_up (φ : List Int → Nat) (hφ : ∀ a b, φ (a ++ b) = φ a + φ b) (B : List (List Int)) (r : List Int) :
    wsum φ ((B.headD [] ++ r) :: B.tail) = wsum φ B + φ r := by
  cases B with
  | nil => simp [wsum]
  | cons b B => simp [wsum, hφ]; omega
/-- What one step does to what the rows tell. -/
theorem step_wsum (φ : List Int → Nat) (hφ : ∀ a b, φ (a ++ b) = φ a + φ b) (A : List (List Int)) (r : List Int) (B : List (List Int)) (stay half : List Int) :
    wsum φ (A ++ stay :: (B.headD [] ++ half) :: B.tail) + 2 ^ A.length * φ r = wsum φ (A ++ r :: B) + 2 ^ A.length * (φ stay + 2 * φ half) := by
  have e1 := wsum_up φ hφ B half
  have e2 : wsum φ (stay :: (B.headD [] ++ half) :: B.tail) = φ stay + 2 * wsum φ ((B.headD [] ++ half) :: B.tail) := rfl
  have e3 : wsum φ (r :: B) = φ r + 2 * wsum φ B := rfl
  rw [wsum_app, wsum_app, e2, e1, e3]
  generalize wsum φ B = b
  generalize 2 ^ A.length = p
  rw [Nat.mul_add, Nat.mul_add, Nat.mul_add, Nat.mul_add, Nat.mul_add]
  omega
theorem sort_parts (r : List Int) (m : Nat) (x : Int) : upL ((sortL r).take m) x + upL ((sortL r).drop m) x = upL r x := by
  rw [← upL_app, List.take_append_drop]
  exact (sort_ok r).2.1 x
theorem step_tot {W : Nat} (c : Nat → Bool) {h : Nat} {s : Nat × List (List Int)} (_hW : 4 ≤ W) (hh : h < s.2.length) : totR (stepR W c h s).2 = totR s.2 := by
  obtain ⟨u, l⟩ := s
  obtain ⟨A, r, B, rfl, rfl⟩ := split_at hh
  rw [stepR_split]
  split
  · rfl
  · next hlt =>
    have hk := keepN_le (n := r.length) (k := W / 2) (by omega)
    have hl := half_len (W := W) (c u) r rfl rfl (by omega)
    have h1 := step_wsum List.length (fun a b => List.length_append) A r B ((sortL r).take (keepN r.length (W / 2))) (halveL ((sortL r).drop (keepN r.length (W / 2))) (c u))
    rw [hl, List.length_take, (sort_ok r).2.2, Nat.min_eq_left hk.2.2.1] at h1
    have h2 : keepN r.length (W / 2) + 2 * ((r.length - keepN r.length (W / 2)) / 2) = r.length := by omega
    rw [h2] at h1
    exact Nat.add_right_cancel h1
/-- The rank behind a step: off by one of the row's weights at most; which way, the coin tells. -/
theorem step_rank {W : Nat} (c : Nat → Bool) (x : Int) (A : List (List Int)) (r : List Int) (B : List (List Int)) (u : Nat) (hlt : ¬ r.length < W) :
    ∃ d, d ≤ 1 ∧ rankR x (stepR W c A.length (u, A ++ r :: B)).2 + (if c u then 2 ^ A.length * d else 0) = rankR x (A ++ r :: B) + (if c u then 0 else 2 ^ A.length * d) ∧
      d = upL ((sortL r).drop (keepN r.length (W / 2))) x % 2 := by
  rw [stepR_split, if_neg hlt]
  have h1 := step_wsum (fun r => upL r x) (fun a b => upL_app a b x) A r B ((sortL r).take (keepN r.length (W / 2))) (halveL ((sortL r).drop (keepN r.length (W / 2))) (c u))
  have h2 := sort_parts r (keepN r.length (W / 2)) x
  have hup : up ((sortL r).drop (keepN r.length (W / 2))) := by
    have := (sort_ok r).1
    rw [← List.take_append_drop (keepN r.length (W / 2)) (sortL r)] at this
    exact up_right this
  have h3 := halves hup x
  refine ⟨_, by omega, ?_, rfl⟩
  show wsum _ _ + _ = wsum _ _ + _
  generalize wsum (fun r => upL r x) (A ++ (sortL r).take (keepN r.length (W / 2)) :: (B.headD [] ++ halveL ((sortL r).drop (keepN r.length (W / 2))) (c u)) :: B.tail) = n1 at *
  generalize wsum (fun r => upL r x) (A ++ r :: B) = n2 at *
  generalize upL ((sortL r).take (keepN r.length (W / 2))) x = a at *
  rw [← h2] at h1
  cases hc : c u with
  | true =>
    rw [hc, h3.2] at h1
    simp only [if_true, Nat.add_zero]
    generalize upL ((sortL r).drop (keepN r.length (W / 2))) x = b at *
    have e : 2 ^ A.length * (a + b) = 2 ^ A.length * (a + 2 * (b / 2)) + 2 ^ A.length * (b % 2) := by
      rw [← Nat.mul_add]; congr 1; omega
    omega
  | false =>
    rw [hc, h3.1] at h1
    simp only [Bool.false_eq_true, if_false, Nat.add_zero]
    generalize upL ((sortL r).drop (keepN r.length (W / 2))) x = b at *
    have e : 2 ^ A.length * (a + 2 * ((b + 1) / 2)) = 2 ^ A.length * (a + b) + 2 ^ A.length * (b % 2) := by
      rw [← Nat.mul_add]; congr 1; omega
    omega

/-- All that lies above each row, together. -/
def aboveR : List (List Int) → Nat
  | [] => 0
  | _ :: l => 2 * totR l + 2 * aboveR l
theorem aboveR_le (l : List (List Int)) : aboveR l ≤ (l.length - 1) * totR l := by
  induction l with
  | nil => exact Nat.le_refl _
  | cons r l ih =>
    cases l with
    | nil => simp [aboveR, totR, wsum]
    | cons b l =>
      simp only [List.length_cons, Nat.add_sub_cancel] at ih ⊢
      rw [aboveR]
      have e : totR (r :: b :: l) = r.length + 2 * totR (b :: l) := rfl
      rw [e]
      generalize totR (b :: l) = t at *
      generalize aboveR (b :: l) = a at *
      generalize l.length = n at *
      rw [Nat.mul_add, Nat.add_mul, Nat.add_mul, Nat.mul_left_comm]
      omega
theorem aboveR_app (A B : List (List Int)) (C : List (List Int)) (k : Nat) (h1 : totR C = totR B) (h2 : aboveR C = aboveR B + k) : aboveR (A ++ C) = aboveR (A ++ B) + 2 ^ A.length * k := by
  induction A with
  | nil => simpa using h2
  | cons a A ih =>
    have e : totR (A ++ C) = totR (A ++ B) := by
      unfold totR
      rw [wsum_app, wsum_app]
      unfold totR at h1
      rw [h1]
    simp only [List.cons_append, aboveR, List.length_cons, Nat.pow_succ, e, ih]
    rw [Nat.mul_comm (2 ^ A.length) 2, Nat.mul_assoc]
    omega
theorem step_above {W : Nat} (c : Nat → Bool) (A : List (List Int)) (r : List Int) (B : List (List Int)) (u : Nat) (_hW : 4 ≤ W) (h4 : W % 4 = 0) (hlt : ¬ r.length < W) :
    aboveR (A ++ r :: B) + 2 ^ A.length * (W / 2) ≤ aboveR (stepR W c A.length (u, A ++ r :: B)).2 := by
  rw [stepR_split, if_neg hlt]
  have hk := keepN_le (n := r.length) (k := W / 2) (by omega)
  have hk2 : W / 2 ≤ r.length - keepN r.length (W / 2) := by
    unfold keepN
    rw [Nat.min_eq_left (by omega)]
    split <;> omega
  have hl := half_len (W := W) (c u) r rfl rfl (by omega)
  have e0 := wsum_up List.length (fun a b => List.length_append) B (halveL ((sortL r).drop (keepN r.length (W / 2))) (c u))
  rw [hl] at e0
  generalize halveL ((sortL r).drop (keepN r.length (W / 2))) (c u) = H at *
  have hT : totR ((sortL r).take (keepN r.length (W / 2)) :: (B.headD [] ++ H) :: B.tail) = totR (r :: B) := by
    show ((sortL r).take (keepN r.length (W / 2))).length + 2 * wsum List.length ((B.headD [] ++ H) :: B.tail) = r.length + 2 * wsum List.length B
    rw [e0, List.length_take, (sort_ok r).2.2, Nat.min_eq_left hk.2.2.1]
    omega
  have hA : aboveR ((sortL r).take (keepN r.length (W / 2)) :: (B.headD [] ++ H) :: B.tail) = aboveR (r :: B) + (r.length - keepN r.length (W / 2)) := by
    have e1 : aboveR ((B.headD [] ++ H) :: B.tail) = aboveR B := by cases B <;> simp [aboveR, totR, wsum]
    show 2 * wsum List.length ((B.headD [] ++ H) :: B.tail) + 2 * aboveR ((B.headD [] ++ H) :: B.tail) = 2 * wsum List.length B + 2 * aboveR B + _
    rw [e0, e1]
    omega
  have := aboveR_app A (r :: B) ((sortL r).take (keepN r.length (W / 2)) :: (B.headD [] ++ H) :: B.tail) _ hT hA
  simp only at this ⊢
  rw [this]
  have := Nat.mul_le_mul_left (2 ^ A.length) hk2
  omega
end Go.Proofs.Ytbaobiniianamaa
