/-
  Plain law: what stays true of a tower that takes values. Conditions: none.
-/
import Derived.Test.YtbaobiniianamaaReqPutP
import Derived.Test.YtbaobiniianamaaReqSmall
import Derived.Test.YtbaobiniianamaaReqNew
namespace Go.Proofs.Ytbaobiniianamaa

theorem halveL_mem {y : Int} : ∀ (l : List Int) (b : Bool), y ∈ halveL l b → y ∈ l
  | [], b, h => by cases b <;> simp [halveL] at h
  | x :: l, false, h => by
    rw [halveL, List.mem_cons] at h
    rcases h with rfl | h
    · simp
    · exact List.mem_cons_of_mem _ (halveL_mem l _ h)
  | x :: l, true, h => by
    rw [halveL] at h
    exact List.mem_cons_of_mem _ (halveL_mem l _ h)
theorem put1_mem {l : List Int} {x y : Int} (h : y ∈ put1 l x) : y ∈ l ∨ y = x := by
  unfold put1 at h
  simp only [List.append_assoc, List.mem_append, List.mem_cons, List.not_mem_nil, or_false] at h
  rcases h with h | h | h
  · exact .inl (List.mem_of_mem_take h)
  · exact .inr h
  · exact .inl (List.mem_of_mem_drop h)
theorem sortL_mem {l : List Int} {y : Int} (h : y ∈ sortL l) : y ∈ l := by
  have gen : ∀ (r acc : List Int), y ∈ r.foldl put1 acc → y ∈ acc ∨ y ∈ r := by
    intro r
    induction r with
    | nil => intro acc h; exact .inl h
    | cons x r ih =>
      intro acc h
      rw [List.foldl_cons] at h
      rcases ih _ h with h | h
      · rcases put1_mem h with h | rfl
        · exact .inl h
        · exact .inr (by simp)
      · exact .inr (List.mem_cons_of_mem _ h)
  rcases gen l [] h with h | h
  · simp at h
  · exact h
/-- What holds of all values holds of them behind settling. -/
theorem settle_all {W : Nat} {c : Nat → Bool} (hW : 4 ≤ W) (Q : Int → Prop) (s : Nat × List (List Int)) (h : ∀ r ∈ s.2, ∀ v ∈ r, Q v) : ∀ r ∈ (settle W c s).2, ∀ v ∈ r, Q v := by
  obtain ⟨h', hi, hn⟩ := settleF_inv (c := c) hW (fun _ t => ∀ r ∈ t.2, ∀ v ∈ r, Q v)
    (fun h t hi hh => by
      obtain ⟨u, l⟩ := t
      obtain ⟨A, r, B, rfl, rfl⟩ := split_at hh
      rw [stepR_split]
      split
      · exact hi
      · next hlt =>
        simp only [List.mem_append, List.mem_cons] at hi
        have hr := hi r (.inr (.inl rfl))
        intro q hq v hv
        simp only [List.mem_append, List.mem_cons] at hq
        rcases hq with hq | rfl | rfl | hq
        · exact hi q (.inl hq) v hv
        · exact hr v (sortL_mem (List.mem_of_mem_take hv))
        · rcases List.mem_append.1 hv with hv | hv
          · cases B with
            | nil => simp at hv
            | cons b B => exact hi b (.inr (.inr (by simp))) v (by simpa using hv)
          · exact hr v (sortL_mem (List.mem_of_mem_drop (halveL_mem _ _ hv)))
        · exact hi q (.inr (.inr (List.mem_of_mem_tail hq))) v hv) (needF 0 s) 0 s (Nat.le_refl _) h
  exact hi
theorem upL_all {r : List Int} {x : Int} (h : ∀ v ∈ r, v ≤ x) : upL r x = r.length := by
  rw [upL, List.countP_eq_length]
  intro v hv
  simpa using h v hv
theorem rank_all {x : Int} : ∀ {l : List (List Int)}, (∀ r ∈ l, ∀ v ∈ r, v ≤ x) → rankR x l = totR l
  | [], _ => rfl
  | r :: l, h => by
    have h1 := rank_all (l := l) (fun q hq => h q (by simp [hq]))
    unfold rankR totR at *
    rw [wsum, wsum, h1, upL_all (h r (by simp))]

/-- What is so of a tower behind n values. -/
structure TwD.ok (D : TwD) (W word n : Nat) : Prop where
  W_eq : D.W = W
  word_eq : D.word = word
  tot : D.total = n
  fit : D.fits n
  sum : totR D.rows = n
  short : ∀ r ∈ D.rows, r.length < W
  full : ∀ r ∈ D.rows.tail, 1 ≤ r.length
  low : ∀ r ∈ D.rows, ∀ v ∈ r, v ≤ 9223372036854775807
theorem TwD.new_ok {W word : Nat} (hW : 4 ≤ W) : (TwD.new W word).ok W word 0 :=
  ⟨rfl, rfl, rfl, ⟨by simp [TwD.new], by simp [TwD.new], by simp [TwD.new]⟩, rfl, by simp [TwD.new]; omega, by simp [TwD.new], by simp [TwD.new]⟩
theorem TwD.ends_ok {D : TwD} {W word n : Nat} (h : D.ok W word n) (x y : Int) : (D.ends x y).ok W word n := by
  unfold TwD.ends
  split <;> exact ⟨h.1, h.2, h.3, h.4, h.5, h.6, h.7, h.8⟩
theorem TwD.put1_ok {D : TwD} {W word n : Nat} (hW : 4 ≤ W) (h : D.ok W word n) {x : Int} (hx : x ≤ 9223372036854775807) : (D.put1 x).ok W word (n + 1) := by
  obtain ⟨rfl, rfl, rfl, h4, h5, h6, h7, h8⟩ := h
  obtain ⟨r, l, hr⟩ : ∃ r l, D.rows = r :: l := by
    obtain ⟨q1, _⟩ := h4
    cases hr : D.rows with
    | nil => rw [hr] at q1; simp at q1
    | cons r l => exact ⟨r, l, rfl⟩
  have e1 : (D.add x).rows = (r ++ [x]) :: l := by simp [TwD.add, hr]
  have hs : (D.put1 x).rows = (settle D.W (coinB D.word) (D.used, (r ++ [x]) :: l)).2 := by
    show (settle D.W (coinB D.word) (D.used, (D.add x).rows)).2 = _
    rw [e1]
  refine ⟨rfl, rfl, rfl, TwD.put1_fits x hW h4, ?_, ?_, ?_, ?_⟩
  · rw [hs, settle_tot hW]
    rw [hr] at h5
    simp only [totR, wsum, List.length_append, List.length_cons, List.length_nil] at h5 ⊢
    omega
  · rw [hs]; exact settle_short hW _
  · rw [hs]
    exact settle_full hW _ (by rw [hr] at h7; simpa using h7)
  · rw [hs]
    refine settle_all hW _ _ ?_
    rw [hr] at h8
    intro q hq v hv
    simp only [List.mem_cons] at hq
    rcases hq with rfl | hq
    · rcases List.mem_append.1 hv with hv | hv
      · exact h8 r (by simp) v hv
      · simp at hv; subst hv; exact hx
    · exact h8 q (by simp [hq]) v hv
theorem TwD.putN_ok {D : TwD} {W word n : Nat} (hW : 4 ≤ W) (h : D.ok W word n) {x : Int} (hx : x ≤ 9223372036854775807) (k : Nat) : (D.putN x k).ok W word (n + k) := by
  induction k with
  | zero => exact h
  | succ k ih => exact TwD.put1_ok hW ih hx
/-- What the statements ask of the document first. -/
def aliveD : Nat → TwD
  | 0 => TwD.new 4 0
  | k + 1 => ((aliveD k).ends (4 - k) (4 - k)).putN (4 - k) 1
theorem aliveD_ok (k : Nat) : (aliveD k).ok 4 0 k := by
  induction k with
  | zero => exact TwD.new_ok (by omega)
  | succ k ih => exact TwD.putN_ok (by omega) (TwD.ends_ok ih _ _) (by omega) 1
theorem aliveD_end : (aliveD 4).rows.map List.length = [2, 1] ∧ (aliveD 4).used = 1 := by decide
end Go.Proofs.Ytbaobiniianamaa
