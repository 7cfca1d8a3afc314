/-
  What is played: rows of tuples, and all values, by steps; that they can be, and where they stand. Conditions: none.
-/
import Derived.Test.YtkcldhimjnehdaaPlainPlaces
import Derived.Test.YtkcldhimjnehdaaPlacesMerge
namespace Go.Proofs.Ytkcldhimjnehdaa

structure Stp where
  x : Int
  lim : Nat
  sq : Bool
def upT (l : List Tp) (x : Int) : Nat := l.countP fun p => decide (p.x ≤ x)
def upSp (l : List Sp) (x : Int) : Nat := l.countP fun s => decide (s.x ≤ x)
theorem upSp_spF (n : Nat) (r : List Tp) (x : Int) : upSp (spF n r) x = upT r x := by
  induction r generalizing n with
  | nil => rfl
  | cons p r ih =>
    have := ih (n + p.st)
    simp only [upSp, upT] at this ⊢
    rw [spF, List.countP_cons, List.countP_cons, this]
theorem upT_parts (x : Int) : ∀ (l : List Tp), (l.Pairwise fun p q => p.x ≤ q.x) → (∀ p ∈ l.take (upT l x), p.x ≤ x) ∧ (∀ p ∈ l.drop (upT l x), x < p.x) := by
  intro l
  induction l with
  | nil => intro _; simp
  | cons p l ih =>
    intro h
    obtain ⟨h1, h2⟩ := List.pairwise_cons.1 h
    by_cases hp : p.x ≤ x
    · have e : upT (p :: l) x = upT l x + 1 := by simp [upT, hp]
      obtain ⟨a, b⟩ := ih h2
      rw [e, List.take_succ_cons, List.drop_succ_cons]
      exact ⟨fun q hq => by rcases List.mem_cons.1 hq with rfl | hq; exact hp; exact a q hq, b⟩
    · have e : upT (p :: l) x = 0 := by
        refine List.countP_eq_zero.2 (fun q hq => ?_)
        rcases List.mem_cons.1 hq with rfl | hq
        · simpa using hp
        · have := h1 q hq; simp; omega
      rw [e]
      refine ⟨by simp, fun q hq => ?_⟩
      rw [List.drop_zero] at hq
      rcases List.mem_cons.1 hq with rfl | hq
      · omega
      · have := h1 q hq; omega
theorem spF_x_mem {n : Nat} {r : List Tp} {s : Sp} (h : s ∈ spF n r) : ∃ p ∈ r, s.x = p.x := by
  induction r generalizing n with
  | nil => simp [spF] at h
  | cons p r ih =>
    rw [spF] at h
    rcases List.mem_cons.1 h with rfl | h
    · exact ⟨p, by simp, rfl⟩
    · obtain ⟨q, hq, hx⟩ := ih h
      exact ⟨q, by simp [hq], hx⟩
theorem spF_take (n k : Nat) (r : List Tp) : (spF n r).take k = spF n (r.take k) := by
  induction k generalizing n r with
  | zero => simp [spF]
  | succ k ih =>
    cases r with
    | nil => simp [spF]
    | cons p r => simp only [spF, List.take_succ_cons, ih]
theorem spF_drop_mem {n k : Nat} {r : List Tp} {s : Sp} (h : s ∈ (spF n r).drop k) : ∃ p ∈ r.drop k, s.x = p.x := by
  induction k generalizing n r with
  | zero => rw [List.drop_zero] at h ⊢; exact spF_x_mem h
  | succ k ih =>
    cases r with
    | nil => simp [spF] at h
    | cons p r =>
      rw [spF, List.drop_succ_cons] at h
      rw [List.drop_succ_cons]
      exact ih h
theorem spF_rise (n : Nat) (r : List Tp) (h : ∀ p ∈ r, 1 ≤ p.st) : (∀ s ∈ spF n r, n < s.lo) ∧ (spF n r).Pairwise fun s t => s.lo < t.lo := by
  induction r generalizing n with
  | nil => simp [spF]
  | cons p r ih =>
    have hp := h p (by simp)
    obtain ⟨a, b⟩ := ih (n + p.st) (fun q hq => h q (by simp [hq]))
    rw [spF]
    refine ⟨fun s hs => ?_, List.pairwise_cons.2 ⟨fun t ht => a t ht, b⟩⟩
    rcases List.mem_cons.1 hs with rfl | hs
    · simp only; omega
    · have := a s hs; omega
/-- One step of the play. -/
def playS (st : List Tp × List Int) (s : Stp) : List Tp × List Int :=
  if s.sq then (sqT s.lim st.1, st.2) else (insT st.1 s.x (upT st.1 s.x), st.2 ++ [s.x])
def playP (l : List Stp) : List Tp × List Int := l.foldl playS ([], [])
theorem playP_step (l : List Stp) (k : Nat) (h : k < l.length) : playP (l.take (k + 1)) = playS (playP (l.take k)) l[k] := by
  rw [playP, List.take_succ_eq_append_getElem h, List.foldl_append]
  rfl
/-- What is known of a row, and of all its values. -/
structure FineP (st : List Tp × List Int) (k : Nat) : Prop where
  fine : FineT st.1 st.2.length
  placed : Placed (spF 0 st.1) st.2
  len : st.1.length ≤ k
  all : st.2.length ≤ k
theorem insT_len' (l : List Tp) (x : Int) (k : Nat) (hk : k ≤ l.length) : (insT l x k).length = l.length + 1 := by
  simp [insT]; omega
theorem sqTo_len (m i : Nat) : ∀ row : List Tp, (0 < i → i + 1 < row.length) → (sqTo m i row).length ≤ row.length := by
  induction i with
  | zero => intro row _; exact Nat.le_refl _
  | succ i ih =>
    intro row h
    have h1 := h (by omega)
    rw [sqTo]
    rcases sqStep_len m (i + 1) row h1 with h2 | h2
    · have := ih (sqStep m (i + 1) row) (by omega); omega
    · have := ih (sqStep m (i + 1) row) (by omega); omega
theorem sqT_len (m : Nat) (row : List Tp) : (sqT m row).length ≤ row.length := sqTo_len m _ row (fun _ => by omega)
theorem FineP.step {st : List Tp × List Int} {k : Nat} (h : FineP st k) (s : Stp) : FineP (playS st s) (k + 1) := by
  obtain ⟨hf, hp, hl, ha⟩ := h
  rw [playS]
  split
  · exact ⟨hf.squeeze _, by rw [squeeze_same]; exact hp.squeeze _, by have := sqT_len s.lim st.1; simp only; omega, by simp only; omega⟩
  · have hle : upT st.1 s.x ≤ st.1.length := List.countP_le_length
    obtain ⟨a, b⟩ := upT_parts s.x st.1 hf.up
    have h1 := hf.insert s.x (upT st.1 s.x) hle a b
    refine ⟨by simpa using h1, ?_, by simp only; rw [insT_len' _ _ _ hle]; omega, by simp; omega⟩
    simp only
    rw [insert_same _ _ _ hle hf.pos]
    refine hp.insert s.x _ (by rw [spF_len]; exact hle) (fun t ht => ?_) (fun t ht => ?_) (by rw [totS_spF0, hf.total]) (fun h0 h1 => ?_)
    · rw [spF_take] at ht
      obtain ⟨p, hp, hx⟩ := spF_x_mem ht
      rw [hx]; exact a p hp
    · obtain ⟨p, hp, hx⟩ := spF_drop_mem ht
      rw [hx]; exact b p hp
    · have hr := (spF_rise 0 st.1 hf.pos).2
      have e1 : (spF 0 st.1).getD (upT st.1 s.x - 1) default = (spF 0 st.1)[upT st.1 s.x - 1]'(by omega) := by
        have : upT st.1 s.x - 1 < (spF 0 st.1).length := by omega
        simp [List.getD, this]
      have e2 : (spF 0 st.1).getD (upT st.1 s.x) default = (spF 0 st.1)[upT st.1 s.x] := by simp [List.getD, h1]
      rw [e1, e2]
      exact List.pairwise_iff_getElem.1 hr _ _ _ _ (by omega)
theorem playP_fine (l : List Stp) (k : Nat) : FineP (playP (l.take k)) (l.take k).length := by
  induction k with
  | zero => rw [List.take_zero]; exact ⟨FineT.nil, Placed.nil, Nat.le_refl _, Nat.le_refl _⟩
  | succ k ih =>
    by_cases h : k < l.length
    · rw [playP_step l k h]
      have := ih.step l[k]
      rw [List.length_take] at this ⊢
      rw [show min (k + 1) l.length = min k l.length + 1 from by omega]
      exact this
    · rw [List.take_of_length_le (by omega)] at ih ⊢
      exact ih
end Go.Proofs.Ytkcldhimjnehdaa
