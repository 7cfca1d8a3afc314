/-
  Where the values of merged spots stand, plainly. Conditions: none.
  What is played: rows of tuples, and all values, by steps; that they can be, and where they stand. Conditions: none.
  Two rows that were played, merged: what comes can be, and stands where it should. Conditions: none.
  Find and Rank of tuples, plainly: how close what they answer is. Conditions: none.
-/
import Derived.Test.YtmehcfocfljoeaaGreatDoorSlotsErrorsB17
namespace Go.Proofs.YtmehcfocfljoeaaGreatDoor

/-- What is known of the rest of a row, in a merge: A: all its values; n: the least place that was reached; the other one's values B and rest. -/
structure Rest (a : List Sp) (A : List Int) (n : Nat) : Prop where
  all : ∀ s ∈ a, PlS A s
  low : ∀ s ∈ a, n < s.lo
  rise : a.Pairwise fun s t => s.lo < t.lo
  up : a.Pairwise fun s t => s.x ≤ t.x
  last : ∀ s, a.getLast? = some s → upC A s.x = A.length ∧ s.lo = A.length
  none : a = [] → n = A.length
theorem Rest.tail {s : Sp} {a : List Sp} {A : List Int} {n : Nat} (h : Rest (s :: a) A n) : Rest a A s.lo :=
  ⟨fun t ht => h.all t (by simp [ht]), fun t ht => (List.pairwise_cons.1 h.rise).1 t ht, (List.pairwise_cons.1 h.rise).2, (List.pairwise_cons.1 h.up).2,
    fun t ht => h.last t (by
      cases a with
      | nil => simp at ht
      | cons b a => simpa using ht),
    fun he => (h.last s (by subst he; rfl)).2⟩
theorem mrg_all : ∀ (a b : List Sp) (A B : List Int) (na nb : Nat), Rest a A na → Rest b B nb → (∀ s ∈ a, nb ≤ unC B s.x) → (∀ t ∈ b, na ≤ upC A t.x) → ∀ s ∈ mrgS na nb a b, PlS (A ++ B) s
  | [], [], A, B, na, nb, _, _, _, _ => by intro s hs; simp [mrgS] at hs
  | s :: a, [], A, B, na, nb, ha, hb, h1, h2 => by
    have ih := mrg_all a [] A B s.lo nb ha.tail hb (fun r hr => h1 r (by simp [hr])) (by simp)
    intro r hr
    rw [mrgS] at hr
    rcases List.mem_cons.1 hr with rfl | hr
    · obtain ⟨a1, a2, a3, a4⟩ := ha.all s (by simp)
      have b1 := h1 s (by simp)
      have b2 := hb.none rfl
      have b3 := unC_le B s.x
      have b4 := unC_le_up B s.x
      simp only [PlS]
      rw [upC_app, unC_app]
      exact ⟨by omega, by omega, by omega, by omega⟩
    · exact ih r hr
  | [], t :: b, A, B, na, nb, ha, hb, h1, h2 => by
    have ih := mrg_all [] b A B na t.lo ha hb.tail (by simp) (fun r hr => h2 r (by simp [hr]))
    intro r hr
    rw [mrgS] at hr
    rcases List.mem_cons.1 hr with rfl | hr
    · obtain ⟨a1, a2, a3, a4⟩ := hb.all t (by simp)
      have b1 := h2 t (by simp)
      have b2 := ha.none rfl
      have b3 := unC_le A t.x
      have b4 := unC_le_up A t.x
      simp only [PlS]
      rw [upC_app, unC_app]
      exact ⟨by omega, by omega, by omega, by omega⟩
    · exact ih r hr
  | s :: a, t :: b, A, B, na, nb, ha, hb, h1, h2 => by
    obtain ⟨a1, a2, a3, a4⟩ := ha.all s (by simp)
    obtain ⟨c1, c2, c3, c4⟩ := hb.all t (by simp)
    have d1 := ha.low s (by simp)
    have d2 := hb.low t (by simp)
    have d3 := h1 s (by simp)
    have d4 := h2 t (by simp)
    by_cases hle : s.x ≤ t.x
    · have ih := mrg_all a (t :: b) A B s.lo nb ha.tail hb (fun r hr => h1 r (by simp [hr])) (fun r hr => by
        have h3 : s.x ≤ r.x := by
          rcases List.mem_cons.1 hr with rfl | hr
          · exact hle
          · have := (List.pairwise_cons.1 hb.up).1 r hr; omega
        exact Nat.le_trans a1 (upC_mono A h3))
      intro r hr
      rw [mrgS, if_pos hle] at hr
      rcases List.mem_cons.1 hr with rfl | hr
      · have b3 := unC_mono B hle
        have b4 := unC_le_up B s.x
        simp only [PlS]
        rw [upC_app, unC_app]
        exact ⟨by omega, by omega, by omega, by omega⟩
      · exact ih r hr
    · have ih := mrg_all (s :: a) b A B na t.lo ha hb.tail (fun r hr => by
        have h3 : t.x < r.x := by
          rcases List.mem_cons.1 hr with rfl | hr
          · omega
          · have := (List.pairwise_cons.1 ha.up).1 r hr; omega
        exact Nat.le_trans c1 (unC_up B h3)) (fun r hr => h2 r (by simp [hr]))
      intro r hr
      rw [mrgS, if_neg hle] at hr
      rcases List.mem_cons.1 hr with rfl | hr
      · have b3 := unC_mono A (show t.x ≤ s.x by omega)
        have b4 := unC_le_up A t.x
        simp only [PlS]
        rw [upC_app, unC_app]
        exact ⟨by omega, by omega, by omega, by omega⟩
      · exact ih r hr
termination_by a b => a.length + b.length

theorem mrgS_nil : ∀ (a b : List Sp) (na nb : Nat), mrgS na nb a b = [] → a = [] ∧ b = []
  | [], [], _, _, _ => ⟨rfl, rfl⟩
  | s :: a, [], na, nb, h => by rw [mrgS] at h; simp at h
  | [], t :: b, na, nb, h => by rw [mrgS] at h; simp at h
  | s :: a, t :: b, na, nb, h => by
    rw [mrgS] at h
    split at h <;> simp at h
theorem last_cons {x y : Sp} {l : List Sp} (h : (x :: l).getLast? = some y) : (l = [] ∧ x = y) ∨ l.getLast? = some y := by
  cases l with
  | nil => left; simpa using h
  | cons a l => right; simpa using h
theorem mrg_last : ∀ (a b : List Sp) (A B : List Int) (na nb : Nat), Rest a A na → Rest b B nb → (b = [] → ∀ s ∈ a, upC B s.x = B.length) → (a = [] → ∀ t ∈ b, upC A t.x = A.length) →
    ∀ r, (mrgS na nb a b).getLast? = some r → upC (A ++ B) r.x = (A ++ B).length
  | [], [], A, B, na, nb, _, _, _, _ => by intro r hr; simp [mrgS] at hr
  | s :: a, [], A, B, na, nb, ha, hb, h3, h4 => by
    have ih := mrg_last a [] A B s.lo nb ha.tail hb (fun _ r hr => h3 rfl r (by simp [hr])) (fun _ => by simp)
    intro r hr
    rw [mrgS] at hr
    rcases last_cons hr with ⟨h5, rfl⟩ | h5
    · obtain ⟨rfl, _⟩ := mrgS_nil _ _ _ _ h5
      have b1 := (ha.last s rfl).1
      have b2 := h3 rfl s (by simp)
      simp only
      rw [upC_app, List.length_append, b1, b2]
    · exact ih r h5
  | [], t :: b, A, B, na, nb, ha, hb, h3, h4 => by
    have ih := mrg_last [] b A B na t.lo ha hb.tail (fun _ => by simp) (fun _ r hr => h4 rfl r (by simp [hr]))
    intro r hr
    rw [mrgS] at hr
    rcases last_cons hr with ⟨h5, rfl⟩ | h5
    · obtain ⟨_, rfl⟩ := mrgS_nil _ _ _ _ h5
      have b1 := (hb.last t rfl).1
      have b2 := h4 rfl t (by simp)
      simp only
      rw [upC_app, List.length_append, b1, b2]
    · exact ih r h5
  | s :: a, t :: b, A, B, na, nb, ha, hb, h3, h4 => by
    by_cases hle : s.x ≤ t.x
    · have ih := mrg_last a (t :: b) A B s.lo nb ha.tail hb (fun he => absurd he (by simp)) (fun he r hr => by
        subst he
        have b1 := (ha.last s rfl).1
        have h5 : s.x ≤ r.x := by
          rcases List.mem_cons.1 hr with rfl | hr
          · exact hle
          · have := (List.pairwise_cons.1 hb.up).1 r hr; omega
        have b2 := upC_mono A h5
        have b3 := upC_le A r.x
        omega)
      intro r hr
      rw [mrgS, if_pos hle] at hr
      rcases last_cons hr with ⟨h5, _⟩ | h5
      · have := (mrgS_nil _ _ _ _ h5).2
        simp at this
      · exact ih r h5
    · have ih := mrg_last (s :: a) b A B na t.lo ha hb.tail (fun he r hr => by
        subst he
        have b1 := (hb.last t rfl).1
        have h5 : t.x ≤ r.x := by
          rcases List.mem_cons.1 hr with rfl | hr
          · omega
          · have := (List.pairwise_cons.1 ha.up).1 r hr; omega
        have b2 := upC_mono B h5
        have b3 := upC_le B r.x
        omega) (fun he => absurd he (by simp))
      intro r hr
      rw [mrgS, if_neg hle] at hr
      rcases last_cons hr with ⟨h5, _⟩ | h5
      · have := (mrgS_nil _ _ _ _ h5).1
        simp at this
      · exact ih r h5
termination_by a b => a.length + b.length
/-- A whole row, as the rest of itself. -/
theorem Placed.rest {l : List Sp} {A : List Int} (h : Placed l A) (hlow : ∀ s ∈ l, 0 < s.lo) (hrise : l.Pairwise fun s t => s.lo < t.lo) (hup : l.Pairwise fun s t => s.x ≤ t.x) (hn : totS l = A.length) : Rest l A 0 :=
  ⟨h.all, hlow, hrise, hup, fun s hs => ⟨h.most s hs, by rw [totS, hs] at hn; exact hn⟩, fun he => by rw [h.none he]; rfl⟩
theorem Placed.merge {a b : List Sp} {A B : List Int} (ha : Placed a A) (hb : Placed b B) (ra : Rest a A 0) (rb : Rest b B 0) : Placed (mrgS 0 0 a b) (A ++ B) := by
  refine ⟨mrg_all a b A B 0 0 ra rb (fun _ _ => Nat.zero_le _) (fun _ _ => Nat.zero_le _), ?_, mrg_last a b A B 0 0 ra rb (fun he s _ => by rw [hb.none he]; rfl) (fun he s _ => by rw [ha.none he]; rfl), fun he => ?_⟩
  · intro r hr
    cases a with
    | nil =>
      have hA := ha.none rfl
      cases b with
      | nil => simp [mrgS] at hr
      | cons t b =>
        rw [mrgS] at hr
        simp only [List.head?_cons, Option.some.injEq] at hr
        subst hr
        simp only
        rw [hA, unC_app, hb.least t rfl]
        rfl
    | cons s a =>
      cases b with
      | nil =>
        rw [mrgS] at hr
        simp only [List.head?_cons, Option.some.injEq] at hr
        subst hr
        simp only
        rw [hb.none rfl, unC_app, ha.least s rfl]
        rfl
      | cons t b =>
        have l1 := ha.least s rfl
        have l2 := hb.least t rfl
        rw [mrgS] at hr
        split at hr
        · next hle =>
          simp only [List.head?_cons, Option.some.injEq] at hr
          subst hr
          have := unC_mono B hle
          simp only
          rw [unC_app]
          omega
        · next hle =>
          simp only [List.head?_cons, Option.some.injEq] at hr
          subst hr
          have := unC_mono A (show t.x ≤ s.x by omega)
          simp only
          rw [unC_app]
          omega
  · obtain ⟨h1, h2⟩ := mrgS_nil _ _ _ _ he
    rw [ha.none h1, hb.none h2]
    rfl
end Go.Proofs.YtmehcfocfljoeaaGreatDoor

namespace Go.Proofs.YtmehcfocfljoeaaGreatDoor

structure Stp where
  x : Int
  lim : Nat
  sq : Bool
def upT (l : List Tp) (x : Int) : Nat := l.countP fun p => decide (p.x ≤ x)
def upSp (l : List Sp) (x : Int) : Nat := l.countP fun s => decide (s.x ≤ x)
theorem upSp_spF (n : Nat) (r : List Tp) (x : Int) : upSp (spF n r) x = upT r x := by
  induction r generalizing n with
  | nil => rfl
  | cons p r ih =>
    have := ih (n + p.st)
    simp only [upSp, upT] at this ⊢
    rw [spF, List.countP_cons, List.countP_cons, this]
theorem upT_parts (x : Int) : ∀ (l : List Tp), (l.Pairwise fun p q => p.x ≤ q.x) → (∀ p ∈ l.take (upT l x), p.x ≤ x) ∧ (∀ p ∈ l.drop (upT l x), x < p.x) := by
  intro l
  induction l with
  | nil => intro _; simp
  | cons p l ih =>
    intro h
    obtain ⟨h1, h2⟩ := List.pairwise_cons.1 h
    by_cases hp : p.x ≤ x
    · have e : upT (p :: l) x = upT l x + 1 := by simp [upT, hp]
      obtain ⟨a, b⟩ := ih h2
      rw [e, List.take_succ_cons, List.drop_succ_cons]
      exact ⟨fun q hq => by rcases List.mem_cons.1 hq with rfl | hq; exact hp; exact a q hq, b⟩
    · have e : upT (p :: l) x = 0 := by
        refine List.countP_eq_zero.2 (fun q hq => ?_)
        rcases List.mem_cons.1 hq with rfl | hq
        · simpa using hp
        · have := h1 q hq; simp; omega
      rw [e]
      refine ⟨by simp, fun q hq => ?_⟩
      rw [List.drop_zero] at hq
      rcases List.mem_cons.1 hq with rfl | hq
      · omega
      · have := h1 q hq; omega
theorem spF_x_mem {n : Nat} {r : List Tp} {s : Sp} (h : s ∈ spF n r) : ∃ p ∈ r, s.x = p.x := by
  induction r generalizing n with
  | nil => simp [spF] at h
  | cons p r ih =>
    rw [spF] at h
    rcases List.mem_cons.1 h with rfl | h
    · exact ⟨p, by simp, rfl⟩
    · obtain ⟨q, hq, hx⟩ := ih h
      exact ⟨q, by simp [hq], hx⟩
theorem spF_take (n k : Nat) (r : List Tp) : (spF n r).take k = spF n (r.take k) := by
  induction k generalizing n r with
  | zero => simp [spF]
  | succ k ih =>
    cases r with
    | nil => simp [spF]
    | cons p r => simp only [spF, List.take_succ_cons, ih]
theorem spF_drop_mem {n k : Nat} {r : List Tp} {s : Sp} (h : s ∈ (spF n r).drop k) : ∃ p ∈ r.drop k, s.x = p.x := by
  induction k generalizing n r with
  | zero => rw [List.drop_zero] at h ⊢; exact spF_x_mem h
  | succ k ih =>
    cases r with
    | nil => simp [spF] at h
    | cons p r =>
      rw [spF, List.drop_succ_cons] at h
      rw [List.drop_succ_cons]
      exact ih h
theorem spF_rise (n : Nat) (r : List Tp) (h : ∀ p ∈ r, 1 ≤ p.st) : (∀ s ∈ spF n r, n < s.lo) ∧ (spF n r).Pairwise fun s t => s.lo < t.lo := by
  induction r generalizing n with
  | nil => simp [spF]
  | cons p r ih =>
    have hp := h p (by simp)
    obtain ⟨a, b⟩ := ih (n + p.st) (fun q hq => h q (by simp [hq]))
    rw [spF]
    refine ⟨fun s hs => ?_, List.pairwise_cons.2 ⟨fun t ht => a t ht, b⟩⟩
    rcases List.mem_cons.1 hs with rfl | hs
    · simp only; omega
    · have := a s hs; omega
/-- One step of the play. -/
def playS (st : List Tp × List Int) (s : Stp) : List Tp × List Int :=
  if s.sq then (sqT s.lim st.1, st.2) else (insT st.1 s.x (upT st.1 s.x), st.2 ++ [s.x])
def playP (l : List Stp) : List Tp × List Int := l.foldl playS ([], [])
theorem playP_step (l : List Stp) (k : Nat) (h : k < l.length) : playP (l.take (k + 1)) = playS (playP (l.take k)) l[k] := by
  rw [playP, List.take_succ_eq_append_getElem h, List.foldl_append]
  rfl
/-- What is known of a row, and of all its values. -/
structure FineP (st : List Tp × List Int) (k : Nat) : Prop where
  fine : FineT st.1 st.2.length
  placed : Placed (spF 0 st.1) st.2
  len : st.1.length ≤ k
  all : st.2.length ≤ k
theorem insT_len' (l : List Tp) (x : Int) (k : Nat) (hk : k ≤ l.length) : (insT l x k).length = l.length + 1 := by
  simp [insT]; omega
theorem sqTo_len (m i : Nat) : ∀ row : List Tp, (0 < i → i + 1 < row.length) → (sqTo m i row).length ≤ row.length := by
  induction i with
  | zero => intro row _; exact Nat.le_refl _
  | succ i ih =>
    intro row h
    have h1 := h (by omega)
    rw [sqTo]
    rcases sqStep_len m (i + 1) row h1 with h2 | h2
    · have := ih (sqStep m (i + 1) row) (by omega); omega
    · have := ih (sqStep m (i + 1) row) (by omega); omega
theorem sqT_len (m : Nat) (row : List Tp) : (sqT m row).length ≤ row.length := sqTo_len m _ row (fun _ => by omega)
theorem FineP.step {st : List Tp × List Int} {k : Nat} (h : FineP st k) (s : Stp) : FineP (playS st s) (k + 1) := by
  obtain ⟨hf, hp, hl, ha⟩ := h
  rw [playS]
  split
  · exact ⟨hf.squeeze _, by rw [squeeze_same]; exact hp.squeeze _, by have := sqT_len s.lim st.1; simp only; omega, by simp only; omega⟩
  · have hle : upT st.1 s.x ≤ st.1.length := List.countP_le_length
    obtain ⟨a, b⟩ := upT_parts s.x st.1 hf.up
    have h1 := hf.insert s.x (upT st.1 s.x) hle a b
    refine ⟨by simpa using h1, ?_, by simp only; rw [insT_len' _ _ _ hle]; omega, by simp; omega⟩
    simp only
    rw [insert_same _ _ _ hle hf.pos]
    refine hp.insert s.x _ (by rw [spF_len]; exact hle) (fun t ht => ?_) (fun t ht => ?_) (by rw [totS_spF0, hf.total]) (fun h0 h1 => ?_)
    · rw [spF_take] at ht
      obtain ⟨p, hp, hx⟩ := spF_x_mem ht
      rw [hx]; exact a p hp
    · obtain ⟨p, hp, hx⟩ := spF_drop_mem ht
      rw [hx]; exact b p hp
    · have hr := (spF_rise 0 st.1 hf.pos).2
      have e1 : (spF 0 st.1).getD (upT st.1 s.x - 1) default = (spF 0 st.1)[upT st.1 s.x - 1]'(by omega) := by
        have : upT st.1 s.x - 1 < (spF 0 st.1).length := by omega
        simp [List.getD, this]
      have e2 : (spF 0 st.1).getD (upT st.1 s.x) default = (spF 0 st.1)[upT st.1 s.x] := by simp [List.getD, h1]
      rw [e1, e2]
      exact List.pairwise_iff_getElem.1 hr _ _ _ _ (by omega)
theorem playP_fine (l : List Stp) (k : Nat) : FineP (playP (l.take k)) (l.take k).length := by
  induction k with
  | zero => rw [List.take_zero]; exact ⟨FineT.nil, Placed.nil, Nat.le_refl _, Nat.le_refl _⟩
  | succ k ih =>
    by_cases h : k < l.length
    · rw [playP_step l k h]
      have := ih.step l[k]
      rw [List.length_take] at this ⊢
      rw [show min (k + 1) l.length = min k l.length + 1 from by omega]
      exact this
    · rw [List.take_of_length_le (by omega)] at ih ⊢
      exact ih
end Go.Proofs.YtmehcfocfljoeaaGreatDoor

namespace Go.Proofs.YtmehcfocfljoeaaGreatDoor

theorem mrgT_left (p : Tp) (a : List Tp) : mrgT (p :: a) [] = p :: a := by unfold mrgT; rfl
theorem mrgT_nil (b : List Tp) : mrgT [] b = b := by unfold mrgT; rfl
theorem mrgT_le {p q : Tp} (a b : List Tp) (h : p.x ≤ q.x) : mrgT (p :: a) (q :: b) = ⟨p.x, p.st, p.sl + (q.st + q.sl - 1)⟩ :: mrgT a (q :: b) := by rw [mrgT, if_pos h]
theorem mrgT_gt {p q : Tp} (a b : List Tp) (h : ¬ p.x ≤ q.x) : mrgT (p :: a) (q :: b) = ⟨q.x, q.st, q.sl + (p.st + p.sl - 1)⟩ :: mrgT (p :: a) b := by rw [mrgT, if_neg h]
theorem mrgT_mem : ∀ (a b : List Tp) (r : Tp), r ∈ mrgT a b → ∃ p, (p ∈ a ∨ p ∈ b) ∧ r.x = p.x ∧ r.st = p.st
  | [], b, r, h => by rw [mrgT_nil] at h; exact ⟨r, .inr h, rfl, rfl⟩
  | p :: a, [], r, h => by rw [mrgT_left] at h; exact ⟨r, .inl h, rfl, rfl⟩
  | p :: a, q :: b, r, h => by
    by_cases hle : p.x ≤ q.x
    · rw [mrgT_le a b hle] at h
      rcases List.mem_cons.1 h with rfl | h
      · exact ⟨p, .inl (by simp), rfl, rfl⟩
      · obtain ⟨t, ht, h1, h2⟩ := mrgT_mem a (q :: b) r h
        exact ⟨t, ht.imp (fun h => by simp [h]) id, h1, h2⟩
    · rw [mrgT_gt a b hle] at h
      rcases List.mem_cons.1 h with rfl | h
      · exact ⟨q, .inr (by simp), rfl, rfl⟩
      · obtain ⟨t, ht, h1, h2⟩ := mrgT_mem (p :: a) b r h
        exact ⟨t, ht.imp id (fun h => by simp [h]), h1, h2⟩
termination_by a b => a.length + b.length
theorem mrgT_tot : ∀ (a b : List Tp), tot (mrgT a b) = tot a + tot b
  | [], b => by rw [mrgT_nil]; simp [tot]
  | p :: a, [] => by rw [mrgT_left]; simp [tot]
  | p :: a, q :: b => by
    by_cases hle : p.x ≤ q.x
    · rw [mrgT_le a b hle, tot_cons, mrgT_tot a (q :: b), tot_cons, tot_cons]; simp only; omega
    · rw [mrgT_gt a b hle, tot_cons, mrgT_tot (p :: a) b, tot_cons, tot_cons]; simp only; omega
termination_by a b => a.length + b.length
theorem mrgT_len : ∀ (a b : List Tp), (mrgT a b).length = a.length + b.length
  | [], b => by rw [mrgT_nil]; simp
  | p :: a, [] => by rw [mrgT_left]; simp
  | p :: a, q :: b => by
    by_cases hle : p.x ≤ q.x
    · rw [mrgT_le a b hle, List.length_cons, mrgT_len a (q :: b)]; simp; omega
    · rw [mrgT_gt a b hle, List.length_cons, mrgT_len (p :: a) b]; simp; omega
termination_by a b => a.length + b.length
theorem mrgT_up : ∀ (a b : List Tp), (a.Pairwise fun p q => p.x ≤ q.x) → (b.Pairwise fun p q => p.x ≤ q.x) → (mrgT a b).Pairwise fun p q => p.x ≤ q.x
  | [], b, _, hb => by rw [mrgT_nil]; exact hb
  | p :: a, [], ha, _ => by rw [mrgT_left]; exact ha
  | p :: a, q :: b, ha, hb => by
    obtain ⟨ha1, ha2⟩ := List.pairwise_cons.1 ha
    obtain ⟨hb1, hb2⟩ := List.pairwise_cons.1 hb
    by_cases hle : p.x ≤ q.x
    · rw [mrgT_le a b hle]
      refine List.pairwise_cons.2 ⟨fun r hr => ?_, mrgT_up a (q :: b) ha2 hb⟩
      obtain ⟨t, ht, h1, _⟩ := mrgT_mem _ _ r hr
      simp only
      rcases ht with ht | ht
      · have := ha1 t ht; omega
      · rcases List.mem_cons.1 ht with rfl | ht
        · omega
        · have := hb1 t ht; omega
    · rw [mrgT_gt a b hle]
      refine List.pairwise_cons.2 ⟨fun r hr => ?_, mrgT_up (p :: a) b ha hb2⟩
      obtain ⟨t, ht, h1, _⟩ := mrgT_mem _ _ r hr
      simp only
      rcases ht with ht | ht
      · rcases List.mem_cons.1 ht with rfl | ht
        · omega
        · have := ha1 t ht; omega
      · have := hb1 t ht; omega
termination_by a b => a.length + b.length
theorem mrgS_high (NA NB : Nat) : ∀ (a b : List Sp) (na nb : Nat), (∀ s ∈ a, s.hi ≤ NA ∧ s.lo ≤ s.hi) → (∀ s ∈ b, s.hi ≤ NB ∧ s.lo ≤ s.hi) → na ≤ NA → nb ≤ NB → ∀ r ∈ mrgS na nb a b, r.hi ≤ NA + NB
  | [], [], _, _, _, _, _, _, r, h => by simp [mrgS] at h
  | s :: a, [], na, nb, ha, hb, h1, h2, r, h => by
    have hs := ha s (by simp)
    rw [mrgS] at h
    rcases List.mem_cons.1 h with rfl | h
    · simp only; omega
    · exact mrgS_high NA NB a [] s.lo nb (fun t ht => ha t (by simp [ht])) hb (by omega) h2 r h
  | [], t :: b, na, nb, ha, hb, h1, h2, r, h => by
    have ht := hb t (by simp)
    rw [mrgS] at h
    rcases List.mem_cons.1 h with rfl | h
    · simp only; omega
    · exact mrgS_high NA NB [] b na t.lo ha (fun s hs => hb s (by simp [hs])) h1 (by omega) r h
  | s :: a, t :: b, na, nb, ha, hb, h1, h2, r, h => by
    have hs := ha s (by simp)
    have ht := hb t (by simp)
    rw [mrgS] at h
    split at h
    · rcases List.mem_cons.1 h with rfl | h
      · simp only; omega
      · exact mrgS_high NA NB a (t :: b) s.lo nb (fun t ht => ha t (by simp [ht])) hb (by omega) h2 r h
    · rcases List.mem_cons.1 h with rfl | h
      · simp only; omega
      · exact mrgS_high NA NB (s :: a) b na t.lo ha (fun s hs => hb s (by simp [hs])) h1 (by omega) r h
termination_by a b => a.length + b.length
theorem spF_lohi (n : Nat) (r : List Tp) : ∀ s ∈ spF n r, n ≤ s.lo ∧ s.lo ≤ s.hi := by
  induction r generalizing n with
  | nil => intro s hs; simp [spF] at hs
  | cons p r ih =>
    intro s hs
    rw [spF] at hs
    rcases List.mem_cons.1 hs with rfl | hs
    · simp only; omega
    · have := ih (n + p.st) s hs
      omega
theorem spF_merge {a b : List Tp} {na nb : Nat} (ha : FineT a na) (hb : FineT b nb) : spF 0 (mrgT a b) = mrgS 0 0 (spF 0 a) (spF 0 b) := mrg_same a b 0 0 ha.pos hb.pos
theorem FineT.merge {a b : List Tp} {na nb : Nat} (ha : FineT a na) (hb : FineT b nb) : FineT (mrgT a b) (na + nb) := by
  refine ⟨?_, ?_, ?_, ?_, mrgT_up a b ha.up hb.up⟩
  · rw [mrgT_tot, ha.total, hb.total]
  · intro r hr
    obtain ⟨p, hp, _, h2⟩ := mrgT_mem a b r hr
    rw [h2]
    rcases hp with hp | hp
    · exact ha.pos p hp
    · exact hb.pos p hp
  · intro r hr
    cases a with
    | nil => rw [mrgT_nil] at hr; exact hb.first r hr
    | cons p a =>
      have h1 := ha.first p rfl
      cases b with
      | nil => rw [mrgT_left] at hr; exact ha.first r hr
      | cons q b =>
        have h2 := hb.first q rfl
        by_cases hle : p.x ≤ q.x
        · rw [mrgT_le a b hle] at hr
          simp only [List.head?_cons, Option.some.injEq] at hr
          subst hr
          simp only
          omega
        · rw [mrgT_gt a b hle] at hr
          simp only [List.head?_cons, Option.some.injEq] at hr
          subst hr
          simp only
          omega
  · rw [spF_merge ha hb]
    exact mrgS_high na nb _ _ 0 0 (fun s hs => ⟨ha.high s hs, (spF_lohi 0 a s hs).2⟩) (fun s hs => ⟨hb.high s hs, (spF_lohi 0 b s hs).2⟩) (Nat.zero_le _) (Nat.zero_le _)
theorem spF_xup (n : Nat) {r : List Tp} (h : r.Pairwise fun p q => p.x ≤ q.x) : (spF n r).Pairwise fun p q => p.x ≤ q.x := by
  induction r generalizing n with
  | nil => exact List.Pairwise.nil
  | cons p r ih =>
    obtain ⟨h1, h2⟩ := List.pairwise_cons.1 h
    rw [spF]
    refine List.pairwise_cons.2 ⟨fun s hs => ?_, ih _ h2⟩
    obtain ⟨q, hq, hx⟩ := spF_x_mem hs
    rw [hx]
    exact h1 q hq
theorem Placed.restF {r : List Tp} {A : List Int} (h : Placed (spF 0 r) A) (hf : FineT r A.length) : Rest (spF 0 r) A 0 := by
  have hr := spF_rise 0 r hf.pos
  exact h.rest (fun s hs => by have := hr.1 s hs; omega) hr.2 (spF_xup 0 hf.up) (by rw [totS_spF0, hf.total])
/-- Of merged rows, squeezed or not. -/
theorem merged {a b : List Tp} {A B : List Int} (ha : FineT a A.length) (hb : FineT b B.length) (pa : Placed (spF 0 a) A) (pb : Placed (spF 0 b) B) :
    FineT (mrgT a b) (A ++ B).length ∧ Placed (spF 0 (mrgT a b)) (A ++ B) := by
  rw [List.length_append]
  refine ⟨ha.merge hb, ?_⟩
  rw [spF_merge ha hb]
  exact pa.merge pb (pa.restF ha) (pb.restF hb)
end Go.Proofs.YtmehcfocfljoeaaGreatDoor

namespace Go.Proofs.YtmehcfocfljoeaaGreatDoor

/-- How far a place lies at most from those between a least and a greatest one. -/
def offN (t lo hi : Nat) : Nat := max (t - lo) (hi - t)
/-- The first one of the closest. -/
def bestS (t : Nat) : Sp → List Sp → Sp
  | s, [] => s
  | s, r :: l => if offN t r.lo r.hi < offN t s.lo s.hi then bestS t r l else bestS t s l
theorem bestS_mem (t : Nat) (s : Sp) (l : List Sp) : bestS t s l ∈ s :: l := by
  induction l generalizing s with
  | nil => simp [bestS]
  | cons r l ih =>
    rw [bestS]
    split
    · have := ih r
      exact List.mem_cons_of_mem _ this
    · rcases List.mem_cons.1 (ih s) with h | h
      · rw [h]; simp
      · simp [h]
theorem bestS_min (t : Nat) (s : Sp) (l : List Sp) : ∀ r ∈ s :: l, offN t (bestS t s l).lo (bestS t s l).hi ≤ offN t r.lo r.hi := by
  induction l generalizing s with
  | nil => intro r hr; simp at hr; subst hr; exact Nat.le_refl _
  | cons q l ih =>
    intro r hr
    rw [bestS]
    split
    · next h =>
      rcases List.mem_cons.1 hr with rfl | hr
      · have := ih q q (by simp); omega
      · exact ih q r hr
    · next h =>
      rcases List.mem_cons.1 hr with rfl | hr
      · exact ih r r (by simp)
      · rcases List.mem_cons.1 hr with rfl | hr
        · have := ih s s (by simp); omega
        · exact ih s r (by simp [hr])
/-- There is one no further than half the greatest step and slack. -/
theorem close_one (t g : Nat) : ∀ (row : List Tp) (s : Sp), s.hi ≤ t + g / 2 → (∀ p ∈ row, p.st + p.sl ≤ g) → t ≤ s.lo + tot row → ∃ r ∈ s :: spF s.lo row, offN t r.lo r.hi ≤ g / 2
  | [], s, h1, _, h3 => by
    refine ⟨s, by simp, ?_⟩
    have : tot [] = 0 := rfl
    unfold offN
    omega
  | p :: row, s, h1, h2, h3 => by
    have hp := h2 p (by simp)
    by_cases hh : s.lo + p.st + p.sl ≤ t + g / 2
    · obtain ⟨r, hr, ho⟩ := close_one t g row ⟨p.x, s.lo + p.st, s.lo + p.st + p.sl⟩ hh (fun q hq => h2 q (by simp [hq])) (by rw [tot_cons] at h3; simp only; omega)
      refine ⟨r, ?_, ho⟩
      rw [spF]
      exact List.mem_cons_of_mem _ hr
    · refine ⟨s, by simp, ?_⟩
      unfold offN
      omega
/-- What Find answers is close. -/
theorem find_close {p : Tp} {row : List Tp} {A : List Int} {t g : Nat} (hA : Placed (spF 0 (p :: row)) A) (hp : p.st = 1 ∧ p.sl = 0) (hg : ∀ q ∈ p :: row, q.st + q.sl ≤ g) (h1 : 1 ≤ t) (h2 : t ≤ tot (p :: row)) :
    let s := bestS t ⟨p.x, p.st, p.st + p.sl⟩ (spF p.st row)
    unC A s.x + 1 ≤ t + g / 2 ∧ t ≤ upC A s.x + g / 2 ∧ unC A s.x < upC A s.x := by
  intro s
  have e : spF 0 (p :: row) = ⟨p.x, p.st, p.st + p.sl⟩ :: spF p.st row := by
    rw [spF]
    simp only [Nat.zero_add]
  obtain ⟨r, hr, ho⟩ := close_one t g row ⟨p.x, p.st, p.st + p.sl⟩ (by simp only; omega) (fun q hq => hg q (by simp [hq])) (by rw [tot_cons] at h2; simp only; omega)
  have hm := bestS_min t ⟨p.x, p.st, p.st + p.sl⟩ (spF p.st row) r hr
  obtain ⟨a1, a2, a3, a4⟩ := hA.all s (by rw [e]; exact bestS_mem t _ _)
  have hd : offN t s.lo s.hi ≤ g / 2 := Nat.le_trans hm ho
  unfold offN at hd
  exact ⟨by omega, by omega, a4⟩
/-- What Rank answers: the least and the greatest number of values up to one. -/
def rankF : Nat → List Tp → Int → Nat × Nat
  | n, [], _ => (n, n)
  | n, p :: row, x => if x < p.x then (n, n + p.st + p.sl - 1) else rankF (n + p.st) row x
theorem rank_ok {A : List Int} (x : Int) : ∀ (row : List Tp) (n : Nat), (∀ s ∈ spF n row, PlS A s) → n ≤ upC A x → (row = [] → upC A x ≤ n) → (∀ s, (spF n row).getLast? = some s → upC A s.x = A.length ∧ s.lo = A.length) →
    (rankF n row x).1 ≤ upC A x ∧ upC A x ≤ (rankF n row x).2
  | [], n, _, h2, h3, _ => ⟨h2, h3 rfl⟩
  | p :: row, n, h1, h2, _, h4 => by
    obtain ⟨a1, a2, a3, a4⟩ := h1 ⟨p.x, n + p.st, n + p.st + p.sl⟩ (by rw [spF]; simp)
    rw [rankF]
    by_cases hx : x < p.x
    · rw [if_pos hx]
      have := unC_up A hx
      simp only at a2 ⊢
      exact ⟨h2, by omega⟩
    · rw [if_neg hx]
      have hm := upC_mono A (show p.x ≤ x by omega)
      simp only at a1
      refine rank_ok x row (n + p.st) (fun s hs => h1 s (by rw [spF]; simp [hs])) (by omega) (fun he => ?_) (fun s hs => h4 s ?_)
      · subst he
        have := h4 ⟨p.x, n + p.st, n + p.st + p.sl⟩ (by simp [spF])
        simp only at this
        have := upC_le A x
        omega
      · rw [spF]
        cases hc : spF (n + p.st) row with
        | nil => rw [hc] at hs; simp at hs
        | cons b l => rw [hc] at hs; simpa using hs
end Go.Proofs.YtmehcfocfljoeaaGreatDoor
