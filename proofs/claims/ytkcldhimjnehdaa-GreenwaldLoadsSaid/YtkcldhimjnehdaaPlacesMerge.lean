/-
  Where the values of merged spots stand, plainly. Conditions: none.
-/
import Derived.Test.YtkcldhimjnehdaaPlainPlaces
namespace Go.Proofs.Ytkcldhimjnehdaa

/-- What is known of the rest of a row, in a merge: A: all its values; n: the least place that was reached; the other one's values B and rest. -/
structure Rest (a : List Sp) (A : List Int) (n : Nat) : Prop where
  all : ∀ s ∈ a, PlS A s
  low : ∀ s ∈ a, n < s.lo
  rise : a.Pairwise fun s t => s.lo < t.lo
  up : a.Pairwise fun s t => s.x ≤ t.x
  last : ∀ s, a.getLast? = some s → upC A s.x = A.length ∧ s.lo = A.length
  none : a = [] → n = A.length
theorem Rest.tail {s : Sp} {a : List Sp} {A : List Int} {n : Nat} (h : Rest (s :: a) A n) : Rest a A s.lo :=
  ⟨fun t ht => h.all t (by simp [ht]), fun t ht => (List.pairwise_cons.1 h.rise).1 t ht, (List.pairwise_cons.1 h.rise).2, (List.pairwise_cons.1 h.up).2,
    fun t ht => h.last t (by
      cases a with
      | nil => simp at ht
      | cons b a => simpa using ht),
    fun he => (h.last s (by subst he; rfl)).2⟩
theorem mrg_all : ∀ (a b : List Sp) (A B : List Int) (na nb : Nat), Rest a A na → Rest b B nb → (∀ s ∈ a, nb ≤ unC B s.x) → (∀ t ∈ b, na ≤ upC A t.x) → ∀ s ∈ mrgS na nb a b, PlS (A ++ B) s
  | [], [], A, B, na, nb, _, _, _, _ => by intro s hs; simp [mrgS] at hs
  | s :: a, [], A, B, na, nb, ha, hb, h1, h2 => by
    have ih := mrg_all a [] A B s.lo nb ha.tail hb (fun r hr => h1 r (by simp [hr])) (by simp)
    intro r hr
    rw [mrgS] at hr
    rcases List.mem_cons.1 hr with rfl | hr
    · obtain ⟨a1, a2, a3, a4⟩ := ha.all s (by simp)
      have b1 := h1 s (by simp)
      have b2 := hb.none rfl
      have b3 := unC_le B s.x
      have b4 := unC_le_up B s.x
      simp only [PlS]
      rw [upC_app, unC_app]
      exact ⟨by omega, by omega, by omega, by omega⟩
    · exact ih r hr
  | [], t :: b, A, B, na, nb, ha, hb, h1, h2 => by
    have ih := mrg_all [] b A B na t.lo ha hb.tail (by simp) (fun r hr => h2 r (by simp [hr]))
    intro r hr
    rw [mrgS] at hr
    rcases List.mem_cons.1 hr with rfl | hr
    · obtain ⟨a1, a2, a3, a4⟩ := hb.all t (by simp)
      have b1 := h2 t (by simp)
      have b2 := ha.none rfl
      have b3 := unC_le A t.x
      have b4 := unC_le_up A t.x
      simp only [PlS]
      rw [upC_app, unC_app]
      exact ⟨by omega, by omega, by omega, by omega⟩
    · exact ih r hr
  | s :: a, t :: b, A, B, na, nb, ha, hb, h1, h2 => by
    obtain ⟨a1, a2, a3, a4⟩ := ha.all s (by simp)
    obtain ⟨c1, c2, c3, c4⟩ := hb.all t (by simp)
    have d1 := ha.low s (by simp)
    have d2 := hb.low t (by simp)
    have d3 := h1 s (by simp)
    have d4 := h2 t (by simp)
    by_cases hle : s.x ≤ t.x
    · have ih := mrg_all a (t :: b) A B s.lo nb ha.tail hb (fun r hr => h1 r (by simp [hr])) (fun r hr => by
        have h3 : s.x ≤ r.x := by
          rcases List.mem_cons.1 hr with rfl | hr
          · exact hle
          · have := (List.pairwise_cons.1 hb.up).1 r hr; omega
        exact Nat.le_trans a1 (upC_mono A h3))
      intro r hr
      rw [mrgS, if_pos hle] at hr
      rcases List.mem_cons.1 hr with rfl | hr
      · have b3 := unC_mono B hle
        have b4 := unC_le_up B s.x
        simp only [PlS]
        rw [upC_app, unC_app]
        exact ⟨by omega, by omega, by omega, by omega⟩
      · exact ih r hr
    · have ih := mrg_all (s :: a) b A B na t.lo ha hb.tail (fun r hr => by
        have h3 : t.x < r.x := by
          rcases List.mem_cons.1 hr with rfl | hr
          · omega
          · have := (List.pairwise_cons.1 ha.up).1 r hr; omega
        exact Nat.le_trans c1 (unC_up B h3)) (fun r hr => h2 r (by simp [hr]))
      intro r hr
      rw [mrgS, if_neg hle] at hr
      rcases List.mem_cons.1 hr with rfl | hr
      · have b3 := unC_mono A (show t.x ≤ s.x by omega)
        have b4 := unC_le_up A t.x
        simp only [PlS]
        rw [upC_app, unC_app]
        exact ⟨by omega, by omega, by omega, by omega⟩
      · exact ih r hr
termination_by a b => a.length + b.length

theorem mrgS_nil : ∀ (a b : List Sp) (na nb : Nat), mrgS na nb a b = [] → a = [] ∧ b = []
  | [], [], _, _, _ => ⟨rfl, rfl⟩
  | s :: a, [], na, nb, h => by rw [mrgS] at h; simp at h
  | [], t :: b, na, nb, h => by rw [mrgS] at h; simp at h
  | s :: a, t :: b, na, nb, h => by
    rw [mrgS] at h
    split at h <;> simp at h
theorem last_cons {x y : Sp} {l : List Sp} (h : (x :: l).getLast? = some y) : (l = [] ∧ x = y) ∨ l.getLast? = some y := by
  cases l with
  | nil => left; simpa using h
  | cons a l => right; simpa using h
theorem mrg_last : ∀ (a b : List Sp) (A B : List Int) (na nb : Nat), Rest a A na → Rest b B nb → (b = [] → ∀ s ∈ a, upC B s.x = B.length) → (a = [] → ∀ t ∈ b, upC A t.x = A.length) →
    ∀ r, (mrgS na nb a b).getLast? = some r → upC (A ++ B) r.x = (A ++ B).length
  | [], [], A, B, na, nb, _, _, _, _ => by intro r hr; simp [mrgS] at hr
  | s :: a, [], A, B, na, nb, ha, hb, h3, h4 => by
    have ih := mrg_last a [] A B s.lo nb ha.tail hb (fun _ r hr => h3 rfl r (by simp [hr])) (fun _ => by simp)
    intro r hr
    rw [mrgS] at hr
    rcases last_cons hr with ⟨h5, rfl⟩ | h5
    · obtain ⟨rfl, _⟩ := mrgS_nil _ _ _ _ h5
      have b1 := (ha.last s rfl).1
      have b2 := h3 rfl s (by simp)
      simp only
      rw [upC_app, List.length_append, b1, b2]
    · exact ih r h5
  | [], t :: b, A, B, na, nb, ha, hb, h3, h4 => by
    have ih := mrg_last [] b A B na t.lo ha hb.tail (fun _ => by simp) (fun _ r hr => h4 rfl r (by simp [hr]))
    intro r hr
    rw [mrgS] at hr
    rcases last_cons hr with ⟨h5, rfl⟩ | h5
    · obtain ⟨_, rfl⟩ := mrgS_nil _ _ _ _ h5
      have b1 := (hb.last t rfl).1
      have b2 := h4 rfl t (by simp)
      simp only
      rw [upC_app, List.length_append, b1, b2]
    · exact ih r h5
  | s :: a, t :: b, A, B, na, nb, ha, hb, h3, h4 => by
    by_cases hle : s.x ≤ t.x
    · have ih := mrg_last a (t :: b) A B s.lo nb ha.tail hb (fun he => absurd he (by simp)) (fun he r hr => by
        subst he
        have b1 := (ha.last s rfl).1
        have h5 : s.x ≤ r.x := by
          rcases List.mem_cons.1 hr with rfl | hr
          · exact hle
          · have := (List.pairwise_cons.1 hb.up).1 r hr; omega
        have b2 := upC_mono A h5
        have b3 := upC_le A r.x
        omega)
      intro r hr
      rw [mrgS, if_pos hle] at hr
      rcases last_cons hr with ⟨h5, _⟩ | h5
      · have := (mrgS_nil _ _ _ _ h5).2
        simp at this
      · exact ih r h5
    · have ih := mrg_last (s :: a) b A B na t.lo ha hb.tail (fun he r hr => by
        subst he
        have b1 := (hb.last t rfl).1
        have h5 : t.x ≤ r.x := by
          rcases List.mem_cons.1 hr with rfl | hr
          · omega
          · have := (List.pairwise_cons.1 ha.up).1 r hr; omega
        have b2 := upC_mono B h5
        have b3 := upC_le B r.x
        omega) (fun he => absurd he (by simp))
      intro r hr
      rw [mrgS, if_neg hle] at hr
      rcases last_cons hr with ⟨h5, _⟩ | h5
      · have := (mrgS_nil _ _ _ _ h5).1
        simp at this
      · exact ih r h5
termination_by a b => a.length + b.length
/-- A whole row, as the rest of itself. -/
theorem Placed.rest {l : List Sp} {A : List Int} (h : Placed l A) (hlow : ∀ s ∈ l, 0 < s.lo) (hrise : l.Pairwise fun s t => s.lo < t.lo) (hup : l.Pairwise fun s t => s.x ≤ t.x) (hn : totS l = A.length) : Rest l A 0 :=
  ⟨h.all, hlow, hrise, hup, fun s hs => ⟨h.most s hs, by rw [totS, hs] at hn; exact hn⟩, fun he => by rw [h.none he]; rfl⟩
theorem Placed.merge {a b : List Sp} {A B : List Int} (ha : Placed a A) (hb : Placed b B) (ra : Rest a A 0) (rb : Rest b B 0) : Placed (mrgS 0 0 a b) (A ++ B) := by
  refine ⟨mrg_all a b A B 0 0 ra rb (fun _ _ => Nat.zero_le _) (fun _ _ => Nat.zero_le _), ?_, mrg_last a b A B 0 0 ra rb (fun he s _ => by rw [hb.none he]; rfl) (fun he s _ => by rw [ha.none he]; rfl), fun he => ?_⟩
  · intro r hr
    cases a with
    | nil =>
      have hA := ha.none rfl
      cases b with
      | nil => simp [mrgS] at hr
      | cons t b =>
        rw [mrgS] at hr
        simp only [List.head?_cons, Option.some.injEq] at hr
        subst hr
        simp only
        rw [hA, unC_app, hb.least t rfl]
        rfl
    | cons s a =>
      cases b with
      | nil =>
        rw [mrgS] at hr
        simp only [List.head?_cons, Option.some.injEq] at hr
        subst hr
        simp only
        rw [hb.none rfl, unC_app, ha.least s rfl]
        rfl
      | cons t b =>
        have l1 := ha.least s rfl
        have l2 := hb.least t rfl
        rw [mrgS] at hr
        split at hr
        · next hle =>
          simp only [List.head?_cons, Option.some.injEq] at hr
          subst hr
          have := unC_mono B hle
          simp only
          rw [unC_app]
          omega
        · next hle =>
          simp only [List.head?_cons, Option.some.injEq] at hr
          subst hr
          have := unC_mono A (show t.x ≤ s.x by omega)
          simp only
          rw [unC_app]
          omega
  · obtain ⟨h1, h2⟩ := mrgS_nil _ _ _ _ he
    rw [ha.none h1, hb.none h2]
    rfl
end Go.Proofs.Ytkcldhimjnehdaa
