/-
  Two rows that were played, merged: what comes can be, and stands where it should. Conditions: none.
-/
import Derived.Test.YtkcldhimjnehdaaPlainPlay
import Derived.Test.YtkcldhimjnehdaaPlainMerge
import Derived.Test.YtkcldhimjnehdaaPlacesMerge
namespace Go.Proofs.Ytkcldhimjnehdaa

theorem mrgT_left (p : Tp) (a : List Tp) : mrgT (p :: a) [] = p :: a := by unfold mrgT; rfl
theorem mrgT_nil (b : List Tp) : mrgT [] b = b := by unfold mrgT; rfl
theorem mrgT_le {p q : Tp} (a b : List Tp) (h : p.x ≤ q.x) : mrgT (p :: a) (q :: b) = ⟨p.x, p.st, p.sl + (q.st + q.sl - 1)⟩ :: mrgT a (q :: b) := by rw [mrgT, if_pos h]
theorem mrgT_gt {p q : Tp} (a b : List Tp) (h : ¬ p.x ≤ q.x) : mrgT (p :: a) (q :: b) = ⟨q.x, q.st, q.sl + (p.st + p.sl - 1)⟩ :: mrgT (p :: a) b := by rw [mrgT, if_neg h]
theorem mrgT_mem : ∀ (a b : List Tp) (r : Tp), r ∈ mrgT a b → ∃ p, (p ∈ a ∨ p ∈ b) ∧ r.x = p.x ∧ r.st = p.st
  | [], b, r, h => by rw [mrgT_nil] at h; exact ⟨r, .inr h, rfl, rfl⟩
  | p :: a, [], r, h => by rw [mrgT_left] at h; exact ⟨r, .inl h, rfl, rfl⟩
  | p :: a, q :: b, r, h => by
    by_cases hle : p.x ≤ q.x
    · rw [mrgT_le a b hle] at h
      rcases List.mem_cons.1 h with rfl | h
      · exact ⟨p, .inl (by simp), rfl, rfl⟩
      · obtain ⟨t, ht, h1, h2⟩ := mrgT_mem a (q :: b) r h
        exact ⟨t, ht.imp (fun h => by simp [h]) id, h1, h2⟩
    · rw [mrgT_gt a b hle] at h
      rcases List.mem_cons.1 h with rfl | h
      · exact ⟨q, .inr (by simp), rfl, rfl⟩
      · obtain ⟨t, ht, h1, h2⟩ := mrgT_mem (p :: a) b r h
        exact ⟨t, ht.imp id (fun h => by simp [h]), h1, h2⟩
termination_by a b => a.length + b.length
theorem mrgT_tot : ∀ (a b : List Tp), tot (mrgT a b) = tot a + tot b
  | [], b => by rw [mrgT_nil]; simp [tot]
  | p :: a, [] => by rw [mrgT_left]; simp [tot]
  | p :: a, q :: b => by
    by_cases hle : p.x ≤ q.x
    · rw [mrgT_le a b hle, tot_cons, mrgT_tot a (q :: b), tot_cons, tot_cons]; simp only; omega
    · rw [mrgT_gt a b hle, tot_cons, mrgT_tot (p :: a) b, tot_cons, tot_cons]; simp only; omega
termination_by a b => a.length + b.length
theorem mrgT_len : ∀ (a b : List Tp), (mrgT a b).length = a.length + b.length
  | [], b => by rw [mrgT_nil]; simp
  | p :: a, [] => by rw [mrgT_left]; simp
  | p :: a, q :: b => by
    by_cases hle : p.x ≤ q.x
    · rw [mrgT_le a b hle, List.length_cons, mrgT_len a (q :: b)]; simp; omega
    · rw [mrgT_gt a b hle, List.length_cons, mrgT_len (p :: a) b]; simp; omega
termination_by a b => a.length + b.length
theorem mrgT_up : ∀ (a b : List Tp), (a.Pairwise fun p q => p.x ≤ q.x) → (b.Pairwise fun p q => p.x ≤ q.x) → (mrgT a b).Pairwise fun p q => p.x ≤ q.x
  | [], b, _, hb => by rw [mrgT_nil]; exact hb
  | p :: a, [], ha, _ => by rw [mrgT_left]; exact ha
  | p :: a, q :: b, ha, hb => by
    obtain ⟨ha1, ha2⟩ := List.pairwise_cons.1 ha
    obtain ⟨hb1, hb2⟩ := List.pairwise_cons.1 hb
    by_cases hle : p.x ≤ q.x
    · rw [mrgT_le a b hle]
      refine List.pairwise_cons.2 ⟨fun r hr => ?_, mrgT_up a (q :: b) ha2 hb⟩
      obtain ⟨t, ht, h1, _⟩ := mrgT_mem _ _ r hr
      simp only
      rcases ht with ht | ht
      · have := ha1 t ht; omega
      · rcases List.mem_cons.1 ht with rfl | ht
        · omega
        · have := hb1 t ht; omega
    · rw [mrgT_gt a b hle]
      refine List.pairwise_cons.2 ⟨fun r hr => ?_, mrgT_up (p :: a) b ha hb2⟩
      obtain ⟨t, ht, h1, _⟩ := mrgT_mem _ _ r hr
      simp only
      rcases ht with ht | ht
      · rcases List.mem_cons.1 ht with rfl | ht
        · omega
        · have := ha1 t ht; omega
      · have := hb1 t ht; omega
termination_by a b => a.length + b.length
theorem mrgS_high (NA NB : Nat) : ∀ (a b : List Sp) (na nb : Nat), (∀ s ∈ a, s.hi ≤ NA ∧ s.lo ≤ s.hi) → (∀ s ∈ b, s.hi ≤ NB ∧ s.lo ≤ s.hi) → na ≤ NA → nb ≤ NB → ∀ r ∈ mrgS na nb a b, r.hi ≤ NA + NB
  | [], [], _, _, _, _, _, _, r, h => by simp [mrgS] at h
  | s :: a, [], na, nb, ha, hb, h1, h2, r, h => by
    have hs := ha s (by simp)
    rw [mrgS] at h
    rcases List.mem_cons.1 h with rfl | h
    · simp only; omega
    · exact mrgS_high NA NB a [] s.lo nb (fun t ht => ha t (by simp [ht])) hb (by omega) h2 r h
  | [], t :: b, na, nb, ha, hb, h1, h2, r, h => by
    have ht := hb t (by simp)
    rw [mrgS] at h
    rcases List.mem_cons.1 h with rfl | h
    · simp only; omega
    · exact mrgS_high NA NB [] b na t.lo ha (fun s hs => hb s (by simp [hs])) h1 (by omega) r h
  | s :: a, t :: b, na, nb, ha, hb, h1, h2, r, h => by
    have hs := ha s (by simp)
    have ht := hb t (by simp)
    rw [mrgS] at h
    split at h
    · rcases List.mem_cons.1 h with rfl | h
      · simp only; omega
      · exact mrgS_high NA NB a (t :: b) s.lo nb (fun t ht => ha t (by simp [ht])) hb (by omega) h2 r h
    · rcases List.mem_cons.1 h with rfl | h
      · simp only; omega
      · exact mrgS_high NA NB (s :: a) b na t.lo ha (fun s hs => hb s (by simp [hs])) h1 (by omega) r h
termination_by a b => a.length + b.length
theorem spF_lohi (n : Nat) (r : List Tp) : ∀ s ∈ spF n r, n ≤ s.lo ∧ s.lo ≤ s.hi := by
  induction r generalizing n with
  | nil => intro s hs; simp [spF] at hs
  | cons p r ih =>
    intro s hs
    rw [spF] at hs
    rcases List.mem_cons.1 hs with rfl | hs
    · simp only; omega
    · have := ih (n + p.st) s hs
      omega
theorem spF_merge {a b : List Tp} {na nb : Nat} (ha : FineT a na) (hb : FineT b nb) : spF 0 (mrgT a b) = mrgS 0 0 (spF 0 a) (spF 0 b) := mrg_same a b 0 0 ha.pos hb.pos
theorem FineT.merge {a b : List Tp} {na nb : Nat} (ha : FineT a na) (hb : FineT b nb) : FineT (mrgT a b) (na + nb) := by
  refine ⟨?_, ?_, ?_, ?_, mrgT_up a b ha.up hb.up⟩
  · rw [mrgT_tot, ha.total, hb.total]
  · intro r hr
    obtain ⟨p, hp, _, h2⟩ := mrgT_mem a b r hr
    rw [h2]
    rcases hp with hp | hp
    · exact ha.pos p hp
    · exact hb.pos p hp
  · intro r hr
    cases a with
    | nil => rw [mrgT_nil] at hr; exact hb.first r hr
    | cons p a =>
      have h1 := ha.first p rfl
      cases b with
      | nil => rw [mrgT_left] at hr; exact ha.first r hr
      | cons q b =>
        have h2 := hb.first q rfl
        by_cases hle : p.x ≤ q.x
        · rw [mrgT_le a b hle] at hr
          simp only [List.head?_cons, Option.some.injEq] at hr
          subst hr
          simp only
          omega
        · rw [mrgT_gt a b hle] at hr
          simp only [List.head?_cons, Option.some.injEq] at hr
          subst hr
          simp only
          omega
  · rw [spF_merge ha hb]
    exact mrgS_high na nb _ _ 0 0 (fun s hs => ⟨ha.high s hs, (spF_lohi 0 a s hs).2⟩) (fun s hs => ⟨hb.high s hs, (spF_lohi 0 b s hs).2⟩) (Nat.zero_le _) (Nat.zero_le _)
theorem spF_xup (n : Nat) {r : List Tp} (h : r.Pairwise fun p q => p.x ≤ q.x) : (spF n r).Pairwise fun p q => p.x ≤ q.x := by
  induction r generalizing n with
  | nil => exact List.Pairwise.nil
  | cons p r ih =>
    obtain ⟨h1, h2⟩ := List.pairwise_cons.1 h
    rw [spF]
    refine List.pairwise_cons.2 ⟨fun s hs => ?_, ih _ h2⟩
    obtain ⟨q, hq, hx⟩ := spF_x_mem hs
    rw [hx]
    exact h1 q hq
theorem Placed.restF {r : List Tp} {A : List Int} (h : Placed (spF 0 r) A) (hf : FineT r A.length) : Rest (spF 0 r) A 0 := by
  have hr := spF_rise 0 r hf.pos
  exact h.rest (fun s hs => by have := hr.1 s hs; omega) hr.2 (spF_xup 0 hf.up) (by rw [totS_spF0, hf.total])
/-- Of merged rows, squeezed or not. -/
theorem merged {a b : List Tp} {A B : List Int} (ha : FineT a A.length) (hb : FineT b B.length) (pa : Placed (spF 0 a) A) (pb : Placed (spF 0 b) B) :
    FineT (mrgT a b) (A ++ B).length ∧ Placed (spF 0 (mrgT a b)) (A ++ B) := by
  rw [List.length_append]
  refine ⟨ha.merge hb, ?_⟩
  rw [spF_merge ha hb]
  exact pa.merge pb (pa.restF ha) (pb.restF hb)
end Go.Proofs.Ytkcldhimjnehdaa
