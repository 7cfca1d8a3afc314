/-
  Rows that are joined, plainly: the order plays no part. Conditions: none.
-/
import Derived.Test.YtgpnnfgaphcklaaRunsAddsW
namespace Go.Proofs.Ytgpnnfgaphcklaa

theorem cntI_refAdd {l : List Pr} (hr : rises l) (i : Int) (c : Nat) (j : Int) : cntI (refAdd l i c) j = cntI l j + if i = j then c else 0 := by
  obtain ⟨A, M, B, h⟩ := parted hr i
  have e1 : cntI l j = cntI A j + cntI M j + cntI B j := by rw [h.eq, cntI_app, cntI_app]
  rw [refAdd, h.filter_lt, h.filter_gt, cntI_app, cntI_app, h.cnt, e1]
  have one : ∀ c, cntI [⟨i, c⟩] j = if i = j then c else 0 := fun c => by simp [cntI]
  rcases h.mid with rfl | ⟨c0, rfl⟩
  · have hz : ∀ j, cntI [] j = 0 := fun j => rfl
    rw [hz, hz, Nat.zero_add]
    by_cases hc : 0 < c
    · rw [if_pos hc, one]; omega
    · have : c = 0 := by omega
      subst this
      rw [if_neg (by omega), hz]
      split <;> omega
  · have hz : cntI [⟨i, c0⟩] i = c0 := by simp [cntI]
    rw [hz, one]
    by_cases hc : 0 < c0 + c
    · rw [if_pos hc, one]
      split <;> omega
    · rw [if_neg hc]
      have : cntI ([] : List Pr) j = 0 := rfl
      split <;> omega
/-- Two rows that rise, without nothings, that count alike are one. -/
theorem rows_same : ∀ (a b : List Pr), rises a → rises b → (∀ p ∈ a, 1 ≤ p.c) → (∀ p ∈ b, 1 ≤ p.c) → (∀ i, cntI a i = cntI b i) → a = b := by
  have cons : ∀ (p : Pr) (l : List Pr) (i : Int), cntI (p :: l) i = (if p.i = i then p.c else 0) + cntI l i := fun p l i => by simp [cntI]
  have hd : ∀ (p : Pr) (l : List Pr), rises (p :: l) → cntI l p.i = 0 ∧ cntI (p :: l) p.i = p.c := fun p l h => by
    have h0 := cntI_none (a := l) (i := p.i) (fun q hq => by have := rises_head h q hq; omega)
    exact ⟨h0, by rw [cons, if_pos rfl, h0]; rfl⟩
  have lo : ∀ (p : Pr) (l : List Pr) (i : Int), rises (p :: l) → i < p.i → cntI (p :: l) i = 0 := fun p l i h hi =>
    cntI_none (fun q hq => by
      rcases List.mem_cons.1 hq with rfl | hq
      · omega
      · have := rises_head h q hq; omega)
  intro a
  induction a with
  | nil =>
    intro b _ hb _ hb1 he
    cases b with
    | nil => rfl
    | cons q b =>
      have h1 := he q.i
      rw [(hd q b hb).2] at h1
      have := hb1 q (by simp)
      have hz : cntI [] q.i = 0 := rfl
      omega
  | cons p a ih =>
    intro b ha hb ha1 hb1 he
    cases b with
    | nil =>
      have h1 := he p.i
      rw [(hd p a ha).2] at h1
      have := ha1 p (by simp)
      have hz : cntI [] p.i = 0 := rfl
      omega
    | cons q b =>
      have hpc := ha1 p (by simp)
      have hqc := hb1 q (by simp)
      have hi : p.i = q.i := by
        rcases Int.lt_trichotomy p.i q.i with h | h | h
        · have h1 := he p.i
          rw [(hd p a ha).2, lo q b p.i hb h] at h1
          omega
        · exact h
        · have h1 := he q.i
          rw [(hd q b hb).2, lo p a q.i ha h] at h1
          omega
      have hc : p.c = q.c := by
        have h1 := he p.i
        rw [(hd p a ha).2, hi, (hd q b hb).2] at h1
        exact h1
      have hpq : p = q := by
        cases p; cases q
        simp only at hi hc
        subst hi hc
        rfl
      subst hpq
      rw [ih b (rises_tail ha) (rises_tail hb) (fun r hr => ha1 r (by simp [hr])) (fun r hr => hb1 r (by simp [hr])) (fun i => by
        have := he i
        rw [cons, cons] at this
        omega)]
theorem addAll_ok (ps : List Pr) : ∀ L, rises L → (∀ p ∈ L, 1 ≤ p.c) → rises (addAll ps L) ∧ (∀ p ∈ addAll ps L, 1 ≤ p.c) ∧ ∀ i, cntI (addAll ps L) i = cntI L i + cntI ps i := by
  induction ps with
  | nil => intro L h1 h2; exact ⟨h1, h2, fun i => by simp [addAll, cntI]⟩
  | cons p ps ih =>
    intro L h1 h2
    obtain ⟨q1, q2, q3⟩ := ih (refAdd L p.i p.c) (refAdd_rises h1 p.c) (refAdd_pos h2 p.c)
    refine ⟨q1, q2, fun i => ?_⟩
    have : addAll (p :: ps) L = addAll ps (refAdd L p.i p.c) := rfl
    rw [this, q3, cntI_refAdd h1]
    have e : cntI (p :: ps) i = (if p.i = i then p.c else 0) + cntI ps i := by simp [cntI]
    rw [e]
    omega
theorem addAll_perm {ps qs : List Pr} (h : ∀ i, cntI ps i = cntI qs i) : addAll ps [] = addAll qs [] := by
  have hn : rises ([] : List Pr) := fun j k _ hk => by simp at hk
  obtain ⟨a1, a2, a3⟩ := addAll_ok ps [] hn (by simp)
  obtain ⟨b1, b2, b3⟩ := addAll_ok qs [] hn (by simp)
  exact rows_same _ _ a1 b1 a2 b2 (fun i => by rw [a3, b3, h])
theorem cntI_flat (rows : List (List Pr)) (i : Int) : cntI rows.flatten i = (rows.map fun l => cntI l i).sum := by
  induction rows with
  | nil => rfl
  | cons l rows ih => rw [List.flatten_cons, cntI_app, ih]; simp
/-- Rows in the other order tell the same. -/
theorem addAll_reverse (rows : List (List Pr)) : addAll rows.reverse.flatten [] = addAll rows.flatten [] :=
  addAll_perm (fun i => by rw [cntI_flat, cntI_flat, List.map_reverse, List.sum_reverse])
theorem addAll_append (ps qs L : List Pr) : addAll (ps ++ qs) L = addAll qs (addAll ps L) := List.foldl_append
end Go.Proofs.Ytgpnnfgaphcklaa
