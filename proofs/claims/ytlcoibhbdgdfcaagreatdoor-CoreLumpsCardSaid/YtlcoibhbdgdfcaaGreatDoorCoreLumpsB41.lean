/-
  Additions to rows of pairs, plainly: how the document adds and how the program does. Conditions: none.
-/
import Derived.Test.YtlcoibhbdgdfcaaGreatDoorCoreLumpsB40
namespace Go.Proofs.YtlcoibhbdgdfcaaGreatDoor

def cntI (l : List Pr) (i : Int) : Nat := (l.map fun p => if p.i = i then p.c else 0).sum
/-- How the document adds. -/
def refAdd (l : List Pr) (i : Int) (c : Nat) : List Pr := l.filter (fun p => decide (p.i < i)) ++ (if 0 < cntI l i + c then [⟨i, cntI l i + c⟩] else []) ++ l.filter (fun p => decide (i < p.i))
/-- How the program does. -/
def addV (l : List Pr) (i : Int) (c : Nat) : List Pr :=
  if c = 0 then l else if hasI l i then l.set (cntLt l i) ⟨i, (l.getD (cntLt l i) default).c + c⟩ else l.take (cntLt l i) ++ [⟨i, c⟩] ++ l.drop (cntLt l i)

theorem rises_tail {p : Pr} {l : List Pr} (h : rises (p :: l)) : rises l := fun j k hjk hk => by
  have := h (j + 1) (k + 1) (by omega) (by simpa using hk)
  simpa using this
theorem rises_head {p : Pr} {l : List Pr} (h : rises (p :: l)) : ∀ q ∈ l, p.i < q.i := fun q hq => by
  obtain ⟨k, hk, rfl⟩ := List.getElem_of_mem hq
  have := h 0 (k + 1) (by omega) (by simpa using hk)
  simpa using this
theorem rises_cons {p : Pr} {l : List Pr} (h : rises l) (hp : ∀ q ∈ l, p.i < q.i) : rises (p :: l) := fun j k hjk hk => by
  cases k with
  | zero => omega
  | succ k =>
    have hk' : k < l.length := by simpa using hk
    cases j with
    | zero => simpa using hp _ (List.getElem_mem hk')
    | succ j => simpa using h j k (by omega) hk'
theorem rises_app {a b : List Pr} (ha : rises a) (hb : rises b) (hab : ∀ p ∈ a, ∀ q ∈ b, p.i < q.i) : rises (a ++ b) := by
  induction a with
  | nil => simpa using hb
  | cons p a ih =>
    refine rises_cons (ih (rises_tail ha) (fun p hp q hq => hab p (by simp [hp]) q hq)) (fun q hq => ?_)
    rcases List.mem_append.1 hq with h | h
    · exact rises_head ha q h
    · exact hab p (by simp) q h
theorem rises_left {a b : List Pr} (h : rises (a ++ b)) : rises a := by
  induction a with
  | nil => intro j k _ hk; simp at hk
  | cons p a ih => exact rises_cons (ih (rises_tail h)) (fun q hq => rises_head h q (by simp [hq]))
theorem rises_right {a b : List Pr} (h : rises (a ++ b)) : rises b := by
  induction a with
  | nil => simpa using h
  | cons p a ih => exact ih (rises_tail h)

/-- A row that rises, parted at an index. -/
structure Parted (l : List Pr) (i : Int) (A M B : List Pr) : Prop where
  eq : l = A ++ M ++ B
  lo : ∀ p ∈ A, p.i < i
  hi : ∀ p ∈ B, i < p.i
  mid : M = [] ∨ ∃ c, M = [⟨i, c⟩]
theorem parted {l : List Pr} (h : rises l) (i : Int) : ∃ A M B, Parted l i A M B := by
  induction l with
  | nil => exact ⟨[], [], [], rfl, by simp, by simp, .inl rfl⟩
  | cons p l ih =>
    obtain ⟨A, M, B, e, h1, h2, h3⟩ := ih (rises_tail h)
    have hp := rises_head h
    rcases Int.lt_trichotomy p.i i with hlt | heq | hgt
    · exact ⟨p :: A, M, B, by rw [e]; simp, by simpa using ⟨hlt, h1⟩, h2, h3⟩
    · refine ⟨[], [p], l, rfl, by simp, fun q hq => by have := hp q hq; omega, .inr ⟨p.c, ?_⟩⟩
      cases p
      simp only at heq
      subst heq
      rfl
    · exact ⟨[], [], p :: l, rfl, by simp, fun q hq => by
        rcases List.mem_cons.1 hq with rfl | hq
        · exact hgt
        · have := hp q hq; omega, .inl rfl⟩
theorem cntI_app (a b : List Pr) (i : Int) : cntI (a ++ b) i = cntI a i + cntI b i := by simp [cntI]
theorem cntI_none {a : List Pr} {i : Int} (h : ∀ p ∈ a, p.i ≠ i) : cntI a i = 0 := by
  induction a with
  | nil => rfl
  | cons p a ih =>
    have h1 := h p (by simp)
    have h2 := ih (fun q hq => h q (by simp [hq]))
    rw [cntI] at h2 ⊢
    simp [h1, h2]
section
variable {l A M B : List Pr} {i : Int}
theorem Parted.filter_lt (h : Parted l i A M B) : l.filter (fun p => decide (p.i < i)) = A := by
  have e1 : A.filter (fun p => decide (p.i < i)) = A := List.filter_eq_self.2 (fun p hp => by simpa using h.lo p hp)
  have e2 : B.filter (fun p => decide (p.i < i)) = [] := List.filter_eq_nil_iff.2 (fun p hp => by have := h.hi p hp; simp; omega)
  rw [h.eq, List.filter_append, List.filter_append, e1, e2]
  rcases h.mid with rfl | ⟨c, rfl⟩ <;> simp
theorem Parted.filter_gt (h : Parted l i A M B) : l.filter (fun p => decide (i < p.i)) = B := by
  have e1 : B.filter (fun p => decide (i < p.i)) = B := List.filter_eq_self.2 (fun p hp => by simpa using h.hi p hp)
  have e2 : A.filter (fun p => decide (i < p.i)) = [] := List.filter_eq_nil_iff.2 (fun p hp => by have := h.lo p hp; simp; omega)
  rw [h.eq, List.filter_append, List.filter_append, e1, e2]
  rcases h.mid with rfl | ⟨c, rfl⟩ <;> simp
theorem Parted.cnt (h : Parted l i A M B) : cntI l i = cntI M i := by
  rw [h.eq, cntI_app, cntI_app, cntI_none (fun p hp => by have := h.lo p hp; omega), cntI_none (a := B) (fun p hp => by have := h.hi p hp; omega)]
  omega
theorem Parted.lt (h : Parted l i A M B) : cntLt l i = A.length := by
  rw [cntLt, List.countP_eq_length_filter, h.filter_lt]
theorem Parted.has (h : Parted l i A M B) : hasI l i = !M.isEmpty := by
  have e1 : (A.any fun p => p.i == i) = false := List.any_eq_false.2 (fun p hp => by have := h.lo p hp; simp; omega)
  have e2 : (B.any fun p => p.i == i) = false := List.any_eq_false.2 (fun p hp => by have := h.hi p hp; simp; omega)
  rw [hasI, h.eq, List.any_append, List.any_append, e1, e2]
  rcases h.mid with rfl | ⟨c, rfl⟩ <;> simp
/-- The two ways of adding are one, of rows that rise and have no nothings. -/
theorem add_same (hr : rises l) (h1 : ∀ p ∈ l, 1 ≤ p.c) (c : Nat) : refAdd l i c = addV l i c := by
  obtain ⟨A, M, B, h⟩ := parted hr i
  rw [refAdd, addV, h.filter_lt, h.filter_gt, h.cnt, h.lt, h.has]
  rcases h.mid with rfl | ⟨c0, rfl⟩
  · have hz : cntI [] i = 0 := rfl
    rw [hz, Nat.zero_add]
    have he := h.eq
    simp only [List.append_nil] at he
    by_cases hc : c = 0
    · rw [if_pos hc, hc]; simp [he]
    · rw [if_neg hc, if_pos (by omega)]
      simp [he]
  · have hz : cntI [⟨i, c0⟩] i = c0 := by simp [cntI]
    have hc0 : 1 ≤ c0 := h1 ⟨i, c0⟩ (by rw [h.eq]; simp)
    rw [hz, if_pos (by omega)]
    by_cases hc : c = 0
    · rw [if_pos hc, hc, h.eq]; rfl
    · rw [if_neg hc, h.eq]
      simp [List.getD]
theorem refAdd_rises (hr : rises l) (c : Nat) : rises (refAdd l i c) := by
  obtain ⟨A, M, B, h⟩ := parted hr i
  rw [refAdd, h.filter_lt, h.filter_gt]
  have he := h.eq
  rw [he] at hr
  have hA := rises_left (rises_left hr)
  have hB := rises_right hr
  have one : ∀ c, rises [⟨i, c⟩] := fun c j k hjk hk => by simp at hk; omega
  split
  · exact rises_app (rises_app hA (one _) (fun p hp q hq => by simp at hq; subst hq; exact h.lo p hp)) hB (fun p hp q hq => by
      have hq := h.hi q hq
      rcases List.mem_append.1 hp with hp | hp
      · have := h.lo p hp; omega
      · simp at hp; subst hp; exact hq)
  · rw [List.append_nil]
    exact rises_app hA hB (fun p hp q hq => by have := h.lo p hp; have := h.hi q hq; omega)
theorem refAdd_pos (h1 : ∀ p ∈ l, 1 ≤ p.c) (c : Nat) : ∀ p ∈ refAdd l i c, 1 ≤ p.c := by
  intro p hp
  rw [refAdd] at hp
  simp only [List.mem_append, List.mem_filter] at hp
  rcases hp with (hp | hp) | hp
  · exact h1 p hp.1
  · split at hp
    · simp at hp; subst hp; simp only; omega
    · simp at hp
  · exact h1 p hp.1
theorem cntI_le (hr : rises l) {m : Nat} (hm : ∀ p ∈ l, p.c ≤ m) (i : Int) : cntI l i ≤ m := by
  obtain ⟨A, M, B, h⟩ := parted hr i
  rw [h.cnt]
  rcases h.mid with rfl | ⟨c0, rfl⟩
  · exact Nat.zero_le _
  · have := hm ⟨i, c0⟩ (by rw [h.eq]; simp)
    simpa [cntI] using this
theorem refAdd_max (hr : rises l) {m : Nat} (hm : ∀ p ∈ l, p.c ≤ m) (c : Nat) : ∀ p ∈ refAdd l i c, p.c ≤ m + c := by
  intro p hp
  rw [refAdd] at hp
  simp only [List.mem_append, List.mem_filter] at hp
  have hc := cntI_le hr hm i
  rcases hp with (hp | hp) | hp
  · have := hm p hp.1; omega
  · split at hp
    · simp at hp; subst hp; simp only; omega
    · simp at hp
  · have := hm p hp.1; omega
theorem refAdd_ix (hr : ∀ p ∈ l, -9223372036854775808 ≤ p.i ∧ p.i < 9223372036854775808) (hi : -9223372036854775808 ≤ i ∧ i < 9223372036854775808) (c : Nat) : ∀ p ∈ refAdd l i c, -9223372036854775808 ≤ p.i ∧ p.i < 9223372036854775808 := by
  intro p hp
  rw [refAdd] at hp
  simp only [List.mem_append, List.mem_filter] at hp
  rcases hp with (hp | hp) | hp
  · exact hr p hp.1
  · split at hp
    · simp at hp; subst hp; exact hi
    · simp at hp
  · exact hr p hp.1
theorem refAdd_len (hr : rises l) (c : Nat) : (refAdd l i c).length ≤ l.length + 1 := by
  obtain ⟨A, M, B, h⟩ := parted hr i
  rw [refAdd, h.filter_lt, h.filter_gt]
  have := congrArg List.length h.eq
  simp only [List.length_append] at this ⊢
  split
  · simp; omega
  · simp; omega
end
theorem cntI_tot (l : List Pr) (i : Int) : cntI l i ≤ totP l := by
  induction l with
  | nil => exact Nat.le_refl _
  | cons p l ih =>
    rw [cntI] at ih ⊢
    rw [totP_cons, List.map_cons, List.sum_cons]
    split <;> omega
theorem Parted.tot {l A M B : List Pr} {i : Int} (h : Parted l i A M B) : totP l = totP A + totP M + totP B := by
  rw [h.eq, totP_app, totP_app]
theorem refAdd_tot {l : List Pr} {i : Int} (hr : rises l) (c : Nat) : totP (refAdd l i c) = totP l + c := by
  obtain ⟨A, M, B, h⟩ := parted hr i
  rw [refAdd, h.filter_lt, h.filter_gt, h.cnt, totP_app, totP_app, h.tot]
  rcases h.mid with rfl | ⟨c0, rfl⟩
  · have hz : cntI [] i = 0 := rfl
    rw [hz]
    split
    · simp [totP]; omega
    · simp [totP]; omega
  · have hz : cntI [⟨i, c0⟩] i = c0 := by simp [cntI]
    rw [hz]
    split
    · simp [totP]; omega
    · simp [totP]; omega
end Go.Proofs.YtlcoibhbdgdfcaaGreatDoor
