/-
  Where the values of spots stand among all values, plainly. Conditions: none.
-/
import Derived.Test.YtkcldhimjnehdaaPlainMerge
namespace Go.Proofs.Ytkcldhimjnehdaa

def upC (A : List Int) (x : Int) : Nat := A.countP fun y => decide (y ≤ x)
def unC (A : List Int) (x : Int) : Nat := A.countP fun y => decide (y < x)
theorem upC_mono (A : List Int) {x y : Int} (h : x ≤ y) : upC A x ≤ upC A y := List.countP_mono_left (fun z _ hz => by simp at hz ⊢; omega)
theorem unC_mono (A : List Int) {x y : Int} (h : x ≤ y) : unC A x ≤ unC A y := List.countP_mono_left (fun z _ hz => by simp at hz ⊢; omega)
theorem unC_up (A : List Int) {x y : Int} (h : x < y) : upC A x ≤ unC A y := List.countP_mono_left (fun z _ hz => by simp at hz ⊢; omega)
theorem unC_le (A : List Int) (x : Int) : unC A x ≤ A.length := List.countP_le_length
theorem upC_snoc (A : List Int) (v x : Int) : upC (A ++ [v]) x = upC A x + if v ≤ x then 1 else 0 := by
  simp [upC, List.countP_append, List.countP_cons]
theorem unC_snoc (A : List Int) (v x : Int) : unC (A ++ [v]) x = unC A x + if v < x then 1 else 0 := by
  simp [unC, List.countP_append, List.countP_cons]
theorem upC_app (A B : List Int) (x : Int) : upC (A ++ B) x = upC A x + upC B x := List.countP_append
theorem unC_app (A B : List Int) (x : Int) : unC (A ++ B) x = unC A x + unC B x := List.countP_append

/-- A spot's value is among all, at a place between its least and its greatest one. -/
def PlS (A : List Int) (s : Sp) : Prop := s.lo ≤ upC A s.x ∧ unC A s.x + 1 ≤ s.hi ∧ s.lo ≤ s.hi ∧ unC A s.x < upC A s.x
/-- All spots stand so; the least and the greatest value are exact. -/
structure Placed (l : List Sp) (A : List Int) : Prop where
  all : ∀ s ∈ l, PlS A s
  least : ∀ s, l.head? = some s → unC A s.x = 0
  most : ∀ s, l.getLast? = some s → upC A s.x = A.length
  none : l = [] → A = []
theorem Placed.nil : Placed [] [] := ⟨by simp, by simp, by simp, fun _ => rfl⟩
theorem Placed.sub {l m : List Sp} {A : List Int} (h : Placed l A) (hs : ∀ s ∈ m, s ∈ l) (hf : m.head? = l.head?) (hl : m.getLast? = l.getLast?) : Placed m A :=
  ⟨fun s hs' => h.all s (hs s hs'), fun s h1 => h.least s (by rw [← hf]; exact h1), fun s h1 => h.most s (by rw [← hl]; exact h1), fun h1 => h.none (by
    subst h1
    cases l with
    | nil => rfl
    | cons a l => simp at hf)⟩
theorem sqStepS_ends (m i : Nat) (l : List Sp) (h0 : 0 < i) (h : i + 1 < l.length) : (∀ s ∈ sqStepS m i l, s ∈ l) ∧ (sqStepS m i l).head? = l.head? ∧ (sqStepS m i l).getLast? = l.getLast? := by
  unfold sqStepS
  split
  · have hsp := List.take_append_drop (i + 1) l
    have hd : l.drop (i + 1) ≠ [] := by
      intro he
      have := congrArg List.length he
      rw [List.length_drop, List.length_nil] at this
      omega
    refine ⟨fun s hs => ?_, ?_, ?_⟩
    · rcases List.mem_append.1 hs with hs | hs
      · exact List.mem_of_mem_take hs
      · exact List.mem_of_mem_drop hs
    · cases l with
      | nil => simp at h
      | cons a l =>
        cases i with
        | zero => omega
        | succ i => rfl
    · rw [List.getLast?_append]
      conv => rhs; rw [← hsp]
      rw [List.getLast?_append]
      cases hc : (l.drop (i + 1)).getLast? with
      | none => rw [List.getLast?_eq_none_iff] at hc; exact absurd hc hd
      | some s => rfl
  · exact ⟨fun s hs => hs, rfl, rfl⟩
theorem sqStepS_len (m i : Nat) (l : List Sp) (h : i + 1 < l.length) : (sqStepS m i l).length = l.length ∨ (sqStepS m i l).length + 1 = l.length := by
  unfold sqStepS
  split
  · right
    simp
    omega
  · exact .inl rfl
theorem Placed.squeeze {l : List Sp} {A : List Int} (h : Placed l A) (m : Nat) : Placed (sqS m l) A := by
  have gen : ∀ (i : Nat) (l : List Sp), Placed l A → (0 < i → i + 1 < l.length) → Placed (sqToS m i l) A := by
    intro i
    induction i with
    | zero => intro l h _; exact h
    | succ i ih =>
      intro l h hi
      have h1 := hi (by omega)
      obtain ⟨e1, e2, e3⟩ := sqStepS_ends m (i + 1) l (by omega) h1
      refine ih _ (h.sub e1 e2 e3) (fun h2 => ?_)
      rcases sqStepS_len m (i + 1) l h1 with h3 | h3 <;> omega
  exact gen _ l h (fun _ => by omega)

theorem unC_le_up (A : List Int) (x : Int) : unC A x ≤ upC A x := List.countP_mono_left (fun z _ hz => by simp at hz ⊢; omega)
theorem upC_le (A : List Int) (x : Int) : upC A x ≤ A.length := List.countP_le_length
theorem getD_mem {l : List Sp} {k : Nat} (h : k < l.length) : l.getD k default ∈ l := by
  simp only [List.getD, List.getElem?_eq_getElem h, Option.getD_some]
  exact List.getElem_mem _
theorem Placed.insert {l : List Sp} {A : List Int} (h : Placed l A) (x : Int) (k : Nat) (hk : k ≤ l.length) (hlo : ∀ s ∈ l.take k, s.x ≤ x) (hhi : ∀ s ∈ l.drop k, x < s.x) (hn : totS l = A.length)
    (hr : 0 < k → k < l.length → (l.getD (k - 1) default).lo < (l.getD k default).lo) : Placed (insS l x k) (A ++ [x]) := by
  have hsp := List.take_append_drop k l
  have hmin : k = 0 → unC A x = 0 := fun h0 => by
    subst h0
    cases l with
    | nil => rw [h.none rfl]; rfl
    | cons a l =>
      have h1 := h.least a rfl
      have h2 := hhi a (by simp)
      have := unC_mono A (show x ≤ a.x by omega)
      omega
  have hmax : k = l.length → upC A x = A.length := fun hl => by
    cases hc : l.getLast? with
    | none =>
      rw [List.getLast?_eq_none_iff] at hc
      rw [h.none hc]
      rfl
    | some s =>
      have h1 := h.most s hc
      have h2 := hlo s (by rw [hl, List.take_length]; exact List.mem_of_getLast? hc)
      have := upC_mono A h2
      have := upC_le A x
      omega
  have hmem1 : ∀ s ∈ l.take k, s ∈ l := fun s hs => List.mem_of_mem_take hs
  have hmem2 : ∀ s ∈ l.drop k, s ∈ l := fun s hs => List.mem_of_mem_drop hs
  have lows : ∀ s ∈ l.take k, upC A s.x ≤ upC (A ++ [x]) s.x ∧ unC (A ++ [x]) s.x = unC A s.x := fun s hs => by
    have := hlo s hs
    rw [upC_snoc, unC_snoc]
    exact ⟨by omega, by rw [if_neg (by omega)]; rfl⟩
  have highs : ∀ s ∈ l.drop k, upC (A ++ [x]) s.x = upC A s.x + 1 ∧ unC (A ++ [x]) s.x = unC A s.x + 1 := fun s hs => by
    have := hhi s hs
    rw [upC_snoc, unC_snoc, if_pos (by omega), if_pos (by omega)]
    exact ⟨rfl, rfl⟩
  have own : upC (A ++ [x]) x = upC A x + 1 ∧ unC (A ++ [x]) x = unC A x := by
    rw [upC_snoc, unC_snoc, if_pos (by omega), if_neg (by omega)]
    exact ⟨rfl, rfl⟩
  refine ⟨fun s hs => ?_, fun s hs => ?_, fun s hs => ?_, fun he => ?_⟩
  · rw [insS] at hs
    simp only [List.mem_append, List.mem_singleton] at hs
    rcases hs with (hs | hs) | hs
    · obtain ⟨a1, a2, a3, a4⟩ := h.all s (hmem1 s hs)
      obtain ⟨b1, b2⟩ := lows s hs
      exact ⟨by omega, by omega, a3, by omega⟩
    · subst hs
      have hu := unC_le_up A x
      simp only [PlS]
      rw [own.1, own.2, hn]
      by_cases hend : k = l.length
      · rw [if_pos hend, if_pos hend, hmax hend]
        have := unC_le A x
        exact ⟨Nat.le_refl _, by omega, Nat.le_refl _, by omega⟩
      · rw [if_neg hend, if_neg hend]
        by_cases h0 : 0 < k
        · rw [if_pos h0, if_pos h0]
          have hkl : k < l.length := by omega
          have m1 : l.getD (k - 1) default ∈ l.take k := by
            rw [List.mem_iff_getElem]
            refine ⟨k - 1, by rw [List.length_take]; omega, ?_⟩
            rw [List.getElem_take]
            simp [List.getD, show k - 1 < l.length by omega]
          have m2 : l.getD k default ∈ l.drop k := by
            rw [List.mem_iff_getElem]
            refine ⟨0, by rw [List.length_drop]; omega, ?_⟩
            rw [List.getElem_drop]
            simp [List.getD, hkl]
          obtain ⟨a1, _, _, _⟩ := h.all _ (hmem1 _ m1)
          obtain ⟨_, c2, c3, _⟩ := h.all _ (hmem2 _ m2)
          have d1 := upC_mono A (hlo _ m1)
          have d2 := unC_mono A (show x ≤ (l.getD k default).x by have := hhi _ m2; omega)
          have d3 := hr h0 hkl
          exact ⟨by omega, by omega, by omega, by omega⟩
        · rw [if_neg h0, if_neg h0, hmin (by omega)]
          exact ⟨by omega, by omega, by omega, by omega⟩
    · simp only [moveUp, List.mem_map] at hs
      obtain ⟨s0, hs0, rfl⟩ := hs
      obtain ⟨a1, a2, a3, a4⟩ := h.all s0 (hmem2 s0 hs0)
      obtain ⟨b1, b2⟩ := highs s0 hs0
      simp only [PlS]
      exact ⟨by omega, by omega, by omega, by omega⟩
  · by_cases h0 : k = 0
    · subst h0
      rw [insS] at hs
      simp only [List.take_zero, List.nil_append, List.singleton_append, List.head?_cons, Option.some.injEq] at hs
      subst hs
      simp only
      rw [own.2]
      exact hmin rfl
    · cases hc : l.take k with
      | nil =>
        have := congrArg List.length hc
        rw [List.length_take, List.length_nil] at this
        have hl0 : l.length = 0 := by omega
        omega
      | cons a r =>
        rw [insS, hc] at hs
        simp only [List.cons_append, List.head?_cons, Option.some.injEq] at hs
        subst hs
        rw [(lows a (by rw [hc]; simp)).2]
        refine h.least a ?_
        rw [← hsp, hc]
        rfl
  · rw [List.length_append, List.length_singleton]
    rw [insS, List.getLast?_append] at hs
    cases hc : (moveUp (l.drop k)).getLast? with
    | none =>
      rw [List.getLast?_eq_none_iff, moveUp, List.map_eq_nil_iff] at hc
      have hend : k = l.length := by
        have := congrArg List.length hc
        rw [List.length_drop, List.length_nil] at this
        omega
      rw [hc] at hs
      simp only [moveUp, List.map_nil, List.getLast?_nil, Option.none_or, List.getLast?_append, List.getLast?_singleton, Option.some_or, Option.some.injEq] at hs
      subst hs
      simp only
      rw [own.1, hmax hend]
    | some t =>
      rw [hc, Option.some_or, Option.some.injEq] at hs
      subst hs
      rw [moveUp, List.getLast?_map] at hc
      cases hd : (l.drop k).getLast? with
      | none => rw [hd] at hc; simp at hc
      | some t0 =>
        rw [hd] at hc
        simp only [Option.map_some, Option.some.injEq] at hc
        subst hc
        have hm : t0 ∈ l.drop k := List.mem_of_getLast? hd
        simp only
        rw [(highs t0 hm).1]
        have := h.most t0 (by rw [← hsp, List.getLast?_append, hd]; rfl)
        omega
  · rw [insS] at he
    simp at he
end Go.Proofs.Ytkcldhimjnehdaa
