/-
  Rows that are halved, and how many are not greater, plainly. Conditions: none.
-/
namespace Go.Proofs.Ytbaobiniianamaa

/-- Every other value of a row: those at even places, or at odd ones. -/
def halveL : List Int → Bool → List Int
  | [], _ => []
  | x :: l, false => x :: halveL l true
  | _ :: l, true => halveL l false
def upL (l : List Int) (x : Int) : Nat := l.countP fun y => decide (y ≤ x)
/-- Values that do not fall. -/
def up (l : List Int) : Prop := ∀ j k, (hjk : j < k) → (h : k < l.length) → l[j]'(by omega) ≤ l[k]
theorem up_tail {p : Int} {l : List Int} (h : up (p :: l)) : up l := fun j k hjk hk => by
  have := h (j + 1) (k + 1) (by omega) (by simpa using hk)
  simpa using this
theorem up_head {p : Int} {l : List Int} (h : up (p :: l)) : ∀ q ∈ l, p ≤ q := fun q hq => by
  obtain ⟨k, hk, rfl⟩ := List.getElem_of_mem hq
  have := h 0 (k + 1) (by omega) (by simpa using hk)
  simpa using this
theorem up_cons {p : Int} {l : List Int} (h : up l) (hp : ∀ q ∈ l, p ≤ q) : up (p :: l) := fun j k hjk hk => by
  cases k with
  | zero => omega
  | succ k =>
    have hk' : k < l.length := by simpa using hk
    cases j with
    | zero => simpa using hp _ (List.getElem_mem hk')
    | succ j => simpa using h j k (by omega) hk'
theorem halveL_sub (l : List Int) (s : Bool) : ∀ q ∈ halveL l s, q ∈ l := by
  induction l generalizing s with
  | nil => simp [halveL]
  | cons x l ih =>
    intro q hq
    cases s with
    | false =>
      rcases List.mem_cons.1 hq with rfl | hq
      · simp
      · exact List.mem_cons_of_mem _ (ih true q hq)
    | true => exact List.mem_cons_of_mem _ (ih false q hq)
theorem halveL_up {l : List Int} (h : up l) (s : Bool) : up (halveL l s) := by
  induction l generalizing s with
  | nil => exact h
  | cons x l ih =>
    cases s with
    | false => exact up_cons (ih (up_tail h) true) (fun q hq => up_head h q (halveL_sub l true q hq))
    | true => exact ih (up_tail h) false
theorem upL_cons (x y : Int) (l : List Int) : upL (y :: l) x = upL l x + if y ≤ x then 1 else 0 := by
  simp [upL, List.countP_cons]
theorem upL_none {l : List Int} {x : Int} (h : ∀ q ∈ l, ¬ q ≤ x) : upL l x = 0 := by
  rw [upL, List.countP_eq_zero]
  intro q hq
  simpa using h q hq
/-- Of a row in order: the half from the first place on has the upper half of those that aren't greater, the other the lower one. -/
theorem halves {l : List Int} (h : up l) (x : Int) : upL (halveL l false) x = (upL l x + 1) / 2 ∧ upL (halveL l true) x = upL l x / 2 := by
  induction l with
  | nil => exact ⟨by simp [halveL, upL], by simp [halveL, upL]⟩
  | cons y l ih =>
    obtain ⟨h1, h2⟩ := ih (up_tail h)
    by_cases hy : y ≤ x
    · show upL (y :: halveL l true) x = _ ∧ upL (halveL l false) x = _
      rw [upL_cons, upL_cons, h1, h2, if_pos hy]
      omega
    · have hn : ∀ q ∈ l, ¬ q ≤ x := fun q hq => by have := up_head h q hq; omega
      have z := upL_none hn
      have z1 := upL_none (l := halveL l true) (x := x) (fun q hq => hn q (halveL_sub l true q hq))
      have z2 := upL_none (l := halveL l false) (x := x) (fun q hq => hn q (halveL_sub l false q hq))
      show upL (y :: halveL l true) x = _ ∧ upL (halveL l false) x = _
      rw [upL_cons, upL_cons, z, z1, z2, if_neg hy]
      exact ⟨rfl, rfl⟩
/-- One value put into a row in order, behind those that aren't greater. -/
def put1 (l : List Int) (x : Int) : List Int := l.take (upL l x) ++ [x] ++ l.drop (upL l x)
def sortL (l : List Int) : List Int := l.foldl put1 []
theorem up_app {a b : List Int} (ha : up a) (hb : up b) (hab : ∀ p ∈ a, ∀ q ∈ b, p ≤ q) : up (a ++ b) := by
  induction a with
  | nil => simpa using hb
  | cons p a ih =>
    refine up_cons (ih (up_tail ha) (fun p hp q hq => hab p (by simp [hp]) q hq)) (fun q hq => ?_)
    rcases List.mem_append.1 hq with h | h
    · exact up_head ha q h
    · exact hab p (by simp) q h
theorem up_parted {l : List Int} (h : up l) (x : Int) : (∀ p ∈ l.take (upL l x), p ≤ x) ∧ (∀ p ∈ l.drop (upL l x), x < p) ∧ upL l x ≤ l.length := by
  induction l with
  | nil => simp [upL]
  | cons y l ih =>
    obtain ⟨h1, h2, h3⟩ := ih (up_tail h)
    rw [upL_cons]
    by_cases hy : y ≤ x
    · rw [if_pos hy, List.take_succ_cons, List.drop_succ_cons]
      refine ⟨fun p hp => ?_, h2, by simp; omega⟩
      rcases List.mem_cons.1 hp with rfl | hp
      · exact hy
      · exact h1 p hp
    · have z := upL_none (l := l) (x := x) (fun q hq => by have := up_head h q hq; omega)
      rw [if_neg hy, z]
      refine ⟨by simp, fun p hp => ?_, by simp⟩
      simp only [Nat.add_zero, List.drop_zero] at hp
      rcases List.mem_cons.1 hp with rfl | hp
      · omega
      · have := up_head h p hp; omega
theorem up_left {a b : List Int} (h : up (a ++ b)) : up a := by
  induction a with
  | nil => intro j k _ hk; simp at hk
  | cons p a ih => exact up_cons (ih (up_tail h)) (fun q hq => up_head h q (by simp [hq]))
theorem up_right {a b : List Int} (h : up (a ++ b)) : up b := by
  induction a with
  | nil => simpa using h
  | cons p a ih => exact ih (up_tail h)
theorem put1_up {l : List Int} (h : up l) (x : Int) : up (put1 l x) := by
  obtain ⟨h1, h2, _⟩ := up_parted h x
  have he := List.take_append_drop (upL l x) l
  rw [← he] at h
  have ha := up_left h
  have hb := up_right h
  have one : up [x] := fun j k hjk hk => by simp at hk; omega
  refine up_app (up_app ha one (fun p hp q hq => ?_)) hb (fun p hp q hq => ?_)
  · simp at hq; subst hq; exact h1 p hp
  · have := h2 q hq
    rcases List.mem_append.1 hp with hp | hp
    · have := h1 p hp; omega
    · simp at hp; subst hp; omega
theorem put1_cnt (l : List Int) (x y : Int) : upL (put1 l x) y = upL l y + if x ≤ y then 1 else 0 := by
  have he := List.take_append_drop (upL l x) l
  have e : ∀ a b : List Int, upL (a ++ b) y = upL a y + upL b y := fun a b => List.countP_append
  have h1 := e (l.take (upL l x)) (l.drop (upL l x))
  rw [he] at h1
  rw [put1, e, e, h1, upL_cons]
  simp only [upL, List.countP_nil]
  omega
theorem put1_len (l : List Int) (x : Int) (h : upL l x ≤ l.length) : (put1 l x).length = l.length + 1 := by
  simp [put1]
  omega
theorem sort_step (l : List Int) (k : Nat) (h : k < l.length) : sortL (l.take (k + 1)) = put1 (sortL (l.take k)) l[k] := by
  rw [List.take_succ_eq_append_getElem h, sortL, List.foldl_append]
  rfl
theorem sort_ok (l : List Int) : up (sortL l) ∧ (∀ y, upL (sortL l) y = upL l y) ∧ (sortL l).length = l.length := by
  have gen : ∀ (r : List Int) (acc : List Int), up acc → up (r.foldl put1 acc) ∧ (∀ y, upL (r.foldl put1 acc) y = upL acc y + upL r y) ∧ (r.foldl put1 acc).length = acc.length + r.length := by
    intro r
    induction r with
    | nil => intro acc h; exact ⟨h, fun y => by simp [upL], by simp⟩
    | cons x r ih =>
      intro acc h
      obtain ⟨h1, h2, h3⟩ := ih (put1 acc x) (put1_up h x)
      refine ⟨h1, fun y => ?_, ?_⟩
      · rw [List.foldl_cons, h2, put1_cnt, upL_cons]; omega
      · rw [List.foldl_cons, h3, put1_len _ _ (up_parted h x).2.2, List.length_cons]; omega
  obtain ⟨h1, h2, h3⟩ := gen l [] (fun j k _ hk => by simp at hk)
  exact ⟨h1, fun y => by rw [sortL, h2]; simp [upL], by rw [sortL, h3]; simp⟩
end Go.Proofs.Ytbaobiniianamaa
