/-
  Rows of tuples and their spots, plainly: Insert and Squeeze of the one are those of the other. Conditions: none.
  Merged rows of tuples and their spots, plainly. Conditions: none.
  Where the values of spots stand among all values, plainly. Conditions: none.
-/
namespace Go.Proofs.YtmehcfocfljoeaaGreatDoor

/-- A tuple: a value, its step, its slack. -/
structure Tp where
  x : Int
  st : Nat
  sl : Nat
/-- A spot: a value, its least and its greatest place. -/
structure Sp where
  x : Int
  lo : Nat
  hi : Nat
instance : Inhabited Tp := ⟨⟨0, 0, 0⟩⟩
instance : Inhabited Sp := ⟨⟨0, 0, 0⟩⟩
def spF : Nat → List Tp → List Sp
  | _, [] => []
  | n, p :: r => ⟨p.x, n + p.st, n + p.st + p.sl⟩ :: spF (n + p.st) r
def rowF : Nat → List Sp → List Tp
  | _, [] => []
  | n, s :: r => ⟨s.x, s.lo - n, s.hi - s.lo⟩ :: rowF s.lo r
def tot (row : List Tp) : Nat := (row.map Tp.st).sum
theorem tot_cons (p : Tp) (r : List Tp) : tot (p :: r) = p.st + tot r := by simp [tot]
theorem tot_app (a b : List Tp) : tot (a ++ b) = tot a + tot b := by simp [tot]
theorem spF_app (n : Nat) (a b : List Tp) : spF n (a ++ b) = spF n a ++ spF (n + tot a) b := by
  induction a generalizing n with
  | nil => simp [spF, tot]
  | cons p a ih =>
    rw [List.cons_append, spF, ih, spF, tot_cons, List.cons_append]
    simp only [Nat.add_assoc]
theorem spF_len (n : Nat) (a : List Tp) : (spF n a).length = a.length := by
  induction a generalizing n with
  | nil => rfl
  | cons p a ih => simp [spF, ih]
theorem rowF_spF (n : Nat) (a : List Tp) : rowF n (spF n a) = a := by
  induction a generalizing n with
  | nil => rfl
  | cons p a ih =>
    rw [spF, rowF]
    simp only
    rw [ih]
    congr 1
    cases p
    simp only [Tp.mk.injEq, true_and]
    omega
theorem spF_x (n : Nat) (a : List Tp) : (spF n a).map Sp.x = a.map Tp.x := by
  induction a generalizing n with
  | nil => rfl
  | cons p a ih => simp [spF, ih]
def totS (l : List Sp) : Nat := match l.getLast? with
  | some s => s.lo
  | none => 0
theorem totS_spF (n : Nat) (a : List Tp) (h : a ≠ []) : totS (spF n a) = n + tot a := by
  induction a generalizing n with
  | nil => exact absurd rfl h
  | cons p a ih =>
    cases a with
    | nil => simp [spF, totS, tot]
    | cons q a =>
      have := ih (n + p.st) (by simp)
      rw [spF, tot_cons, ← Nat.add_assoc, ← this]
      simp [totS, spF]
theorem totS_spF0 (a : List Tp) : totS (spF 0 a) = tot a := by
  cases a with
  | nil => rfl
  | cons p a => rw [totS_spF 0 _ (by simp), Nat.zero_add]

/-- How the program inserts a value behind at others. -/
def insT (row : List Tp) (x : Int) (k : Nat) : List Tp :=
  row.take k ++ [⟨x, 1, if 0 < k ∧ k < row.length then (row.getD k default).st + (row.getD k default).sl - 1 else 0⟩] ++ row.drop k
def moveUp (l : List Sp) : List Sp := l.map fun s => ⟨s.x, s.lo + 1, s.hi + 1⟩
/-- How the document does. -/
def insS (l : List Sp) (x : Int) (k : Nat) : List Sp :=
  l.take k ++ [⟨x, if k = l.length then totS l + 1 else if 0 < k then (l.getD (k - 1) default).lo + 1 else 1,
    if k = l.length then totS l + 1 else if 0 < k then (l.getD k default).hi else 1⟩] ++ moveUp (l.drop k)
theorem spF_up (n : Nat) (a : List Tp) : spF (n + 1) a = moveUp (spF n a) := by
  induction a generalizing n with
  | nil => rfl
  | cons p a ih =>
    have h := ih (n + p.st)
    simp only [spF, moveUp, List.map_cons] at h ⊢
    rw [show n + 1 + p.st = n + p.st + 1 from by omega, h]
    congr 2
    omega
theorem insert_same (row : List Tp) (x : Int) (k : Nat) (hk : k ≤ row.length) (hs : ∀ p ∈ row, 1 ≤ p.st) : spF 0 (insT row x k) = insS (spF 0 row) x k := by
  have hsplit := List.take_append_drop k row
  have hA : (row.take k).length = k := by rw [List.length_take]; omega
  have e : spF 0 row = spF 0 (row.take k) ++ spF (tot (row.take k)) (row.drop k) := by
    rw [← hsplit, spF_app, Nat.zero_add, hsplit]
  have hl : (spF 0 (row.take k)).length = k := by rw [spF_len, hA]
  have h1 : (spF 0 row).take k = spF 0 (row.take k) := by rw [e]; exact List.take_left' hl
  have h2 : (spF 0 row).drop k = spF (tot (row.take k)) (row.drop k) := by rw [e]; exact List.drop_left' hl
  have hlast : 0 < k → ((spF 0 row).getD (k - 1) default).lo = tot (row.take k) := fun hk0 => by
    have : (spF 0 row).getD (k - 1) default = (spF 0 (row.take k)).getD (k - 1) default := by
      rw [e]
      simp only [List.getD]
      rw [List.getElem?_append_left (by rw [hl]; omega)]
    rw [this]
    have ht := totS_spF0 (row.take k)
    rw [totS, List.getLast?_eq_getElem?, hl] at ht
    simp only [List.getD]
    have hlt : k - 1 < (spF 0 (row.take k)).length := by rw [hl]; omega
    rw [List.getElem?_eq_getElem hlt] at ht ⊢
    exact ht
  rw [insT, insS, h1, h2, spF_app, spF_app, Nat.zero_add, spF_len, totS_spF0, List.append_assoc, List.append_assoc]
  congr 1
  simp only [spF, List.singleton_append, List.cons.injEq]
  have hup : spF (tot (row.take k ++ [⟨x, 1, if 0 < k ∧ k < row.length then (row.getD k default).st + (row.getD k default).sl - 1 else 0⟩])) (row.drop k) = moveUp (spF (tot (row.take k)) (row.drop k)) := by
    rw [tot_app, ← spF_up]
    rfl
  refine ⟨?_, by first | exact hup | (rw [Nat.zero_add]; exact hup)⟩
  by_cases hend : k = row.length
  · rw [if_pos hend, if_pos hend, if_neg (by omega), hend, List.take_length]
  · rw [if_neg hend, if_neg hend]
    by_cases h0 : 0 < k
    · rw [if_pos h0, if_pos h0, if_pos ⟨h0, by omega⟩, hlast h0]
      have hkl : k < row.length := by omega
      have hd : row.drop k = row[k] :: row.drop (k + 1) := List.drop_eq_getElem_cons hkl
      have hget : (spF 0 row).getD k default = ⟨row[k].x, tot (row.take k) + row[k].st, tot (row.take k) + row[k].st + row[k].sl⟩ := by
        rw [e, hd]
        simp only [List.getD, spF]
        rw [List.getElem?_append_right (by rw [hl]; exact Nat.le_refl _), hl, Nat.sub_self]
        rfl
      have hg : row.getD k default = row[k] := by simp [List.getD, hkl]
      have hst := hs row[k] (List.getElem_mem _)
      rw [hget, hg]
      simp only [Sp.mk.injEq, true_and]
      omega
    · have hk0 : k = 0 := by omega
      subst hk0
      rw [if_neg (by omega), if_neg (by omega), if_neg (by omega)]
      rfl

/-- One step of squeezing: the tuple at i goes into the next one, where that is no greater than a limit then. -/
def sqStep (m i : Nat) (row : List Tp) : List Tp :=
  if (row.getD i default).st + (row.getD (i + 1) default).st + (row.getD (i + 1) default).sl ≤ m then
    row.take i ++ [⟨(row.getD (i + 1) default).x, (row.getD (i + 1) default).st + (row.getD i default).st, (row.getD (i + 1) default).sl⟩] ++ row.drop (i + 2)
  else row
/-- .. from so many places on, down to the second one. -/
def sqTo (m : Nat) : Nat → List Tp → List Tp
  | 0, row => row
  | i + 1, row => sqTo m i (sqStep m (i + 1) row)
def sqT (m : Nat) (row : List Tp) : List Tp := sqTo m (row.length - 2) row
def sqStepS (m i : Nat) (l : List Sp) : List Sp :=
  if (l.getD (i + 1) default).hi - (l.getD (i - 1) default).lo ≤ m then l.take i ++ l.drop (i + 1) else l
def sqToS (m : Nat) : Nat → List Sp → List Sp
  | 0, l => l
  | i + 1, l => sqToS m i (sqStepS m (i + 1) l)
def sqS (m : Nat) (l : List Sp) : List Sp := sqToS m (l.length - 2) l

theorem step_parts (row : List Tp) (i : Nat) (h0 : 0 < i) (h : i + 1 < row.length) :
    ∃ A o p q B, row = A ++ o :: p :: q :: B ∧ A.length + 1 = i := by
  have e1 := List.take_append_drop (i - 1) row
  have hl : (row.drop (i - 1)).length = row.length - (i - 1) := List.length_drop
  match hd : row.drop (i - 1), hl with
  | o :: p :: q :: B, _ => exact ⟨row.take (i - 1), o, p, q, B, by rw [hd] at e1; exact e1.symm, by rw [List.length_take]; omega⟩
  | [], hl => simp at hl; omega
  | [_], hl => simp at hl; omega
  | [_, _], hl => simp at hl; omega
theorem step_same (m : Nat) (row : List Tp) (i : Nat) (h0 : 0 < i) (h : i + 1 < row.length) : spF 0 (sqStep m i row) = sqStepS m i (spF 0 row) := by
  obtain ⟨A, o, p, q, B, rfl, hA⟩ := step_parts row i h0 h
  obtain rfl : i = A.length + 1 := hA.symm
  have g1 : (A ++ o :: p :: q :: B).getD (A.length + 1) default = p := by
    simp [List.getD]
  have g2 : (A ++ o :: p :: q :: B).getD (A.length + 1 + 1) default = q := by
    simp only [List.getD]
    rw [List.getElem?_append_right (by omega), show A.length + 1 + 1 - A.length = 2 from by omega]
    rfl
  have t1 : (A ++ o :: p :: q :: B).take (A.length + 1) = A ++ [o] := by
    rw [List.take_length_add_append]
    rfl
  have t2 : (A ++ o :: p :: q :: B).drop (A.length + 1 + 2) = B := by
    rw [Nat.add_assoc, List.drop_length_add_append]
    rfl
  have hs : spF 0 (A ++ o :: p :: q :: B) = spF 0 A ++ spF (tot A) (o :: p :: q :: B) := by rw [spF_app, Nat.zero_add]
  have hlA := spF_len 0 A
  have s1 : ((spF 0 (A ++ o :: p :: q :: B)).getD (A.length + 1 + 1) default) = ⟨q.x, tot A + o.st + p.st + q.st, tot A + o.st + p.st + q.st + q.sl⟩ := by
    rw [hs]
    simp only [List.getD, spF]
    rw [List.getElem?_append_right (by omega), hlA, show A.length + 1 + 1 - A.length = 2 from by omega]
    rfl
  have s2 : ((spF 0 (A ++ o :: p :: q :: B)).getD (A.length + 1 - 1) default) = ⟨o.x, tot A + o.st, tot A + o.st + o.sl⟩ := by
    rw [hs]
    simp only [List.getD, spF]
    rw [List.getElem?_append_right (by omega), hlA, show A.length + 1 - 1 - A.length = 0 from by omega]
    rfl
  rw [sqStep, sqStepS, g1, g2, t1, t2, s1, s2]
  simp only
  by_cases hle : p.st + q.st + q.sl ≤ m
  · rw [if_pos hle, if_pos (by omega)]
    rw [List.append_assoc, List.append_assoc, spF_app, Nat.zero_add, hs]
    have u1 : (spF 0 A ++ spF (tot A) (o :: p :: q :: B)).take (A.length + 1) = spF 0 A ++ [⟨o.x, tot A + o.st, tot A + o.st + o.sl⟩] := by
      rw [← hlA, List.take_length_add_append]
      rfl
    have u2 : (spF 0 A ++ spF (tot A) (o :: p :: q :: B)).drop (A.length + 1 + 1) = spF (tot A + o.st + p.st) (q :: B) := by
      rw [← hlA, Nat.add_assoc, List.drop_length_add_append]
      rfl
    rw [u1, u2, List.append_assoc]
    congr 1
    simp only [spF, List.cons_append, List.cons.injEq, true_and, Sp.mk.injEq, List.nil_append]
    have e : tot A + o.st + (q.st + p.st) = tot A + o.st + p.st + q.st := by omega
    rw [e]
    exact ⟨⟨rfl, rfl⟩, rfl⟩
  · rw [if_neg hle, if_neg (by omega)]
theorem sqStep_len (m i : Nat) (row : List Tp) (h : i + 1 < row.length) : (sqStep m i row).length = row.length ∨ (sqStep m i row).length + 1 = row.length := by
  unfold sqStep
  split
  · right
    simp
    omega
  · exact .inl rfl
theorem sqTo_same (m : Nat) (i : Nat) : ∀ row : List Tp, (0 < i → i + 1 < row.length) → spF 0 (sqTo m i row) = sqToS m i (spF 0 row) := by
  induction i with
  | zero => intro row _; rfl
  | succ i ih =>
    intro row h
    have h1 := h (by omega)
    rw [sqTo, sqToS, ← step_same m row (i + 1) (by omega) h1]
    refine ih _ (fun hi => ?_)
    rcases sqStep_len m (i + 1) row h1 with h2 | h2 <;> omega
theorem squeeze_same (m : Nat) (row : List Tp) : spF 0 (sqT m row) = sqS m (spF 0 row) := by
  rw [sqT, sqS, spF_len]
  exact sqTo_same m _ row (fun h => by omega)

/-- What a row of tuples that was put together tells of n values: it can be. -/
structure FineT (row : List Tp) (n : Nat) : Prop where
  total : tot row = n
  pos : ∀ p ∈ row, 1 ≤ p.st
  first : ∀ p, row.head? = some p → p.st = 1 ∧ p.sl = 0
  high : ∀ s ∈ spF 0 row, s.hi ≤ n
  up : row.Pairwise fun a b => a.x ≤ b.x
theorem FineT.nil : FineT [] 0 := ⟨rfl, by simp, by simp, by simp [spF], List.Pairwise.nil⟩
theorem FineT.insert {row : List Tp} {n : Nat} (h : FineT row n) (x : Int) (k : Nat) (hk : k ≤ row.length) (hlo : ∀ p ∈ row.take k, p.x ≤ x) (hhi : ∀ p ∈ row.drop k, x < p.x) : FineT (insT row x k) (n + 1) := by
  have hsplit := List.take_append_drop k row
  refine ⟨?_, ?_, ?_, ?_, ?_⟩
  · have ht := h.total
    rw [← hsplit, tot_app] at ht
    rw [insT, tot_app, tot_app]
    have : ∀ s, tot [⟨x, 1, s⟩] = 1 := fun s => rfl
    rw [this]
    omega
  · intro p hp
    rw [insT] at hp
    simp only [List.mem_append, List.mem_singleton] at hp
    rcases hp with (hp | hp) | hp
    · exact h.pos p (List.mem_of_mem_take hp)
    · subst hp; simp
    · exact h.pos p (List.mem_of_mem_drop hp)
  · intro p hp
    by_cases h0 : k = 0
    · subst h0
      rw [insT] at hp
      simp only [List.take_zero, List.nil_append, List.singleton_append, List.head?_cons, Option.some.injEq] at hp
      subst hp
      simp
    · have hA : row.take k ≠ [] := by
        intro he
        have := congrArg List.length he
        rw [List.length_take, List.length_nil] at this
        cases row with
        | nil => simp at hk; omega
        | cons a r => simp at this; omega
      refine h.first p ?_
      rw [insT, List.append_assoc] at hp
      rw [← hsplit]
      cases hc : row.take k with
      | nil => exact absurd hc hA
      | cons a A =>
        rw [hc] at hp
        simpa using hp
  · intro s hs
    rw [insert_same row x k hk h.pos, insS] at hs
    simp only [List.mem_append, List.mem_singleton] at hs
    rcases hs with (hs | hs) | hs
    · have := h.high s (List.mem_of_mem_take hs); omega
    · subst hs
      simp only
      rw [totS_spF0, h.total]
      split
      · exact Nat.le_refl _
      · next hne =>
        split
        · rw [spF_len] at hne
          have hlt : k < (spF 0 row).length := by rw [spF_len]; omega
          have hm : (spF 0 row).getD k default ∈ spF 0 row := by
            simp only [List.getD, List.getElem?_eq_getElem hlt, Option.getD_some]
            exact List.getElem_mem _
          have := h.high _ hm
          omega
        · omega
    · simp only [moveUp, List.mem_map] at hs
      obtain ⟨s0, hs0, rfl⟩ := hs
      have := h.high s0 (List.mem_of_mem_drop hs0)
      simp only
      omega
  · have hu := h.up
    rw [← hsplit, List.pairwise_append] at hu
    obtain ⟨u1, u2, u3⟩ := hu
    rw [insT, List.append_assoc, List.pairwise_append]
    refine ⟨u1, ?_, ?_⟩
    · rw [List.singleton_append, List.pairwise_cons]
      exact ⟨fun p hp => by have := hhi p hp; simp only; omega, u2⟩
    · intro p hp q hq
      rw [List.singleton_append] at hq
      rcases List.mem_cons.1 hq with rfl | hq
      · exact hlo p hp
      · exact u3 p hp q hq
theorem FineT.step {row : List Tp} {n : Nat} (h : FineT row n) (m i : Nat) (h0 : 0 < i) (hi : i + 1 < row.length) : FineT (sqStep m i row) n := by
  have hsame := step_same m row i h0 hi
  obtain ⟨A, o, p, q, B, rfl, hA⟩ := step_parts row i h0 hi
  by_cases hle : ((A ++ o :: p :: q :: B).getD i default).st + ((A ++ o :: p :: q :: B).getD (i + 1) default).st + ((A ++ o :: p :: q :: B).getD (i + 1) default).sl ≤ m
  · have g1 : (A ++ o :: p :: q :: B).getD i default = p := by
      subst hA
      simp [List.getD]
    have g2 : (A ++ o :: p :: q :: B).getD (i + 1) default = q := by
      subst hA
      simp only [List.getD]
      rw [List.getElem?_append_right (by omega), show A.length + 1 + 1 - A.length = 2 from by omega]
      rfl
    have e : sqStep m i (A ++ o :: p :: q :: B) = A ++ o :: ⟨q.x, q.st + p.st, q.sl⟩ :: B := by
      rw [sqStep, if_pos hle, g1, g2]
      subst hA
      rw [List.take_length_add_append, Nat.add_assoc, List.drop_length_add_append]
      simp
    have hp := h.pos p (by simp)
    refine ⟨?_, ?_, ?_, ?_, ?_⟩
    · have := h.total
      rw [e]
      simp only [tot_app, tot_cons] at this ⊢
      omega
    · intro r hr
      rw [e] at hr
      simp only [List.mem_append, List.mem_cons] at hr
      rcases hr with hr | hr | hr | hr
      · exact h.pos r (by simp [hr])
      · exact h.pos r (by simp [hr])
      · subst hr; simp only; omega
      · exact h.pos r (by simp [hr])
    · intro r hr
      refine h.first r ?_
      rw [e] at hr
      cases A with
      | nil => simpa using hr
      | cons a A => simpa using hr
    · intro s hs
      rw [hsame, sqStepS] at hs
      refine h.high s ?_
      split at hs
      · rcases List.mem_append.1 hs with hs | hs
        · exact List.mem_of_mem_take hs
        · exact List.mem_of_mem_drop hs
      · exact hs
    · have hu := h.up
      rw [e]
      rw [List.pairwise_append] at hu ⊢
      obtain ⟨u1, u2, u3⟩ := hu
      simp only [List.pairwise_cons, List.mem_cons, forall_eq_or_imp] at u2 u3 ⊢
      obtain ⟨⟨a1, a2, a3⟩, ⟨b1, b2⟩, c1, c2⟩ := u2
      exact ⟨u1, ⟨⟨a2, a3⟩, c1, c2⟩, fun r hr => ⟨(u3 r hr).1, (u3 r hr).2.2.1, (u3 r hr).2.2.2⟩⟩
  · rw [sqStep, if_neg hle]
    exact h
theorem FineT.squeeze {row : List Tp} {n : Nat} (h : FineT row n) (m : Nat) : FineT (sqT m row) n := by
  have gen : ∀ (i : Nat) (row : List Tp), FineT row n → (0 < i → i + 1 < row.length) → FineT (sqTo m i row) n := by
    intro i
    induction i with
    | zero => intro row h _; exact h
    | succ i ih =>
      intro row h hi
      have h1 := hi (by omega)
      refine ih _ (h.step m (i + 1) (by omega) h1) (fun h2 => ?_)
      rcases sqStep_len m (i + 1) row h1 with h3 | h3 <;> omega
  exact gen _ row h (fun _ => by omega)
end Go.Proofs.YtmehcfocfljoeaaGreatDoor

namespace Go.Proofs.YtmehcfocfljoeaaGreatDoor

/-- Two rows merged, each tuple's slack greater by what is next in the other one. -/
def mrgT : List Tp → List Tp → List Tp
  | [], b => b
  | p :: a, [] => p :: a
  | p :: a, q :: b =>
    if p.x ≤ q.x then ⟨p.x, p.st, p.sl + (q.st + q.sl - 1)⟩ :: mrgT a (q :: b)
    else ⟨q.x, q.st, q.sl + (p.st + p.sl - 1)⟩ :: mrgT (p :: a) b
termination_by a b => a.length + b.length
/-- The document's way, on spots: na, nb: the least places that were reached in each. -/
def mrgS : Nat → Nat → List Sp → List Sp → List Sp
  | _, _, [], [] => []
  | _, nb, s :: a, [] => ⟨s.x, s.lo + nb, s.hi + nb⟩ :: mrgS s.lo nb a []
  | na, _, [], t :: b => ⟨t.x, t.lo + na, t.hi + na⟩ :: mrgS na t.lo [] b
  | na, nb, s :: a, t :: b =>
    if s.x ≤ t.x then ⟨s.x, s.lo + nb, s.hi + t.hi - 1⟩ :: mrgS s.lo nb a (t :: b)
    else ⟨t.x, t.lo + na, t.hi + s.hi - 1⟩ :: mrgS na t.lo (s :: a) b
termination_by _ _ a b => a.length + b.length
theorem mrg_same : ∀ (a b : List Tp) (na nb : Nat), (∀ p ∈ a, 1 ≤ p.st) → (∀ p ∈ b, 1 ≤ p.st) → spF (na + nb) (mrgT a b) = mrgS na nb (spF na a) (spF nb b)
  | [], [], na, nb, _, _ => by simp [mrgT, mrgS, spF]
  | [], q :: b, na, nb, ha, hb => by
    have ih := mrg_same [] b na (nb + q.st) ha (fun p hp => hb p (by simp [hp]))
    have e : mrgT [] b = b := by unfold mrgT; rfl
    rw [e] at ih
    have e2 : mrgT [] (q :: b) = q :: b := by unfold mrgT; rfl
    rw [e2]
    simp only [spF] at ih ⊢
    rw [mrgS, ← ih]
    simp only [List.cons.injEq, Sp.mk.injEq, true_and]
    refine ⟨⟨by omega, by omega⟩, by rw [show na + nb + q.st = na + (nb + q.st) from by omega]⟩
  | p :: a, [], na, nb, ha, hb => by
    have ih := mrg_same a [] (na + p.st) nb (fun q hq => ha q (by simp [hq])) hb
    have e : mrgT a [] = a := by cases a <;> (unfold mrgT; rfl)
    rw [e] at ih
    have e2 : mrgT (p :: a) [] = p :: a := by unfold mrgT; rfl
    rw [e2]
    simp only [spF] at ih ⊢
    rw [mrgS, ← ih]
    simp only [List.cons.injEq, Sp.mk.injEq, true_and]
    refine ⟨⟨by omega, by omega⟩, by rw [show na + nb + p.st = na + p.st + nb from by omega]⟩
  | p :: a, q :: b, na, nb, ha, hb => by
    have hp := ha p (by simp)
    have hq := hb q (by simp)
    by_cases hle : p.x ≤ q.x
    · have ih := mrg_same a (q :: b) (na + p.st) nb (fun q hq => ha q (by simp [hq])) hb
      have e : mrgT (p :: a) (q :: b) = ⟨p.x, p.st, p.sl + (q.st + q.sl - 1)⟩ :: mrgT a (q :: b) := by rw [mrgT, if_pos hle]
      rw [e]
      simp only [spF] at ih ⊢
      rw [mrgS, if_pos hle, ← ih]
      simp only [List.cons.injEq, Sp.mk.injEq, true_and]
      refine ⟨⟨by omega, by omega⟩, by rw [show na + nb + p.st = na + p.st + nb from by omega]⟩
    · have ih := mrg_same (p :: a) b na (nb + q.st) ha (fun p hp => hb p (by simp [hp]))
      have e : mrgT (p :: a) (q :: b) = ⟨q.x, q.st, q.sl + (p.st + p.sl - 1)⟩ :: mrgT (p :: a) b := by rw [mrgT, if_neg hle]
      rw [e]
      simp only [spF] at ih ⊢
      rw [mrgS, if_neg hle, ← ih]
      simp only [List.cons.injEq, Sp.mk.injEq, true_and]
      refine ⟨⟨by omega, by omega⟩, by rw [show na + nb + q.st = na + (nb + q.st) from by omega]⟩
termination_by a b => a.length + b.length

def nextGe (b : List Tp) (x : Int) : Nat := match b.find? (fun q => decide (x ≤ q.x)) with
  | some q => q.st + q.sl - 1
  | none => 0
def nextGt (a : List Tp) (x : Int) : Nat := match a.find? (fun q => decide (x < q.x)) with
  | some q => q.st + q.sl - 1
  | none => 0
/-- A row's tuples as they are in a merged row: of the first row, and of the second. -/
def partA (a b : List Tp) : List Tp := a.map fun p => ⟨p.x, p.st, p.sl + nextGe b p.x⟩
def partB (b a : List Tp) : List Tp := b.map fun q => ⟨q.x, q.st, q.sl + nextGt a q.x⟩
/-- Two rows in order, as one: of the same values those of the first one ahead. -/
def mrgX : List Tp → List Tp → List Tp
  | [], b => b
  | p :: a, [] => p :: a
  | p :: a, q :: b => if p.x ≤ q.x then p :: mrgX a (q :: b) else q :: mrgX (p :: a) b
termination_by a b => a.length + b.length
theorem nextGe_skip (q : Tp) (b : List Tp) (x : Int) (h : q.x < x) : nextGe (q :: b) x = nextGe b x := by
  rw [nextGe, List.find?_cons_of_neg (by simp; omega)]
  rfl
theorem nextGt_skip (q : Tp) (b : List Tp) (x : Int) (h : q.x ≤ x) : nextGt (q :: b) x = nextGt b x := by
  rw [nextGt, List.find?_cons_of_neg (by simp; omega)]
  rfl
theorem nextGe_hit (q : Tp) (b : List Tp) (x : Int) (h : x ≤ q.x) : nextGe (q :: b) x = q.st + q.sl - 1 := by
  rw [nextGe, List.find?_cons_of_pos (by simpa using h)]
theorem nextGt_hit (q : Tp) (b : List Tp) (x : Int) (h : x < q.x) : nextGt (q :: b) x = q.st + q.sl - 1 := by
  rw [nextGt, List.find?_cons_of_pos (by simpa using h)]
theorem partA_nil (a : List Tp) : partA a [] = a := by
  rw [partA]
  conv => rhs; rw [← List.map_id a]
  apply List.map_congr_left
  intro p _
  cases p
  rfl
theorem partB_nil (a : List Tp) : partB a [] = a := by
  rw [partB]
  conv => rhs; rw [← List.map_id a]
  apply List.map_congr_left
  intro p _
  cases p
  rfl
theorem part_merge : ∀ (a b : List Tp), (a.Pairwise fun p q => p.x ≤ q.x) → (b.Pairwise fun p q => p.x ≤ q.x) → mrgX (partA a b) (partB b a) = mrgT a b
  | [], b, _, _ => by
    rw [partB_nil, show partA [] b = [] from rfl]
    unfold mrgX mrgT
    rfl
  | p :: a, [], _, _ => by
    rw [partA_nil, show partB [] (p :: a) = [] from rfl]
    unfold mrgX mrgT
    rfl
  | p :: a, q :: b, ha, hb => by
    obtain ⟨ha1, ha2⟩ := List.pairwise_cons.1 ha
    obtain ⟨hb1, hb2⟩ := List.pairwise_cons.1 hb
    have ea : partA (p :: a) (q :: b) = ⟨p.x, p.st, p.sl + nextGe (q :: b) p.x⟩ :: partA a (q :: b) := rfl
    have eb : partB (q :: b) (p :: a) = ⟨q.x, q.st, q.sl + nextGt (p :: a) q.x⟩ :: partB b (p :: a) := rfl
    by_cases hle : p.x ≤ q.x
    · have ih := part_merge a (q :: b) ha2 hb
      have hB : partB (q :: b) (p :: a) = partB (q :: b) a := by
        rw [partB, partB]
        apply List.map_congr_left
        intro r hr
        rw [nextGt_skip p a r.x (by
          rcases List.mem_cons.1 hr with rfl | hr
          · exact hle
          · have := hb1 r hr; omega)]
      rw [mrgT, if_pos hle, ea, hB, ← ih, nextGe_hit q b p.x hle]
      have eb2 : partB (q :: b) a = ⟨q.x, q.st, q.sl + nextGt a q.x⟩ :: partB b a := rfl
      rw [eb2, mrgX]
      exact if_pos hle
    · have ih := part_merge (p :: a) b ha hb2
      have hA : partA (p :: a) (q :: b) = partA (p :: a) b := by
        rw [partA, partA]
        apply List.map_congr_left
        intro r hr
        rw [nextGe_skip q b r.x (by
          rcases List.mem_cons.1 hr with rfl | hr
          · omega
          · have := ha1 r hr; omega)]
      rw [mrgT, if_neg hle, eb, hA, ← ih, nextGt_hit p a q.x (by omega)]
      have ea2 : partA (p :: a) b = ⟨p.x, p.st, p.sl + nextGe b p.x⟩ :: partA a b := rfl
      rw [ea2, mrgX]
      exact if_neg hle
termination_by a b => a.length + b.length
end Go.Proofs.YtmehcfocfljoeaaGreatDoor

namespace Go.Proofs.YtmehcfocfljoeaaGreatDoor

def upC (A : List Int) (x : Int) : Nat := A.countP fun y => decide (y ≤ x)
def unC (A : List Int) (x : Int) : Nat := A.countP fun y => decide (y < x)
theorem upC_mono (A : List Int) {x y : Int} (h : x ≤ y) : upC A x ≤ upC A y := List.countP_mono_left (fun z _ hz => by simp at hz ⊢; omega)
theorem unC_mono (A : List Int) {x y : Int} (h : x ≤ y) : unC A x ≤ unC A y := List.countP_mono_left (fun z _ hz => by simp at hz ⊢; omega)
theorem unC_up (A : List Int) {x y : Int} (h : x < y) : upC A x ≤ unC A y := List.countP_mono_left (fun z _ hz => by simp at hz ⊢; omega)
theorem unC_le (A : List Int) (x : Int) : unC A x ≤ A.length := List.countP_le_length
theorem upC_snoc (A : List Int) (v x : Int) : upC (A ++ [v]) x = upC A x + if v ≤ x then 1 else 0 := by
  simp [upC, List.countP_append, List.countP_cons]
theorem unC_snoc (A : List Int) (v x : Int) : unC (A ++ [v]) x = unC A x + if v < x then 1 else 0 := by
  simp [unC, List.countP_append, List.countP_cons]
theorem upC_app (A B : List Int) (x : Int) : upC (A ++ B) x = upC A x + upC B x := List.countP_append
theorem unC_app (A B : List Int) (x : Int) : unC (A ++ B) x = unC A x + unC B x := List.countP_append

/-- A spot's value is among all, at a place between its least and its greatest one. -/
def PlS (A : List Int) (s : Sp) : Prop := s.lo ≤ upC A s.x ∧ unC A s.x + 1 ≤ s.hi ∧ s.lo ≤ s.hi ∧ unC A s.x < upC A s.x
/-- All spots stand so; the least and the greatest value are exact. -/
structure Placed (l : List Sp) (A : List Int) : Prop where
  all : ∀ s ∈ l, PlS A s
  least : ∀ s, l.head? = some s → unC A s.x = 0
  most : ∀ s, l.getLast? = some s → upC A s.x = A.length
  none : l = [] → A = []
theorem Placed.nil : Placed [] [] := ⟨by simp, by simp, by simp, fun _ => rfl⟩
theorem Placed.sub {l m : List Sp} {A : List Int} (h : Placed l A) (hs : ∀ s ∈ m, s ∈ l) (hf : m.head? = l.head?) (hl : m.getLast? = l.getLast?) : Placed m A :=
  ⟨fun s hs' => h.all s (hs s hs'), fun s h1 => h.least s (by rw [← hf]; exact h1), fun s h1 => h.most s (by rw [← hl]; exact h1), fun h1 => h.none (by
    subst h1
    cases l with
    | nil => rfl
    | cons a l => simp at hf)⟩
theorem sqStepS_ends (m i : Nat) (l : List Sp) (h0 : 0 < i) (h : i + 1 < l.length) : (∀ s ∈ sqStepS m i l, s ∈ l) ∧ (sqStepS m i l).head? = l.head? ∧ (sqStepS m i l).getLast? = l.getLast? := by
  unfold sqStepS
  split
  · have hsp := List.take_append_drop (i + 1) l
    have hd : l.drop (i + 1) ≠ [] := by
      intro he
      have := congrArg List.length he
      rw [List.length_drop, List.length_nil] at this
      omega
    refine ⟨fun s hs => ?_, ?_, ?_⟩
    · rcases List.mem_append.1 hs with hs | hs
      · exact List.mem_of_mem_take hs
      · exact List.mem_of_mem_drop hs
    · cases l with
      | nil => simp at h
      | cons a l =>
        cases i with
        | zero => omega
        | succ i => rfl
    · rw [List.getLast?_append]
      conv => rhs; rw [← hsp]
      rw [List.getLast?_append]
      cases hc : (l.drop (i + 1)).getLast? with
      | none => rw [List.getLast?_eq_none_iff] at hc; exact absurd hc hd
      | some s => rfl
  · exact ⟨fun s hs => hs, rfl, rfl⟩
theorem sqStepS_len (m i : Nat) (l : List Sp) (h : i + 1 < l.length) : (sqStepS m i l).length = l.length ∨ (sqStepS m i l).length + 1 = l.length := by
  unfold sqStepS
  split
  · right
    simp
    omega
  · exact .inl rfl
theorem Placed.squeeze {l : List Sp} {A : List Int} (h : Placed l A) (m : Nat) : Placed (sqS m l) A := by
  have gen : ∀ (i : Nat) (l : List Sp), Placed l A → (0 < i → i + 1 < l.length) → Placed (sqToS m i l) A := by
    intro i
    induction i with
    | zero => intro l h _; exact h
    | succ i ih =>
      intro l h hi
      have h1 := hi (by omega)
      obtain ⟨e1, e2, e3⟩ := sqStepS_ends m (i + 1) l (by omega) h1
      refine ih _ (h.sub e1 e2 e3) (fun h2 => ?_)
      rcases sqStepS_len m (i + 1) l h1 with h3 | h3 <;> omega
  exact gen _ l h (fun _ => by omega)

theorem unC_le_up (A : List Int) (x : Int) : unC A x ≤ upC A x := List.countP_mono_left (fun z _ hz => by simp at hz ⊢; omega)
theorem upC_le (A : List Int) (x : Int) : upC A x ≤ A.length := List.countP_le_length
theorem getD_mem {l : List Sp} {k : Nat} (h : k < l.length) : l.getD k default ∈ l := by
  simp only [List.getD, List.getElem?_eq_getElem h, Option.getD_some]
  exact List.getElem_mem _
theorem Placed.insert {l : List Sp} {A : List Int} (h : Placed l A) (x : Int) (k : Nat) (hk : k ≤ l.length) (hlo : ∀ s ∈ l.take k, s.x ≤ x) (hhi : ∀ s ∈ l.drop k, x < s.x) (hn : totS l = A.length)
    (hr : 0 < k → k < l.length → (l.getD (k - 1) default).lo < (l.getD k default).lo) : Placed (insS l x k) (A ++ [x]) := by
  have hsp := List.take_append_drop k l
  have hmin : k = 0 → unC A x = 0 := fun h0 => by
    subst h0
    cases l with
    | nil => rw [h.none rfl]; rfl
    | cons a l =>
      have h1 := h.least a rfl
      have h2 := hhi a (by simp)
      have := unC_mono A (show x ≤ a.x by omega)
      omega
  have hmax : k = l.length → upC A x = A.length := fun hl => by
    cases hc : l.getLast? with
    | none =>
      rw [List.getLast?_eq_none_iff] at hc
      rw [h.none hc]
      rfl
    | some s =>
      have h1 := h.most s hc
      have h2 := hlo s (by rw [hl, List.take_length]; exact List.mem_of_getLast? hc)
      have := upC_mono A h2
      have := upC_le A x
      omega
  have hmem1 : ∀ s ∈ l.take k, s ∈ l := fun s hs => List.mem_of_mem_take hs
  have hmem2 : ∀ s ∈ l.drop k, s ∈ l := fun s hs => List.mem_of_mem_drop hs
  have lows : ∀ s ∈ l.take k, upC A s.x ≤ upC (A ++ [x]) s.x ∧ unC (A ++ [x]) s.x = unC A s.x := fun s hs => by
    have := hlo s hs
    rw [upC_snoc, unC_snoc]
    exact ⟨by omega, by rw [if_neg (by omega)]; rfl⟩
  have highs : ∀ s ∈ l.drop k, upC (A ++ [x]) s.x = upC A s.x + 1 ∧ unC (A ++ [x]) s.x = unC A s.x + 1 := fun s hs => by
    have := hhi s hs
    rw [upC_snoc, unC_snoc, if_pos (by omega), if_pos (by omega)]
    exact ⟨rfl, rfl⟩
  have own : upC (A ++ [x]) x = upC A x + 1 ∧ unC (A ++ [x]) x = unC A x := by
    rw [upC_snoc, unC_snoc, if_pos (by omega), if_neg (by omega)]
    exact ⟨rfl, rfl⟩
  refine ⟨fun s hs => ?_, fun s hs => ?_, fun s hs => ?_, fun he => ?_⟩
  · rw [insS] at hs
    simp only [List.mem_append, List.mem_singleton] at hs
    rcases hs with (hs | hs) | hs
    · obtain ⟨a1, a2, a3, a4⟩ := h.all s (hmem1 s hs)
      obtain ⟨b1, b2⟩ := lows s hs
      exact ⟨by omega, by omega, a3, by omega⟩
    · subst hs
      have hu := unC_le_up A x
      simp only [PlS]
      rw [own.1, own.2, hn]
      by_cases hend : k = l.length
      · rw [if_pos hend, if_pos hend, hmax hend]
        have := unC_le A x
        exact ⟨Nat.le_refl _, by omega, Nat.le_refl _, by omega⟩
      · rw [if_neg hend, if_neg hend]
        by_cases h0 : 0 < k
        · rw [if_pos h0, if_pos h0]
          have hkl : k < l.length := by omega
          have m1 : l.getD (k - 1) default ∈ l.take k := by
            rw [List.mem_iff_getElem]
            refine ⟨k - 1, by rw [List.length_take]; omega, ?_⟩
            rw [List.getElem_take]
            simp [List.getD, show k - 1 < l.length by omega]
          have m2 : l.getD k default ∈ l.drop k := by
            rw [List.mem_iff_getElem]
            refine ⟨0, by rw [List.length_drop]; omega, ?_⟩
            rw [List.getElem_drop]
            simp [List.getD, hkl]
          obtain ⟨a1, _, _, _⟩ := h.all _ (hmem1 _ m1)
          obtain ⟨_, c2, c3, _⟩ := h.all _ (hmem2 _ m2)
          have d1 := upC_mono A (hlo _ m1)
          have d2 := unC_mono A (show x ≤ (l.getD k default).x by have := hhi _ m2; omega)
          have d3 := hr h0 hkl
          exact ⟨by omega, by omega, by omega, by omega⟩
        · rw [if_neg h0, if_neg h0, hmin (by omega)]
          exact ⟨by omega, by omega, by omega, by omega⟩
    · simp only [moveUp, List.mem_map] at hs
      obtain ⟨s0, hs0, rfl⟩ := hs
      obtain ⟨a1, a2, a3, a4⟩ := h.all s0 (hmem2 s0 hs0)
      obtain ⟨b1, b2⟩ := highs s0 hs0
      simp only [PlS]
      exact ⟨by omega, by omega, by omega, by omega⟩
  · by_cases h0 : k = 0
    · subst h0
      rw [insS] at hs
      simp only [List.take_zero, List.nil_append, List.singleton_append, List.head?_cons, Option.some.injEq] at hs
      subst hs
      simp only
      rw [own.2]
      exact hmin rfl
    · cases hc : l.take k with
      | nil =>
        have := congrArg List.length hc
        rw [List.length_take, List.length_nil] at this
        have hl0 : l.length = 0 := by omega
        omega
      | cons a r =>
        rw [insS, hc] at hs
        simp only [List.cons_append, List.head?_cons, Option.some.injEq] at hs
        subst hs
        rw [(lows a (by rw [hc]; simp)).2]
        refine h.least a ?_
        rw [← hsp, hc]
        rfl
  · rw [List.length_append, List.length_singleton]
    rw [insS, List.getLast?_append] at hs
    cases hc : (moveUp (l.drop k)).getLast? with
    | none =>
      rw [List.getLast?_eq_none_iff, moveUp, List.map_eq_nil_iff] at hc
      have hend : k = l.length := by
        have := congrArg List.length hc
        rw [List.length_drop, List.length_nil] at this
        omega
      rw [hc] at hs
      simp only [moveUp, List.map_nil, List.getLast?_nil, Option.none_or, List.getLast?_append, List.getLast?_singleton, Option.some_or, Option.some.injEq] at hs
      subst hs
      simp only
      rw [own.1, hmax hend]
    | some t =>
      rw [hc, Option.some_or, Option.some.injEq] at hs
      subst hs
      rw [moveUp, List.getLast?_map] at hc
      cases hd : (l.drop k).getLast? with
      | none => rw [hd] at hc; simp at hc
      | some t0 =>
        rw [hd] at hc
        simp only [Option.map_some, Option.some.injEq] at hc
        subst hc
        have hm : t0 ∈ l.drop k := List.mem_of_getLast? hd
        simp only
        rw [(highs t0 hm).1]
        have := h.most t0 (by rw [← hsp, List.getLast?_append, hd]; rfl)
        omega
  · rw [insS] at he
    simp at he
end Go.Proofs.YtmehcfocfljoeaaGreatDoor
