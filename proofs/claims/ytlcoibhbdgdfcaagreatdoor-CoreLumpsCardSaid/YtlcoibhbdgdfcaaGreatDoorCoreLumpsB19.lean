/-
  Rows of tuples and their spots, plainly: Insert and Squeeze of the one are those of the other. Conditions: none.
  Rows of tuples: their cells. Conditions: none.
-/
import Derived.Test.YtlcoibhbdgdfcaaGreatDoorProg
import Derived.Test.YtlcoibhbdgdfcaaGreatDoorCoreLumpsB1
namespace Go.Proofs.YtlcoibhbdgdfcaaGreatDoor

/-- A tuple: a value, its step, its slack. -/
structure Tp where
  x : Int
  st : Nat
  sl : Nat
/-- A spot: a value, its least and its greatest place. -/
structure Sp where
  x : Int
  lo : Nat
  hi : Nat
instance : Inhabited Tp := ⟨⟨0, 0, 0⟩⟩
instance : Inhabited Sp := ⟨⟨0, 0, 0⟩⟩
def spF : Nat → List Tp → List Sp
  | _, [] => []
  | n, p :: r => ⟨p.x, n + p.st, n + p.st + p.sl⟩ :: spF (n + p.st) r
def rowF : Nat → List Sp → List Tp
  | _, [] => []
  | n, s :: r => ⟨s.x, s.lo - n, s.hi - s.lo⟩ :: rowF s.lo r
def tot (row : List Tp) : Nat := (row.map Tp.st).sum
theorem tot_cons (p : Tp) (r : List Tp) : tot (p :: r) = p.st + tot r := by simp [tot]
theorem tot_app (a b : List Tp) : tot (a ++ b) = tot a + tot b := by simp [tot]
theorem spF_app (n : Nat) (a b : List Tp) : spF n (a ++ b) = spF n a ++ spF (n + tot a) b := by
  induction a generalizing n with
  | nil => simp [spF, tot]
  | cons p a ih =>
    rw [List.cons_append, spF, ih, spF, tot_cons, List.cons_append]
    simp only [Nat.add_assoc]
theorem spF_len (n : Nat) (a : List Tp) : (spF n a).length = a.length := by
  induction a generalizing n with
  | nil => rfl
  | cons p a ih => simp [spF, ih]
theorem rowF_spF (n : Nat) (a : List Tp) : rowF n (spF n a) = a := by
  induction a generalizing n with
  | nil => rfl
  | cons p a ih =>
    rw [spF, rowF]
    simp only
    rw [ih]
    congr 1
    cases p
    simp only [Tp.mk.injEq, true_and]
    omega
theorem spF_x (n : Nat) (a : List Tp) : (spF n a).map Sp.x = a.map Tp.x := by
  induction a generalizing n with
  | nil => rfl
  | cons p a ih => simp [spF, ih]
def totS (l : List Sp) : Nat := match l.getLast? with
  | some s => s.lo
  | none => 0
theorem totS_spF (n : Nat) (a : List Tp) (h : a ≠ []) : totS (spF n a) = n + tot a := by
  induction a generalizing n with
  | nil => exact absurd rfl h
  | cons p a ih =>
    cases a with
    | nil => simp [spF, totS, tot]
    | cons q a =>
      have := ih (n + p.st) (by simp)
      rw [spF, tot_cons, ← Nat.add_assoc, ← this]
      simp [totS, spF]
theorem totS_spF0 (a : List Tp) : totS (spF 0 a) = tot a := by
  cases a with
  | nil => rfl
  | cons p a => rw [totS_spF 0 _ (by simp), Nat.zero_add]

/-- How the program inserts a value behind at others. -/
def insT (row : List Tp) (x : Int) (k : Nat) : List Tp :=
  row.take k ++ [⟨x, 1, if 0 < k ∧ k < row.length then (row.getD k default).st + (row.getD k default).sl - 1 else 0⟩] ++ row.drop k
def moveUp (l : List Sp) : List Sp := l.map fun s => ⟨s.x, s.lo + 1, s.hi + 1⟩
/-- How the document does. -/
def insS (l : List Sp) (x : Int) (k : Nat) : List Sp :=
  l.take k ++ [⟨x, if k = l.length then totS l + 1 else if 0 < k then (l.getD (k - 1) default).lo + 1 else 1,
    if k = l.length then totS l + 1 else if 0 < k then (l.getD k default).hi else 1⟩] ++ moveUp (l.drop k)
theorem spF_up (n : Nat) (a : List Tp) : spF (n + 1) a = moveUp (spF n a) := by
  induction a generalizing n with
  | nil => rfl
  | cons p a ih =>
    have h := ih (n + p.st)
    simp only [spF, moveUp, List.map_cons] at h ⊢
    rw [show n + 1 + p.st = n + p.st + 1 from by omega, h]
    congr 2
    omega
theorem insert_same (row : List Tp) (x : Int) (k : Nat) (hk : k ≤ row.length) (hs : ∀ p ∈ row, 1 ≤ p.st) : spF 0 (insT row x k) = insS (spF 0 row) x k := by
  have hsplit := List.take_append_drop k row
  have hA : (row.take k).length = k := by rw [List.length_take]; omega
  have e : spF 0 row = spF 0 (row.take k) ++ spF (tot (row.take k)) (row.drop k) := by
    rw [← hsplit, spF_app, Nat.zero_add, hsplit]
  have hl : (spF 0 (row.take k)).length = k := by rw [spF_len, hA]
  have h1 : (spF 0 row).take k = spF 0 (row.take k) := by rw [e]; exact List.take_left' hl
  have h2 : (spF 0 row).drop k = spF (tot (row.take k)) (row.drop k) := by rw [e]; exact List.drop_left' hl
  have hlast : 0 < k → ((spF 0 row).getD (k - 1) default).lo = tot (row.take k) := fun hk0 => by
    have : (spF 0 row).getD (k - 1) default = (spF 0 (row.take k)).getD (k - 1) default := by
      rw [e]
      simp only [List.getD]
      rw [List.getElem?_append_left (by rw [hl]; omega)]
    rw [this]
    have ht := totS_spF0 (row.take k)
    rw [totS, List.getLast?_eq_getElem?, hl] at ht
    simp only [List.getD]
    have hlt : k - 1 < (spF 0 (row.take k)).length := by rw [hl]; omega
    rw [List.getElem?_eq_getElem hlt] at ht ⊢
    exact ht
  rw [insT, insS, h1, h2, spF_app, spF_app, Nat.zero_add, spF_len, totS_spF0, List.append_assoc, List.append_assoc]
  congr 1
  simp only [spF, List.singleton_append, List.cons.injEq]
  have hup : spF (tot (row.take k ++ [⟨x, 1, if 0 < k ∧ k < row.length then (row.getD k default).st + (row.getD k default).sl - 1 else 0⟩])) (row.drop k) = moveUp (spF (tot (row.take k)) (row.drop k)) := by
    rw [tot_app, ← spF_up]
    rfl
  refine ⟨?_, by first | exact hup | (rw [Nat.zero_add]; exact hup)⟩
  by_cases hend : k = row.length
  · rw [if_pos hend, if_pos hend, if_neg (by omega), hend, List.take_length]
  · rw [if_neg hend, if_neg hend]
    by_cases h0 : 0 < k
    · rw [if_pos h0, if_pos h0, if_pos ⟨h0, by omega⟩, hlast h0]
      have hkl : k < row.length := by omega
      have hd : row.drop k = row[k] :: row.drop (k + 1) := List.drop_eq_getElem_cons hkl
      have hget : (spF 0 row).getD k default = ⟨row[k].x, tot (row.take k) + row[k].st, tot (row.take k) + row[k].st + row[k].sl⟩ := by
        rw [e, hd]
        simp only [List.getD, spF]
        rw [List.getElem?_append_right (by rw [hl]; exact Nat.le_refl _), hl, Nat.sub_self]
        rfl
      have hg : row.getD k default = row[k] := by simp [List.getD, hkl]
      have hst := hs row[k] (List.getElem_mem _)
      rw [hget, hg]
      simp only [Sp.mk.injEq, true_and]
      omega
    · have hk0 : k = 0 := by omega
      subst hk0
      rw [if_neg (by omega), if_neg (by omega), if_neg (by omega)]
      rfl

/-- One step of squeezing: the tuple at i goes into the next one, where that is no greater than a limit then. -/
def sqStep (m i : Nat) (row : List Tp) : List Tp :=
  if (row.getD i default).st + (row.getD (i + 1) default).st + (row.getD (i + 1) default).sl ≤ m then
    row.take i ++ [⟨(row.getD (i + 1) default).x, (row.getD (i + 1) default).st + (row.getD i default).st, (row.getD (i + 1) default).sl⟩] ++ row.drop (i + 2)
  else row
/-- .. from so many places on, down to the second one. -/
def sqTo (m : Nat) : Nat → List Tp → List Tp
  | 0, row => row
  | i + 1, row => sqTo m i (sqStep m (i + 1) row)
def sqT (m : Nat) (row : List Tp) : List Tp := sqTo m (row.length - 2) row
def sqStepS (m i : Nat) (l : List Sp) : List Sp :=
  if (l.getD (i + 1) default).hi - (l.getD (i - 1) default).lo ≤ m then l.take i ++ l.drop (i + 1) else l
def sqToS (m : Nat) : Nat → List Sp → List Sp
  | 0, l => l
  | i + 1, l => sqToS m i (sqStepS m (i + 1) l)
def sqS (m : Nat) (l : List Sp) : List Sp := sqToS m (l.length - 2) l

theorem step_parts (row : List Tp) (i : Nat) (h0 : 0 < i) (h : i + 1 < row.length) :
    ∃ A o p q B, row = A ++ o :: p :: q :: B ∧ A.length + 1 = i := by
  have e1 := List.take_append_drop (i - 1) row
  have hl : (row.drop (i - 1)).length = row.length - (i - 1) := List.length_drop
  match hd : row.drop (i - 1), hl with
  | o :: p :: q :: B, _ => exact ⟨row.take (i - 1), o, p, q, B, by rw [hd] at e1; exact e1.symm, by rw [List.length_take]; omega⟩
  | [], hl => simp at hl; omega
  | [_], hl => simp at hl; omega
  | [_, _], hl => simp at hl; omega
theorem step_same (m : Nat) (row : List Tp) (i : Nat) (h0 : 0 < i) (h : i + 1 < row.length) : spF 0 (sqStep m i row) = sqStepS m i (spF 0 row) := by
  obtain ⟨A, o, p, q, B, rfl, hA⟩ := step_parts row i h0 h
  obtain rfl : i = A.length + 1 := hA.symm
  have g1 : (A ++ o :: p :: q :: B).getD (A.length + 1) default = p := by
    simp [List.getD]
  have g2 : (A ++ o :: p :: q :: B).getD (A.length + 1 + 1) default = q := by
    simp only [List.getD]
    rw [List.getElem?_append_right (by omega), show A.length + 1 + 1 - A.length = 2 from by omega]
    rfl
  have t1 : (A ++ o :: p :: q :: B).take (A.length + 1) = A ++ [o] := by
    rw [List.take_length_add_append]
    rfl
  have t2 : (A ++ o :: p :: q :: B).drop (A.length + 1 + 2) = B := by
    rw [Nat.add_assoc, List.drop_length_add_append]
    rfl
  have hs : spF 0 (A ++ o :: p :: q :: B) = spF 0 A ++ spF (tot A) (o :: p :: q :: B) := by rw [spF_app, Nat.zero_add]
  have hlA := spF_len 0 A
  have s1 : ((spF 0 (A ++ o :: p :: q :: B)).getD (A.length + 1 + 1) default) = ⟨q.x, tot A + o.st + p.st + q.st, tot A + o.st + p.st + q.st + q.sl⟩ := by
    rw [hs]
    simp only [List.getD, spF]
    rw [List.getElem?_append_right (by omega), hlA, show A.length + 1 + 1 - A.length = 2 from by omega]
    rfl
  have s2 : ((spF 0 (A ++ o :: p :: q :: B)).getD (A.length + 1 - 1) default) = ⟨o.x, tot A + o.st, tot A + o.st + o.sl⟩ := by
    rw [hs]
    simp only [List.getD, spF]
    rw [List.getElem?_append_right (by omega), hlA, show A.length + 1 - 1 - A.length = 0 from by omega]
    rfl
  rw [sqStep, sqStepS, g1, g2, t1, t2, s1, s2]
  simp only
  by_cases hle : p.st + q.st + q.sl ≤ m
  · rw [if_pos hle, if_pos (by omega)]
    rw [List.append_assoc, List.append_assoc, spF_app, Nat.zero_add, hs]
    have u1 : (spF 0 A ++ spF (tot A) (o :: p :: q :: B)).take (A.length + 1) = spF 0 A ++ [⟨o.x, tot A + o.st, tot A + o.st + o.sl⟩] := by
      rw [← hlA, List.take_length_add_append]
      rfl
    have u2 : (spF 0 A ++ spF (tot A) (o :: p :: q :: B)).drop (A.length + 1 + 1) = spF (tot A + o.st + p.st) (q :: B) := by
      rw [← hlA, Nat.add_assoc, List.drop_length_add_append]
      rfl
    rw [u1, u2, List.append_assoc]
    congr 1
    simp only [spF, List.cons_append, List.cons.injEq, true_and, Sp.mk.injEq, List.nil_append]
    have e : tot A + o.st + (q.st + p.st) = tot A + o.st + p.st + q.st := by omega
    rw [e]
    exact ⟨⟨rfl, rfl⟩, rfl⟩
  · rw [if_neg hle, if_neg (by omega)]
theorem sqStep_len (m i : Nat) (row : List Tp) (h : i + 1 < row.length) : (sqStep m i row).length = row.length ∨ (sqStep m i row).length + 1 = row.length := by
  unfold sqStep
  split
  · right
    simp
    omega
  · exact .inl rfl
theorem sqTo_same (m : Nat) (i : Nat) : ∀ row : List Tp, (0 < i → i + 1 < row.length) → spF 0 (sqTo m i row) = sqToS m i (spF 0 row) := by
  induction i with
  | zero => intro row _; rfl
  | succ i ih =>
    intro row h
    have h1 := h (by omega)
    rw [sqTo, sqToS, ← step_same m row (i + 1) (by omega) h1]
    refine ih _ (fun hi => ?_)
    rcases sqStep_len m (i + 1) row h1 with h2 | h2 <;> omega
theorem squeeze_same (m : Nat) (row : List Tp) : spF 0 (sqT m row) = sqS m (spF 0 row) := by
  rw [sqT, sqS, spF_len]
  exact sqTo_same m _ row (fun h => by omega)

/-- What a row of tuples that was put together tells of n values: it can be. -/
structure FineT (row : List Tp) (n : Nat) : Prop where
  total : tot row = n
  pos : ∀ p ∈ row, 1 ≤ p.st
  first : ∀ p, row.head? = some p → p.st = 1 ∧ p.sl = 0
  high : ∀ s ∈ spF 0 row, s.hi ≤ n
  up : row.Pairwise fun a b => a.x ≤ b.x
theorem FineT.nil : FineT [] 0 := ⟨rfl, by simp, by simp, by simp [spF], List.Pairwise.nil⟩
theorem FineT.insert {row : List Tp} {n : Nat} (h : FineT row n) (x : Int) (k : Nat) (hk : k ≤ row.length) (hlo : ∀ p ∈ row.take k, p.x ≤ x) (hhi : ∀ p ∈ row.drop k, x < p.x) : FineT (insT row x k) (n + 1) := by
  have hsplit := List.take_append_drop k row
  refine ⟨?_, ?_, ?_, ?_, ?_⟩
  · have ht := h.total
    rw [← hsplit, tot_app] at ht
    rw [insT, tot_app, tot_app]
    have : ∀ s, tot [⟨x, 1, s⟩] = 1 := fun s => rfl
    rw [this]
    omega
  · intro p hp
    rw [insT] at hp
    simp only [List.mem_append, List.mem_singleton] at hp
    rcases hp with (hp | hp) | hp
    · exact h.pos p (List.mem_of_mem_take hp)
    · subst hp; simp
    · exact h.pos p (List.mem_of_mem_drop hp)
  · intro p hp
    by_cases h0 : k = 0
    · subst h0
      rw [insT] at hp
      simp only [List.take_zero, List.nil_append, List.singleton_append, List.head?_cons, Option.some.injEq] at hp
      subst hp
      simp
    · have hA : row.take k ≠ [] := by
        intro he
        have := congrArg List.length he
        rw [List.length_take, List.length_nil] at this
        cases row with
        | nil => simp at hk; omega
        | cons a r => simp at this; omega
      refine h.first p ?_
      rw [insT, List.append_assoc] at hp
      rw [← hsplit]
      cases hc : row.take k with
      | nil => exact absurd hc hA
      | cons a A =>
        rw [hc] at hp
        simpa using hp
  · intro s hs
    rw [insert_same row x k hk h.pos, insS] at hs
    simp only [List.mem_append, List.mem_singleton] at hs
    rcases hs with (hs | hs) | hs
    · have := h.high s (List.mem_of_mem_take hs); omega
    · subst hs
      simp only
      rw [totS_spF0, h.total]
      split
      · exact Nat.le_refl _
      · next hne =>
        split
        · rw [spF_len] at hne
          have hlt : k < (spF 0 row).length := by rw [spF_len]; omega
          have hm : (spF 0 row).getD k default ∈ spF 0 row := by
            simp only [List.getD, List.getElem?_eq_getElem hlt, Option.getD_some]
            exact List.getElem_mem _
          have := h.high _ hm
          omega
        · omega
    · simp only [moveUp, List.mem_map] at hs
      obtain ⟨s0, hs0, rfl⟩ := hs
      have := h.high s0 (List.mem_of_mem_drop hs0)
      simp only
      omega
  · have hu := h.up
    rw [← hsplit, List.pairwise_append] at hu
    obtain ⟨u1, u2, u3⟩ := hu
    rw [insT, List.append_assoc, List.pairwise_append]
    refine ⟨u1, ?_, ?_⟩
    · rw [List.singleton_append, List.pairwise_cons]
      exact ⟨fun p hp => by have := hhi p hp; simp only; omega, u2⟩
    · intro p hp q hq
      rw [List.singleton_append] at hq
      rcases List.mem_cons.1 hq with rfl | hq
      · exact hlo p hp
      · exact u3 p hp q hq
theorem FineT.step {row : List Tp} {n : Nat} (h : FineT row n) (m i : Nat) (h0 : 0 < i) (hi : i + 1 < row.length) : FineT (sqStep m i row) n := by
  have hsame := step_same m row i h0 hi
  obtain ⟨A, o, p, q, B, rfl, hA⟩ := step_parts row i h0 hi
  by_cases hle : ((A ++ o :: p :: q :: B).getD i default).st + ((A ++ o :: p :: q :: B).getD (i + 1) default).st + ((A ++ o :: p :: q :: B).getD (i + 1) default).sl ≤ m
  · have g1 : (A ++ o :: p :: q :: B).getD i default = p := by
      subst hA
      simp [List.getD]
    have g2 : (A ++ o :: p :: q :: B).getD (i + 1) default = q := by
      subst hA
      simp only [List.getD]
      rw [List.getElem?_append_right (by omega), show A.length + 1 + 1 - A.length = 2 from by omega]
      rfl
    have e : sqStep m i (A ++ o :: p :: q :: B) = A ++ o :: ⟨q.x, q.st + p.st, q.sl⟩ :: B := by
      rw [sqStep, if_pos hle, g1, g2]
      subst hA
      rw [List.take_length_add_append, Nat.add_assoc, List.drop_length_add_append]
      simp
    have hp := h.pos p (by simp)
    refine ⟨?_, ?_, ?_, ?_, ?_⟩
    · have := h.total
      rw [e]
      simp only [tot_app, tot_cons] at this ⊢
      omega
    · intro r hr
      rw [e] at hr
      simp only [List.mem_append, List.mem_cons] at hr
      rcases hr with hr | hr | hr | hr
      · exact h.pos r (by simp [hr])
      · exact h.pos r (by simp [hr])
      · subst hr; simp only; omega
      · exact h.pos r (by simp [hr])
    · intro r hr
      refine h.first r ?_
      rw [e] at hr
      cases A with
      | nil => simpa using hr
      | cons a A => simpa using hr
    · intro s hs
      rw [hsame, sqStepS] at hs
      refine h.high s ?_
      split at hs
      · rcases List.mem_append.1 hs with hs | hs
        · exact List.mem_of_mem_take hs
        · exact List.mem_of_mem_drop hs
      · exact hs
    · have hu := h.up
      rw [e]
      rw [List.pairwise_append] at hu ⊢
      obtain ⟨u1, u2, u3⟩ := hu
      simp only [List.pairwise_cons, List.mem_cons, forall_eq_or_imp] at u2 u3 ⊢
      obtain ⟨⟨a1, a2, a3⟩, ⟨b1, b2⟩, c1, c2⟩ := u2
      exact ⟨u1, ⟨⟨a2, a3⟩, c1, c2⟩, fun r hr => ⟨(u3 r hr).1, (u3 r hr).2.2.1, (u3 r hr).2.2.2⟩⟩
  · rw [sqStep, if_neg hle]
    exact h
theorem FineT.squeeze {row : List Tp} {n : Nat} (h : FineT row n) (m : Nat) : FineT (sqT m row) n := by
  have gen : ∀ (i : Nat) (row : List Tp), FineT row n → (0 < i → i + 1 < row.length) → FineT (sqTo m i row) n := by
    intro i
    induction i with
    | zero => intro row h _; exact h
    | succ i ih =>
      intro row h hi
      have h1 := hi (by omega)
      refine ih _ (h.step m (i + 1) (by omega) h1) (fun h2 => ?_)
      rcases sqStep_len m (i + 1) row h1 with h3 | h3 <;> omega
  exact gen _ row h (fun _ => by omega)
end Go.Proofs.YtlcoibhbdgdfcaaGreatDoor

namespace Go.Proofs.YtlcoibhbdgdfcaaGreatDoor
open Go.RowKit

def Tp.cells (p : Tp) : List Value := [.int .i64 p.x, .int .u64 p.st, .int .u64 p.sl]
def Tp.ok (p : Tp) : Prop := -9223372036854775808 ≤ p.x ∧ p.x < 9223372036854775808 ∧ p.st < 18446744073709551616 ∧ p.sl < 18446744073709551616
def tpCells (l : List Tp) : List Value := (l.map Tp.cells).flatten
theorem tpCells_len (l : List Tp) : (tpCells l).length = l.length * 3 := by
  induction l with
  | nil => rfl
  | cons a r ih => simp only [tpCells, List.map_cons, List.flatten_cons, List.length_append, List.length_cons] at *; rw [ih]; simp [Tp.cells]; omega
theorem tpCells_append (a b : List Tp) : tpCells (a ++ b) = tpCells a ++ tpCells b := by simp [tpCells]
theorem tpCells_get (l : List Tp) (k j : Nat) (hk : k < l.length) (hj : j < 3) : (tpCells l)[k * 3 + j]? = (l[k].cells)[j]? := by
  induction l generalizing k with
  | nil => simp at hk
  | cons a r ih =>
    cases k with
    | zero =>
      simp only [tpCells, List.map_cons, List.flatten_cons, Nat.zero_mul, Nat.zero_add, List.getElem_cons_zero]
      rw [List.getElem?_append_left (by simpa [Tp.cells] using hj)]
    | succ k =>
      have := ih k (by simpa using hk)
      simp only [tpCells, List.map_cons, List.flatten_cons, List.getElem_cons_succ] at *
      rw [List.getElem?_append_right (by simp [Tp.cells]; omega), ← this]
      congr 1
      simp [Tp.cells]
      omega
theorem tp_at {w : World} {b o k : Nat} {l : List Tp} (hc : ∀ j, j < l.length * 3 → w.cell? ⟨b, o + j, none⟩ = (tpCells l)[j]?) (h : k < l.length) :
    w.cell? ⟨b, o + k * 3, none⟩ = some (.int .i64 l[k].x) ∧ w.cell? ⟨b, o + k * 3 + 1, none⟩ = some (.int .u64 l[k].st) ∧ w.cell? ⟨b, o + k * 3 + 2, none⟩ = some (.int .u64 l[k].sl) := by
  have g : ∀ j, j < 3 → w.cell? ⟨b, o + k * 3 + j, none⟩ = (l[k].cells)[j]? := fun j hj => by
    rw [← tpCells_get l k j h hj, ← hc (k * 3 + j) (by omega), Nat.add_assoc]
  exact ⟨g 0 (by omega), g 1 (by omega), g 2 (by omega)⟩
theorem tpCells_oneCell (l : List Tp) : ∀ y ∈ tpCells l, y.oneCell' = true := by
  intro y hy
  simp only [tpCells, List.mem_flatten, List.mem_map] at hy
  obtain ⟨x, ⟨i, _, rfl⟩, hy⟩ := hy
  simp only [Tp.cells, List.mem_cons, List.not_mem_nil, or_false] at hy
  rcases hy with rfl | rfl | rfl <;> rfl
theorem under_tuples : Tryz.prog.underlying 186 = some (.slice 188) := by kernel_rfl
theorem info_tuple : (Tryz.prog.info? 188).map (fun i => (i.zero, i.size, i.bytes)) = some (some (.agg #[.int .i64 0, .int .u64 0, .int .u64 0]), 3, 24) := by kernel_rfl
end Go.Proofs.YtlcoibhbdgdfcaaGreatDoor
