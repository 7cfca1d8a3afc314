/-
  A row of tuples that Good lets pass can be; and what the reference's way to the closest, and to the ranks, comes to. Conditions: none.
-/
import Derived.Test.YtmbalpkeaobfgaaTuplesRowsW
namespace Go.Proofs.Ytmbalpkeaobfgaa
open Go.RowKit

theorem spF_get (l : List Tp) (k : Nat) (h : k < l.length) (h' : k < (spF 0 l).length) : (spF 0 l)[k] = ⟨l[k].x, tot (l.take k) + l[k].st, tot (l.take k) + l[k].st + l[k].sl⟩ := by
  have e : spF 0 l = spF 0 (l.take k) ++ spF (tot (l.take k)) (l.drop k) := by
    have := spF_app 0 (l.take k) (l.drop k)
    rw [List.take_append_drop, Nat.zero_add] at this
    exact this
  have hlk : (spF 0 (l.take k)).length = k := by rw [spF_len, List.length_take]; omega
  rw [List.getElem_of_eq e, List.getElem_append_right (by omega)]
  simp only [hlk, Nat.sub_self, List.drop_eq_getElem_cons h, spF, List.getElem_cons_zero]
theorem okTo_at {l : List Tp} {n m : Nat} (h : okTo l n m = true) {k : Nat} (hk : k < m) : okT l n k = true := by
  rw [okTo, List.all_eq_true] at h
  exact h k (by simpa using hk)
theorem fine_of_good {l : List Tp} (h : goodT l = true) : FineT l (stps l).sum := by
  rw [goodT, Bool.and_eq_true, Bool.and_eq_true] at h
  obtain ⟨⟨h1, h2⟩, h3⟩ := h
  have hat : ∀ k (hk : k < l.length), 1 ≤ l[k].st ∧ l[k].sl ≤ (stps l).sum - tot (l.take (k + 1)) ∧ (0 < k → (l[k - 1]'(by omega)).x ≤ l[k].x) := by
    intro k hk
    have h4 := of_decide_eq_true (okTo_at h2 hk)
    have e : l.getD k default = l[k] := by simp [List.getD, hk]
    have hk1 : k - 1 < l.length := by omega
    have e1 : l.getD (k - 1) default = l[k - 1] := by simp [List.getD, hk1]
    rw [e, e1, sumTo_tot] at h4
    exact h4
  refine ⟨rfl, fun p hp => ?_, fun p hp => ?_, fun s hs => ?_, ?_⟩
  · obtain ⟨k, hk, rfl⟩ := List.getElem_of_mem hp
    exact (hat k hk).1
  · cases hl : l with
    | nil => rw [hl] at hp; simp at hp
    | cons q r =>
      rw [hl] at hp h3
      simp only [List.head?_cons, Option.some.injEq] at hp
      subst hp
      simp [headOk, List.getD] at h3
      exact h3
  · obtain ⟨k, hk, rfl⟩ := List.getElem_of_mem hs
    have hkl : k < l.length := by rw [spF_len] at hk; exact hk
    rw [spF_get l k hkl hk]
    have h4 := hat k hkl
    rw [tot_step l k hkl] at h4
    have h5 := sumTo_le (stps l) (k + 1)
    rw [sumTo_tot, tot_step l k hkl] at h5
    simp only
    omega
  · rw [List.pairwise_iff_getElem]
    have step : ∀ d i (hi : i + d < l.length), (l[i]'(by omega)).x ≤ (l[i + d]).x := by
      intro d
      induction d with
      | zero => intro i hi; exact Int.le_refl _
      | succ d ih =>
        intro i hi
        have h6 := ih i (by omega)
        have h7 := (hat (i + (d + 1)) hi).2.2 (by omega)
        simp only [show i + (d + 1) - 1 = i + d from by omega] at h7
        omega
    intro i j hi hj hij
    have := step (j - i) i (by omega)
    simp only [show i + (j - i) = j from by omega] at this
    exact this

/-- The least place of the last one that isn't greater. -/
def lowG (a : Nat) (l : List Sp) (x : Int) : Nat := l.foldl (fun a s => if s.x ≤ x then s.lo else a) a
theorem lowG_rank (x : Int) : ∀ (l : List Tp) (n : Nat), (l.Pairwise fun p q => p.x ≤ q.x) → lowG n (spF n l) x = (rankF n l x).1
  | [], _, _ => rfl
  | p :: l, n, h => by
    obtain ⟨h1, h2⟩ := List.pairwise_cons.1 h
    rw [spF, lowG, List.foldl_cons, rankF]
    by_cases hx : x < p.x
    · rw [if_pos hx, if_neg (by simp only; omega)]
      have stay : ∀ (m : List Sp) (a : Nat), (∀ s ∈ m, x < s.x) → m.foldl (fun a s => if s.x ≤ x then s.lo else a) a = a := by
        intro m
        induction m with
        | nil => intro a _; rfl
        | cons s m ih =>
          intro a hm
          rw [List.foldl_cons, if_neg (by have := hm s (by simp); omega)]
          exact ih a (fun t ht => hm t (by simp [ht]))
      refine stay _ _ (fun s hs => ?_)
      obtain ⟨q, hq, hxq⟩ := spF_x_mem hs
      have := h1 q hq
      omega
    · rw [if_neg hx, if_pos (by simp only; omega)]
      exact lowG_rank x l (n + p.st) h2
theorem lowG_step (l : List Sp) (x : Int) (k : Nat) (h : k < l.length) : lowG 0 (l.take (k + 1)) x = if l[k].x ≤ x then l[k].lo else lowG 0 (l.take k) x := by
  rw [lowG, List.take_succ_eq_append_getElem h, List.foldl_append]
  rfl
/-- Without a first one: as with it, if the first one is closer than what was taken. -/
theorem goF_first (t b : Nat) (l : List Tp) (h : ∀ p, l.head? = some p → offN t p.st (p.st + p.sl) < b) : goF t false b 0 0 l = foundX t l := by
  cases l with
  | nil => rfl
  | cons p l =>
    have h1 := h p rfl
    rw [foundX, goF, if_pos (.inr (by simpa using h1)), goF, if_pos (.inl rfl)]
theorem rank_high (l : List Tp) (x : Int) (k : Nat) (h : k < l.length) : (rankF (tot (l.take k)) (l.drop k) x).2 = if x < l[k].x then tot (l.take k) + l[k].st + l[k].sl - 1 else (rankF (tot (l.take (k + 1))) (l.drop (k + 1)) x).2 := by
  rw [List.drop_eq_getElem_cons h, rankF, tot_step l k h]
  split <;> rfl
end Go.Proofs.Ytmbalpkeaobfgaa
