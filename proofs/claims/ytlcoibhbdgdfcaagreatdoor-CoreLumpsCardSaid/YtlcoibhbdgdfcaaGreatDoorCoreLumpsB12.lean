/-
  What runs.Get reads, plainly: what it is of a row's bytes, and what it tells of any bytes. Conditions: none.
  Values of 64 bits as bytes, and read again, plainly. Conditions: none.
-/
import Derived.Test.YtlcoibhbdgdfcaaGreatDoorCoreLumpsB11
import Derived.Test.YtlcoibhbdgdfcaaGreatDoorCoreLumpsB10
namespace Go.Proofs.YtlcoibhbdgdfcaaGreatDoor
open Go.RowKit

theorem pair_eq {α β : Type} {x : α × β} {b : β} (h : x.2 = b) : x = (x.1, b) := by subst h; rfl
def lastI (acc : List Pr) : Int := (acc.getD (acc.length - 1) default).i
def idxNext (acc : List Pr) (st : Option (List UInt8)) : Int × Option (List UInt8) :=
  if acc.length = 0 then (zag (eNat 18446744073709551615 st).1, (eNat 18446744073709551615 st).2)
  else (lastI acc + (eNat (9223372036854775806 - lastI acc).toNat st).1 + 1, (eNat (9223372036854775806 - lastI acc).toNat st).2)
/-- So many pairs more, behind those that were got. -/
def getN : Nat → List Pr → Option (List UInt8) → List Pr × Option (List UInt8)
  | 0, acc, st => (acc, st)
  | n + 1, acc, st =>
    if acc.length ≠ 0 ∧ lastI acc = 9223372036854775807 then ([], none)
    else if (eCount (idxNext acc st).2).2 = none then ([], none)
    else getN n (acc ++ [⟨(idxNext acc st).1, (eCount (idxNext acc st).2).1⟩]) (eCount (idxNext acc st).2).2
def getP (most : Int) (st : Option (List UInt8)) : List Pr × Option (List UInt8) := getN (eNat most.toNat st).1 [] (eNat most.toNat st).2

theorem eNat_sound {most v : Nat} {l r : List UInt8} (h : eNat most (some l) = (v, some r)) : l = natB v ++ r ∧ v ≤ most ∧ v < 2 ^ 64 := by
  rw [eNat_some] at h
  split at h
  · next v' r' hl =>
    split at h
    · next hv =>
      simp only [Prod.mk.injEq, Option.some.injEq] at h
      obtain ⟨rfl, rfl⟩ := h
      obtain ⟨h1, h2, _⟩ := leb_sound l 0 v' r' (by omega) hl
      exact ⟨h1, hv, by simpa using h2⟩
    · simp at h
  · simp at h
theorem pairB_app (acc : List Pr) (x : List Pr) (k : Nat) (h : k < acc.length) : pairB (acc ++ x) k = pairB acc k := by
  unfold pairB
  rw [show (acc ++ x).getD k default = acc.getD k default from by simp [List.getD, List.getElem?_append_left h], show (acc ++ x).getD (k - 1) default = acc.getD (k - 1) default from by simp [List.getD, List.getElem?_append_left (show k - 1 < acc.length by omega)]]
theorem bodyTo_app (acc x : List Pr) (k : Nat) (h : k ≤ acc.length) : bodyTo (acc ++ x) k = bodyTo acc k := by
  induction k with
  | zero => rfl
  | succ k ih => rw [bodyTo_succ, bodyTo_succ, ih (by omega), pairB_app acc x k (by omega)]
theorem goodTo_app (acc x : List Pr) (k : Nat) (h : k ≤ acc.length) : goodTo (acc ++ x) k = goodTo acc k := by
  induction k with
  | zero => rfl
  | succ k ih => rw [goodTo_succ, goodTo_succ, ih (by omega), show (acc ++ x).getD k default = acc.getD k default from by simp [List.getD, List.getElem?_append_left (show k < acc.length by omega)], show (acc ++ x).getD (k - 1) default = acc.getD (k - 1) default from by simp [List.getD, List.getElem?_append_left (show k - 1 < acc.length by omega)]]
theorem eCount_sound {st : Option (List UInt8)} {v : Nat} {r : List UInt8} (h : eCount st = (v, some r)) : ∃ l, st = some l ∧ l = natB v ++ r ∧ 1 ≤ v ∧ v ≤ 9223372036854775807 := by
  unfold eCount at h
  split at h
  · simp at h
  · next h0 =>
    cases st with
    | none => simp [eNat] at h
    | some l =>
      obtain ⟨h1, h2, _⟩ := eNat_sound h
      rw [h] at h0
      exact ⟨l, rfl, h1, by simp only at h0; omega, h2⟩
theorem eCount_natB {c : Nat} (h1 : 1 ≤ c) (h2 : c ≤ 9223372036854775807) (r : List UInt8) : eCount (some (natB c ++ r)) = (c, some r) := by
  have := eNat_natB (n := c) (most := 9223372036854775807) (by omega) r
  rw [if_pos h2] at this
  rw [eCount, this, if_neg (by simp only; omega)]

def headB (acc : List Pr) (p : Pr) : List UInt8 := (if acc.length = 0 then natB (zig p.i) else natB (gapN p.i (lastI acc))) ++ natB p.c
def tailB : List Pr → List Pr → List UInt8
  | _, [] => []
  | acc, p :: ext => headB acc p ++ tailB (acc ++ [p]) ext
theorem pairB_head (acc : List Pr) (p : Pr) : pairB (acc ++ [p]) acc.length = headB acc p := by
  have h1 : (acc ++ [p]).getD acc.length default = p := by simp [List.getD]
  unfold pairB headB lastI
  rw [h1]
  by_cases h : acc.length = 0
  · rw [if_pos h, if_pos h]
  · rw [if_neg h, if_neg h, show (acc ++ [p]).getD (acc.length - 1) default = acc.getD (acc.length - 1) default from by simp [List.getD, List.getElem?_append_left (show acc.length - 1 < acc.length by omega)]]
theorem body_tail (ext acc : List Pr) : bodyTo (acc ++ ext) (acc ++ ext).length = bodyTo acc acc.length ++ tailB acc ext := by
  induction ext generalizing acc with
  | nil => simp [tailB]
  | cons p ext ih =>
    rw [show acc ++ p :: ext = (acc ++ [p]) ++ ext from by simp, ih, show (acc ++ [p]).length = acc.length + 1 from by simp, bodyTo_succ, bodyTo_app acc [p] _ (Nat.le_refl _), pairB_head, tailB, List.append_assoc]
theorem goodP_push (acc : List Pr) (p : Pr) : goodP (acc ++ [p]) = (goodP acc && decide (1 ≤ p.c ∧ p.c ≤ 9223372036854775807 ∧ (0 < acc.length → lastI acc < p.i))) := by
  have h1 : (acc ++ [p]).getD acc.length default = p := by simp [List.getD]
  rw [goodP, show (acc ++ [p]).length = acc.length + 1 from by simp, goodTo_succ, goodTo_app acc [p] _ (Nat.le_refl _), h1, goodP]
  by_cases h : acc.length = 0
  · simp [h]
  · rw [show (acc ++ [p]).getD (acc.length - 1) default = acc.getD (acc.length - 1) default from by simp [List.getD, List.getElem?_append_left (show acc.length - 1 < acc.length by omega)], lastI]
theorem goodP_pre {acc ext : List Pr} (h : goodP (acc ++ ext) = true) : goodP acc = true := by
  cases hc : goodP acc with
  | true => rfl
  | false =>
    have : goodTo (acc ++ ext) acc.length = false := by rw [goodTo_app acc ext _ (Nat.le_refl _)]; exact hc
    rw [goodP, goodTo_false this (by simp)] at h
    exact h
theorem lastI_ok {acc : List Pr} (hok : ∀ p ∈ acc, p.ok) (h : acc.length ≠ 0) : -9223372036854775808 ≤ lastI acc ∧ lastI acc < 9223372036854775808 := by
  have hm : acc.getD (acc.length - 1) default ∈ acc := by
    have : acc.length - 1 < acc.length := by omega
    simp [List.getD, this]
  exact ⟨(hok _ hm).1, (hok _ hm).2.1⟩
theorem idx_put (acc : List Pr) (p : Pr) (r : List UInt8) (hok : ∀ q ∈ acc ++ [p], q.ok) (hlt : 0 < acc.length → lastI acc < p.i) :
    idxNext acc (some (headB acc p ++ r)) = (p.i, some (natB p.c ++ r)) := by
  have hp : p.ok := hok p (by simp)
  unfold idxNext headB
  by_cases h : acc.length = 0
  · rw [if_pos h, if_pos h, List.append_assoc, eNat_natB (zig_lt hp.1 hp.2.1), if_pos (by have := zig_lt hp.1 hp.2.1; omega), zag_zig]
  · have hl := lastI_ok (fun q hq => hok q (by simp [hq])) h
    have h1 := hlt (by omega)
    have h2 := hp.2.1
    have hg : gapN p.i (lastI acc) = (p.i - lastI acc - 1).toNat := by unfold gapN; omega
    rw [if_neg h, if_neg h, List.append_assoc, eNat_natB (gapN_lt _ _), hg, if_pos (by omega)]
    simp only [Prod.mk.injEq, and_true]
    omega
theorem getN_put (more : List UInt8) (ext acc : List Pr) (hok : ∀ p ∈ acc ++ ext, p.ok) (hg : goodP (acc ++ ext) = true) : getN ext.length acc (some (tailB acc ext ++ more)) = (acc ++ ext, some more) := by
  induction ext generalizing acc with
  | nil => simp [getN, tailB]
  | cons p ext ih =>
    rw [show acc ++ p :: ext = (acc ++ [p]) ++ ext from by simp] at hok hg ⊢
    have hg1 := goodP_pre hg
    rw [goodP_push] at hg1
    simp only [Bool.and_eq_true, decide_eq_true_eq] at hg1
    obtain ⟨_, h1, h2, h3⟩ := hg1
    have hp : p.ok := hok p (by simp)
    rw [tailB, List.length_cons, getN, List.append_assoc, idx_put acc p _ (fun q hq => hok q (by rw [List.mem_append]; exact .inl hq)) h3, eCount_natB h1 h2, if_neg (by have := hp.2.1; omega), if_neg (by simp)]
    exact ih _ hok hg
theorem getP_put {l : List Pr} (hok : ∀ p ∈ l, p.ok) (hg : goodP l = true) (more : List UInt8) (most : Int) (hl : (l.length : Int) ≤ most) (hb : l.length < 2 ^ 64) : getP most (some (putB l ++ more)) = (l, some more) := by
  have hbt := body_tail l []
  simp only [List.nil_append, List.length_nil] at hbt
  rw [show bodyTo [] 0 = [] from rfl, List.nil_append] at hbt
  rw [getP, putB, List.append_assoc, eNat_natB hb, if_pos (by omega), hbt]
  exact getN_put more l [] (by simpa using hok) (by simpa using hg)
theorem getP_fewer {l : List Pr} (more : List UInt8) (most : Int) (hl : most < (l.length : Int)) (hb : l.length < 2 ^ 64) (h0 : 0 < l.length) : getP most (some (putB l ++ more)) = ([], none) := by
  rw [getP, putB, List.append_assoc, eNat_natB hb, if_neg (by omega)]
  rfl
theorem getN_none {n : Nat} {acc : List Pr} {l : List UInt8} {L : List Pr} (h : getN n acc (some l) = (L, none)) : L = [] := by
  induction n generalizing acc l with
  | zero => simp [getN] at h
  | succ n ih =>
    rw [getN] at h
    split at h
    · simp at h; exact h
    · split at h
      · simp at h; exact h
      · next hn =>
        cases hc : (eCount (idxNext acc (some l)).2).2 with
        | none => exact absurd hc hn
        | some l2 => rw [hc] at h; exact ih h
theorem getP_none {most : Int} {l : List UInt8} {L : List Pr} (h : getP most (some l) = (L, none)) : L = [] := by
  rw [getP] at h
  cases hc : (eNat most.toNat (some l)).2 with
  | none =>
    have : (eNat most.toNat (some l)).1 = 0 := by
      rw [eNat_some] at hc ⊢
      split at hc
      · split at hc
        · simp at hc
        · next h1 => rw [if_neg h1]
      · rfl
    rw [hc, this] at h
    simp [getN] at h
    exact h
  | some l2 => rw [hc] at h; exact getN_none h

theorem idx_sound {acc : List Pr} {l r : List UInt8} {i : Int} (hok : ∀ q ∈ acc, q.ok) (hmax : ¬ (acc.length ≠ 0 ∧ lastI acc = 9223372036854775807)) (h : idxNext acc (some l) = (i, some r)) :
    l = (if acc.length = 0 then natB (zig i) else natB (gapN i (lastI acc))) ++ r ∧ -9223372036854775808 ≤ i ∧ i < 9223372036854775808 ∧ (0 < acc.length → lastI acc < i) := by
  unfold idxNext at h
  split at h
  · next h0 =>
    simp only [Prod.mk.injEq] at h
    obtain ⟨rfl, h2⟩ := h
    obtain ⟨e1, e2, e3⟩ := eNat_sound (pair_eq h2)
    rw [if_pos h0, zig_zag]
    have := zag_range e3
    exact ⟨e1, this.1, this.2, by omega⟩
  · next h0 =>
    simp only [Prod.mk.injEq] at h
    obtain ⟨rfl, h2⟩ := h
    obtain ⟨e1, e2, e3⟩ := eNat_sound (pair_eq h2)
    have hl := lastI_ok hok h0
    rw [if_neg h0]
    generalize (eNat (9223372036854775806 - lastI acc).toNat (some l)).1 = v at *
    have hm : lastI acc ≠ 9223372036854775807 := fun h => hmax ⟨h0, h⟩
    have hg : gapN (lastI acc + v + 1) (lastI acc) = v := by unfold gapN; omega
    rw [hg]
    exact ⟨e1, by omega, by omega, by omega⟩
theorem getN_sound (n : Nat) (acc : List Pr) (l : List UInt8) (L : List Pr) (r : List UInt8) (hok : ∀ q ∈ acc, q.ok) (hg : goodP acc = true) (h : getN n acc (some l) = (L, some r)) :
    ∃ ext, ext.length = n ∧ L = acc ++ ext ∧ l = tailB acc ext ++ r ∧ goodP L = true ∧ ∀ q ∈ L, q.ok := by
  induction n generalizing acc l with
  | zero =>
    simp only [getN, Prod.mk.injEq, Option.some.injEq] at h
    obtain ⟨rfl, rfl⟩ := h
    exact ⟨[], rfl, by simp, by simp [tailB], hg, hok⟩
  | succ n ih =>
    rw [getN] at h
    split at h
    · simp at h
    · next hmax =>
      split at h
      · simp at h
      · next hn =>
        cases hc : (eCount (idxNext acc (some l)).2).2 with
        | none => exact absurd hc hn
        | some l2 =>
          rw [hc] at h
          obtain ⟨l1, f1, f2, f3, f4⟩ := eCount_sound (pair_eq hc)
          obtain ⟨g1, g2, g3, g4⟩ := idx_sound hok hmax (pair_eq f1)
          generalize (eCount (idxNext acc (some l)).2).1 = c at *
          generalize (idxNext acc (some l)).1 = i at *
          obtain ⟨ext, x1, x2, x3, x4, x5⟩ := ih (acc ++ [⟨i, c⟩]) l2 (by
            intro q hq
            rcases List.mem_append.1 hq with hq | hq
            · exact hok q hq
            · rw [List.mem_singleton] at hq
              subst hq
              exact ⟨g2, g3, by simp only; omega⟩) (by rw [goodP_push, hg]; simp only [Bool.true_and, decide_eq_true_eq]; exact ⟨f3, f4, g4⟩) h
          refine ⟨⟨i, c⟩ :: ext, by simp [x1], by rw [x2]; simp, ?_, x4, x5⟩
          rw [tailB, headB, g1, f2, x3]
          simp
theorem getP_sound {most : Int} {l : List UInt8} {L : List Pr} {r : List UInt8} (h : getP most (some l) = (L, some r)) :
    l = putB L ++ r ∧ goodP L = true ∧ (L.length : Int) ≤ max most 0 ∧ (∀ q ∈ L, q.ok) ∧ ∃ v s, l = natB v ++ s ∧ v < 2 ^ 64 := by
  rw [getP] at h
  cases hc : (eNat most.toNat (some l)).2 with
  | none =>
    rw [hc] at h
    generalize (eNat most.toNat (some l)).1 = n at *
    cases n with
    | zero => simp [getN] at h
    | succ n =>
      simp [getN, idxNext, eNat, eCount] at h
  | some l2 =>
    rw [hc] at h
    obtain ⟨e1, e2, e3⟩ := eNat_sound (pair_eq hc)
    generalize (eNat most.toNat (some l)).1 = n at *
    obtain ⟨ext, x1, x2, x3, x4, x5⟩ := getN_sound n [] l2 L r (by simp) rfl h
    rw [List.nil_append] at x2
    subst x2
    have hbt := body_tail L []
    simp only [List.nil_append, List.length_nil] at hbt
    rw [show bodyTo [] 0 = [] from rfl, List.nil_append] at hbt
    exact ⟨by rw [putB, hbt, x1, List.append_assoc, ← x3]; exact e1, x4, by omega, x5, n, l2, e1, e3⟩
end Go.Proofs.YtlcoibhbdgdfcaaGreatDoor

namespace Go.Proofs.YtlcoibhbdgdfcaaGreatDoor

/-- A value of 64 bits. -/
def InR (x : Int) : Prop := -9223372036854775808 ≤ x ∧ x < 9223372036854775808
theorem InR.zig {x : Int} (h : InR x) : zig x < 18446744073709551616 := by
  have := zig_lt h.1 h.2
  omega
/-- Values' bytes. -/
def intsB (l : List Int) : List UInt8 := l.flatMap fun x => natB (zig x)
theorem intsB_len (l : List Int) (h : ∀ x ∈ l, InR x) : (intsB l).length ≤ 10 * l.length := by
  induction l with
  | nil => simp [intsB]
  | cons x l ih =>
    have h1 := ih (fun y hy => h y (by simp [hy]))
    have h2 := natB_len10 (n := zig x) (by have := (h x (by simp)).zig; omega)
    simp only [intsB, List.flatMap_cons, List.length_append, List.length_cons] at h1 ⊢
    omega
def eInt (st : Option (List UInt8)) : Int × Option (List UInt8) := (zag (eNat 18446744073709551615 st).1, (eNat 18446744073709551615 st).2)
theorem eNat_hit {n most : Nat} (h : n < 18446744073709551616) (hm : n ≤ most) (r : List UInt8) : eNat most (some (natB n ++ r)) = (n, some r) := by
  have := eNat_natB (n := n) (most := most) (by omega) r
  rw [if_pos hm] at this
  exact this
theorem eInt_hit {x : Int} (h : InR x) (r : List UInt8) : eInt (some (natB (zig x) ++ r)) = (x, some r) := by
  have h1 := h.zig
  rw [eInt, eNat_hit h1 (by omega), zag_zig]
/-- So many values more, behind those that were read; none, if one isn't there. -/
def getInts : Nat → List Int → Option (List UInt8) → List Int × Option (List UInt8)
  | 0, acc, st => (acc, st)
  | n + 1, acc, st => if (eInt st).2 = none then ([], none) else getInts n (acc ++ [(eInt st).1]) (eInt st).2
theorem getInts_hit (l acc : List Int) (r : List UInt8) (h : ∀ x ∈ l, InR x) : getInts l.length acc (some (intsB l ++ r)) = (acc ++ l, some r) := by
  induction l generalizing acc with
  | nil => simp [getInts, intsB]
  | cons x l ih =>
    have e : intsB (x :: l) ++ r = natB (zig x) ++ (intsB l ++ r) := by simp [intsB]
    rw [List.length_cons, getInts, e, eInt_hit (h x (by simp)), if_neg (by simp), ih _ (fun y hy => h y (by simp [hy]))]
    simp
theorem getInts_len (n : Nat) (acc : List Int) (st : Option (List UInt8)) : (getInts n acc st).1.length ≤ acc.length + n := by
  induction n generalizing acc st with
  | zero => simp [getInts]
  | succ n ih =>
    rw [getInts]
    split
    · simp
    · have := ih (acc ++ [(eInt st).1]) (eInt st).2
      simp only [List.length_append, List.length_cons, List.length_nil] at this
      omega
end Go.Proofs.YtlcoibhbdgdfcaaGreatDoor
