/-
  What runs.Get reads, plainly: what it is of a row's bytes, and what it tells of any bytes. Conditions: none.
  Values of 64 bits as bytes, and read again, plainly. Conditions: none.
  The bytes of a sketch of lumps, and what is read of bytes, plainly (layer 23). Conditions: none.
  The walk of (*Sketch).cost (layer 22). Conditions: the form's own reach.
  An allocation and a store of a lump as steps of a drawn region. Conditions: none.
-/
import Derived.Test.YtmehcfocfljoeaaGreatDoorSlotsErrorsB37
import Derived.Test.YtmehcfocfljoeaaGreatDoorSlotsErrorsB33
import Derived.Test.YtmehcfocfljoeaaGreatDoorSlotsErrorsB32
namespace Go.Proofs.YtmehcfocfljoeaaGreatDoor
open Go.RowKit

theorem pair_eq {α β : Type} {x : α × β} {b : β} (h : x.2 = b) : x = (x.1, b) := by subst h; rfl
def lastI (acc : List Pr) : Int := (acc.getD (acc.length - 1) default).i
def idxNext (acc : List Pr) (st : Option (List UInt8)) : Int × Option (List UInt8) :=
  if acc.length = 0 then (zag (eNat 18446744073709551615 st).1, (eNat 18446744073709551615 st).2)
  else (lastI acc + (eNat (9223372036854775806 - lastI acc).toNat st).1 + 1, (eNat (9223372036854775806 - lastI acc).toNat st).2)
/-- So many pairs more, behind those that were got. -/
def getN : Nat → List Pr → Option (List UInt8) → List Pr × Option (List UInt8)
  | 0, acc, st => (acc, st)
  | n + 1, acc, st =>
    if acc.length ≠ 0 ∧ lastI acc = 9223372036854775807 then ([], none)
    else if (eCount (idxNext acc st).2).2 = none then ([], none)
    else getN n (acc ++ [⟨(idxNext acc st).1, (eCount (idxNext acc st).2).1⟩]) (eCount (idxNext acc st).2).2
def getP (most : Int) (st : Option (List UInt8)) : List Pr × Option (List UInt8) := getN (eNat most.toNat st).1 [] (eNat most.toNat st).2

theorem eNat_sound {most v : Nat} {l r : List UInt8} (h : eNat most (some l) = (v, some r)) : l = natB v ++ r ∧ v ≤ most ∧ v < 2 ^ 64 := by
  rw [eNat_some] at h
  split at h
  · next v' r' hl =>
    split at h
    · next hv =>
      simp only [Prod.mk.injEq, Option.some.injEq] at h
      obtain ⟨rfl, rfl⟩ := h
      obtain ⟨h1, h2, _⟩ := leb_sound l 0 v' r' (by omega) hl
      exact ⟨h1, hv, by simpa using h2⟩
    · simp at h
  · simp at h
theorem pairB_app (acc : List Pr) (x : List Pr) (k : Nat) (h : k < acc.length) : pairB (acc ++ x) k = pairB acc k := by
  unfold pairB
  rw [show (acc ++ x).getD k default = acc.getD k default from by simp [List.getD, List.getElem?_append_left h], show (acc ++ x).getD (k - 1) default = acc.getD (k - 1) default from by simp [List.getD, List.getElem?_append_left (show k - 1 < acc.length by omega)]]
theorem bodyTo_app (acc x : List Pr) (k : Nat) (h : k ≤ acc.length) : bodyTo (acc ++ x) k = bodyTo acc k := by
  induction k with
  | zero => rfl
  | succ k ih => rw [bodyTo_succ, bodyTo_succ, ih (by omega), pairB_app acc x k (by omega)]
theorem goodTo_app (acc x : List Pr) (k : Nat) (h : k ≤ acc.length) : goodTo (acc ++ x) k = goodTo acc k := by
  induction k with
  | zero => rfl
  | succ k ih => rw [goodTo_succ, goodTo_succ, ih (by omega), show (acc ++ x).getD k default = acc.getD k default from by simp [List.getD, List.getElem?_append_left (show k < acc.length by omega)], show (acc ++ x).getD (k - 1) default = acc.getD (k - 1) default from by simp [List.getD, List.getElem?_append_left (show k - 1 < acc.length by omega)]]
theorem eCount_sound {st : Option (List UInt8)} {v : Nat} {r : List UInt8} (h : eCount st = (v, some r)) : ∃ l, st = some l ∧ l = natB v ++ r ∧ 1 ≤ v ∧ v ≤ 9223372036854775807 := by
  unfold eCount at h
  split at h
  · simp at h
  · next h0 =>
    cases st with
    | none => simp [eNat] at h
    | some l =>
      obtain ⟨h1, h2, _⟩ := eNat_sound h
      rw [h] at h0
      exact ⟨l, rfl, h1, by simp only at h0; omega, h2⟩
theorem eCount_natB {c : Nat} (h1 : 1 ≤ c) (h2 : c ≤ 9223372036854775807) (r : List UInt8) : eCount (some (natB c ++ r)) = (c, some r) := by
  have := eNat_natB (n := c) (most := 9223372036854775807) (by omega) r
  rw [if_pos h2] at this
  rw [eCount, this, if_neg (by simp only; omega)]

def headB (acc : List Pr) (p : Pr) : List UInt8 := (if acc.length = 0 then natB (zig p.i) else natB (gapN p.i (lastI acc))) ++ natB p.c
def tailB : List Pr → List Pr → List UInt8
  | _, [] => []
  | acc, p :: ext => headB acc p ++ tailB (acc ++ [p]) ext
theorem pairB_head (acc : List Pr) (p : Pr) : pairB (acc ++ [p]) acc.length = headB acc p := by
  have h1 : (acc ++ [p]).getD acc.length default = p := by simp [List.getD]
  unfold pairB headB lastI
  rw [h1]
  by_cases h : acc.length = 0
  · rw [if_pos h, if_pos h]
  · rw [if_neg h, if_neg h, show (acc ++ [p]).getD (acc.length - 1) default = acc.getD (acc.length - 1) default from by simp [List.getD, List.getElem?_append_left (show acc.length - 1 < acc.length by omega)]]
theorem body_tail (ext acc : List Pr) : bodyTo (acc ++ ext) (acc ++ ext).length = bodyTo acc acc.length ++ tailB acc ext := by
  induction ext generalizing acc with
  | nil => simp [tailB]
  | cons p ext ih =>
    rw [show acc ++ p :: ext = (acc ++ [p]) ++ ext from by simp, ih, show (acc ++ [p]).length = acc.length + 1 from by simp, bodyTo_succ, bodyTo_app acc [p] _ (Nat.le_refl _), pairB_head, tailB, List.append_assoc]
theorem goodP_push (acc : List Pr) (p : Pr) : goodP (acc ++ [p]) = (goodP acc && decide (1 ≤ p.c ∧ p.c ≤ 9223372036854775807 ∧ (0 < acc.length → lastI acc < p.i))) := by
  have h1 : (acc ++ [p]).getD acc.length default = p := by simp [List.getD]
  rw [goodP, show (acc ++ [p]).length = acc.length + 1 from by simp, goodTo_succ, goodTo_app acc [p] _ (Nat.le_refl _), h1, goodP]
  by_cases h : acc.length = 0
  · simp [h]
  · rw [show (acc ++ [p]).getD (acc.length - 1) default = acc.getD (acc.length - 1) default from by simp [List.getD, List.getElem?_append_left (show acc.length - 1 < acc.length by omega)], lastI]
theorem goodP_pre {acc ext : List Pr} (h : goodP (acc ++ ext) = true) : goodP acc = true := by
  cases hc : goodP acc with
  | true => rfl
  | false =>
    have : goodTo (acc ++ ext) acc.length = false := by rw [goodTo_app acc ext _ (Nat.le_refl _)]; exact hc
    rw [goodP, goodTo_false this (by simp)] at h
    exact h
theorem lastI_ok {acc : List Pr} (hok : ∀ p ∈ acc, p.ok) (h : acc.length ≠ 0) : -9223372036854775808 ≤ lastI acc ∧ lastI acc < 9223372036854775808 := by
  have hm : acc.getD (acc.length - 1) default ∈ acc := by
    have : acc.length - 1 < acc.length := by omega
    simp [List.getD, this]
  exact ⟨(hok _ hm).1, (hok _ hm).2.1⟩
theorem idx_put (acc : List Pr) (p : Pr) (r : List UInt8) (hok : ∀ q ∈ acc ++ [p], q.ok) (hlt : 0 < acc.length → lastI acc < p.i) :
    idxNext acc (some (headB acc p ++ r)) = (p.i, some (natB p.c ++ r)) := by
  have hp : p.ok := hok p (by simp)
  unfold idxNext headB
  by_cases h : acc.length = 0
  · rw [if_pos h, if_pos h, List.append_assoc, eNat_natB (zig_lt hp.1 hp.2.1), if_pos (by have := zig_lt hp.1 hp.2.1; omega), zag_zig]
  · have hl := lastI_ok (fun q hq => hok q (by simp [hq])) h
    have h1 := hlt (by omega)
    have h2 := hp.2.1
    have hg : gapN p.i (lastI acc) = (p.i - lastI acc - 1).toNat := by unfold gapN; omega
    rw [if_neg h, if_neg h, List.append_assoc, eNat_natB (gapN_lt _ _), hg, if_pos (by omega)]
    simp only [Prod.mk.injEq, and_true]
    omega
theorem getN_put (more : List UInt8) (ext acc : List Pr) (hok : ∀ p ∈ acc ++ ext, p.ok) (hg : goodP (acc ++ ext) = true) : getN ext.length acc (some (tailB acc ext ++ more)) = (acc ++ ext, some more) := by
  induction ext generalizing acc with
  | nil => simp [getN, tailB]
  | cons p ext ih =>
    rw [show acc ++ p :: ext = (acc ++ [p]) ++ ext from by simp] at hok hg ⊢
    have hg1 := goodP_pre hg
    rw [goodP_push] at hg1
    simp only [Bool.and_eq_true, decide_eq_true_eq] at hg1
    obtain ⟨_, h1, h2, h3⟩ := hg1
    have hp : p.ok := hok p (by simp)
    rw [tailB, List.length_cons, getN, List.append_assoc, idx_put acc p _ (fun q hq => hok q (by rw [List.mem_append]; exact .inl hq)) h3, eCount_natB h1 h2, if_neg (by have := hp.2.1; omega), if_neg (by simp)]
    exact ih _ hok hg
theorem getP_put {l : List Pr} (hok : ∀ p ∈ l, p.ok) (hg : goodP l = true) (more : List UInt8) (most : Int) (hl : (l.length : Int) ≤ most) (hb : l.length < 2 ^ 64) : getP most (some (putB l ++ more)) = (l, some more) := by
  have hbt := body_tail l []
  simp only [List.nil_append, List.length_nil] at hbt
  rw [show bodyTo [] 0 = [] from rfl, List.nil_append] at hbt
  rw [getP, putB, List.append_assoc, eNat_natB hb, if_pos (by omega), hbt]
  exact getN_put more l [] (by simpa using hok) (by simpa using hg)
theorem getP_fewer {l : List Pr} (more : List UInt8) (most : Int) (hl : most < (l.length : Int)) (hb : l.length < 2 ^ 64) (h0 : 0 < l.length) : getP most (some (putB l ++ more)) = ([], none) := by
  rw [getP, putB, List.append_assoc, eNat_natB hb, if_neg (by omega)]
  rfl
theorem getN_none {n : Nat} {acc : List Pr} {l : List UInt8} {L : List Pr} (h : getN n acc (some l) = (L, none)) : L = [] := by
  induction n generalizing acc l with
  | zero => simp [getN] at h
  | succ n ih =>
    rw [getN] at h
    split at h
    · simp at h; exact h
    · split at h
      · simp at h; exact h
      · next hn =>
        cases hc : (eCount (idxNext acc (some l)).2).2 with
        | none => exact absurd hc hn
        | some l2 => rw [hc] at h; exact ih h
theorem getP_none {most : Int} {l : List UInt8} {L : List Pr} (h : getP most (some l) = (L, none)) : L = [] := by
  rw [getP] at h
  cases hc : (eNat most.toNat (some l)).2 with
  | none =>
    have : (eNat most.toNat (some l)).1 = 0 := by
      rw [eNat_some] at hc ⊢
      split at hc
      · split at hc
        · simp at hc
        · next h1 => rw [if_neg h1]
      · rfl
    rw [hc, this] at h
    simp [getN] at h
    exact h
  | some l2 => rw [hc] at h; exact getN_none h

theorem idx_sound {acc : List Pr} {l r : List UInt8} {i : Int} (hok : ∀ q ∈ acc, q.ok) (hmax : ¬ (acc.length ≠ 0 ∧ lastI acc = 9223372036854775807)) (h : idxNext acc (some l) = (i, some r)) :
    l = (if acc.length = 0 then natB (zig i) else natB (gapN i (lastI acc))) ++ r ∧ -9223372036854775808 ≤ i ∧ i < 9223372036854775808 ∧ (0 < acc.length → lastI acc < i) := by
  unfold idxNext at h
  split at h
  · next h0 =>
    simp only [Prod.mk.injEq] at h
    obtain ⟨rfl, h2⟩ := h
    obtain ⟨e1, e2, e3⟩ := eNat_sound (pair_eq h2)
    rw [if_pos h0, zig_zag]
    have := zag_range e3
    exact ⟨e1, this.1, this.2, by omega⟩
  · next h0 =>
    simp only [Prod.mk.injEq] at h
    obtain ⟨rfl, h2⟩ := h
    obtain ⟨e1, e2, e3⟩ := eNat_sound (pair_eq h2)
    have hl := lastI_ok hok h0
    rw [if_neg h0]
    generalize (eNat (9223372036854775806 - lastI acc).toNat (some l)).1 = v at *
    have hm : lastI acc ≠ 9223372036854775807 := fun h => hmax ⟨h0, h⟩
    have hg : gapN (lastI acc + v + 1) (lastI acc) = v := by unfold gapN; omega
    rw [hg]
    exact ⟨e1, by omega, by omega, by omega⟩
theorem getN_sound (n : Nat) (acc : List Pr) (l : List UInt8) (L : List Pr) (r : List UInt8) (hok : ∀ q ∈ acc, q.ok) (hg : goodP acc = true) (h : getN n acc (some l) = (L, some r)) :
    ∃ ext, ext.length = n ∧ L = acc ++ ext ∧ l = tailB acc ext ++ r ∧ goodP L = true ∧ ∀ q ∈ L, q.ok := by
  induction n generalizing acc l with
  | zero =>
    simp only [getN, Prod.mk.injEq, Option.some.injEq] at h
    obtain ⟨rfl, rfl⟩ := h
    exact ⟨[], rfl, by simp, by simp [tailB], hg, hok⟩
  | succ n ih =>
    rw [getN] at h
    split at h
    · simp at h
    · next hmax =>
      split at h
      · simp at h
      · next hn =>
        cases hc : (eCount (idxNext acc (some l)).2).2 with
        | none => exact absurd hc hn
        | some l2 =>
          rw [hc] at h
          obtain ⟨l1, f1, f2, f3, f4⟩ := eCount_sound (pair_eq hc)
          obtain ⟨g1, g2, g3, g4⟩ := idx_sound hok hmax (pair_eq f1)
          generalize (eCount (idxNext acc (some l)).2).1 = c at *
          generalize (idxNext acc (some l)).1 = i at *
          obtain ⟨ext, x1, x2, x3, x4, x5⟩ := ih (acc ++ [⟨i, c⟩]) l2 (by
            intro q hq
            rcases List.mem_append.1 hq with hq | hq
            · exact hok q hq
            · rw [List.mem_singleton] at hq
              subst hq
              exact ⟨g2, g3, by simp only; omega⟩) (by rw [goodP_push, hg]; simp only [Bool.true_and, decide_eq_true_eq]; exact ⟨f3, f4, g4⟩) h
          refine ⟨⟨i, c⟩ :: ext, by simp [x1], by rw [x2]; simp, ?_, x4, x5⟩
          rw [tailB, headB, g1, f2, x3]
          simp
theorem getP_sound {most : Int} {l : List UInt8} {L : List Pr} {r : List UInt8} (h : getP most (some l) = (L, some r)) :
    l = putB L ++ r ∧ goodP L = true ∧ (L.length : Int) ≤ max most 0 ∧ (∀ q ∈ L, q.ok) ∧ ∃ v s, l = natB v ++ s ∧ v < 2 ^ 64 := by
  rw [getP] at h
  cases hc : (eNat most.toNat (some l)).2 with
  | none =>
    rw [hc] at h
    generalize (eNat most.toNat (some l)).1 = n at *
    cases n with
    | zero => simp [getN] at h
    | succ n =>
      simp [getN, idxNext, eNat, eCount] at h
  | some l2 =>
    rw [hc] at h
    obtain ⟨e1, e2, e3⟩ := eNat_sound (pair_eq hc)
    generalize (eNat most.toNat (some l)).1 = n at *
    obtain ⟨ext, x1, x2, x3, x4, x5⟩ := getN_sound n [] l2 L r (by simp) rfl h
    rw [List.nil_append] at x2
    subst x2
    have hbt := body_tail L []
    simp only [List.nil_append, List.length_nil] at hbt
    rw [show bodyTo [] 0 = [] from rfl, List.nil_append] at hbt
    exact ⟨by rw [putB, hbt, x1, List.append_assoc, ← x3]; exact e1, x4, by omega, x5, n, l2, e1, e3⟩
end Go.Proofs.YtmehcfocfljoeaaGreatDoor

namespace Go.Proofs.YtmehcfocfljoeaaGreatDoor

/-- A value of 64 bits. -/
def InR (x : Int) : Prop := -9223372036854775808 ≤ x ∧ x < 9223372036854775808
theorem InR.zig {x : Int} (h : InR x) : zig x < 18446744073709551616 := by
  have := zig_lt h.1 h.2
  omega
/-- Values' bytes. -/
def intsB (l : List Int) : List UInt8 := l.flatMap fun x => natB (zig x)
theorem intsB_len (l : List Int) (h : ∀ x ∈ l, InR x) : (intsB l).length ≤ 10 * l.length := by
  induction l with
  | nil => simp [intsB]
  | cons x l ih =>
    have h1 := ih (fun y hy => h y (by simp [hy]))
    have h2 := natB_len10 (n := zig x) (by have := (h x (by simp)).zig; omega)
    simp only [intsB, List.flatMap_cons, List.length_append, List.length_cons] at h1 ⊢
    omega
def eInt (st : Option (List UInt8)) : Int × Option (List UInt8) := (zag (eNat 18446744073709551615 st).1, (eNat 18446744073709551615 st).2)
theorem eNat_hit {n most : Nat} (h : n < 18446744073709551616) (hm : n ≤ most) (r : List UInt8) : eNat most (some (natB n ++ r)) = (n, some r) := by
  have := eNat_natB (n := n) (most := most) (by omega) r
  rw [if_pos hm] at this
  exact this
theorem eInt_hit {x : Int} (h : InR x) (r : List UInt8) : eInt (some (natB (zig x) ++ r)) = (x, some r) := by
  have h1 := h.zig
  rw [eInt, eNat_hit h1 (by omega), zag_zig]
/-- So many values more, behind those that were read; none, if one isn't there. -/
def getInts : Nat → List Int → Option (List UInt8) → List Int × Option (List UInt8)
  | 0, acc, st => (acc, st)
  | n + 1, acc, st => if (eInt st).2 = none then ([], none) else getInts n (acc ++ [(eInt st).1]) (eInt st).2
theorem getInts_hit (l acc : List Int) (r : List UInt8) (h : ∀ x ∈ l, InR x) : getInts l.length acc (some (intsB l ++ r)) = (acc ++ l, some r) := by
  induction l generalizing acc with
  | nil => simp [getInts, intsB]
  | cons x l ih =>
    have e : intsB (x :: l) ++ r = natB (zig x) ++ (intsB l ++ r) := by simp [intsB]
    rw [List.length_cons, getInts, e, eInt_hit (h x (by simp)), if_neg (by simp), ih _ (fun y hy => h y (by simp [hy]))]
    simp
theorem getInts_len (n : Nat) (acc : List Int) (st : Option (List UInt8)) : (getInts n acc st).1.length ≤ acc.length + n := by
  induction n generalizing acc st with
  | zero => simp [getInts]
  | succ n ih =>
    rw [getInts]
    split
    · simp
    · have := ih (acc ++ [(eInt st).1]) (eInt st).2
      simp only [List.length_append, List.length_cons, List.length_nil] at this
      omega
end Go.Proofs.YtmehcfocfljoeaaGreatDoor

namespace Go.Proofs.YtmehcfocfljoeaaGreatDoor

/-- A lump that Go's numbers hold. -/
structure Lp.fit (p : Lp) : Prop where
  lo : InR p.lo
  hi : InR p.hi
  n1 : 1 ≤ p.n
  n2 : p.n ≤ 9223372036854775807
def lumpB (p : Lp) : List UInt8 := natB (zig p.lo) ++ (natB (zig p.hi) ++ natB p.n)
def putLm (most : Nat) (l : List Lp) : List UInt8 := natB most ++ (natB l.length ++ l.flatMap lumpB)
def eCountL (st : Option (List UInt8)) : Nat × Option (List UInt8) := if (eNat 9223372036854775807 st).1 = 0 then (0, none) else eNat 9223372036854775807 st
def getLump (st : Option (List UInt8)) : Lp × Option (List UInt8) :=
  let a := eInt st
  let b := eInt a.2
  let c := eCountL b.2
  (⟨c.1, a.1, b.1⟩, c.2)
def getLumps : Nat → List Lp → Option (List UInt8) → List Lp × Option (List UInt8)
  | 0, acc, st => (acc, st)
  | n + 1, acc, st => getLumps n (acc ++ [(getLump st).1]) (getLump st).2
def getLm (st : Option (List UInt8)) : (Nat × List Lp) × Option (List UInt8) :=
  let a := eNat 64 st
  let b := eNat 64 a.2
  let g := getLumps b.1 [] b.2
  ((a.1, g.1), g.2)
theorem getLump_hit {p : Lp} (h : p.fit) (r : List UInt8) : getLump (some (lumpB p ++ r)) = (p, some r) := by
  have h1 := h.n1
  have h2 := h.n2
  unfold getLump lumpB
  simp only [List.append_assoc]
  rw [eInt_hit h.lo]
  simp only
  rw [eInt_hit h.hi]
  simp only [eCountL]
  rw [eNat_hit (by omega) h.n2]
  simp only
  rw [if_neg (by omega)]
theorem getLumps_hit (l acc : List Lp) (r : List UInt8) (h : ∀ p ∈ l, p.fit) : getLumps l.length acc (some (l.flatMap lumpB ++ r)) = (acc ++ l, some r) := by
  induction l generalizing acc with
  | nil => simp [getLumps]
  | cons p l ih =>
    have e : (p :: l).flatMap lumpB ++ r = lumpB p ++ (l.flatMap lumpB ++ r) := by simp
    rw [List.length_cons, getLumps, e, getLump_hit (h p (by simp))]
    simp only
    rw [ih _ (fun q hq => h q (by simp [hq]))]
    simp
theorem getLm_hit {most : Nat} {l : List Lp} (hm : most ≤ 64) (hl : l.length ≤ 64) (h : ∀ p ∈ l, p.fit) (r : List UInt8) : getLm (some (putLm most l ++ r)) = ((most, l), some r) := by
  unfold getLm putLm
  simp only [List.append_assoc]
  rw [eNat_hit (by omega) hm]
  simp only
  rw [eNat_hit (by omega) hl]
  simp only
  rw [getLumps_hit l [] r h]
  rfl
theorem lumpB_len {p : Lp} (h : p.fit) : (lumpB p).length ≤ 30 := by
  have h1 := natB_len10 (n := zig p.lo) (by have := h.lo.zig; omega)
  have h2 := natB_len10 (n := zig p.hi) (by have := h.hi.zig; omega)
  have h3 := natB_len10 (n := p.n) (by have := h.n2; omega)
  unfold lumpB
  simp only [List.length_append]
  omega
theorem lumpsB_len (l : List Lp) (h : ∀ p ∈ l, p.fit) : (l.flatMap lumpB).length ≤ 30 * l.length := by
  induction l with
  | nil => simp
  | cons p l ih =>
    have h1 := ih (fun q hq => h q (by simp [hq]))
    have h2 := lumpB_len (h p (by simp))
    simp only [List.flatMap_cons, List.length_append, List.length_cons] at h1 ⊢
    omega
theorem putLm_len {most : Nat} {l : List Lp} (hm : most ≤ 64) (hl : l.length ≤ 64) (h : ∀ p ∈ l, p.fit) : (putLm most l).length ≤ 2000 := by
  have h1 := natB_len10 (n := most) (by omega)
  have h2 := natB_len10 (n := l.length) (by omega)
  have h3 := lumpsB_len l h
  unfold putLm
  simp only [List.length_append]
  omega
/-- What can be loaded. -/
structure okLm (most : Int) (l : List Lp) : Prop where
  m1 : 2 ≤ most
  m2 : most ≤ 64
  few : (l.length : Int) ≤ most
  tot : totL l ≤ 9223372036854775807
  each : ∀ p ∈ l, 1 ≤ p.n ∧ p.lo ≤ p.hi
  rises : risesL l
theorem getLumps_len (n : Nat) : ∀ (acc : List Lp) (st : Option (List UInt8)), (getLumps n acc st).1.length = acc.length + n := by
  induction n with
  | zero => intro acc st; simp [getLumps]
  | succ n ih =>
    intro acc st
    rw [getLumps, ih]
    simp only [List.length_append, List.length_cons, List.length_nil]
    omega
/-- Laying and pressing keep to what Go's numbers hold. -/
def fitsL (l : List Lp) : Prop := ∀ p ∈ l, InR p.lo ∧ InR p.hi
theorem fitsL.lay {l : List Lp} (h : fitsL l) {p : Lp} (h1 : InR p.lo) (h2 : InR p.hi) : fitsL (layL l p) := by
  intro q hq
  rcases lay_mem hq with h3 | ⟨e1, e2, -⟩
  · exact h q h3
  · rw [e1, e2]; exact ⟨h1, h2⟩
theorem InR.max {a b : Int} (h1 : InR a) (h2 : InR b) : InR (max a b) := by
  unfold InR at *
  omega
theorem fitsL.melt {l : List Lp} (h : fitsL l) {k : Nat} (hk : k + 1 < l.length) : fitsL (meltL l k) := by
  obtain ⟨a, b, e, ea, eb⟩ := melt_parts hk
  have ha := h a (by rw [e]; simp)
  have hb := h b (by rw [e]; simp)
  unfold meltL
  rw [ea, eb]
  refine fitsL.lay (fun q hq => h q ?_) ha.1 (InR.max ha.2 hb.2)
  rw [e]
  rcases List.mem_append.1 hq with h1 | h1 <;> simp [h1]
theorem fitsL.all : ∀ (o : List Lp) {l : List Lp}, fitsL l → fitsL o → fitsL (layAll l o)
  | [], _, h, _ => h
  | p :: o, l, h, k => fitsL.all o (h.lay (k p (by simp)).1 (k p (by simp)).2) (fun q hq => k q (by simp [hq]))
/-- A sketch of lumps, plainly. -/
structure LmD where
  most : Nat
  l : List Lp
structure LmD.ok (D : LmD) : Prop where
  m1 : 2 ≤ D.most
  m2 : D.most ≤ 64
  few : D.l.length ≤ D.most
  tot : totL D.l ≤ 9223372036854775807
  each : ∀ p ∈ D.l, 1 ≤ p.n ∧ p.lo ≤ p.hi
  rises : risesL D.l
  fits : fitsL D.l
def LmD.put (D : LmD) (x : Int) (n : Nat) : LmD := ⟨D.most, pressL D.most (layL D.l ⟨n, x, x⟩)⟩
def LmD.join (D O : LmD) : LmD := ⟨D.most, pressL D.most (layAll D.l O.l)⟩
theorem LmD.ok.fit {D : LmD} (h : D.ok) : ∀ p ∈ D.l, p.fit := fun p hp => ⟨(h.fits p hp).1, (h.fits p hp).2, (h.each p hp).1, Nat.le_trans (mem_totL hp) h.tot⟩
theorem LmD.ok.loads {D : LmD} (h : D.ok) : okLm (D.most : Int) D.l := ⟨by have := h.m1; omega, by have := h.m2; omega, by have := h.few; omega, h.tot, h.each, h.rises⟩
theorem LmD.new_ok {most : Nat} (h1 : 2 ≤ most) (h2 : most ≤ 64) : LmD.ok ⟨most, []⟩ := ⟨h1, h2, Nat.zero_le _, by simp [totL], by simp, List.Pairwise.nil, by intro p hp; simp at hp⟩
theorem LmD.pressed {most T : Nat} {l : List Lp} (h1 : 2 ≤ most) (h2 : most ≤ 64) (hr : risesL l) (he : ∀ p ∈ l, 1 ≤ p.n ∧ p.lo ≤ p.hi) (hf : fitsL l) (hT : totL l = T) (ht : T ≤ 9223372036854775807) : LmD.ok ⟨most, pressL most l⟩ ∧ totL (pressL most l) = T := by
  obtain ⟨a, ⟨b, c, d⟩, f⟩ := press_ind (most := most) (by omega) (fun l => (∀ p ∈ l, 1 ≤ p.n ∧ p.lo ≤ p.hi) ∧ fitsL l ∧ totL l = T) (fun l k _ h hk => ⟨melt_pos h.1 hk, h.2.1.melt hk, by rw [melt_tot hk]; exact h.2.2⟩) _ l (Nat.le_refl _) hr ⟨he, hf, hT⟩
  exact ⟨⟨h1, h2, f, by rw [d]; exact ht, b, a, c⟩, d⟩
theorem LmD.pressedT {most : Nat} {l : List Lp} (h1 : 2 ≤ most) (hr : risesL l) : totL (pressL most l) = totL l :=
  (press_ind (most := most) (by omega) (fun r => totL r = totL l) (fun r k _ h hk => by rw [melt_tot hk]; exact h) _ l (Nat.le_refl _) hr rfl).2.1
theorem LmD.put_ok {D : LmD} (h : D.ok) {x : Int} (hx : InR x) {n : Nat} (hn : 1 ≤ n) (ht : totL D.l + n ≤ 9223372036854775807) : (D.put x n).ok ∧ totL (D.put x n).l = totL D.l + n :=
  LmD.pressed h.m1 h.m2 (lay_rises h.rises _) (lay_pos h.each hn (Int.le_refl _)) (h.fits.lay hx hx) (totL_lay _ _) ht
theorem LmD.join_ok {D O : LmD} (h : D.ok) (k : O.ok) (ht : totL D.l + totL O.l ≤ 9223372036854775807) : (D.join O).ok ∧ totL (D.join O).l = totL D.l + totL O.l := by
  obtain ⟨r1, r2, -, r4, -⟩ := layAll_ok (fun _ => true) (fun _ _ _ => rfl) O.l h.rises h.each k.each
  exact LmD.pressed h.m1 h.m2 r1 r2 (fitsL.all O.l h.fits k.fits) r4 ht
end Go.Proofs.YtmehcfocfljoeaaGreatDoor

namespace Go.Proofs.YtmehcfocfljoeaaGreatDoor
open Go.RowKit

set_option maxRecDepth 100000 in
set_option maxHeartbeats 2000000 in
theorem lump_cost (w : World) (p : Nat) (ao : Option Addr) (cap n : Nat) (most : Int) (l : List Lp) (hn : n = l.length) (T : Nat) (ht : Lms w p (.slice ao n cap) most l T) (hl : n ≤ 1000) (i : Nat) (hi : i + 1 < n) (ah : Nat) (hT : ah + pairN l i ≤ T) (hT2 : T < 9223372036854775808) (N D : Nat) (hN : N = pairN l i) (hD : D = costD T ah N) :
    Calls Tryz.prog 438 #[.pointer (some ⟨p, 0, none⟩), .int .i64 (i : Nat), .int .u64 (ah : Nat)] w fun e w' => e = .returned (.agg #[.int .u64 (N : Nat), .int .u64 (D : Nat)]) ∧ Chg [] w w' := by
  obtain ⟨g, o, rfl⟩ : ∃ g o, ao = some ⟨g, o, none⟩ := by
    obtain ⟨b, o, h, -⟩ := ht.own.rd.addr (by omega)
    exact ⟨b, o, h⟩
  obtain ⟨x, hx⟩ : ∃ x, x = l.getD i default := ⟨_, rfl⟩
  obtain ⟨y, hy⟩ : ∃ y, y = l.getD (i + 1) default := ⟨_, rfl⟩
  obtain ⟨i1, hi1⟩ : ∃ z, z = i + 1 := ⟨_, rfl⟩
  have hxl : l[i]'(by omega) = x := by rw [hx]; simp [List.getD, show i < l.length by omega]
  have hyl : l[i1]'(by omega) = y := by rw [hy]; simp [List.getD, hi1, show i + 1 < l.length by omega]
  have hxy : N = x.n + y.n := by rw [hN, pairN, ← hx, ← hy]
  have ht1 := ht.chg ((Chg.refl [] w).alloc (.cells #[.int .u64 0, .int .u64 0] 25)) (by simp)
  have hcs := ht1.own.cells
  have e0 : (w.alloc (.cells #[.int .u64 0, .int .u64 0] 25)).cell? ⟨g, o + i * 3, none⟩ = some (.int .u64 (x.n : Nat)) := by
    rw [hcs (i * 3) (by omega)]
    have t := lpCells_get l i 0 (by omega) (by omega)
    rw [hxl] at t
    simpa [Lp.cells] using t
  have e1 : (w.alloc (.cells #[.int .u64 0, .int .u64 0] 25)).cell? ⟨g, o + i1 * 3, none⟩ = some (.int .u64 (y.n : Nat)) := by
    rw [hcs (i1 * 3) (by omega)]
    have t := lpCells_get l i1 0 (by omega) (by omega)
    rw [hyl] at t
    simpa [Lp.cells] using t
  obtain ⟨-, c1, c2⟩ := ht1.cells
  rw [← hN] at hT
  have hb := Blk.alloc_new w #[.int .u64 0, .int .u64 0] 25
  have HC0 := Lib.hid ((Chg.refl [] w).alloc (.cells #[.int .u64 0, .int .u64 0] 25))
  obtain ⟨b6, hb6⟩ : ∃ z, z = w.heap.size := ⟨_, rfl⟩
  rw [← hb6] at hb
  have HB := Lib.hid hb
  have hw1 : IntKind.i64.wrap ((i : Int) + 1) = (i1 : Int) := by rw [hi1, IntWalk.i64_in _ (by omega)]; push_cast; rfl
  have hw2 : IntKind.u64.wrap ((x.n : Int) + (y.n : Int)) = (N : Int) := by rw [IntKind.wrap_u64]; omega
  have hl0 : (0 : Int) ≤ (i : Int) := by omega
  have hl1 : (i : Int) < (n : Int) := by omega
  have hl2 : (0 : Int) ≤ (i1 : Int) := by omega
  have hl3 : (i1 : Int) < (n : Int) := by omega
  have HD := Lib.hid (And.intro hD hT)
  have HB6 := Lib.hid (show w.heap.size ≤ b6 from by omega)
  clear hN hx hy hxl hyl hcs ht1 ht hn hi1 hxy hD hT hb
  go_enter Tryz.func438, Tryz.ntmps438
  go_wp2_with fail
  rw [← hb6]
  clear hb6
  generalize w.alloc (.cells #[.int .u64 0, .int .u64 0] 25) = w0 at *
  go_quiet (fail)
  have HCN := Lib.hid (show Chg [] w (w0.drewN nq) from HC0.out.drewN nq)
  have HBN := Lib.hid (show Blk (w0.drewN nq) b6 #[.int .u64 0, .int .u64 0] 25 from HB.out)
  have c2' : (w0.drewN nq).cell? ⟨p, 2, none⟩ = some (.int .u64 (T : Nat)) := c2
  have f6 := HBN.out.free 0
  have f7 := HBN.out.free 1
  have z6 := HBN.out.cell 0
  have z7 := HBN.out.cell 1
  simp only [List.getElem?_toArray, List.getElem?_cons_zero, List.getElem?_cons_succ] at z6 z7
  have HB6N := Lib.hid (show w.heap.size ≤ b6 from HB6.out)
  clear e0 e1 c1 c2 HC0 HB hw1 hw2 hl0 hl1 hl2 hl3
  generalize w0.drewN nq = w1 at *
  obtain ⟨R1, hR1⟩ : ∃ z, z = T - ah := ⟨_, rfl⟩
  obtain ⟨R2, hR2⟩ : ∃ z, z = R1 - N := ⟨_, rfl⟩
  have hw1 : IntKind.u64.wrap ((T : Int) - (ah : Int)) = (R1 : Int) := by have := HD.out.2; rw [IntKind.wrap_u64]; omega
  have hw2 : IntKind.u64.wrap ((R1 : Int) - (N : Int)) = (R2 : Int) := by have := HD.out.2; rw [IntKind.wrap_u64]; omega
  have HD2 := Lib.hid (show D = min ah R2 + 1 from by rw [HD.out.1, costD, hR2, hR1])
  have hah : ah < 9223372036854775808 := by have := HD.out.2; omega
  have hR2b : R2 < 9223372036854775808 := by omega
  clear hR1 hR2
  by_cases hlt : R2 < ah
  · have HL := Lib.hid hlt
    have hmin : min (ah : Int) (R2 : Int) = (R2 : Int) := by omega
    have hD : D = R2 + 1 := by have h1 := HL.out; rw [HD2.out]; omega
    have hbb := (HBN.out.setCell 0 (.int .u64 (N : Nat))).setCell 1 (.int .u64 ((R2 : Int) + 1))
    have y0 : ((w1.setCell ⟨b6, 0, none⟩ (.int .u64 (N : Nat))).setCell ⟨b6, 1, none⟩ (.int .u64 ((R2 : Int) + 1))).cell? ⟨b6, 0, none⟩ = some (.int .u64 (N : Nat)) := hbb.cell 0
    have y1 : ((w1.setCell ⟨b6, 0, none⟩ (.int .u64 (N : Nat))).setCell ⟨b6, 1, none⟩ (.int .u64 ((R2 : Int) + 1))).cell? ⟨b6, 1, none⟩ = some (.int .u64 ((R2 : Int) + 1)) := hbb.cell 1
    have HCE := Lib.hid (show Chg [] w ((w1.setCell ⟨b6, 0, none⟩ (.int .u64 (N : Nat))).setCell ⟨b6, 1, none⟩ (.int .u64 ((R2 : Int) + 1))) from (HCN.out.setCell (.inr HB6N.out) _).setCell (.inr HB6N.out) _)
    clear hbb
    have HDD := Lib.hid hD
    clear hD
    go_wp2
    generalize ((w1.setCell ⟨b6, 0, none⟩ (.int .u64 (N : Nat))).setCell ⟨b6, 1, none⟩ (.int .u64 ((R2 : Int) + 1))) = w2 at *
    refine bodyPost_ret (v := .agg #[.int .u64 (N : Nat), .int .u64 ((R2 : Int) + 1)]) (by simp [results, Tryz.results438, go_sem, y0, y1]) rfl ?_
    exact ⟨by rw [HDD.out]; push_cast; rfl, HCE.out⟩
  · have HL := Lib.hid hlt
    have hmin : min (ah : Int) (R2 : Int) = (ah : Int) := by omega
    have hD : D = ah + 1 := by have h1 := HL.out; rw [HD2.out]; omega
    have hbb := (HBN.out.setCell 0 (.int .u64 (N : Nat))).setCell 1 (.int .u64 ((ah : Int) + 1))
    have y0 : ((w1.setCell ⟨b6, 0, none⟩ (.int .u64 (N : Nat))).setCell ⟨b6, 1, none⟩ (.int .u64 ((ah : Int) + 1))).cell? ⟨b6, 0, none⟩ = some (.int .u64 (N : Nat)) := hbb.cell 0
    have y1 : ((w1.setCell ⟨b6, 0, none⟩ (.int .u64 (N : Nat))).setCell ⟨b6, 1, none⟩ (.int .u64 ((ah : Int) + 1))).cell? ⟨b6, 1, none⟩ = some (.int .u64 ((ah : Int) + 1)) := hbb.cell 1
    have HCE := Lib.hid (show Chg [] w ((w1.setCell ⟨b6, 0, none⟩ (.int .u64 (N : Nat))).setCell ⟨b6, 1, none⟩ (.int .u64 ((ah : Int) + 1))) from (HCN.out.setCell (.inr HB6N.out) _).setCell (.inr HB6N.out) _)
    clear hbb
    have HDD := Lib.hid hD
    clear hD
    go_wp2
    generalize ((w1.setCell ⟨b6, 0, none⟩ (.int .u64 (N : Nat))).setCell ⟨b6, 1, none⟩ (.int .u64 ((ah : Int) + 1))) = w2 at *
    refine bodyPost_ret (v := .agg #[.int .u64 (N : Nat), .int .u64 ((ah : Int) + 1)]) (by simp [results, Tryz.results438, go_sem, y0, y1]) rfl ?_
    exact ⟨by rw [HDD.out]; push_cast; rfl, HCE.out⟩
end Go.Proofs.YtmehcfocfljoeaaGreatDoor

namespace Go.Proofs.YtmehcfocfljoeaaGreatDoor
open Go.RowKit

set_option maxRecDepth 100000 in
theorem step_allocL {ops : Array Oper} {w : World} {o : Oper} {a : Act} {K : Act → World → Prop} {Q : Exit → Act → World → Prop} {E : Prop} (hg : o.guard = none) (ho : o.op = .alloc 256)
    (h : ∀ g w', Blk w' g #[.int .u64 0, .int .i64 0, .int .i64 0] 256 → Chg [] w w' → w.heap.size ≤ g → K (a.put o.dst (.pointer (some ⟨g, 0, none⟩))) w') :
    if Region.wanted o (yielded ops a.tmps) = true then Oper.wp Tryz.prog o a w K Q else E := by
  obtain ⟨dst, op, ty, pos, af, gd⟩ := o
  simp only at hg ho h
  subst hg ho
  have H := h w.heap.size (w.alloc (.cells #[.int .u64 0, .int .i64 0, .int .i64 0] 256)) (Blk.alloc_new _ _ _) ((Chg.refl [] w).alloc _) (Nat.le_refl _)
  clear h
  go_simp
  exact H
set_option maxRecDepth 100000 in
theorem step_storeL {ops : Array Oper} {w : World} {o : Oper} {a : Act} {K : Act → World → Prop} {Q : Exit → Act → World → Prop} {E : Prop} (hg : o.guard = none) (t u : Tmp) (ho : o.op = .store 256 (.tmp t) (.tmp u))
    (g : Nat) (cs : Array Value) (hb : Blk w g cs 256) (x y z : Value) (hcs : cs = #[x, y, z]) (ht : a.eval (.tmp t) = .pointer (some ⟨g, 0, none⟩)) (q : Lp) (hx : a.eval (.tmp u) = .agg #[.int .u64 (q.n : Nat), .int .i64 q.lo, .int .i64 q.hi])
    (hd : o.dst = none) (h : ∀ w', Blk w' g #[.int .u64 (q.n : Nat), .int .i64 q.lo, .int .i64 q.hi] 256 → Chg [g] w w' → K a w') :
    if Region.wanted o (yielded ops a.tmps) = true then Oper.wp Tryz.prog o a w K Q else E := by
  obtain ⟨dst, op, ty, pos, af, gd⟩ := o
  subst hcs
  simp only at hg ho h hd
  subst hg ho hd
  have k2 := (((hb.setCell 0 (.int .u64 (q.n : Nat))).setCell 1 (.int .i64 q.lo)).setCell 2 (.int .i64 q.hi))
  have H := h (((w.setCell ⟨g, 0, none⟩ (.int .u64 (q.n : Nat))).setCell ⟨g, 1, none⟩ (.int .i64 q.lo)).setCell ⟨g, 2, none⟩ (.int .i64 q.hi)) k2 ((((Chg.refl [g] w).setCell (by simp) _).setCell (by simp) _).setCell (by simp) _)
  have c0 := hb.cell 0
  have c1 := hb.cell 1
  have c2 := hb.cell 2
  simp only [List.getElem?_toArray, List.getElem?_cons_zero, List.getElem?_cons_succ] at c0 c1 c2
  have f0 := hb.free 0
  have f1 := hb.free 1
  have f2 := hb.free 2
  have ht' : a.tmps[t]?.getD undef = .pointer (some ⟨g, 0, none⟩) := by simpa [Act.eval] using ht
  have hx' : a.tmps[u]?.getD undef = .agg #[.int .u64 (q.n : Nat), .int .i64 q.lo, .int .i64 q.hi] := by simpa [Act.eval] using hx
  clear hx ht h k2 hb
  go_simp
  exact H
end Go.Proofs.YtmehcfocfljoeaaGreatDoor
