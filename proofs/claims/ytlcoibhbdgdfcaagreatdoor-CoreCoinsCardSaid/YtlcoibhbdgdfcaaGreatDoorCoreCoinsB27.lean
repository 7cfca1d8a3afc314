/-
  What runs.Get reads, plainly: what it is of a row's bytes, and what it tells of any bytes. Conditions: none.
  A tower's bytes, and what is read of bytes, plainly; that all values of a tower lie where they should. Conditions: none.
-/
import Derived.Test.YtlcoibhbdgdfcaaGreatDoorCoreCoinsB26
import Derived.Test.YtlcoibhbdgdfcaaGreatDoorCoreCoinsB25
import Derived.Test.YtlcoibhbdgdfcaaGreatDoorCoreCoinsB23
namespace Go.Proofs.YtlcoibhbdgdfcaaGreatDoor
open Go.RowKit

theorem pair_eq {α β : Type} {x : α × β} {b : β} (h : x.2 = b) : x = (x.1, b) := by subst h; rfl
def lastI (acc : List Pr) : Int := (acc.getD (acc.length - 1) default).i
def idxNext (acc : List Pr) (st : Option (List UInt8)) : Int × Option (List UInt8) :=
  if acc.length = 0 then (zag (eNat 18446744073709551615 st).1, (eNat 18446744073709551615 st).2)
  else (lastI acc + (eNat (9223372036854775806 - lastI acc).toNat st).1 + 1, (eNat (9223372036854775806 - lastI acc).toNat st).2)
/-- So many pairs more, behind those that were got. -/
def getN : Nat → List Pr → Option (List UInt8) → List Pr × Option (List UInt8)
  | 0, acc, st => (acc, st)
  | n + 1, acc, st =>
    if acc.length ≠ 0 ∧ lastI acc = 9223372036854775807 then ([], none)
    else if (eCount (idxNext acc st).2).2 = none then ([], none)
    else getN n (acc ++ [⟨(idxNext acc st).1, (eCount (idxNext acc st).2).1⟩]) (eCount (idxNext acc st).2).2
def getP (most : Int) (st : Option (List UInt8)) : List Pr × Option (List UInt8) := getN (eNat most.toNat st).1 [] (eNat most.toNat st).2

theorem eNat_sound {most v : Nat} {l r : List UInt8} (h : eNat most (some l) = (v, some r)) : l = natB v ++ r ∧ v ≤ most ∧ v < 2 ^ 64 := by
  rw [eNat_some] at h
  split at h
  · next v' r' hl =>
    split at h
    · next hv =>
      simp only [Prod.mk.injEq, Option.some.injEq] at h
      obtain ⟨rfl, rfl⟩ := h
      obtain ⟨h1, h2, _⟩ := leb_sound l 0 v' r' (by omega) hl
      exact ⟨h1, hv, by simpa using h2⟩
    · simp at h
  · simp at h
theorem pairB_app (acc : List Pr) (x : List Pr) (k : Nat) (h : k < acc.length) : pairB (acc ++ x) k = pairB acc k := by
  unfold pairB
  rw [show (acc ++ x).getD k default = acc.getD k default from by simp [List.getD, List.getElem?_append_left h], show (acc ++ x).getD (k - 1) default = acc.getD (k - 1) default from by simp [List.getD, List.getElem?_append_left (show k - 1 < acc.length by omega)]]
theorem bodyTo_app (acc x : List Pr) (k : Nat) (h : k ≤ acc.length) : bodyTo (acc ++ x) k = bodyTo acc k := by
  induction k with
  | zero => rfl
  | succ k ih => rw [bodyTo_succ, bodyTo_succ, ih (by omega), pairB_app acc x k (by omega)]
theorem goodTo_app (acc x : List Pr) (k : Nat) (h : k ≤ acc.length) : goodTo (acc ++ x) k = goodTo acc k := by
  induction k with
  | zero => rfl
  | succ k ih => rw [goodTo_succ, goodTo_succ, ih (by omega), show (acc ++ x).getD k default = acc.getD k default from by simp [List.getD, List.getElem?_append_left (show k < acc.length by omega)], show (acc ++ x).getD (k - 1) default = acc.getD (k - 1) default from by simp [List.getD, List.getElem?_append_left (show k - 1 < acc.length by omega)]]
theorem eCount_sound {st : Option (List UInt8)} {v : Nat} {r : List UInt8} (h : eCount st = (v, some r)) : ∃ l, st = some l ∧ l = natB v ++ r ∧ 1 ≤ v ∧ v ≤ 9223372036854775807 := by
  unfold eCount at h
  split at h
  · simp at h
  · next h0 =>
    cases st with
    | none => simp [eNat] at h
    | some l =>
      obtain ⟨h1, h2, _⟩ := eNat_sound h
      rw [h] at h0
      exact ⟨l, rfl, h1, by simp only at h0; omega, h2⟩
theorem eCount_natB {c : Nat} (h1 : 1 ≤ c) (h2 : c ≤ 9223372036854775807) (r : List UInt8) : eCount (some (natB c ++ r)) = (c, some r) := by
  have := eNat_natB (n := c) (most := 9223372036854775807) (by omega) r
  rw [if_pos h2] at this
  rw [eCount, this, if_neg (by simp only; omega)]

def headB (acc : List Pr) (p : Pr) : List UInt8 := (if acc.length = 0 then natB (zig p.i) else natB (gapN p.i (lastI acc))) ++ natB p.c
def tailB : List Pr → List Pr → List UInt8
  | _, [] => []
  | acc, p :: ext => headB acc p ++ tailB (acc ++ [p]) ext
theorem pairB_head (acc : List Pr) (p : Pr) : pairB (acc ++ [p]) acc.length = headB acc p := by
  have h1 : (acc ++ [p]).getD acc.length default = p := by simp [List.getD]
  unfold pairB headB lastI
  rw [h1]
  by_cases h : acc.length = 0
  · rw [if_pos h, if_pos h]
  · rw [if_neg h, if_neg h, show (acc ++ [p]).getD (acc.length - 1) default = acc.getD (acc.length - 1) default from by simp [List.getD, List.getElem?_append_left (show acc.length - 1 < acc.length by omega)]]
theorem body_tail (ext acc : List Pr) : bodyTo (acc ++ ext) (acc ++ ext).length = bodyTo acc acc.length ++ tailB acc ext := by
  induction ext generalizing acc with
  | nil => simp [tailB]
  | cons p ext ih =>
    rw [show acc ++ p :: ext = (acc ++ [p]) ++ ext from by simp, ih, show (acc ++ [p]).length = acc.length + 1 from by simp, bodyTo_succ, bodyTo_app acc [p] _ (Nat.le_refl _), pairB_head, tailB, List.append_assoc]
theorem goodP_push (acc : List Pr) (p : Pr) : goodP (acc ++ [p]) = (goodP acc && decide (1 ≤ p.c ∧ p.c ≤ 9223372036854775807 ∧ (0 < acc.length → lastI acc < p.i))) := by
  have h1 : (acc ++ [p]).getD acc.length default = p := by simp [List.getD]
  rw [goodP, show (acc ++ [p]).length = acc.length + 1 from by simp, goodTo_succ, goodTo_app acc [p] _ (Nat.le_refl _), h1, goodP]
  by_cases h : acc.length = 0
  · simp [h]
  · rw [show (acc ++ [p]).getD (acc.length - 1) default = acc.getD (acc.length - 1) default from by simp [List.getD, List.getElem?_append_left (show acc.length - 1 < acc.length by omega)], lastI]
theorem goodP_pre {acc ext : List Pr} (h : goodP (acc ++ ext) = true) : goodP acc = true := by
  cases hc : goodP acc with
  | true => rfl
  | false =>
    have : goodTo (acc ++ ext) acc.length = false := by rw [goodTo_app acc ext _ (Nat.le_refl _)]; exact hc
    rw [goodP, goodTo_false this (by simp)] at h
    exact h
theorem lastI_ok {acc : List Pr} (hok : ∀ p ∈ acc, p.ok) (h : acc.length ≠ 0) : -9223372036854775808 ≤ lastI acc ∧ lastI acc < 9223372036854775808 := by
  have hm : acc.getD (acc.length - 1) default ∈ acc := by
    have : acc.length - 1 < acc.length := by omega
    simp [List.getD, this]
  exact ⟨(hok _ hm).1, (hok _ hm).2.1⟩
theorem idx_put (acc : List Pr) (p : Pr) (r : List UInt8) (hok : ∀ q ∈ acc ++ [p], q.ok) (hlt : 0 < acc.length → lastI acc < p.i) :
    idxNext acc (some (headB acc p ++ r)) = (p.i, some (natB p.c ++ r)) := by
  have hp : p.ok := hok p (by simp)
  unfold idxNext headB
  by_cases h : acc.length = 0
  · rw [if_pos h, if_pos h, List.append_assoc, eNat_natB (zig_lt hp.1 hp.2.1), if_pos (by have := zig_lt hp.1 hp.2.1; omega), zag_zig]
  · have hl := lastI_ok (fun q hq => hok q (by simp [hq])) h
    have h1 := hlt (by omega)
    have h2 := hp.2.1
    have hg : gapN p.i (lastI acc) = (p.i - lastI acc - 1).toNat := by unfold gapN; omega
    rw [if_neg h, if_neg h, List.append_assoc, eNat_natB (gapN_lt _ _), hg, if_pos (by omega)]
    simp only [Prod.mk.injEq, and_true]
    omega
theorem getN_put (more : List UInt8) (ext acc : List Pr) (hok : ∀ p ∈ acc ++ ext, p.ok) (hg : goodP (acc ++ ext) = true) : getN ext.length acc (some (tailB acc ext ++ more)) = (acc ++ ext, some more) := by
  induction ext generalizing acc with
  | nil => simp [getN, tailB]
  | cons p ext ih =>
    rw [show acc ++ p :: ext = (acc ++ [p]) ++ ext from by simp] at hok hg ⊢
    have hg1 := goodP_pre hg
    rw [goodP_push] at hg1
    simp only [Bool.and_eq_true, decide_eq_true_eq] at hg1
    obtain ⟨_, h1, h2, h3⟩ := hg1
    have hp : p.ok := hok p (by simp)
    rw [tailB, List.length_cons, getN, List.append_assoc, idx_put acc p _ (fun q hq => hok q (by rw [List.mem_append]; exact .inl hq)) h3, eCount_natB h1 h2, if_neg (by have := hp.2.1; omega), if_neg (by simp)]
    exact ih _ hok hg
theorem getP_put {l : List Pr} (hok : ∀ p ∈ l, p.ok) (hg : goodP l = true) (more : List UInt8) (most : Int) (hl : (l.length : Int) ≤ most) (hb : l.length < 2 ^ 64) : getP most (some (putB l ++ more)) = (l, some more) := by
  have hbt := body_tail l []
  simp only [List.nil_append, List.length_nil] at hbt
  rw [show bodyTo [] 0 = [] from rfl, List.nil_append] at hbt
  rw [getP, putB, List.append_assoc, eNat_natB hb, if_pos (by omega), hbt]
  exact getN_put more l [] (by simpa using hok) (by simpa using hg)
theorem getP_fewer {l : List Pr} (more : List UInt8) (most : Int) (hl : most < (l.length : Int)) (hb : l.length < 2 ^ 64) (h0 : 0 < l.length) : getP most (some (putB l ++ more)) = ([], none) := by
  rw [getP, putB, List.append_assoc, eNat_natB hb, if_neg (by omega)]
  rfl
theorem getN_none {n : Nat} {acc : List Pr} {l : List UInt8} {L : List Pr} (h : getN n acc (some l) = (L, none)) : L = [] := by
  induction n generalizing acc l with
  | zero => simp [getN] at h
  | succ n ih =>
    rw [getN] at h
    split at h
    · simp at h; exact h
    · split at h
      · simp at h; exact h
      · next hn =>
        cases hc : (eCount (idxNext acc (some l)).2).2 with
        | none => exact absurd hc hn
        | some l2 => rw [hc] at h; exact ih h
theorem getP_none {most : Int} {l : List UInt8} {L : List Pr} (h : getP most (some l) = (L, none)) : L = [] := by
  rw [getP] at h
  cases hc : (eNat most.toNat (some l)).2 with
  | none =>
    have : (eNat most.toNat (some l)).1 = 0 := by
      rw [eNat_some] at hc ⊢
      split at hc
      · split at hc
        · simp at hc
        · next h1 => rw [if_neg h1]
      · rfl
    rw [hc, this] at h
    simp [getN] at h
    exact h
  | some l2 => rw [hc] at h; exact getN_none h

theorem idx_sound {acc : List Pr} {l r : List UInt8} {i : Int} (hok : ∀ q ∈ acc, q.ok) (hmax : ¬ (acc.length ≠ 0 ∧ lastI acc = 9223372036854775807)) (h : idxNext acc (some l) = (i, some r)) :
    l = (if acc.length = 0 then natB (zig i) else natB (gapN i (lastI acc))) ++ r ∧ -9223372036854775808 ≤ i ∧ i < 9223372036854775808 ∧ (0 < acc.length → lastI acc < i) := by
  unfold idxNext at h
  split at h
  · next h0 =>
    simp only [Prod.mk.injEq] at h
    obtain ⟨rfl, h2⟩ := h
    obtain ⟨e1, e2, e3⟩ := eNat_sound (pair_eq h2)
    rw [if_pos h0, zig_zag]
    have := zag_range e3
    exact ⟨e1, this.1, this.2, by omega⟩
  · next h0 =>
    simp only [Prod.mk.injEq] at h
    obtain ⟨rfl, h2⟩ := h
    obtain ⟨e1, e2, e3⟩ := eNat_sound (pair_eq h2)
    have hl := lastI_ok hok h0
    rw [if_neg h0]
    generalize (eNat (9223372036854775806 - lastI acc).toNat (some l)).1 = v at *
    have hm : lastI acc ≠ 9223372036854775807 := fun h => hmax ⟨h0, h⟩
    have hg : gapN (lastI acc + v + 1) (lastI acc) = v := by unfold gapN; omega
    rw [hg]
    exact ⟨e1, by omega, by omega, by omega⟩
theorem getN_sound (n : Nat) (acc : List Pr) (l : List UInt8) (L : List Pr) (r : List UInt8) (hok : ∀ q ∈ acc, q.ok) (hg : goodP acc = true) (h : getN n acc (some l) = (L, some r)) :
    ∃ ext, ext.length = n ∧ L = acc ++ ext ∧ l = tailB acc ext ++ r ∧ goodP L = true ∧ ∀ q ∈ L, q.ok := by
  induction n generalizing acc l with
  | zero =>
    simp only [getN, Prod.mk.injEq, Option.some.injEq] at h
    obtain ⟨rfl, rfl⟩ := h
    exact ⟨[], rfl, by simp, by simp [tailB], hg, hok⟩
  | succ n ih =>
    rw [getN] at h
    split at h
    · simp at h
    · next hmax =>
      split at h
      · simp at h
      · next hn =>
        cases hc : (eCount (idxNext acc (some l)).2).2 with
        | none => exact absurd hc hn
        | some l2 =>
          rw [hc] at h
          obtain ⟨l1, f1, f2, f3, f4⟩ := eCount_sound (pair_eq hc)
          obtain ⟨g1, g2, g3, g4⟩ := idx_sound hok hmax (pair_eq f1)
          generalize (eCount (idxNext acc (some l)).2).1 = c at *
          generalize (idxNext acc (some l)).1 = i at *
          obtain ⟨ext, x1, x2, x3, x4, x5⟩ := ih (acc ++ [⟨i, c⟩]) l2 (by
            intro q hq
            rcases List.mem_append.1 hq with hq | hq
            · exact hok q hq
            · rw [List.mem_singleton] at hq
              subst hq
              exact ⟨g2, g3, by simp only; omega⟩) (by rw [goodP_push, hg]; simp only [Bool.true_and, decide_eq_true_eq]; exact ⟨f3, f4, g4⟩) h
          refine ⟨⟨i, c⟩ :: ext, by simp [x1], by rw [x2]; simp, ?_, x4, x5⟩
          rw [tailB, headB, g1, f2, x3]
          simp
theorem getP_sound {most : Int} {l : List UInt8} {L : List Pr} {r : List UInt8} (h : getP most (some l) = (L, some r)) :
    l = putB L ++ r ∧ goodP L = true ∧ (L.length : Int) ≤ max most 0 ∧ (∀ q ∈ L, q.ok) ∧ ∃ v s, l = natB v ++ s ∧ v < 2 ^ 64 := by
  rw [getP] at h
  cases hc : (eNat most.toNat (some l)).2 with
  | none =>
    rw [hc] at h
    generalize (eNat most.toNat (some l)).1 = n at *
    cases n with
    | zero => simp [getN] at h
    | succ n =>
      simp [getN, idxNext, eNat, eCount] at h
  | some l2 =>
    rw [hc] at h
    obtain ⟨e1, e2, e3⟩ := eNat_sound (pair_eq hc)
    generalize (eNat most.toNat (some l)).1 = n at *
    obtain ⟨ext, x1, x2, x3, x4, x5⟩ := getN_sound n [] l2 L r (by simp) rfl h
    rw [List.nil_append] at x2
    subst x2
    have hbt := body_tail L []
    simp only [List.nil_append, List.length_nil] at hbt
    rw [show bodyTo [] 0 = [] from rfl, List.nil_append] at hbt
    exact ⟨by rw [putB, hbt, x1, List.append_assoc, ← x3]; exact e1, x4, by omega, x5, n, l2, e1, e3⟩
end Go.Proofs.YtlcoibhbdgdfcaaGreatDoor

namespace Go.Proofs.YtlcoibhbdgdfcaaGreatDoor

/-- A value of 64 bits. -/
def InR (x : Int) : Prop := -9223372036854775808 ≤ x ∧ x < 9223372036854775808
theorem InR.zig {x : Int} (h : InR x) : zig x < 18446744073709551616 := by
  have := zig_lt h.1 h.2
  omega
/-- All values of a tower, and its ends, are so. -/
structure TwD.allQ (D : TwD) (Q : Int → Prop) : Prop where
  rows : ∀ r ∈ D.rows, ∀ v ∈ r, Q v
  least : Q D.least
  most : Q D.most
namespace TwD.allQ
variable {D O : TwD} {Q : Int → Prop}
theorem ends (h : D.allQ Q) {lo hi : Int} (h1 : Q lo) (h2 : Q hi) : (D.ends lo hi).allQ Q := by
  unfold TwD.ends
  split
  · exact ⟨h.rows, h1, h2⟩
  · refine ⟨h.rows, ?_, ?_⟩
    · show Q (min D.least lo)
      rcases Int.le_total D.least lo with h3 | h3
      · rw [Int.min_eq_left h3]; exact h.least
      · rw [Int.min_eq_right h3]; exact h1
    · show Q (max D.most hi)
      rcases Int.le_total D.most hi with h3 | h3
      · rw [Int.max_eq_right h3]; exact h2
      · rw [Int.max_eq_left h3]; exact h.most
theorem settled (hW : 4 ≤ D.W) (h : D.allQ Q) : D.settled.allQ Q := ⟨settle_all hW Q _ h.rows, h.least, h.most⟩
theorem put1 (hW : 4 ≤ D.W) (h : D.allQ Q) {x : Int} (hx : Q x) : (D.put1 x).allQ Q := by
  refine settled (D := D.add x) hW ⟨fun r hr v hv => ?_, h.least, h.most⟩
  rcases List.mem_or_eq_of_mem_set hr with hr | rfl
  · exact h.rows r hr v hv
  · rcases List.mem_append.1 hv with hv | hv
    · cases hl : D.rows with
      | nil => rw [hl] at hv; simp at hv
      | cons r l => rw [hl] at hv; exact h.rows r (by rw [hl]; simp) v (by simpa using hv)
    · rw [List.mem_singleton.1 hv]; exact hx
theorem putN (hW : 4 ≤ D.W) (h : D.allQ Q) {x : Int} (hx : Q x) (k : Nat) : (D.putN x k).allQ Q := by
  induction k with
  | zero => exact h
  | succ k ih => exact put1 (by rw [(D.putN_W x k).1]; exact hW) ih hx
theorem joinZ (hW : 4 ≤ D.W) (h : D.allQ Q) (k : O.allQ Q) : (D.joinZ O).allQ Q := by
  unfold TwD.joinZ
  split
  · exact h
  · have he := h.ends k.least k.most
    refine settled (D := D.joined O) (by show 4 ≤ (D.ends O.least O.most).W; rw [(D.ends_same _ _).1]; exact hW) ⟨joinR_all h.rows k.rows, he.least, he.most⟩
theorem new {W word : Nat} (h : Q 0) : (TwD.new W word).allQ Q := ⟨by simp [TwD.new], h, h⟩
end TwD.allQ

/-- Values' bytes. -/
def intsB (l : List Int) : List UInt8 := l.flatMap fun x => natB (zig x)
theorem intsB_len (l : List Int) (h : ∀ x ∈ l, InR x) : (intsB l).length ≤ 10 * l.length := by
  induction l with
  | nil => simp [intsB]
  | cons x l ih =>
    have h1 := ih (fun y hy => h y (by simp [hy]))
    have h2 := natB_len10 (n := zig x) (by have := (h x (by simp)).zig; omega)
    simp only [intsB, List.flatMap_cons, List.length_append, List.length_cons] at h1 ⊢
    omega
def eInt (st : Option (List UInt8)) : Int × Option (List UInt8) := (zag (eNat 18446744073709551615 st).1, (eNat 18446744073709551615 st).2)
theorem eNat_hit {n most : Nat} (h : n < 18446744073709551616) (hm : n ≤ most) (r : List UInt8) : eNat most (some (natB n ++ r)) = (n, some r) := by
  have := eNat_natB (n := n) (most := most) (by omega) r
  rw [if_pos hm] at this
  exact this
theorem eInt_hit {x : Int} (h : InR x) (r : List UInt8) : eInt (some (natB (zig x) ++ r)) = (x, some r) := by
  have h1 := h.zig
  rw [eInt, eNat_hit h1 (by omega), zag_zig]
/-- So many values more, behind those that were read; none, if one isn't there. -/
def getInts : Nat → List Int → Option (List UInt8) → List Int × Option (List UInt8)
  | 0, acc, st => (acc, st)
  | n + 1, acc, st => if (eInt st).2 = none then ([], none) else getInts n (acc ++ [(eInt st).1]) (eInt st).2
theorem getInts_hit (l acc : List Int) (r : List UInt8) (h : ∀ x ∈ l, InR x) : getInts l.length acc (some (intsB l ++ r)) = (acc ++ l, some r) := by
  induction l generalizing acc with
  | nil => simp [getInts, intsB]
  | cons x l ih =>
    have e : intsB (x :: l) ++ r = natB (zig x) ++ (intsB l ++ r) := by simp [intsB]
    rw [List.length_cons, getInts, e, eInt_hit (h x (by simp)), if_neg (by simp), ih _ (fun y hy => h y (by simp [hy]))]
    simp
theorem getInts_len (n : Nat) (acc : List Int) (st : Option (List UInt8)) : (getInts n acc st).1.length ≤ acc.length + n := by
  induction n generalizing acc st with
  | zero => simp [getInts]
  | succ n ih =>
    rw [getInts]
    split
    · simp
    · have := ih (acc ++ [(eInt st).1]) (eInt st).2
      simp only [List.length_append, List.length_cons, List.length_nil] at this
      omega
/-- One row's bytes; so many rows more, behind those that were read. -/
def rowB (l : List Int) : List UInt8 := natB l.length ++ intsB l
def getRow (st : Option (List UInt8)) : List Int × Option (List UInt8) := getInts (eNat 64 st).1 [] (eNat 64 st).2
theorem getRow_hit {l : List Int} (h : ∀ x ∈ l, InR x) (hl : l.length ≤ 64) (r : List UInt8) : getRow (some (rowB l ++ r)) = (l, some r) := by
  rw [getRow, rowB, List.append_assoc, eNat_hit (by omega) hl]
  rw [getInts_hit l [] r h]
  rfl
def getRows : Nat → List (List Int) → Option (List UInt8) → List (List Int) × Option (List UInt8)
  | 0, acc, st => (acc, st)
  | n + 1, acc, st => getRows n (acc ++ [(getRow st).1]) (getRow st).2
theorem getRows_hit (l acc : List (List Int)) (r : List UInt8) (h : ∀ q ∈ l, q.length ≤ 64 ∧ ∀ x ∈ q, InR x) : getRows l.length acc (some (l.flatMap rowB ++ r)) = (acc ++ l, some r) := by
  induction l generalizing acc with
  | nil => simp [getRows]
  | cons x l ih =>
    have e : (x :: l).flatMap rowB ++ r = rowB x ++ (l.flatMap rowB ++ r) := by simp
    rw [List.length_cons, getRows, e, getRow_hit (h x (by simp)).2 (h x (by simp)).1, ih _ (fun y hy => h y (by simp [hy]))]
    simp
/-- What is read of a tower. -/
structure RqL where
  W : Nat
  word : Nat
  used : Nat
  low : Int
  high : Int
  rows : List (List Int)
def getReq (s0 : Option (List UInt8)) : RqL × Option (List UInt8) :=
  let a := eNat 64 s0
  let b := eNat 18446744073709551615 a.2
  let c := eNat 63 b.2
  let d := eInt c.2
  let e := eInt d.2
  let f := eNat 16 e.2
  let g := getRows f.1 [] f.2
  (⟨a.1, b.1, c.1, d.1, e.1, g.1⟩, g.2)
/-- The ends that are told: noughts, if there are no values. -/
def TwD.lo (D : TwD) : Int := if D.total = 0 then 0 else D.least
def TwD.hi (D : TwD) : Int := if D.total = 0 then 0 else D.most
def putReq (D : TwD) : List UInt8 := natB D.W ++ (natB D.word ++ (natB (D.used % 64) ++ (natB (zig D.lo) ++ (natB (zig D.hi) ++ (natB D.rows.length ++ D.rows.flatMap rowB)))))
def TwD.told (D : TwD) : RqL := ⟨D.W, D.word, D.used % 64, D.lo, D.hi, D.rows⟩
theorem TwD.allQ.lo {D : TwD} (h : D.allQ InR) : InR D.lo := by
  unfold TwD.lo
  split
  · constructor <;> omega
  · exact h.least
theorem TwD.allQ.hi {D : TwD} (h : D.allQ InR) : InR D.hi := by
  unfold TwD.hi
  split
  · constructor <;> omega
  · exact h.most
theorem getReq_hit {D : TwD} (h : D.allQ InR) (h1 : D.W ≤ 64) (h2 : D.word < 18446744073709551616) (h3 : D.rows.length ≤ 16) (h4 : ∀ r ∈ D.rows, r.length ≤ 64) (r : List UInt8) : getReq (some (putReq D ++ r)) = (D.told, some r) := by
  have hu : D.used % 64 ≤ 63 := by omega
  unfold getReq putReq
  simp only [List.append_assoc]
  rw [eNat_hit (by omega) h1]
  simp only
  rw [eNat_hit h2 (by omega)]
  simp only
  rw [eNat_hit (by omega) hu]
  simp only
  rw [eInt_hit h.lo]
  simp only
  rw [eInt_hit h.hi]
  simp only
  rw [eNat_hit (by omega) h3]
  simp only
  rw [getRows_hit _ _ _ (fun q hq => ⟨h4 q hq, h.rows q hq⟩)]
  rfl
theorem rowsB_len (l : List (List Int)) (h : ∀ q ∈ l, q.length ≤ 64 ∧ ∀ x ∈ q, InR x) : (l.flatMap rowB).length ≤ 642 * l.length := by
  induction l with
  | nil => simp
  | cons x l ih =>
    have h1 := ih (fun y hy => h y (by simp [hy]))
    have h2 := intsB_len x (h x (by simp)).2
    have h3 := (h x (by simp)).1
    have h4 := natB_len 1 x.length (by omega)
    simp only [List.flatMap_cons, List.length_append, List.length_cons, rowB] at h1 ⊢
    omega
theorem putReq_len {D : TwD} (h : D.allQ InR) (h1 : D.W ≤ 64) (h2 : D.word < 18446744073709551616) (h3 : D.rows.length ≤ 16) (h4 : ∀ r ∈ D.rows, r.length ≤ 64) : (putReq D).length ≤ 20000 := by
  have e1 := natB_len10 (n := D.W) (by omega)
  have e2 := natB_len10 (n := D.word) (by omega)
  have e3 := natB_len10 (n := D.used % 64) (by omega)
  have e4 := natB_len10 (n := zig D.lo) (by have := h.lo.zig; omega)
  have e5 := natB_len10 (n := zig D.hi) (by have := h.hi.zig; omega)
  have e6 := natB_len10 (n := D.rows.length) (by omega)
  have e7 := rowsB_len D.rows (fun q hq => ⟨h4 q hq, h.rows q hq⟩)
  unfold putReq
  simp only [List.length_append]
  omega
end Go.Proofs.YtlcoibhbdgdfcaaGreatDoor
