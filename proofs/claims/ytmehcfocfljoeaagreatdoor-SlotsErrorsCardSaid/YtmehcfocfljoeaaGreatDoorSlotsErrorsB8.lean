/-
  Rows of pairs within a window, plainly (layers 9 and 10): what lies too far from the end is lost. Conditions: none.
  Magnitudes in cells, plainly (layer 11): where each cell begins, and what stands for it. Conditions: none.
  Bins and the sketch of layer 14, plainly: what their methods answer, and what stays true. Conditions: none.
-/
import Derived.Test.YtmehcfocfljoeaaGreatDoorSlotsErrorsB4
import Derived.Test.YtmehcfocfljoeaaGreatDoorProg
namespace Go.Proofs.YtmehcfocfljoeaaGreatDoor

/-- The least and the greatest index of a row. -/
def firstC (r : List Pr) : Int := (r.getD 0 default).i
def lastC (r : List Pr) : Int := (r.getD (r.length - 1) default).i
/-- Whether an index lies too far from an end: above it (hi), or below it. -/
def farI (hi : Bool) (m : Nat) (e i : Int) : Bool := if hi then decide (e < i ∧ (m : Int) ≤ i - e) else decide (i < e ∧ (m : Int) ≤ e - i)
def farC (hi : Bool) (m : Nat) (e : Int) (p : Pr) : Bool := farI hi m e p.i
/-- The end that is kept: the least index (hi), or the greatest one. -/
def endC (hi : Bool) (r : List Pr) : Int := if hi then firstC r else lastC r
/-- No two lie so far from each other. -/
def Win (m : Nat) (r : List Pr) : Prop := ∀ p ∈ r, ∀ q ∈ r, q.i - p.i < (m : Int)
structure CapD where
  hi : Bool
  m : Nat
  r : List Pr
  lost : Nat
structure CapD.ok (D : CapD) : Prop where
  m1 : 1 ≤ D.m
  m2 : D.m ≤ 4096
  rises : rises D.r
  pos : ∀ p ∈ D.r, 1 ≤ p.c
  win : Win D.m D.r
  ix : ∀ p ∈ D.r, -1000000 ≤ p.i ∧ p.i ≤ 1000000
  tot : totP D.r + D.lost ≤ 9223372036854775807
def keepC (D : CapD) (i : Int) : List Pr := D.r.filter fun p => !farC D.hi D.m i p
def goneC (D : CapD) (i : Int) : Nat := totP (D.r.filter fun p => farC D.hi D.m i p)
def CapD.put (D : CapD) (i : Int) (c : Nat) : CapD :=
  if D.r ≠ [] ∧ farI D.hi D.m (endC D.hi D.r) i = true then { D with lost := D.lost + c }
  else { D with r := refAdd (keepC D i) i c, lost := D.lost + goneC D i }
theorem rises_mem {r : List Pr} (h : rises r) {j k : Nat} (hj : j < r.length) (hk : k < r.length) (hjk : j ≤ k) : r[j].i ≤ r[k].i := by
  rcases Nat.lt_or_ge j k with h1 | h1
  · exact Int.le_of_lt (h j k h1 hk)
  · have : j = k := by omega
    subst this
    exact Int.le_refl _
theorem first_le {r : List Pr} (h : rises r) : ∀ p ∈ r, firstC r ≤ p.i := fun p hp => by
  obtain ⟨k, hk, rfl⟩ := List.getElem_of_mem hp
  have e : firstC r = (r[0]'(by omega)).i := by unfold firstC; simp [List.getD, show 0 < r.length by omega]
  rw [e]
  exact rises_mem h (by omega) hk (by omega)
theorem le_last {r : List Pr} (h : rises r) : ∀ p ∈ r, p.i ≤ lastC r := fun p hp => by
  obtain ⟨k, hk, rfl⟩ := List.getElem_of_mem hp
  have e : lastC r = (r[r.length - 1]'(by omega)).i := by unfold lastC; simp [List.getD, show r.length - 1 < r.length by omega]
  rw [e]
  exact rises_mem h hk (by omega) (by omega)
theorem first_mem {r : List Pr} (h : r ≠ []) : ∃ p ∈ r, p.i = firstC r := by
  have hl : 0 < r.length := List.length_pos_iff.2 h
  exact ⟨r[0], List.getElem_mem _, by unfold firstC; simp [List.getD, hl]⟩
theorem last_mem {r : List Pr} (h : r ≠ []) : ∃ p ∈ r, p.i = lastC r := by
  have hl : 0 < r.length := List.length_pos_iff.2 h
  exact ⟨r[r.length - 1], List.getElem_mem _, by unfold lastC; simp [List.getD, show r.length - 1 < r.length by omega]⟩
theorem rises_span {r : List Pr} (h : rises r) : ∀ k, (hk : k < r.length) → (r[0]'(by omega)).i + (k : Int) ≤ r[k].i := by
  intro k
  induction k with
  | zero => intro hk; simp
  | succ k ih =>
    intro hk
    have h1 := ih (by omega)
    have h2 := h k (k + 1) (by omega) hk
    omega
theorem win_len {m : Nat} {r : List Pr} (h : rises r) (hw : Win m r) : r.length ≤ m := by
  rcases Nat.eq_zero_or_pos r.length with h0 | h0
  · omega
  · have h1 := rises_span h (r.length - 1) (by omega)
    have h2 := hw r[0] (List.getElem_mem _) (r[r.length - 1]'(by omega)) (List.getElem_mem _)
    omega
theorem filter_risesC {r : List Pr} (h : rises r) (f : Pr → Bool) : rises (r.filter f) := by
  induction r with
  | nil => exact h
  | cons p r ih =>
    rw [List.filter_cons]
    split
    · exact rises_cons (ih (rises_tail h)) (fun q hq => rises_head h q (List.mem_filter.1 hq).1)
    · exact ih (rises_tail h)
theorem totP_filterC (r : List Pr) (f : Pr → Bool) : totP (r.filter f) + totP (r.filter fun p => !f p) = totP r := by
  induction r with
  | nil => rfl
  | cons p r ih =>
    rw [List.filter_cons, List.filter_cons]
    cases hf : f p <;> simp [totP] at ih ⊢ <;> omega
theorem refAdd_memC {r : List Pr} {i : Int} {c : Nat} {q : Pr} (h : q ∈ refAdd r i c) : (∃ p ∈ r, p.i = q.i) ∨ q.i = i := by
  unfold refAdd at h
  rcases List.mem_append.1 h with h | h
  · rcases List.mem_append.1 h with h | h
    · exact .inl ⟨q, (List.mem_filter.1 h).1, rfl⟩
    · split at h
      · rw [List.mem_singleton.1 h]; exact .inr rfl
      · simp at h
  · exact .inl ⟨q, (List.mem_filter.1 h).1, rfl⟩
theorem CapD.put_tot {D : CapD} (h : D.ok) (i : Int) (c : Nat) : totP (D.put i c).r + (D.put i c).lost = totP D.r + D.lost + c := by
  unfold CapD.put
  split
  · simp only; omega
  · have h1 := totP_filterC D.r (fun p => farC D.hi D.m i p)
    have h2 := refAdd_tot (i := i) (filter_risesC h.rises (fun p => !farC D.hi D.m i p)) c
    simp only [keepC, goneC]
    omega
theorem CapD.put_ok {D : CapD} (h : D.ok) {i : Int} {c : Nat} (hi : -1000000 ≤ i ∧ i ≤ 1000000) (hc : totP D.r + D.lost + c ≤ 9223372036854775807) : (D.put i c).ok := by
  have ht := CapD.put_tot h i c
  have hm1 := h.m1
  have hm2 := h.m2
  unfold CapD.put at ht ⊢
  split
  · rename_i hf
    rw [if_pos hf] at ht
    exact ⟨h.m1, h.m2, h.rises, h.pos, h.win, h.ix, by rw [ht]; exact hc⟩
  · rename_i hf
    rw [if_neg hf] at ht
    have hr := filter_risesC h.rises (fun p => !farC D.hi D.m i p)
    have hin : ∀ p ∈ keepC D i, p ∈ D.r ∧ farC D.hi D.m i p = false := fun p hp => by
      obtain ⟨h1, h2⟩ := List.mem_filter.1 hp
      exact ⟨h1, by simpa using h2⟩
    -- the distance from i, in the other direction
    have hother : ∀ p ∈ keepC D i, (if D.hi then i - p.i else p.i - i) < (D.m : Int) := fun p hp => by
      obtain ⟨h1, h2⟩ := hin p hp
      have hne : D.r ≠ [] := fun e => by rw [e] at h1; simp at h1
      have hf2 : farI D.hi D.m (endC D.hi D.r) i = false := by
        cases hx : farI D.hi D.m (endC D.hi D.r) i with
        | false => rfl
        | true => exact absurd ⟨hne, hx⟩ hf
      have a1 := first_le h.rises p h1
      have a2 := le_last h.rises p h1
      unfold farI endC at hf2
      cases hhi : D.hi with
      | true =>
        rw [hhi] at hf2
        simp only [if_true, decide_eq_false_iff_not] at hf2 ⊢
        omega
      | false =>
        rw [hhi] at hf2
        simp only [Bool.false_eq_true, if_false, decide_eq_false_iff_not] at hf2 ⊢
        omega
    have hthis : ∀ p ∈ keepC D i, (if D.hi then p.i - i else i - p.i) < (D.m : Int) := fun p hp => by
      obtain ⟨h1, h2⟩ := hin p hp
      unfold farC farI at h2
      cases hhi : D.hi with
      | true =>
        rw [hhi] at h2
        simp only [if_true, decide_eq_false_iff_not] at h2 ⊢
        omega
      | false =>
        rw [hhi] at h2
        simp only [Bool.false_eq_true, if_false, decide_eq_false_iff_not] at h2 ⊢
        omega
    have hwin : ∀ p ∈ keepC D i, i - p.i < (D.m : Int) ∧ p.i - i < (D.m : Int) := fun p hp => by
      have b1 := hother p hp
      have b2 := hthis p hp
      cases hhi : D.hi with
      | true => rw [hhi] at b1 b2; simp only [if_true] at b1 b2; omega
      | false => rw [hhi] at b1 b2; simp only [Bool.false_eq_true, if_false] at b1 b2; omega
    refine ⟨h.m1, h.m2, refAdd_rises hr c, refAdd_pos (fun p hp => h.pos p (hin p hp).1) c, fun p hp q hq => ?_, fun p hp => ?_, by rw [ht]; exact hc⟩
    · simp only at hp hq
      rcases refAdd_memC hp with ⟨p', hp', ep⟩ | ep
      · rcases refAdd_memC hq with ⟨q', hq', eq⟩ | eq
        · have := h.win p' (hin p' hp').1 q' (hin q' hq').1
          rw [← ep, ← eq]; exact this
        · have := hwin p' hp'
          rw [← ep, eq]; exact this.1
      · rcases refAdd_memC hq with ⟨q', hq', eq⟩ | eq
        · have := hwin q' hq'
          rw [ep, ← eq]; exact this.2
        · rw [ep, eq]; simp only [Int.sub_self]; omega
    · simp only at hp
      rcases refAdd_memC hp with ⟨p', hp', ep⟩ | ep
      · rw [← ep]; exact h.ix p' (hin p' hp').1
      · rw [ep]; exact hi
theorem CapD.new_ok (hi : Bool) {m : Nat} (h1 : 1 ≤ m) (h2 : m ≤ 4096) : CapD.ok ⟨hi, m, [], 0⟩ :=
  ⟨h1, h2, fun j k _ hk => by simp at hk, by simp, fun p hp => by simp at hp, by simp, by simp [totP]⟩
end Go.Proofs.YtmehcfocfljoeaaGreatDoor

namespace Go.Proofs.YtmehcfocfljoeaaGreatDoor

def two63 : Nat := 9223372036854775808
/-- Whether a closeness can be. -/
def goodC11 (num den : Nat) : Bool := decide (0 < num) && (decide (num < den) && decide (den ≤ 2147483648))
/-- What stands for the cell that begins at a magnitude, and where that ends. -/
def nextC (num den low : Nat) : Nat × Nat :=
  let r := low * (den + num) / den
  if two63 < r then (two63 - 1, two63)
  else (min r (two63 - 1), min (r * den / (den - num)) two63)
/-- Where the k-th cell begins. -/
def lowK (num den : Nat) : Nat → Nat
  | 0 => 1
  | k + 1 => (nextC num den (lowK num den k)).2 + 1
def repK (num den k : Nat) : Nat := (nextC num den (lowK num den k)).1
theorem nextC_ge {num den low : Nat} (h0 : 0 < num) (h1 : num < den) (hl : low ≤ two63) : low ≤ (nextC num den low).2 ∧ (nextC num den low).2 ≤ two63 := by
  have hd : 0 < den := by omega
  have hr : low ≤ low * (den + num) / den := by
    rw [Nat.le_div_iff_mul_le hd]
    exact Nat.mul_le_mul_left _ (by omega)
  unfold nextC
  simp only
  split
  · exact ⟨hl, Nat.le_refl _⟩
  · rename_i h
    have h2 : low * (den + num) / den ≤ low * (den + num) / den * den / (den - num) := by
      rw [Nat.le_div_iff_mul_le (by omega)]
      exact Nat.mul_le_mul_left _ (by omega)
    simp only
    omega
theorem nextC_rep {num den low : Nat} (h0 : 0 < num) (h1 : num < den) (hl0 : 1 ≤ low) : 1 ≤ (nextC num den low).1 ∧ (nextC num den low).1 ≤ two63 - 1 := by
  have hd : 0 < den := by omega
  have hr : low ≤ low * (den + num) / den := by
    rw [Nat.le_div_iff_mul_le hd]
    exact Nat.mul_le_mul_left _ (by omega)
  unfold nextC
  simp only
  split
  · simp only [two63]; omega
  · simp only [two63]; omega
theorem lowK_pos (num den : Nat) : ∀ k, 1 ≤ lowK num den k
  | 0 => Nat.le_refl _
  | k + 1 => by rw [lowK]; omega
theorem lowK_step {num den : Nat} (h0 : 0 < num) (h1 : num < den) {k : Nat} (h : lowK num den k ≤ two63) : lowK num den k < lowK num den (k + 1) := by
  have := nextC_ge (num := num) (den := den) h0 h1 h
  rw [lowK]
  omega
/-- A table of n cells. -/
structure TabOk (num den n : Nat) : Prop where
  good : 0 < num ∧ num < den ∧ den ≤ 2147483648
  n1 : n ≤ 4096
  below : ∀ k, k < n → lowK num den k ≤ two63
  above : two63 < lowK num den n
theorem TabOk.pos {num den n : Nat} (h : TabOk num den n) : 1 ≤ n := by
  rcases Nat.eq_zero_or_pos n with h0 | h0
  · have := h.above
    rw [h0, lowK] at this
    simp [two63] at this
  · exact h0
theorem TabOk.rises {num den n : Nat} (h : TabOk num den n) : ∀ k j, j < k → k ≤ n → lowK num den j < lowK num den k := by
  intro k
  induction k with
  | zero => intro j hj; omega
  | succ k ih =>
    intro j hj hk
    have h1 := lowK_step h.good.1 h.good.2.1 (h.below k (by omega))
    by_cases hjk : j = k
    · subst hjk; exact h1
    · have := ih j (by omega) (by omega); omega
def lowsT (num den n : Nat) : List Nat := (List.range n).map (lowK num den)
def repsT (num den n : Nat) : List Nat := (List.range n).map (repK num den)
/-- Which cell a magnitude lies in. -/
def cellI (num den n m : Nat) : Nat := (lowsT num den n).countP (fun l => decide (l ≤ m)) - 1
end Go.Proofs.YtmehcfocfljoeaaGreatDoor

namespace Go.Proofs.YtmehcfocfljoeaaGreatDoor

/-- The index of the t-th one, in order. -/
def findP : List Pr → Nat → Int
  | [], _ => 0
  | p :: r, t => if p.c < t then findP r (t - p.c) else p.i
/-- What Find of a strip answers. -/
def findV (r : List Pr) (t : Nat) : Int × Bool := if t = 0 ∨ totP r < t then (0, false) else (findP r t, true)
/-- How many there are up to an index. -/
def belowP (r : List Pr) (i : Int) : Nat := totP (r.filter fun p => decide (p.i ≤ i))
theorem belowP_le (r : List Pr) (i : Int) : belowP r i ≤ totP r := by
  have := totP_filterC r (fun p => decide (p.i ≤ i))
  unfold belowP; omega
theorem belowP_mono (r : List Pr) {i j : Int} (h : i ≤ j) : belowP r i ≤ belowP r j := by
  unfold belowP
  induction r with
  | nil => simp
  | cons p r ih =>
    rw [List.filter_cons, List.filter_cons]
    by_cases h1 : p.i ≤ i
    · have h2 : p.i ≤ j := by omega
      simp only [h1, h2, decide_true, if_true, totP_cons]
      omega
    · simp only [h1, decide_false, Bool.false_eq_true, if_false]
      split
      · rw [totP_cons]; omega
      · exact ih
def CapD.total (D : CapD) : Nat := totP D.r + D.lost
def CapD.find (D : CapD) (t : Nat) : Int × Bool := if D.hi then findV D.r t else if t ≤ D.lost then (0, false) else findV D.r (t - D.lost)
def CapD.below (D : CapD) (i : Int) : Nat × Nat :=
  if D.hi then if D.r ≠ [] ∧ farI true D.m (firstC D.r) i = true then (belowP D.r i, belowP D.r i + D.lost) else (belowP D.r i, belowP D.r i)
  else if D.r ≠ [] ∧ (i < lastC D.r ∧ (D.m : Int) < lastC D.r - i) then (0, D.lost) else (belowP D.r i + D.lost, belowP D.r i + D.lost)
theorem CapD.below_le (D : CapD) (i : Int) : (D.below i).1 ≤ (D.below i).2 ∧ (D.below i).2 ≤ D.total := by
  have := belowP_le D.r i
  unfold CapD.below CapD.total
  split
  · split <;> simp only <;> omega
  · split <;> simp only <;> omega
def CapD.putAll (D : CapD) (l : List Pr) : CapD := l.foldl (fun D p => D.put p.i p.c) D
def CapD.addLost (D : CapD) (n : Nat) : CapD := { D with lost := D.lost + n }
def CapD.merge (D O : CapD) : CapD := (D.putAll O.r).addLost O.lost
theorem CapD.putAll_nil (D : CapD) : D.putAll [] = D := rfl
theorem CapD.putAll_snoc (D : CapD) (l : List Pr) (p : Pr) : D.putAll (l ++ [p]) = (D.putAll l).put p.i p.c := by simp [CapD.putAll]
theorem CapD.put_hi (D : CapD) (i : Int) (c : Nat) : (D.put i c).hi = D.hi ∧ (D.put i c).m = D.m := by
  unfold CapD.put
  split <;> exact ⟨rfl, rfl⟩
theorem CapD.putAll_hi (l : List Pr) : ∀ D : CapD, (D.putAll l).hi = D.hi ∧ (D.putAll l).m = D.m := by
  induction l with
  | nil => intro D; exact ⟨rfl, rfl⟩
  | cons p l ih =>
    intro D
    have h1 := ih (D.put p.i p.c)
    have h2 := CapD.put_hi D p.i p.c
    exact ⟨h1.1.trans h2.1, h1.2.trans h2.2⟩
theorem CapD.putAll_ok (l : List Pr) : ∀ D : CapD, D.ok → (∀ p ∈ l, -1000000 ≤ p.i ∧ p.i ≤ 1000000) → totP D.r + D.lost + totP l ≤ 9223372036854775807 → (D.putAll l).ok ∧ (D.putAll l).total = D.total + totP l := by
  induction l with
  | nil => intro D h _ _; exact ⟨h, by simp [totP, CapD.putAll_nil]⟩
  | cons p l ih =>
    intro D h hi ht
    rw [totP_cons] at ht
    have e := CapD.put_tot h p.i p.c
    have h1 := CapD.put_ok h (i := p.i) (c := p.c) (hi p (by simp)) (by omega)
    have h2 := ih (D.put p.i p.c) h1 (fun q hq => hi q (by simp [hq])) (by omega)
    refine ⟨h2.1, ?_⟩
    have h3 : (D.putAll (p :: l)).total = (D.put p.i p.c).total + totP l := h2.2
    rw [h3, totP_cons]
    unfold CapD.total at *
    omega
theorem CapD.merge_ok {D O : CapD} (h : D.ok) (k : O.ok) (ht : D.total + O.total ≤ 9223372036854775807) : (D.merge O).ok ∧ (D.merge O).total = D.total + O.total := by
  unfold CapD.total at ht
  obtain ⟨h1, h2⟩ := CapD.putAll_ok O.r D h k.ix (by omega)
  unfold CapD.merge CapD.addLost
  unfold CapD.total at h2 ⊢
  refine ⟨⟨h1.m1, h1.m2, h1.rises, h1.pos, h1.win, h1.ix, ?_⟩, ?_⟩
  · simp only; omega
  · simp only; omega
theorem CapD.merge_hi (D O : CapD) : (D.merge O).hi = D.hi ∧ (D.merge O).m = D.m := CapD.putAll_hi O.r D
/-- Whether a put keeps the row's indexes among those there are. -/
theorem CapD.put_mem {D : CapD} {i : Int} {c : Nat} {q : Pr} (h : q ∈ (D.put i c).r) : (∃ p ∈ D.r, p.i = q.i) ∨ q.i = i := by
  unfold CapD.put at h
  split at h
  · exact .inl ⟨q, h, rfl⟩
  · rcases refAdd_memC h with ⟨p, hp, e⟩ | e
    · exact .inl ⟨p, (List.mem_filter.1 hp).1, e⟩
    · exact .inr e
theorem CapD.putAll_ix {a b : Int} (l : List Pr) : ∀ D : CapD, (∀ p ∈ D.r, a ≤ p.i ∧ p.i < b) → (∀ p ∈ l, a ≤ p.i ∧ p.i < b) → ∀ p ∈ (D.putAll l).r, a ≤ p.i ∧ p.i < b := by
  induction l with
  | nil => intro D h _; exact h
  | cons p l ih =>
    intro D h hl
    refine ih (D.put p.i p.c) (fun q hq => ?_) (fun q hq => hl q (by simp [hq]))
    rcases CapD.put_mem hq with ⟨q', hq', e⟩ | e
    · rw [← e]; exact h q' hq'
    · rw [e]; exact hl p (by simp)
/-- Values in bins, plainly. -/
structure BinD where
  num : Nat
  den : Nat
  n : Nat
  hi : Bool
  m : Nat
  minus : CapD
  plus : CapD
  zero : Nat
structure BinD.ok (D : BinD) : Prop where
  tab : TabOk D.num D.den D.n
  mh : D.minus.hi = D.hi
  ph : D.plus.hi = D.hi
  mm : D.minus.m = D.m
  pm : D.plus.m = D.m
  minus : D.minus.ok
  plus : D.plus.ok
  ix1 : ∀ p ∈ D.minus.r, 0 ≤ p.i ∧ p.i < D.n
  ix2 : ∀ p ∈ D.plus.r, 0 ≤ p.i ∧ p.i < D.n
  tot : D.minus.total + D.zero + D.plus.total ≤ 9223372036854775807
def BinD.total (D : BinD) : Nat := D.minus.total + D.zero + D.plus.total
/-- The part of a magnitude. -/
def BinD.part (D : BinD) (m : Nat) : Int := (cellI D.num D.den D.n m : Int)
def BinD.add (D : BinD) (x : Int) (c : Nat) : BinD :=
  if x = 0 then { D with zero := D.zero + c }
  else if x < 0 then { D with minus := D.minus.put (D.part x.natAbs) c }
  else { D with plus := D.plus.put (D.part x.natAbs) c }
/-- What stands for a part, below 0 or not. -/
def BinD.rep (D : BinD) (i : Int) : Int := (repK D.num D.den i.toNat : Nat)
def BinD.value (D : BinD) (i : Int) (below : Bool) : Int := if below then - D.rep i else D.rep i
def BinD.find (D : BinD) (t : Nat) : Int × Bool :=
  if t = 0 ∨ D.total < t then (0, false)
  else if t ≤ D.minus.total then
    let f := D.minus.find (D.minus.total - t + 1)
    if f.2 then (D.value f.1 true, true) else (0, false)
  else if t - D.minus.total ≤ D.zero then (0, true)
  else
    let f := D.plus.find (t - D.minus.total - D.zero)
    if f.2 then (D.value f.1 false, true) else (0, false)
def BinD.rank (D : BinD) (x : Int) : Nat × Nat :=
  if x = 0 then (D.minus.total + D.zero, D.minus.total + D.zero)
  else if x < 0 then (D.minus.total - (D.minus.below (D.part x.natAbs)).2, D.minus.total - (D.minus.below (D.part x.natAbs - 1)).1)
  else (D.minus.total + D.zero + (D.plus.below (D.part x.natAbs - 1)).1, D.minus.total + D.zero + (D.plus.below (D.part x.natAbs)).2)
def BinD.merge (D O : BinD) : BinD := { D with minus := D.minus.merge O.minus, plus := D.plus.merge O.plus, zero := D.zero + O.zero }
theorem cellI_lt {num den n : Nat} (h : TabOk num den n) (m : Nat) : cellI num den n m < n := by
  have h1 := h.pos
  have h2 : (lowsT num den n).countP (fun l => decide (l ≤ m)) ≤ n := by
    have := List.countP_le_length (p := fun l => decide (l ≤ m)) (l := lowsT num den n)
    simpa [lowsT] using this
  unfold cellI
  omega
theorem BinD.ix_ok {D : BinD} (h : D.ok) (m : Nat) : 0 ≤ D.part m ∧ D.part m < D.n ∧ -1000000 ≤ D.part m ∧ D.part m ≤ 1000000 := by
  have h1 := cellI_lt h.tab m
  have h2 := h.tab.n1
  unfold BinD.part
  omega
theorem BinD.add_ok {D : BinD} (h : D.ok) (x : Int) {c : Nat} (hc : D.total + c ≤ 9223372036854775807) : (D.add x c).ok ∧ (D.add x c).total = D.total + c := by
  have ht := h.tot
  unfold BinD.total at hc
  obtain ⟨i1, i2, i3, i4⟩ := BinD.ix_ok h x.natAbs
  unfold BinD.add
  split
  · refine ⟨⟨h.tab, h.mh, h.ph, h.mm, h.pm, h.minus, h.plus, h.ix1, h.ix2, ?_⟩, ?_⟩
    · simp only; omega
    · unfold BinD.total; simp only; omega
  · split
    · have e := CapD.put_tot h.minus (D.part x.natAbs) c
      have hh := CapD.put_hi D.minus (D.part x.natAbs) c
      have ht2 : D.minus.total + c ≤ 9223372036854775807 := by omega
      refine ⟨⟨h.tab, hh.1.trans h.mh, h.ph, hh.2.trans h.mm, h.pm, CapD.put_ok h.minus ⟨i3, i4⟩ ht2, h.plus, fun p hp => ?_, h.ix2, ?_⟩, ?_⟩
      · rcases CapD.put_mem hp with ⟨q, hq, eq⟩ | eq
        · rw [← eq]; exact h.ix1 q hq
        · rw [eq]; exact ⟨i1, i2⟩
      · unfold CapD.total at *; simp only; omega
      · unfold BinD.total CapD.total at *; simp only; omega
    · have e := CapD.put_tot h.plus (D.part x.natAbs) c
      have hh := CapD.put_hi D.plus (D.part x.natAbs) c
      have ht2 : D.plus.total + c ≤ 9223372036854775807 := by omega
      refine ⟨⟨h.tab, h.mh, hh.1.trans h.ph, h.mm, hh.2.trans h.pm, h.minus, CapD.put_ok h.plus ⟨i3, i4⟩ ht2, h.ix1, fun p hp => ?_, ?_⟩, ?_⟩
      · rcases CapD.put_mem hp with ⟨q, hq, eq⟩ | eq
        · rw [← eq]; exact h.ix2 q hq
        · rw [eq]; exact ⟨i1, i2⟩
      · unfold CapD.total at *; simp only; omega
      · unfold BinD.total CapD.total at *; simp only; omega
theorem BinD.merge_ok {D O : BinD} (h : D.ok) (k : O.ok) (hp : O.num = D.num ∧ O.den = D.den) (ht : D.total + O.total ≤ 9223372036854775807) : (D.merge O).ok ∧ (D.merge O).total = D.total + O.total := by
  have e : O.n = D.n := by
    have a := k.tab
    rw [hp.1, hp.2] at a
    rcases Nat.lt_trichotomy O.n D.n with h1 | h1 | h1
    · have a1 := h.tab.below _ h1; have a2 := a.above; omega
    · exact h1
    · have a1 := a.below _ h1; have a2 := h.tab.above; omega
  have h2 := h.tot
  have k2 := k.tot
  unfold BinD.total at ht
  obtain ⟨m1, m2⟩ := CapD.merge_ok h.minus k.minus (by omega)
  obtain ⟨p1, p2⟩ := CapD.merge_ok h.plus k.plus (by omega)
  have mh := CapD.merge_hi D.minus O.minus
  have ph := CapD.merge_hi D.plus O.plus
  unfold BinD.merge
  refine ⟨⟨h.tab, mh.1.trans h.mh, ph.1.trans h.ph, mh.2.trans h.mm, ph.2.trans h.pm, m1, p1, ?_, ?_, ?_⟩, ?_⟩
  · exact CapD.putAll_ix (a := 0) (b := (D.n : Int)) O.minus.r D.minus h.ix1 (fun p hp => by have := k.ix1 p hp; rw [e] at this; exact this)
  · exact CapD.putAll_ix (a := 0) (b := (D.n : Int)) O.plus.r D.plus h.ix2 (fun p hp => by have := k.ix2 p hp; rw [e] at this; exact this)
  · simp only; omega
  · unfold BinD.total; simp only; omega

/-- The sketch of layer 14, plainly. -/
structure LogD where
  bins : BinD
  least : Int
  most : Int
def LogD.ends (D : LogD) (lo hi : Int) : LogD := if D.bins.total = 0 then { D with least := lo, most := hi } else { D with least := min D.least lo, most := max D.most hi }
/-- What can be. -/
structure LogD.ok (D : LogD) : Prop where
  bins : D.bins.ok
  none : D.bins.total = 0 → D.least = 0 ∧ D.most = 0
  le : D.least ≤ D.most
  low : -9223372036854775808 ≤ D.least
  high : D.most < 9223372036854775808
def LogD.putE (D : LogD) (c : Nat) : Nat := if c = 0 then 1 else if D.bins.total + c ≤ 9223372036854775807 then 0 else 6
def LogD.put (D : LogD) (x : Int) (c : Nat) : LogD := if D.putE c = 0 then { D.ends x x with bins := D.bins.add x c } else D
def LogD.like (D O : LogD) : Bool := decide (D.bins.num = O.bins.num ∧ D.bins.den = O.bins.den ∧ D.bins.hi = O.bins.hi ∧ D.bins.m = O.bins.m)
def LogD.joinE (D O : LogD) : Nat := if D.like O = false then 8 else if O.bins.total = 0 then 0 else if D.bins.total + O.bins.total ≤ 9223372036854775807 then 0 else 6
def LogD.join (D O : LogD) : LogD := if D.joinE O = 0 ∧ O.bins.total ≠ 0 then { D.ends O.least O.most with bins := D.bins.merge O.bins } else D
theorem LogD.put_ok {D : LogD} (h : D.ok) {x : Int} (hx : -9223372036854775808 ≤ x ∧ x < 9223372036854775808) (c : Nat) : (D.put x c).ok := by
  unfold LogD.put LogD.putE
  by_cases h0 : c = 0
  · simp only [if_pos h0]; exact h
  rw [if_neg h0]
  by_cases h1 : D.bins.total + c ≤ 9223372036854775807
  · rw [if_pos h1, if_pos rfl]
    obtain ⟨b1, b2⟩ := BinD.add_ok h.bins x h1
    have h2 := h.le
    have h3 := h.low
    have h4 := h.high
    unfold LogD.ends
    split
    · exact ⟨b1, fun e => by simp only at e; omega, Int.le_refl _, hx.1, hx.2⟩
    · exact ⟨b1, fun e => by simp only at e; omega, by simp only; omega, by simp only; omega, by simp only; omega⟩
  · rw [if_neg h1]
    simp only [show ¬ ((6 : Nat) = 0) from by decide, if_false]
    exact h
theorem LogD.join_ok {D O : LogD} (h : D.ok) (k : O.ok) : (D.join O).ok := by
  unfold LogD.join
  split
  · rename_i hc
    unfold LogD.joinE at hc
    have hl : D.like O = true := by
      cases hx : D.like O with
      | true => rfl
      | false => rw [if_pos hx] at hc; exact absurd hc.1 (by decide)
    rw [if_neg (by simp [hl]), if_neg hc.2] at hc
    have ht : D.bins.total + O.bins.total ≤ 9223372036854775807 := by
      by_cases h1 : D.bins.total + O.bins.total ≤ 9223372036854775807
      · exact h1
      · rw [if_neg h1] at hc; exact absurd hc.1 (by decide)
    have hl2 := of_decide_eq_true hl
    obtain ⟨b1, b2⟩ := BinD.merge_ok h.bins k.bins ⟨hl2.1.symm, hl2.2.1.symm⟩ ht
    have h2 := h.le
    have h3 := h.low
    have h4 := h.high
    have k2 := k.le
    have k3 := k.low
    have k4 := k.high
    unfold LogD.ends
    split
    · exact ⟨b1, fun e => by simp only at e; omega, k2, k3, k4⟩
    · exact ⟨b1, fun e => by simp only at e; omega, by simp only; omega, by simp only; omega, by simp only; omega⟩
  · exact h
end Go.Proofs.YtmehcfocfljoeaaGreatDoor
