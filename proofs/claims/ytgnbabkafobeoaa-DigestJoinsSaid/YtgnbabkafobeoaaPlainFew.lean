/-
  A digest that was squeezed has few nodes, and none of them much, plainly. Conditions: none.
-/
import Derived.Test.YtgnbabkafobeoaaPlainDg
namespace Go.Proofs.Ytgnbabkafobeoaa

def sumOf (l : List Int) (g : Int → Nat) : Nat := (l.map g).sum
theorem sumOf_add (l : List Int) (g h : Int → Nat) : sumOf l (fun v => g v + h v) = sumOf l g + sumOf l h := by
  induction l with
  | nil => rfl
  | cons v l ih => simp only [sumOf, List.map_cons, List.sum_cons] at ih ⊢; omega
theorem sumOf_le (l : List Int) (g h : Int → Nat) (hh : ∀ v ∈ l, g v ≤ h v) : sumOf l g ≤ sumOf l h := by
  induction l with
  | nil => exact Nat.le_refl _
  | cons v l ih =>
    have h1 := hh v (by simp)
    have h2 := ih (fun u hu => hh u (by simp [hu]))
    simp only [sumOf, List.map_cons, List.sum_cons] at h2 ⊢
    omega
theorem sumOf_const (l : List Int) (c : Nat) : sumOf l (fun _ => c) = l.length * c := by
  induction l with
  | nil => simp [sumOf]
  | cons v l ih => simp only [sumOf, List.map_cons, List.sum_cons, List.length_cons] at ih ⊢; rw [ih, Nat.add_mul]; omega
/-- Of distinct numbers those that go to one place are few: so are the counts. -/
theorem cnt_sum (g : Int → Int) (m : Nat) : ∀ (R : List Pr) (l : List Int), (∀ p ∈ R, l.countP (fun v => decide (p.i = g v)) ≤ m) → sumOf l (fun v => cntI R (g v)) ≤ m * totP R
  | [], l, _ => by
    have : sumOf l (fun v => cntI [] (g v)) ≤ sumOf l (fun _ => 0) := sumOf_le _ _ _ (fun v _ => Nat.le_refl _)
    rw [sumOf_const] at this
    omega
  | p :: R, l, h => by
    have ih := cnt_sum g m R l (fun q hq => h q (by simp [hq]))
    have h1 := h p (by simp)
    have e : sumOf l (fun v => cntI (p :: R) (g v)) = sumOf l (fun v => if p.i = g v then p.c else 0) + sumOf l (fun v => cntI R (g v)) := by
      rw [← sumOf_add]
      simp only [cntI, List.map_cons, List.sum_cons]
    have e2 : sumOf l (fun v => if p.i = g v then p.c else 0) = l.countP (fun v => decide (p.i = g v)) * p.c := by
      clear h ih h1 e
      induction l with
      | nil => simp [sumOf]
      | cons v l ih =>
        simp only [sumOf, List.map_cons, List.sum_cons, List.countP_cons] at ih ⊢
        rw [ih, Nat.add_mul]
        by_cases hx : p.i = g v
        · simp [hx]; omega
        · simp [hx]
    rw [e, e2, totP_cons, Nat.mul_add]
    have := Nat.mul_le_mul_right p.c h1
    omega
theorem count_one {l : List Int} (h : l.Nodup) (i : Int) (q : Int → Bool) (hq : ∀ v, q v = true → v = i) : l.countP q ≤ 1 := by
  induction l with
  | nil => simp
  | cons v l ih =>
    rw [List.nodup_cons] at h
    have := ih h.2
    rw [List.countP_cons]
    by_cases hv : q v = true
    · have hvi := hq v hv
      have : l.countP q = 0 := List.countP_eq_zero.2 (fun u hu e => h.1 (by rw [hvi, ← hq u e]; exact hu))
      simp [hv, this]
    · simp [hv]; omega
theorem count_two {l : List Int} (h : l.Nodup) (i j : Int) (q : Int → Bool) (hq : ∀ v, q v = true → v = i ∨ v = j) : l.countP q ≤ 2 := by
  have h1 := count_one h i (fun v => decide (v = i)) (fun v e => by simpa using e)
  have h2 := count_one h j (fun v => decide (v = j)) (fun v e => by simpa using e)
  have : l.countP q ≤ l.countP (fun v => decide (v = i)) + l.countP (fun v => decide (v = j)) := by
    clear h h1 h2
    induction l with
    | nil => simp
    | cons v l ih =>
      rw [List.countP_cons, List.countP_cons, List.countP_cons]
      by_cases hv : q v = true
      · rcases hq v hv with rfl | rfl <;> simp [hv] <;> omega
      · simp only [hv]
        simp only [Bool.false_eq_true, if_false]
        omega
  omega
theorem bes_bes (v : Int) : bes (bes v) = v := by unfold bes; split <;> split <;> omega
theorem rises_nodup {r : List Pr} (h : rises r) : (r.map Pr.i).Nodup := by
  induction r with
  | nil => simp
  | cons p r ih =>
    rw [List.map_cons, List.nodup_cons]
    refine ⟨fun hm => ?_, ih (rises_tail h)⟩
    rw [List.mem_map] at hm
    obtain ⟨q, hq, e⟩ := hm
    have := rises_head h q hq
    omega
theorem up_total {R : List Pr} (h : rises R) : sumOf (R.map Pr.i) (upSum R) ≤ 4 * totP R := by
  have hn := rises_nodup h
  have e : sumOf (R.map Pr.i) (upSum R) = sumOf (R.map Pr.i) (fun v => cntI R v) + sumOf (R.map Pr.i) (fun v => cntI R (bes v)) + sumOf (R.map Pr.i) (fun v => cntI R (v / 2)) := by
    rw [← sumOf_add, ← sumOf_add]
    rfl
  have h1 := cnt_sum (fun v => v) 1 R (R.map Pr.i) (fun p _ => count_one hn p.i _ (fun v e => by simp at e; exact e.symm))
  have h2 := cnt_sum bes 1 R (R.map Pr.i) (fun p _ => count_one hn (bes p.i) _ (fun v e => by simp at e; rw [e, bes_bes]))
  have h3 := cnt_sum (fun v => v / 2) 2 R (R.map Pr.i) (fun p _ => count_two hn (2 * p.i) (2 * p.i + 1) _ (fun v e => by simp at e; omega))
  rw [e]
  omega
theorem cntI_of_mem {r : List Pr} (h : rises r) {p : Pr} (hp : p ∈ r) : cntI r p.i = p.c := by
  induction r with
  | nil => simp at hp
  | cons q r ih =>
    have h1 := rises_head h
    rcases List.mem_cons.1 hp with rfl | hp
    · have h2 : cntI r p.i = 0 := cntI_none (fun q hq => by have := h1 q hq; omega)
      simp only [cntI, List.map_cons, List.sum_cons] at h2 ⊢
      simp [h2]
    · have h2 := ih (rises_tail h) hp
      have h3 := h1 p hp
      simp only [cntI, List.map_cons, List.sum_cons] at h2 ⊢
      rw [if_neg (by omega), h2]
      omega
/-- Nothing moves: then there are few. -/
theorem few_of_stays {f : Nat} (hf : 1 ≤ f) {R : List Pr} {top : Int} (h : Nodes R top) (hs : ∀ v ∈ R.map Pr.i, stays f R v = true) : R.length ≤ 4 * f := by
  have hn := rises_nodup h.up
  have ht := up_total h.up
  have hl : sumOf (R.map Pr.i) (fun _ => totP R / f + 1) ≤ sumOf (R.map Pr.i) (upSum R) + (totP R / f + 1) := by
    have key : ∀ l : List Int, l.Nodup → (∀ v ∈ l, stays f R v = true ∧ cntI R v ≠ 0) → sumOf l (fun _ => totP R / f + 1) ≤ sumOf l (upSum R) + (if (1 : Int) ∈ l then totP R / f + 1 else 0) := fun l => by
      induction l with
      | nil => intro _ _; simp [sumOf]
      | cons v l ih =>
        intro hd hv
        rw [List.nodup_cons] at hd
        have ih := ih hd.2 (fun u hu => hv u (by simp [hu]))
        obtain ⟨s1, s2⟩ := hv v (by simp)
        have e1 : sumOf (v :: l) (fun _ => totP R / f + 1) = (totP R / f + 1) + sumOf l (fun _ => totP R / f + 1) := by simp [sumOf]
        have e2 : sumOf (v :: l) (upSum R) = upSum R v + sumOf l (upSum R) := by simp [sumOf]
        rw [e1, e2]
        by_cases h1 : v = 1
        · subst h1
          rw [if_neg hd.1] at ih
          rw [if_pos (by simp)]
          omega
        · simp only [stays, Bool.or_eq_true, decide_eq_true_eq] at s1
          have h3 : totP R / f < upSum R v := by
            rcases s1 with (h | h) | h
            · exact absurd h h1
            · exact absurd h s2
            · exact h
          have e3 : ((1 : Int) ∈ v :: l) ↔ (1 : Int) ∈ l := by
            rw [List.mem_cons]
            exact ⟨fun h => h.resolve_left (fun e => h1 e.symm), .inr⟩
          by_cases h4 : (1 : Int) ∈ l
          · rw [if_pos h4] at ih
            rw [if_pos (e3.2 h4)]
            omega
          · rw [if_neg h4] at ih
            rw [if_neg (fun h => h4 (e3.1 h))]
            omega
    have h5 := key (R.map Pr.i) hn (fun v hv => ⟨hs v hv, by
      rw [List.mem_map] at hv
      obtain ⟨p, hp, rfl⟩ := hv
      have h6 := h.pos p hp
      have h7 := cntI_of_mem h.up hp
      omega⟩)
    refine Nat.le_trans h5 (Nat.add_le_add_left ?_ _)
    split
    · exact Nat.le_refl _
    · exact Nat.zero_le _
  rw [sumOf_const, List.length_map] at hl
  have h8 : totP R < (totP R / f + 1) * f := by
    have := Nat.lt_div_mul_add (a := totP R) (b := f) (by omega)
    rw [Nat.add_mul]
    omega
  generalize totP R / f + 1 = L at *
  have hL : 1 ≤ L := by
    rcases Nat.eq_zero_or_pos L with rfl | h
    · simp at h8
    · exact h
  by_cases hc : R.length ≤ 4 * f
  · exact hc
  · exfalso
    have h9 : (4 * f + 1) * L ≤ R.length * L := Nat.mul_le_mul_right L (by omega)
    rw [Nat.add_mul, Nat.one_mul] at h9
    have h10 : 4 * f * L = 4 * (L * f) := by rw [Nat.mul_assoc, Nat.mul_comm f L]
    omega
theorem passV_true (f : Nat) : ∀ (vs : List Int) (r : List Pr), (passV f vs true r).1 = true
  | [], _ => rfl
  | v :: vs, r => by rw [passV, Bool.true_or]; exact passV_true f vs _
theorem passV_stays (f : Nat) : ∀ (vs : List Int) (r : List Pr), (passV f vs false r).1 = false → (passV f vs false r).2 = r ∧ ∀ v ∈ vs, stays f r v = true
  | [], r, _ => ⟨rfl, by simp⟩
  | v :: vs, r, h => by
    rw [passV] at h ⊢
    cases hs : stays f r v with
    | false =>
      have e : liftV f r v = (true, refAdd (rest r v) (v / 2) (upSum r v)) := by unfold liftV; rw [hs]; rfl
      rw [e, Bool.false_or, passV_true] at h
      exact absurd h (by decide)
    | true =>
      have e : liftV f r v = (false, r) := if_pos hs
      rw [e] at h ⊢
      obtain ⟨h1, h2⟩ := passV_stays f vs r h
      refine ⟨h1, fun u hu => ?_⟩
      rcases List.mem_cons.1 hu with rfl | hu
      · exact hs
      · exact h2 u hu
/-- What none of the inner nodes has more than. -/
def low (r : List Pr) (top : Int) (L : Nat) : Prop := ∀ p ∈ r, 2 * p.i < top → p.c ≤ L
theorem refAdd_low {r : List Pr} {top i : Int} {c L : Nat} (h : low r top L) (hi : 2 * i < top → cntI r i + c ≤ L) : low (refAdd r i c) top L := by
  intro p hp ht
  rw [refAdd] at hp
  rcases List.mem_append.1 hp with hp | hp
  · rcases List.mem_append.1 hp with hp | hp
    · exact h p (List.mem_filter.1 hp).1 ht
    · split at hp
      · simp at hp
        subst hp
        exact hi ht
      · simp at hp
  · exact h p (List.mem_filter.1 hp).1 ht
theorem cntI_rest (r : List Pr) (v : Int) : cntI (rest r v) (v / 2) = 0 := cntI_none (fun p hp => by
  have := (List.mem_filter.1 hp).2
  simp at this
  exact this.2)
theorem lift_low {f : Nat} {r : List Pr} {top v : Int} (h : low r top (totP r / f)) : low (liftV f r v).2 top (totP r / f) := by
  unfold liftV
  split
  · exact h
  · next hs =>
    have hs' : stays f r v = false := by simpa using hs
    simp only [stays, Bool.or_eq_false_iff, decide_eq_false_iff_not] at hs'
    refine refAdd_low (fun p hp => h p (List.mem_filter.1 hp).1) (fun _ => ?_)
    rw [cntI_rest]
    omega
theorem passV_low {f : Nat} {top : Int} : ∀ (vs : List Int) (m : Bool) {r : List Pr}, Nodes r top → (∀ v ∈ vs, 1 ≤ v ∧ v < top) → low r top (totP r / f) → low (passV f vs m r).2 top (totP r / f)
  | [], _, _, _, _, h => h
  | v :: vs, m, r, hn, hv, h => by
    obtain ⟨g1, g2⟩ := hv v (by simp)
    obtain ⟨a1, a2, -⟩ := lift_ok (f := f) hn g1 g2
    have h2 := lift_low (v := v) h
    rw [← a2] at h2
    have h3 := passV_low (f := f) vs (m || (liftV f r v).1) a1 (fun u hu => hv u (by simp [hu])) h2
    rw [a2] at h3
    rw [passV]
    exact h3
theorem pass_low {f : Nat} {top : Int} {r : List Pr} (hn : Nodes r top) (h : low r top (totP r / f)) : low (pass f r).2 top (totP r / f) :=
  passV_low _ _ hn (fun v hv => by
    rw [List.mem_reverse, List.mem_map] at hv
    obtain ⟨p, hp, rfl⟩ := hv
    exact hn.ix p hp) h
theorem SqR.low {f : Nat} (hf : 1 ≤ f) {top : Int} {r R : List Pr} (h : SqR f r R) : Nodes r top → low r top (totP r / f) → low R top (totP r / f) ∧ R.length ≤ 4 * f := by
  induction h with
  | @stop r R e =>
    intro hr hl
    have h1 := pass_low (f := f) hr hl
    rw [e] at h1
    refine ⟨h1, ?_⟩
    have h2 := passV_stays f (r.map Pr.i).reverse r (by rw [show passV f (r.map Pr.i).reverse false r = pass f r from rfl, e])
    rw [show passV f (r.map Pr.i).reverse false r = pass f r from rfl, e] at h2
    obtain ⟨rfl, h3⟩ := h2
    exact few_of_stays hf hr (fun v hv => h3 v (by simpa using hv))
  | @go r r' R e _ ih =>
    intro hr hl
    obtain ⟨b1, b2, -, -⟩ := pass_ok (f := f) hr
    have h1 := pass_low (f := f) hr hl
    rw [e] at b1 b2 h1
    rw [← b2] at h1 ⊢
    exact ih b1 h1
theorem tidyR_few {f : Nat} (hf : 1 ≤ f) {top : Int} {r : List Pr} (h : Nodes r top) (hl : low r top (totP r / f)) : low (tidyR f r) top (totP (tidyR f r) / f) ∧ (tidyR f r).length ≤ 4 * f := by
  rw [(tidyR_ok (f := f) h).2.1]
  unfold tidyR
  split
  · exact (squeezeR_is h).low hf h hl
  · exact ⟨hl, by omega⟩
theorem low_mono {r : List Pr} {top : Int} {L L' : Nat} (h : low r top L) (hL : L ≤ L') : low r top L' := fun p hp ht => Nat.le_trans (h p hp ht) hL
theorem add_leaf_low {f : Nat} {r : List Pr} {top i : Int} (h : low r top (totP r / f)) (hr : rises r) (c : Nat) (hi : top ≤ 2 * i) : low (refAdd r i c) top (totP (refAdd r i c) / f) := by
  refine refAdd_low (low_mono h (Nat.div_le_div_right ?_)) (fun ht => by omega)
  rw [refAdd_tot hr]
  omega
end Go.Proofs.Ytgnbabkafobeoaa
