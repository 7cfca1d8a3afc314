/-
  A digest, plainly: how counts go up, and how it is squeezed. Conditions: none.
-/
import Derived.Test.YtlcoibhbdgdfcaaGreatDoorCoreLumpsB41
namespace Go.Proofs.YtlcoibhbdgdfcaaGreatDoor

/-- The node beside one. -/
def bes (v : Int) : Int := if v % 2 = 1 then v - 1 else v + 1
/-- The sum that would go up from a node. -/
def upSum (r : List Pr) (v : Int) : Nat := cntI r v + cntI r (bes v) + cntI r (v / 2)
def stays (f : Nat) (r : List Pr) (v : Int) : Bool := decide (v = 1) || decide (cntI r v = 0) || decide (totP r / f < upSum r v)
def rest (r : List Pr) (v : Int) : List Pr := r.filter fun p => decide (p.i ≠ v) && decide (p.i ≠ bes v) && decide (p.i ≠ v / 2)
/-- Counts go up from a node; do they? -/
def liftV (f : Nat) (r : List Pr) (v : Int) : Bool × List Pr := if stays f r v then (false, r) else (true, refAdd (rest r v) (v / 2) (upSum r v))
/-- What the program makes: all but the two, and the sum of these added above. -/
def rest2 (r : List Pr) (v : Int) : List Pr := r.filter fun p => decide (p.i ≠ v) && decide (p.i ≠ bes v)
def passV (f : Nat) : List Int → Bool → List Pr → Bool × List Pr
  | [], m, r => (m, r)
  | v :: vs, m, r => passV f vs (m || (liftV f r v).1) (liftV f r v).2
def pass (f : Nat) (r : List Pr) : Bool × List Pr := passV f (r.map Pr.i).reverse false r
inductive SqR (f : Nat) : List Pr → List Pr → Prop
  | stop {r R : List Pr} : pass f r = (false, R) → SqR f r R
  | go {r r' R : List Pr} : pass f r = (true, r') → SqR f r' R → SqR f r R
/-- How deep the nodes lie, together. -/
def phi (r : List Pr) : Nat := (r.map fun p => p.i.toNat).sum
/-- A row of nodes: indexes that rise, from 1 on, below a bound; no nothings. -/
structure Nodes (r : List Pr) (top : Int) : Prop where
  up : rises r
  pos : ∀ p ∈ r, 1 ≤ p.c
  ix : ∀ p ∈ r, 1 ≤ p.i ∧ p.i < top
theorem bes_ne (v : Int) : bes v ≠ v := by unfold bes; split <;> omega
theorem bes_half {v : Int} (h : 2 ≤ v) : bes v ≠ v / 2 := by unfold bes; split <;> omega
theorem bes_in {v top : Int} (h : 2 ≤ v) (h2 : v < top) (ht : top % 2 = 0) : 2 ≤ bes v ∧ bes v < top := by unfold bes; split <;> omega
theorem rises_filter {l : List Pr} (h : rises l) (q : Pr → Bool) : rises (l.filter q) := by
  induction l with
  | nil => intro j k _ hk; simp at hk
  | cons p l ih =>
    have h1 := ih (rises_tail h)
    have h2 := rises_head h
    rw [List.filter_cons]
    split
    · exact rises_cons h1 (fun x hx => h2 x (List.mem_filter.1 hx).1)
    · exact h1
theorem cntI_filter_ne (l : List Pr) (q : Pr → Bool) (i : Int) (h : ∀ p, p.i = i → q p = true) : cntI (l.filter q) i = cntI l i := by
  induction l with
  | nil => rfl
  | cons p l ih =>
    rw [List.filter_cons]
    by_cases hp : p.i = i
    · rw [if_pos (h p hp)]
      simp only [cntI, List.map_cons, List.sum_cons] at ih ⊢
      omega
    · split
      · simp only [cntI, List.map_cons, List.sum_cons] at ih ⊢
        omega
      · rw [ih]
        simp [cntI, hp]
/-- Both ways of lifting are one. -/
theorem lift_same (r : List Pr) {v : Int} (h : 2 ≤ v) : refAdd (rest2 r v) (v / 2) (cntI r v + cntI r (bes v)) = refAdd (rest r v) (v / 2) (upSum r v) := by
  have hb := bes_half h
  have hv : v / 2 ≠ v := by omega
  have e1 : cntI (rest2 r v) (v / 2) = cntI r (v / 2) := cntI_filter_ne r _ _ (fun p hp => by rw [hp]; simp; exact ⟨hv, fun e => hb e.symm⟩)
  have e2 : cntI (rest r v) (v / 2) = 0 := cntI_none (fun p hp => by
    have := (List.mem_filter.1 hp).2
    simp at this
    exact this.2)
  have e3 : ∀ q : Pr → Bool, (∀ p, p.i = v / 2 → q p = false) → (rest2 r v).filter q = (rest r v).filter q := fun q hq => by
    rw [rest2, rest, List.filter_filter, List.filter_filter]
    refine List.filter_congr (fun p _ => ?_)
    by_cases hp : p.i = v / 2
    · rw [hq p hp]; rfl
    · simp [hp]
  rw [refAdd, refAdd, e1, e2, e3 _ (fun p hp => by rw [hp]; simp), e3 _ (fun p hp => by rw [hp]; simp), upSum]
  have e4 : cntI r (v / 2) + (cntI r v + cntI r (bes v)) = 0 + (cntI r v + cntI r (bes v) + cntI r (v / 2)) := by omega
  rw [e4]
theorem totP_filter (l : List Pr) (q : Pr → Bool) : totP l = totP (l.filter q) + totP (l.filter fun p => !q p) := by
  induction l with
  | nil => rfl
  | cons p l ih =>
    rw [List.filter_cons, List.filter_cons]
    cases h : q p with
    | true => simp only [if_true, Bool.not_true, Bool.false_eq_true, if_false, totP_cons]; omega
    | false => simp only [Bool.false_eq_true, if_false, Bool.not_false, if_true, totP_cons]; omega
theorem totP_one (l : List Pr) (i : Int) : totP (l.filter fun p => decide (p.i = i)) = cntI l i := by
  induction l with
  | nil => rfl
  | cons p l ih =>
    rw [List.filter_cons]
    by_cases h : p.i = i
    · simp only [h, decide_true, if_true, totP_cons, ih, cntI, List.map_cons, List.sum_cons]
    · simp only [h, decide_false, Bool.false_eq_true, if_false, ih, cntI, List.map_cons, List.sum_cons]
      omega
theorem rest_tot (r : List Pr) {v : Int} (h : 2 ≤ v) : totP r = totP (rest r v) + upSum r v := by
  have hb := bes_half h
  have hn := bes_ne v
  have hv : v / 2 ≠ v := by omega
  have t1 := totP_filter r (fun p => decide (p.i = v))
  rw [totP_one] at t1
  have t2 := totP_filter (r.filter fun p => !decide (p.i = v)) (fun p => decide (p.i = bes v))
  rw [totP_one, cntI_filter_ne r _ _ (fun p hp => by rw [hp]; simp [hn]), List.filter_filter] at t2
  have t3 := totP_filter (r.filter fun p => !decide (p.i = bes v) && !decide (p.i = v)) (fun p => decide (p.i = v / 2))
  rw [totP_one, cntI_filter_ne r _ _ (fun p hp => by rw [hp]; simp; exact ⟨fun e => hb e.symm, hv⟩), List.filter_filter] at t3
  have e : r.filter (fun p => !decide (p.i = v / 2) && (!decide (p.i = bes v) && !decide (p.i = v))) = rest r v := by
    rw [rest]
    refine List.filter_congr (fun p _ => ?_)
    by_cases h1 : p.i = v <;> by_cases h2 : p.i = bes v <;> by_cases h3 : p.i = v / 2 <;> simp [h1, h2, h3]
  rw [e] at t3
  unfold upSum
  omega
theorem rest2_tot (r : List Pr) (v : Int) : totP r = totP (rest2 r v) + cntI r v + cntI r (bes v) := by
  have hn := bes_ne v
  have t1 := totP_filter r (fun p => decide (p.i = v))
  rw [totP_one] at t1
  have t2 := totP_filter (r.filter fun p => !decide (p.i = v)) (fun p => decide (p.i = bes v))
  rw [totP_one, cntI_filter_ne r _ _ (fun p hp => by rw [hp]; simp [hn]), List.filter_filter] at t2
  have e : r.filter (fun p => !decide (p.i = bes v) && !decide (p.i = v)) = rest2 r v := by
    rw [rest2]
    refine List.filter_congr (fun p _ => ?_)
    by_cases h1 : p.i = v <;> by_cases h2 : p.i = bes v <;> simp [h1, h2]
  rw [e] at t2
  omega
theorem sumW_drop (W : Pr → Nat) (q : Pr → Bool) : ∀ {l : List Pr} {p : Pr}, p ∈ l → q p = false → ((l.filter q).map W).sum + W p ≤ (l.map W).sum
  | x :: l, p, hp, hq => by
    have hle : ∀ l : List Pr, ((l.filter q).map W).sum ≤ (l.map W).sum := fun l => by
      induction l with
      | nil => exact Nat.le_refl _
      | cons y l ih =>
        rw [List.filter_cons]
        split
        · simp only [List.map_cons, List.sum_cons]; omega
        · simp only [List.map_cons, List.sum_cons]; omega
    rw [List.filter_cons]
    rcases List.mem_cons.1 hp with rfl | hp
    · rw [hq, if_neg (by simp)]
      have := hle l
      simp only [List.map_cons, List.sum_cons]
      omega
    · have := sumW_drop W q hp hq
      split
      · simp only [List.map_cons, List.sum_cons]; omega
      · simp only [List.map_cons, List.sum_cons]; omega
theorem phi_app (a b : List Pr) : phi (a ++ b) = phi a + phi b := by simp [phi]
theorem cntI_mem {l : List Pr} {i : Int} (h : cntI l i ≠ 0) : ∃ p ∈ l, p.i = i := by
  by_cases hx : ∃ p ∈ l, p.i = i
  · exact hx
  · exact absurd (cntI_none (fun p hp e => hx ⟨p, hp, e⟩)) h
theorem refAdd_phi {l : List Pr} {i : Int} (hr : rises l) (c : Nat) : phi (refAdd l i c) ≤ phi l + i.toNat := by
  obtain ⟨A, M, B, h⟩ := parted hr i
  rw [refAdd, h.filter_lt, h.filter_gt, phi_app, phi_app]
  have e := congrArg phi h.eq
  rw [phi_app, phi_app] at e
  have h1 : phi (if 0 < cntI l i + c then [⟨i, cntI l i + c⟩] else []) ≤ i.toNat := by
    split
    · simp [phi]
    · exact Nat.zero_le _
  omega
theorem refAdd_mem {l : List Pr} {i : Int} {c : Nat} : ∀ p ∈ refAdd l i c, p ∈ l ∨ p.i = i := by
  intro p hp
  rw [refAdd] at hp
  rcases List.mem_append.1 hp with hp | hp
  · rcases List.mem_append.1 hp with hp | hp
    · exact .inl (List.mem_filter.1 hp).1
    · split at hp
      · simp at hp; subst hp; exact .inr rfl
      · simp at hp
  · exact .inl (List.mem_filter.1 hp).1
theorem Nodes.add {r : List Pr} {top i : Int} (h : Nodes r top) (h1 : 1 ≤ i) (h2 : i < top) (c : Nat) : Nodes (refAdd r i c) top :=
  ⟨refAdd_rises h.up c, refAdd_pos h.pos c, fun p hp => by
    rcases refAdd_mem p hp with hp | hp
    · exact h.ix p hp
    · omega⟩
theorem Nodes.filter {r : List Pr} {top : Int} (h : Nodes r top) (q : Pr → Bool) : Nodes (r.filter q) top :=
  ⟨rises_filter h.up q, fun p hp => h.pos p (List.mem_filter.1 hp).1, fun p hp => h.ix p (List.mem_filter.1 hp).1⟩
/-- What stays so, of a lift. -/
theorem lift_ok {f : Nat} {r : List Pr} {top v : Int} (h : Nodes r top) (hv : 1 ≤ v) (hv2 : v < top) : Nodes (liftV f r v).2 top ∧ totP (liftV f r v).2 = totP r ∧ ((liftV f r v).1 = true → phi (liftV f r v).2 < phi r) ∧ (liftV f r v).2.length ≤ r.length ∧ ((liftV f r v).1 = false → (liftV f r v).2 = r) := by
  unfold liftV
  split
  · exact ⟨h, rfl, fun e => absurd e (by simp), Nat.le_refl _, fun _ => rfl⟩
  · next hs =>
    have hs' : stays f r v = false := by simpa using hs
    simp only [stays, Bool.or_eq_false_iff, decide_eq_false_iff_not] at hs'
    obtain ⟨⟨h1, h2⟩, -⟩ := hs'
    have h2v : 2 ≤ v := by omega
    have hN : Nodes (rest r v) top := h.filter _
    obtain ⟨p, hp, hpi⟩ := cntI_mem h2
    have hq : (decide (p.i ≠ v) && decide (p.i ≠ bes v) && decide (p.i ≠ v / 2)) = false := by simp [hpi]
    have w1 := sumW_drop (fun p => p.i.toNat) (fun p => decide (p.i ≠ v) && decide (p.i ≠ bes v) && decide (p.i ≠ v / 2)) hp hq
    have w2 := sumW_drop (fun _ => 1) (fun p => decide (p.i ≠ v) && decide (p.i ≠ bes v) && decide (p.i ≠ v / 2)) hp hq
    rw [List.map_const', List.map_const', List.sum_replicate_nat, List.sum_replicate_nat] at w2
    have w3 := refAdd_phi (i := v / 2) hN.up (upSum r v)
    have w4 := refAdd_len (i := v / 2) hN.up (upSum r v)
    have e1 : rest r v = r.filter fun p => decide (p.i ≠ v) && decide (p.i ≠ bes v) && decide (p.i ≠ v / 2) := rfl
    rw [← e1] at w1 w2
    have e2 : phi (rest r v) = ((rest r v).map fun p => p.i.toNat).sum := rfl
    have e3 : phi r = (r.map fun p => p.i.toNat).sum := rfl
    refine ⟨hN.add (by omega) (by omega) _, ?_, fun _ => ?_, ?_, fun e => absurd e (by simp)⟩
    · rw [refAdd_tot hN.up, rest_tot r h2v]
    · rw [← e2, ← e3, hpi] at w1
      show phi (refAdd (rest r v) (v / 2) (upSum r v)) < phi r
      omega
    · show (refAdd (rest r v) (v / 2) (upSum r v)).length ≤ r.length
      omega
theorem passV_ok {f : Nat} {top : Int} : ∀ (vs : List Int) (m : Bool) {r : List Pr}, Nodes r top → (∀ v ∈ vs, 1 ≤ v ∧ v < top) →
    Nodes (passV f vs m r).2 top ∧ totP (passV f vs m r).2 = totP r ∧ ((passV f vs m r).1 = true → m = false → phi (passV f vs m r).2 < phi r) ∧ phi (passV f vs m r).2 ≤ phi r ∧ (passV f vs m r).2.length ≤ r.length
  | [], m, r, h, _ => ⟨h, rfl, fun e e2 => by rw [passV] at e; simp only at e; rw [e2] at e; exact absurd e (by decide), Nat.le_refl _, Nat.le_refl _⟩
  | v :: vs, m, r, h, hv => by
    obtain ⟨g1, g2⟩ := hv v (by simp)
    obtain ⟨a1, a2, a3, a4, a5⟩ := lift_ok (f := f) h g1 g2
    obtain ⟨b1, b2, b3, b4, b5⟩ := passV_ok (f := f) vs (m || (liftV f r v).1) a1 (fun u hu => hv u (by simp [hu]))
    rw [passV]
    have hle : phi (liftV f r v).2 ≤ phi r := by
      cases hc : (liftV f r v).1 with
      | false => rw [a5 hc]; exact Nat.le_refl _
      | true => have := a3 hc; omega
    refine ⟨b1, b2.trans a2, fun e e2 => ?_, by omega, by omega⟩
    by_cases hc : (liftV f r v).1 = true
    · have := a3 hc; omega
    · have := b3 e (by rw [e2, show (liftV f r v).1 = false from by simpa using hc]; rfl)
      omega
theorem pass_ok {f : Nat} {top : Int} {r : List Pr} (h : Nodes r top) :
    Nodes (pass f r).2 top ∧ totP (pass f r).2 = totP r ∧ ((pass f r).1 = true → phi (pass f r).2 < phi r) ∧ (pass f r).2.length ≤ r.length := by
  obtain ⟨b1, b2, b3, -, b5⟩ := passV_ok (f := f) (r.map Pr.i).reverse false h (fun v hv => by
    rw [List.mem_reverse, List.mem_map] at hv
    obtain ⟨p, hp, rfl⟩ := hv
    exact h.ix p hp)
  exact ⟨b1, b2, fun e => b3 e rfl, b5⟩
theorem sq_ex {f : Nat} {top : Int} : ∀ (n : Nat) {r : List Pr}, phi r < n → Nodes r top → ∃ R, SqR f r R
  | 0, _, h, _ => absurd h (Nat.not_lt_zero _)
  | n + 1, r, hn, h => by
    obtain ⟨b1, -, b3, -⟩ := pass_ok (f := f) h
    cases hc : (pass f r).1 with
    | false => exact ⟨(pass f r).2, .stop (by rw [← hc])⟩
    | true =>
      obtain ⟨R, hR⟩ := sq_ex n (by have := b3 hc; omega) b1
      exact ⟨R, .go (by rw [← hc]) hR⟩
theorem SqR.ok {f : Nat} {top : Int} {r R : List Pr} (h : SqR f r R) : Nodes r top → Nodes R top ∧ totP R = totP r ∧ R.length ≤ r.length := by
  induction h with
  | @stop r R e =>
    intro hr
    obtain ⟨b1, b2, -, b4⟩ := pass_ok (f := f) hr
    rw [e] at b1 b2 b4
    exact ⟨b1, b2, b4⟩
  | @go r r' R e _ ih =>
    intro hr
    obtain ⟨b1, b2, -, b4⟩ := pass_ok (f := f) hr
    rw [e] at b1 b2 b4
    obtain ⟨c1, c2, c3⟩ := ih b1
    exact ⟨c1, c2.trans b2, Nat.le_trans c3 b4⟩
open Classical in
/-- A row that was squeezed. -/
noncomputable def squeezeR (f : Nat) (r : List Pr) : List Pr := if h : ∃ R, SqR f r R then Classical.choose h else r
theorem squeezeR_is {f : Nat} {top : Int} {r : List Pr} (h : Nodes r top) : SqR f r (squeezeR f r) := by
  have hx := sq_ex (f := f) _ (Nat.lt_succ_self _) h
  unfold squeezeR
  rw [dif_pos hx]
  exact Classical.choose_spec hx
noncomputable def tidyR (f : Nat) (r : List Pr) : List Pr := if 4 * f < r.length then squeezeR f r else r
theorem tidyR_ok {f : Nat} {top : Int} {r : List Pr} (h : Nodes r top) : Nodes (tidyR f r) top ∧ totP (tidyR f r) = totP r ∧ (tidyR f r).length ≤ r.length := by
  unfold tidyR
  split
  · exact (squeezeR_is h).ok h
  · exact ⟨h, rfl, Nat.le_refl _⟩
end Go.Proofs.YtlcoibhbdgdfcaaGreatDoor
