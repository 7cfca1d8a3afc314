/-
  A digest, plainly: how counts go up, and how it is squeezed. Conditions: none.
  'copy' of rows whose elements have several cells. Conditions: none.
  What insertions of all kinds share: copies of cells, rows that are shifted. Conditions: none.
-/
import Derived.Test.YtmehcfocfljoeaaGreatDoorSlotsErrorsB4
import Derived.Test.YtmehcfocfljoeaaGreatDoorSlotsErrorsB1
import Derived.Laws.CopyOwn
import Derived.Deep.RegionLaw
namespace Go.Proofs.YtmehcfocfljoeaaGreatDoor

/-- The node beside one. -/
def bes (v : Int) : Int := if v % 2 = 1 then v - 1 else v + 1
/-- The sum that would go up from a node. -/
def upSum (r : List Pr) (v : Int) : Nat := cntI r v + cntI r (bes v) + cntI r (v / 2)
def stays (f : Nat) (r : List Pr) (v : Int) : Bool := decide (v = 1) || decide (cntI r v = 0) || decide (totP r / f < upSum r v)
def rest (r : List Pr) (v : Int) : List Pr := r.filter fun p => decide (p.i ≠ v) && decide (p.i ≠ bes v) && decide (p.i ≠ v / 2)
/-- Counts go up from a node; do they? -/
def liftV (f : Nat) (r : List Pr) (v : Int) : Bool × List Pr := if stays f r v then (false, r) else (true, refAdd (rest r v) (v / 2) (upSum r v))
/-- What the program makes: all but the two, and the sum of these added above. -/
def rest2 (r : List Pr) (v : Int) : List Pr := r.filter fun p => decide (p.i ≠ v) && decide (p.i ≠ bes v)
def passV (f : Nat) : List Int → Bool → List Pr → Bool × List Pr
  | [], m, r => (m, r)
  | v :: vs, m, r => passV f vs (m || (liftV f r v).1) (liftV f r v).2
def pass (f : Nat) (r : List Pr) : Bool × List Pr := passV f (r.map Pr.i).reverse false r
inductive SqR (f : Nat) : List Pr → List Pr → Prop
  | stop {r R : List Pr} : pass f r = (false, R) → SqR f r R
  | go {r r' R : List Pr} : pass f r = (true, r') → SqR f r' R → SqR f r R
/-- How deep the nodes lie, together. -/
def phi (r : List Pr) : Nat := (r.map fun p => p.i.toNat).sum
/-- A row of nodes: indexes that rise, from 1 on, below a bound; no nothings. -/
structure Nodes (r : List Pr) (top : Int) : Prop where
  up : rises r
  pos : ∀ p ∈ r, 1 ≤ p.c
  ix : ∀ p ∈ r, 1 ≤ p.i ∧ p.i < top
theorem bes_ne (v : Int) : bes v ≠ v := by unfold bes; split <;> omega
theorem bes_half {v : Int} (h : 2 ≤ v) : bes v ≠ v / 2 := by unfold bes; split <;> omega
theorem bes_in {v top : Int} (h : 2 ≤ v) (h2 : v < top) (ht : top % 2 = 0) : 2 ≤ bes v ∧ bes v < top := by unfold bes; split <;> omega
theorem rises_filter {l : List Pr} (h : rises l) (q : Pr → Bool) : rises (l.filter q) := by
  induction l with
  | nil => intro j k _ hk; simp at hk
  | cons p l ih =>
    have h1 := ih (rises_tail h)
    have h2 := rises_head h
    rw [List.filter_cons]
    split
    · exact rises_cons h1 (fun x hx => h2 x (List.mem_filter.1 hx).1)
    · exact h1
theorem cntI_filter_ne (l : List Pr) (q : Pr → Bool) (i : Int) (h : ∀ p, p.i = i → q p = true) : cntI (l.filter q) i = cntI l i := by
  induction l with
  | nil => rfl
  | cons p l ih =>
    rw [List.filter_cons]
    by_cases hp : p.i = i
    · rw [if_pos (h p hp)]
      simp only [cntI, List.map_cons, List.sum_cons] at ih ⊢
      omega
    · split
      · simp only [cntI, List.map_cons, List.sum_cons] at ih ⊢
        omega
      · rw [ih]
        simp [cntI, hp]
/-- Both ways of lifting are one. -/
theorem lift_same (r : List Pr) {v : Int} (h : 2 ≤ v) : refAdd (rest2 r v) (v / 2) (cntI r v + cntI r (bes v)) = refAdd (rest r v) (v / 2) (upSum r v) := by
  have hb := bes_half h
  have hv : v / 2 ≠ v := by omega
  have e1 : cntI (rest2 r v) (v / 2) = cntI r (v / 2) := cntI_filter_ne r _ _ (fun p hp => by rw [hp]; simp; exact ⟨hv, fun e => hb e.symm⟩)
  have e2 : cntI (rest r v) (v / 2) = 0 := cntI_none (fun p hp => by
    have := (List.mem_filter.1 hp).2
    simp at this
    exact this.2)
  have e3 : ∀ q : Pr → Bool, (∀ p, p.i = v / 2 → q p = false) → (rest2 r v).filter q = (rest r v).filter q := fun q hq => by
    rw [rest2, rest, List.filter_filter, List.filter_filter]
    refine List.filter_congr (fun p _ => ?_)
    by_cases hp : p.i = v / 2
    · rw [hq p hp]; rfl
    · simp [hp]
  rw [refAdd, refAdd, e1, e2, e3 _ (fun p hp => by rw [hp]; simp), e3 _ (fun p hp => by rw [hp]; simp), upSum]
  have e4 : cntI r (v / 2) + (cntI r v + cntI r (bes v)) = 0 + (cntI r v + cntI r (bes v) + cntI r (v / 2)) := by omega
  rw [e4]
theorem totP_filter (l : List Pr) (q : Pr → Bool) : totP l = totP (l.filter q) + totP (l.filter fun p => !q p) := by
  induction l with
  | nil => rfl
  | cons p l ih =>
    rw [List.filter_cons, List.filter_cons]
    cases h : q p with
    | true => simp only [if_true, Bool.not_true, Bool.false_eq_true, if_false, totP_cons]; omega
    | false => simp only [Bool.false_eq_true, if_false, Bool.not_false, if_true, totP_cons]; omega
theorem totP_one (l : List Pr) (i : Int) : totP (l.filter fun p => decide (p.i = i)) = cntI l i := by
  induction l with
  | nil => rfl
  | cons p l ih =>
    rw [List.filter_cons]
    by_cases h : p.i = i
    · simp only [h, decide_true, if_true, totP_cons, ih, cntI, List.map_cons, List.sum_cons]
    · simp only [h, decide_false, Bool.false_eq_true, if_false, ih, cntI, List.map_cons, List.sum_cons]
      omega
theorem rest_tot (r : List Pr) {v : Int} (h : 2 ≤ v) : totP r = totP (rest r v) + upSum r v := by
  have hb := bes_half h
  have hn := bes_ne v
  have hv : v / 2 ≠ v := by omega
  have t1 := totP_filter r (fun p => decide (p.i = v))
  rw [totP_one] at t1
  have t2 := totP_filter (r.filter fun p => !decide (p.i = v)) (fun p => decide (p.i = bes v))
  rw [totP_one, cntI_filter_ne r _ _ (fun p hp => by rw [hp]; simp [hn]), List.filter_filter] at t2
  have t3 := totP_filter (r.filter fun p => !decide (p.i = bes v) && !decide (p.i = v)) (fun p => decide (p.i = v / 2))
  rw [totP_one, cntI_filter_ne r _ _ (fun p hp => by rw [hp]; simp; exact ⟨fun e => hb e.symm, hv⟩), List.filter_filter] at t3
  have e : r.filter (fun p => !decide (p.i = v / 2) && (!decide (p.i = bes v) && !decide (p.i = v))) = rest r v := by
    rw [rest]
    refine List.filter_congr (fun p _ => ?_)
    by_cases h1 : p.i = v <;> by_cases h2 : p.i = bes v <;> by_cases h3 : p.i = v / 2 <;> simp [h1, h2, h3]
  rw [e] at t3
  unfold upSum
  omega
theorem rest2_tot (r : List Pr) (v : Int) : totP r = totP (rest2 r v) + cntI r v + cntI r (bes v) := by
  have hn := bes_ne v
  have t1 := totP_filter r (fun p => decide (p.i = v))
  rw [totP_one] at t1
  have t2 := totP_filter (r.filter fun p => !decide (p.i = v)) (fun p => decide (p.i = bes v))
  rw [totP_one, cntI_filter_ne r _ _ (fun p hp => by rw [hp]; simp [hn]), List.filter_filter] at t2
  have e : r.filter (fun p => !decide (p.i = bes v) && !decide (p.i = v)) = rest2 r v := by
    rw [rest2]
    refine List.filter_congr (fun p _ => ?_)
    by_cases h1 : p.i = v <;> by_cases h2 : p.i = bes v <;> simp [h1, h2]
  rw [e] at t2
  omega
theorem sumW_drop (W : Pr → Nat) (q : Pr → Bool) : ∀ {l : List Pr} {p : Pr}, p ∈ l → q p = false → ((l.filter q).map W).sum + W p ≤ (l.map W).sum
  | x :: l, p, hp, hq => by
    have hle : ∀ l : List Pr, ((l.filter q).map W).sum ≤ (l.map W).sum := fun l => by
      induction l with
      | nil => exact Nat.le_refl _
      | cons y l ih =>
        rw [List.filter_cons]
        split
        · simp only [List.map_cons, List.sum_cons]; omega
        · simp only [List.map_cons, List.sum_cons]; omega
    rw [List.filter_cons]
    rcases List.mem_cons.1 hp with rfl | hp
    · rw [hq, if_neg (by simp)]
      have := hle l
      simp only [List.map_cons, List.sum_cons]
      omega
    · have := sumW_drop W q hp hq
      split
      · simp only [List.map_cons, List.sum_cons]; omega
      · simp only [List.map_cons, List.sum_cons]; omega
theorem phi_app (a b : List Pr) : phi (a ++ b) = phi a + phi b := by simp [phi]
theorem cntI_mem {l : List Pr} {i : Int} (h : cntI l i ≠ 0) : ∃ p ∈ l, p.i = i := by
  by_cases hx : ∃ p ∈ l, p.i = i
  · exact hx
  · exact absurd (cntI_none (fun p hp e => hx ⟨p, hp, e⟩)) h
theorem refAdd_phi {l : List Pr} {i : Int} (hr : rises l) (c : Nat) : phi (refAdd l i c) ≤ phi l + i.toNat := by
  obtain ⟨A, M, B, h⟩ := parted hr i
  rw [refAdd, h.filter_lt, h.filter_gt, phi_app, phi_app]
  have e := congrArg phi h.eq
  rw [phi_app, phi_app] at e
  have h1 : phi (if 0 < cntI l i + c then [⟨i, cntI l i + c⟩] else []) ≤ i.toNat := by
    split
    · simp [phi]
    · exact Nat.zero_le _
  omega
theorem refAdd_mem {l : List Pr} {i : Int} {c : Nat} : ∀ p ∈ refAdd l i c, p ∈ l ∨ p.i = i := by
  intro p hp
  rw [refAdd] at hp
  rcases List.mem_append.1 hp with hp | hp
  · rcases List.mem_append.1 hp with hp | hp
    · exact .inl (List.mem_filter.1 hp).1
    · split at hp
      · simp at hp; subst hp; exact .inr rfl
      · simp at hp
  · exact .inl (List.mem_filter.1 hp).1
theorem Nodes.add {r : List Pr} {top i : Int} (h : Nodes r top) (h1 : 1 ≤ i) (h2 : i < top) (c : Nat) : Nodes (refAdd r i c) top :=
  ⟨refAdd_rises h.up c, refAdd_pos h.pos c, fun p hp => by
    rcases refAdd_mem p hp with hp | hp
    · exact h.ix p hp
    · omega⟩
theorem Nodes.filter {r : List Pr} {top : Int} (h : Nodes r top) (q : Pr → Bool) : Nodes (r.filter q) top :=
  ⟨rises_filter h.up q, fun p hp => h.pos p (List.mem_filter.1 hp).1, fun p hp => h.ix p (List.mem_filter.1 hp).1⟩
/-- What stays so, of a lift. -/
theorem lift_ok {f : Nat} {r : List Pr} {top v : Int} (h : Nodes r top) (hv : 1 ≤ v) (hv2 : v < top) : Nodes (liftV f r v).2 top ∧ totP (liftV f r v).2 = totP r ∧ ((liftV f r v).1 = true → phi (liftV f r v).2 < phi r) ∧ (liftV f r v).2.length ≤ r.length ∧ ((liftV f r v).1 = false → (liftV f r v).2 = r) := by
  unfold liftV
  split
  · exact ⟨h, rfl, fun e => absurd e (by simp), Nat.le_refl _, fun _ => rfl⟩
  · next hs =>
    have hs' : stays f r v = false := by simpa using hs
    simp only [stays, Bool.or_eq_false_iff, decide_eq_false_iff_not] at hs'
    obtain ⟨⟨h1, h2⟩, -⟩ := hs'
    have h2v : 2 ≤ v := by omega
    have hN : Nodes (rest r v) top := h.filter _
    obtain ⟨p, hp, hpi⟩ := cntI_mem h2
    have hq : (decide (p.i ≠ v) && decide (p.i ≠ bes v) && decide (p.i ≠ v / 2)) = false := by simp [hpi]
    have w1 := sumW_drop (fun p => p.i.toNat) (fun p => decide (p.i ≠ v) && decide (p.i ≠ bes v) && decide (p.i ≠ v / 2)) hp hq
    have w2 := sumW_drop (fun _ => 1) (fun p => decide (p.i ≠ v) && decide (p.i ≠ bes v) && decide (p.i ≠ v / 2)) hp hq
    rw [List.map_const', List.map_const', List.sum_replicate_nat, List.sum_replicate_nat] at w2
    have w3 := refAdd_phi (i := v / 2) hN.up (upSum r v)
    have w4 := refAdd_len (i := v / 2) hN.up (upSum r v)
    have e1 : rest r v = r.filter fun p => decide (p.i ≠ v) && decide (p.i ≠ bes v) && decide (p.i ≠ v / 2) := rfl
    rw [← e1] at w1 w2
    have e2 : phi (rest r v) = ((rest r v).map fun p => p.i.toNat).sum := rfl
    have e3 : phi r = (r.map fun p => p.i.toNat).sum := rfl
    refine ⟨hN.add (by omega) (by omega) _, ?_, fun _ => ?_, ?_, fun e => absurd e (by simp)⟩
    · rw [refAdd_tot hN.up, rest_tot r h2v]
    · rw [← e2, ← e3, hpi] at w1
      show phi (refAdd (rest r v) (v / 2) (upSum r v)) < phi r
      omega
    · show (refAdd (rest r v) (v / 2) (upSum r v)).length ≤ r.length
      omega
theorem passV_ok {f : Nat} {top : Int} : ∀ (vs : List Int) (m : Bool) {r : List Pr}, Nodes r top → (∀ v ∈ vs, 1 ≤ v ∧ v < top) →
    Nodes (passV f vs m r).2 top ∧ totP (passV f vs m r).2 = totP r ∧ ((passV f vs m r).1 = true → m = false → phi (passV f vs m r).2 < phi r) ∧ phi (passV f vs m r).2 ≤ phi r ∧ (passV f vs m r).2.length ≤ r.length
  | [], m, r, h, _ => ⟨h, rfl, fun e e2 => by rw [passV] at e; simp only at e; rw [e2] at e; exact absurd e (by decide), Nat.le_refl _, Nat.le_refl _⟩
  | v :: vs, m, r, h, hv => by
    obtain ⟨g1, g2⟩ := hv v (by simp)
    obtain ⟨a1, a2, a3, a4, a5⟩ := lift_ok (f := f) h g1 g2
    obtain ⟨b1, b2, b3, b4, b5⟩ := passV_ok (f := f) vs (m || (liftV f r v).1) a1 (fun u hu => hv u (by simp [hu]))
    rw [passV]
    have hle : phi (liftV f r v).2 ≤ phi r := by
      cases hc : (liftV f r v).1 with
      | false => rw [a5 hc]; exact Nat.le_refl _
      | true => have := a3 hc; omega
    refine ⟨b1, b2.trans a2, fun e e2 => ?_, by omega, by omega⟩
    by_cases hc : (liftV f r v).1 = true
    · have := a3 hc; omega
    · have := b3 e (by rw [e2, show (liftV f r v).1 = false from by simpa using hc]; rfl)
      omega
theorem pass_ok {f : Nat} {top : Int} {r : List Pr} (h : Nodes r top) :
    Nodes (pass f r).2 top ∧ totP (pass f r).2 = totP r ∧ ((pass f r).1 = true → phi (pass f r).2 < phi r) ∧ (pass f r).2.length ≤ r.length := by
  obtain ⟨b1, b2, b3, -, b5⟩ := passV_ok (f := f) (r.map Pr.i).reverse false h (fun v hv => by
    rw [List.mem_reverse, List.mem_map] at hv
    obtain ⟨p, hp, rfl⟩ := hv
    exact h.ix p hp)
  exact ⟨b1, b2, fun e => b3 e rfl, b5⟩
theorem sq_ex {f : Nat} {top : Int} : ∀ (n : Nat) {r : List Pr}, phi r < n → Nodes r top → ∃ R, SqR f r R
  | 0, _, h, _ => absurd h (Nat.not_lt_zero _)
  | n + 1, r, hn, h => by
    obtain ⟨b1, -, b3, -⟩ := pass_ok (f := f) h
    cases hc : (pass f r).1 with
    | false => exact ⟨(pass f r).2, .stop (by rw [← hc])⟩
    | true =>
      obtain ⟨R, hR⟩ := sq_ex n (by have := b3 hc; omega) b1
      exact ⟨R, .go (by rw [← hc]) hR⟩
theorem SqR.ok {f : Nat} {top : Int} {r R : List Pr} (h : SqR f r R) : Nodes r top → Nodes R top ∧ totP R = totP r ∧ R.length ≤ r.length := by
  induction h with
  | @stop r R e =>
    intro hr
    obtain ⟨b1, b2, -, b4⟩ := pass_ok (f := f) hr
    rw [e] at b1 b2 b4
    exact ⟨b1, b2, b4⟩
  | @go r r' R e _ ih =>
    intro hr
    obtain ⟨b1, b2, -, b4⟩ := pass_ok (f := f) hr
    rw [e] at b1 b2 b4
    obtain ⟨c1, c2, c3⟩ := ih b1
    exact ⟨c1, c2.trans b2, Nat.le_trans c3 b4⟩
open Classical in
/-- A row that was squeezed. -/
noncomputable def squeezeR (f : Nat) (r : List Pr) : List Pr := if h : ∃ R, SqR f r R then Classical.choose h else r
theorem squeezeR_is {f : Nat} {top : Int} {r : List Pr} (h : Nodes r top) : SqR f r (squeezeR f r) := by
  have hx := sq_ex (f := f) _ (Nat.lt_succ_self _) h
  unfold squeezeR
  rw [dif_pos hx]
  exact Classical.choose_spec hx
noncomputable def tidyR (f : Nat) (r : List Pr) : List Pr := if 4 * f < r.length then squeezeR f r else r
theorem tidyR_ok {f : Nat} {top : Int} {r : List Pr} (h : Nodes r top) : Nodes (tidyR f r) top ∧ totP (tidyR f r) = totP r ∧ (tidyR f r).length ≤ r.length := by
  unfold tidyR
  split
  · exact (squeezeR_is h).ok h
  · exact ⟨h, rfl, Nat.le_refl _⟩
end Go.Proofs.YtmehcfocfljoeaaGreatDoor

namespace Go.Proofs.YtmehcfocfljoeaaGreatDoor
open Go.RowKit

theorem run_copy_rowK {P : Program} (w : World) (dT sT ty elem : TypeId) (size g o dLen dCap : Nat) (a : Addr) (sLen sCap : Nat) (cur : Array Value) (t : TypeId) (cs : List Value)
    (hu : P.underlying dT = some (.slice elem)) (hs : (P.info? elem).map (·.size) = some size)
    (hg : w.heap[g]? = some (.cells cur t (0, 0))) (hn : cs.length = Nat.min sLen dLen * size)
    (hsrc : ∀ j v, cs[j]? = some v → w.cell? (a.add j) = some v) (hfit : o + cs.length ≤ cur.size) (h1 : ∀ v ∈ cs, v.oneCell' = true) :
    (Builtin.copy_ #[dT, sT] ty #[.slice (some ⟨g, o, none⟩) dLen dCap, .slice (some a) sLen sCap]).run P w =
      .ok (goInt (Nat.min sLen dLen)) (w.setRow g (cur.toList.take o ++ cs ++ cur.toList.drop (o + cs.length)).toArray) := by
  have hl := run_loadCells_list (P := P) w a cs hsrc
  have hst := run_storeCells_at P g o t cs 0 cur w hg (by simpa using hfit) h1
  cases hq : P.info? elem with
  | none => simp [hq] at hs
  | some i =>
    have hi : i.size = size := by simpa [hq] using hs
    simp [Builtin.copy_, run_underlying hu, Builtin.lenOf, Builtin.firstCells, sizeOf, typeInfo, hq, hi, ← hn, hl, hst]
theorem wpList_copy_rowK {P : Program} {w : World} {ops : Array Oper} {rest : List Oper} {o : Oper} {a : Act} {Q : Exit → Act → World → Prop} (hgd : o.guard = none) (d s : Operand) (dT sT : TypeId)
    (ho : o.op = .call { callee := .builtin .copy, args := #[d, s], argTypes := #[dT, sT] }) (v u : Value) (hd : a.eval d = v) (hs : a.eval s = u) {v' : Value} {w' : World}
    (hr : (Builtin.copy_ #[dT, sT] o.type #[v, u]).run P w = .ok v' w') (h : wpList P ops Q rest (a.put o.dst v') w') : wpList P ops Q (o :: rest) a w := by
  refine wpList_plain hgd fun K hK => ?_
  unfold Oper.wp
  simp [execOp, ho, resolve, invoke, builtin, hd, hs, hr, Result.andThen]
  exact hK _ _ h
end Go.Proofs.YtmehcfocfljoeaaGreatDoor

namespace Go.Proofs.YtmehcfocfljoeaaGreatDoor
open Go.RowKit

theorem step_copy_rowK {P : Program} {ops : Array Oper} {o : Oper} {a : Act} {w : World} {K : Act → World → Prop} {Q : Exit → Act → World → Prop} {E : Prop}
    (hg : o.guard = none) (d x : Operand) (dT sT : TypeId) (hop : o.op = Op.call { callee := Callee.builtin Builtin.copy, args := #[d, x], argTypes := #[dT, sT] })
    (v u : Value) (hd : a.eval d = v) (hx : a.eval x = u) {v' : Value} {w' : World} (hr : (Builtin.copy_ #[dT, sT] o.type #[v, u]).run P w = .ok v' w') (hK : K (a.put o.dst v') w') :
    if Region.wanted o (yielded ops a.tmps) = true then Oper.wp P o a w K Q else E := by
  have hw : Region.wanted o (yielded ops a.tmps) = true := by simp [Region.wanted, hg]
  rw [if_pos hw]
  unfold Oper.wp
  simp [execOp, hop, resolve, invoke, builtin, hd, hx, hr, Result.andThen]
  exact hK
theorem wpList_append_runK {P : Program} {w : World} {ops : Array Oper} {rest : List Oper} {o : Oper} {a : Act} {Q : Exit → Act → World → Prop} (hgd : o.guard = none) (d s : Operand) (dT sT : TypeId)
    (ho : o.op = .call { callee := .builtin .append, args := #[d, s], argTypes := #[dT, sT] }) (v u : Value) (hd : a.eval d = v) (hs : a.eval s = u) {v' : Value} {w' : World}
    (hr : (Builtin.append_ #[dT, sT] o.type #[v, u]).run P w = .ok v' w') (h : wpList P ops Q rest (a.put o.dst v') w') : wpList P ops Q (o :: rest) a w := by
  refine wpList_plain hgd fun K hK => ?_
  unfold Oper.wp
  simp [execOp, ho, resolve, invoke, builtin, hd, hs, hr, Result.andThen]
  exact hK _ _ h

theorem take_len {α : Type} {x y : List α} {n : Nat} (h : n = x.length) : (x ++ y).take n = x := by rw [h, List.take_left]
theorem drop_len {α : Type} {x y : List α} {n : Nat} (h : n = x.length) : (x ++ y).drop n = y := by rw [h, List.drop_left]
/-- What stands in a row behind the two copies of an insertion in place. -/
theorem shift_rows {α : Type} (e : Nat) (C A B P : List α) (o a b cap : Nat) (hA : A.length = a) (hB : B.length = b) (hP : P.length = e) (hX : (C.drop o).take (a + b) = A ++ B) (hC : o + cap ≤ C.length) (hcap : a + b + e ≤ cap) :
    let R2 := C.take (o + (a + e)) ++ B ++ C.drop (o + (a + e) + b)
    let R3 := R2.take (o + a) ++ P ++ R2.drop (o + a + e)
    R2.length = C.length ∧ R3.length = C.length ∧ (R3.drop o).take (a + b + e) = A ++ P ++ B := by
  intro R2 R3
  have h1 : C = C.take o ++ (A ++ (B ++ (C.drop o).drop (a + b))) := by
    rw [← List.append_assoc A, ← hX, List.take_append_drop, List.take_append_drop]
  have hl0 : (C.take o).length = o := by rw [List.length_take]; omega
  have hlR : e ≤ (B ++ (C.drop o).drop (a + b)).length := by simp only [List.length_append, List.length_drop]; omega
  generalize C.take o = C0 at *
  generalize B ++ (C.drop o).drop (a + b) = S at *
  have e1 : C.take (o + (a + e)) = C0 ++ (A ++ S.take e) := by
    rw [h1, show o + (a + e) = C0.length + (a + e) from by omega, List.take_length_add_append, show a + e = A.length + e from by omega, List.take_length_add_append]
  have e2 : R2 = C0 ++ (A ++ (S.take e ++ (B ++ C.drop (o + (a + e) + b)))) := by
    show C.take (o + (a + e)) ++ B ++ C.drop (o + (a + e) + b) = _
    rw [e1]
    simp only [List.append_assoc]
  have e3 : R2.take (o + a) = C0 ++ A := by
    rw [e2, ← List.append_assoc]
    exact take_len (by rw [List.length_append]; omega)
  have e4 : R2.drop (o + a + e) = B ++ C.drop (o + (a + e) + b) := by
    rw [e2, ← List.append_assoc, ← List.append_assoc]
    exact drop_len (by rw [List.length_append, List.length_append, List.length_take]; omega)
  have e5 : R3 = C0 ++ (A ++ (P ++ (B ++ C.drop (o + (a + e) + b)))) := by
    show R2.take (o + a) ++ P ++ R2.drop (o + a + e) = _
    rw [e3, e4]
    simp only [List.append_assoc]
  refine ⟨?_, ?_, ?_⟩
  · rw [e2]
    simp only [List.length_append, List.length_take, List.length_drop]
    omega
  · rw [e5]
    simp only [List.length_append, List.length_drop]
    omega
  · rw [e5, drop_len hl0.symm, ← List.append_assoc, ← List.append_assoc]
    exact take_len (by simp only [List.length_append]; omega)
/-- .. and of an insertion into a new row. -/
theorem grow_rows {α : Type} (e : Nat) (C A B P : List α) (a b : Nat) (hA : A.length = a) (hB : B.length = b) (hP : P.length = e) (hX : C.take a = A) (hC : a + b + e ≤ C.length) :
    let R2 := C.take a ++ P ++ C.drop (a + e)
    let R3 := R2.take (a + e) ++ B ++ R2.drop (a + e + b)
    R2.length = C.length ∧ R3.length = C.length ∧ R3.take (a + b + e) = A ++ P ++ B := by
  intro R2 R3
  have e2 : R2.length = C.length := by
    show (C.take a ++ P ++ C.drop (a + e)).length = _
    simp only [List.length_append, List.length_take, List.length_drop]
    omega
  have e3 : R2.take (a + e) = A ++ P := by
    show (C.take a ++ P ++ C.drop (a + e)).take (a + e) = _
    rw [hX]
    exact take_len (by rw [List.length_append]; omega)
  have e5 : R3 = A ++ P ++ B ++ R2.drop (a + e + b) := by
    show R2.take (a + e) ++ B ++ R2.drop (a + e + b) = _
    rw [e3]
  refine ⟨e2, ?_, ?_⟩
  · rw [e5]
    simp only [List.length_append, List.length_drop]
    omega
  · rw [e5]
    exact take_len (by simp only [List.length_append]; omega)

end Go.Proofs.YtmehcfocfljoeaaGreatDoor
