/-
  The values below a node, the order in which nodes are told, and how near a digest's answers are, plainly (layers 16, 17). Conditions: none.
-/
import Derived.Test.YtgnbabkafobeoaaDgFew
import Derived.Test.YtgnbabkafobeoaaVals
import Derived.Lib.BitFns
namespace Go.Proofs.Ytgnbabkafobeoaa

/-- How many lie above a node. -/
def lev (v : Int) : Nat := Lib.bitLen v.toNat - 1
theorem bitLenAux_two : ∀ (f x : Nat), x < 2 ^ f → x ≠ 0 → 1 ≤ Lib.bitLenAux f x ∧ 2 ^ (Lib.bitLenAux f x - 1) ≤ x ∧ x < 2 ^ Lib.bitLenAux f x
  | 0, x, h, h0 => by simp at h; exact absurd h h0
  | f + 1, x, h, h0 => by
    rw [Lib.bitLenAux, if_neg h0]
    by_cases h1 : x / 2 = 0
    · have : Lib.bitLenAux f (x / 2) = 0 := by rw [h1]; cases f <;> simp [Lib.bitLenAux]
      rw [this]
      have : x = 1 := by omega
      subst this
      decide
    · obtain ⟨g1, g2, g3⟩ := bitLenAux_two f (x / 2) (by rw [Nat.pow_succ] at h; omega) h1
      generalize Lib.bitLenAux f (x / 2) = n at *
      refine ⟨by omega, ?_, ?_⟩
      · rw [show 1 + n - 1 = (n - 1) + 1 from by omega, Nat.pow_succ]; omega
      · rw [show 1 + n = n + 1 from by omega, Nat.pow_succ]; omega
theorem lev_two {v : Int} (h1 : 1 ≤ v) (h2 : v < 18446744073709551616) : ((2 ^ lev v : Nat) : Int) ≤ v ∧ v < 2 * ((2 ^ lev v : Nat) : Int) ∧ Lib.bitLen v.toNat = lev v + 1 := by
  obtain ⟨g1, g2, g3⟩ := bitLenAux_two 64 v.toNat (by omega) (by omega)
  have e : Lib.bitLen v.toNat = Lib.bitLenAux 64 v.toNat := rfl
  unfold lev
  rw [e]
  generalize Lib.bitLenAux 64 v.toNat = n at *
  obtain ⟨m, rfl⟩ : ∃ m, n = m + 1 := ⟨n - 1, by omega⟩
  rw [Nat.pow_succ] at g3
  rw [show m + 1 - 1 = m from rfl] at *
  omega
/-- The level is where it is. -/
theorem lev_is {v : Int} {k : Nat} (h1 : ((2 ^ k : Nat) : Int) ≤ v) (h2 : v < 2 * ((2 ^ k : Nat) : Int)) (h3 : v < 18446744073709551616) : lev v = k := by
  have hk : 1 ≤ 2 ^ k := Nat.one_le_two_pow
  obtain ⟨g1, g2, -⟩ := lev_two (v := v) (by omega) h3
  rcases Nat.lt_trichotomy (lev v) k with h | h | h
  · have : 2 ^ (lev v + 1) ≤ 2 ^ k := Nat.pow_le_pow_right (by omega) h
    rw [Nat.pow_succ] at this
    omega
  · exact h
  · have : 2 ^ (k + 1) ≤ 2 ^ lev v := Nat.pow_le_pow_right (by omega) h
    rw [Nat.pow_succ] at this
    omega
def isNode (d : Nat) (v : Int) : Prop := 1 ≤ v ∧ v < 2 * ((2 ^ d : Nat) : Int)
instance (d : Nat) (v : Int) : Decidable (isNode d v) := by unfold isNode; infer_instance
/-- How many values lie below a node; the least, and the greatest one. -/
def szN (d : Nat) (v : Int) : Int := ((2 ^ (d - lev v) : Nat) : Int)
def loN (d : Nat) (v : Int) : Int := if isNode d v then v * szN d v - ((2 ^ d : Nat) : Int) else 0
def hiN (d : Nat) (v : Int) : Int := if isNode d v then v * szN d v - ((2 ^ d : Nat) : Int) + szN d v - 1 else 0
/-- Whether one node is told ahead of another one. -/
def befN (d : Nat) (v w : Int) : Bool := decide (hiN d v < hiN d w ∨ hiN d v = hiN d w ∧ w < v)
theorem top_small {d : Nat} (h : d ≤ 24) : 1 ≤ 2 ^ d ∧ 2 ^ d ≤ 16777216 := ⟨Nat.one_le_two_pow, Nat.le_trans (Nat.pow_le_pow_right (by omega) h) (by decide)⟩
theorem lev_le {d : Nat} (hd : d ≤ 24) {v : Int} (h : isNode d v) : lev v ≤ d := by
  obtain ⟨h1, h2⟩ := h
  have hb := top_small hd
  obtain ⟨g1, g2, -⟩ := lev_two h1 (by omega)
  rcases Nat.lt_or_ge d (lev v) with h | h
  · have : 2 ^ (d + 1) ≤ 2 ^ lev v := Nat.pow_le_pow_right (by omega) h
    rw [Nat.pow_succ] at this
    omega
  · exact h
theorem sz_pos (d : Nat) (v : Int) : 1 ≤ szN d v := by unfold szN; have : 1 ≤ 2 ^ (d - lev v) := Nat.one_le_two_pow; omega
/-- The values below a node lie where values do. -/
theorem rng_in {d : Nat} (hd : d ≤ 24) {v : Int} (h : isNode d v) : 0 ≤ loN d v ∧ loN d v ≤ hiN d v ∧ hiN d v < ((2 ^ d : Nat) : Int) ∧ hiN d v = loN d v + szN d v - 1 := by
  have hl := lev_le hd h
  have hs := sz_pos d v
  have hb := top_small hd
  obtain ⟨g1, g2, -⟩ := lev_two h.1 (by have := h.2; omega)
  have e : ((2 ^ lev v : Nat) : Int) * szN d v = ((2 ^ d : Nat) : Int) := by
    unfold szN
    rw [← Int.natCast_mul, ← Nat.pow_add, show lev v + (d - lev v) = d from by omega]
  have e1 : ((2 ^ lev v : Nat) : Int) * szN d v ≤ v * szN d v := Int.mul_le_mul_of_nonneg_right g1 (by omega)
  have e2 : (v + 1) * szN d v ≤ (2 * ((2 ^ lev v : Nat) : Int)) * szN d v := Int.mul_le_mul_of_nonneg_right (by omega) (by omega)
  rw [Int.mul_assoc, e, Int.add_mul, Int.one_mul] at e2
  unfold loN hiN
  rw [if_pos h, if_pos h]
  omega
theorem leaf_rng {d : Nat} (hd : d ≤ 24) {x : Int} (h0 : 0 ≤ x) (h1 : x < ((2 ^ d : Nat) : Int)) : isNode d (((2 ^ d : Nat) : Int) + x) ∧ loN d (((2 ^ d : Nat) : Int) + x) = x ∧ hiN d (((2 ^ d : Nat) : Int) + x) = x := by
  have hb := top_small hd
  have hn : isNode d (((2 ^ d : Nat) : Int) + x) := ⟨by omega, by omega⟩
  have hl : lev (((2 ^ d : Nat) : Int) + x) = d := lev_is (by omega) (by omega) (by omega)
  have hs : szN d (((2 ^ d : Nat) : Int) + x) = 1 := by unfold szN; rw [hl, Nat.sub_self]; rfl
  refine ⟨hn, ?_, ?_⟩
  · unfold loN; rw [if_pos hn, hs]; omega
  · unfold hiN; rw [if_pos hn, hs]; omega
theorem up_node {d : Nat} {v : Int} (h : isNode d v) (h2 : 2 ≤ v) : isNode d (v / 2) := ⟨by omega, by have := h.2; omega⟩
theorem up_rng {d : Nat} (hd : d ≤ 24) {v : Int} (h : isNode d v) (h2 : 2 ≤ v) : loN d (v / 2) ≤ loN d v ∧ hiN d v ≤ hiN d (v / 2) := by
  have hb := top_small hd
  have hn := up_node h h2
  have hl := lev_le hd h
  obtain ⟨g1, g2, -⟩ := lev_two h.1 (by have := h.2; omega)
  have hl0 : 1 ≤ lev v := by
    rcases Nat.eq_zero_or_pos (lev v) with e | e
    · rw [e] at g2; simp at g2; omega
    · exact e
  obtain ⟨m, hm⟩ : ∃ m, lev v = m + 1 := ⟨lev v - 1, by omega⟩
  rw [hm, Nat.pow_succ] at g1 g2
  have hlu : lev (v / 2) = m := lev_is (by omega) (by omega) (by have := h.2; omega)
  have hs : szN d (v / 2) = 2 * szN d v := by
    unfold szN
    rw [hlu, hm, show d - m = (d - (m + 1)) + 1 from by omega, Nat.pow_succ]
    omega
  have hp := sz_pos d v
  unfold loN hiN
  rw [if_pos h, if_pos h, if_pos hn, if_pos hn, hs]
  generalize szN d v = s at *
  have e1 : (2 * (v / 2)) * s ≤ v * s := Int.mul_le_mul_of_nonneg_right (by omega) (by omega)
  have e2 : v * s ≤ (2 * (v / 2) + 1) * s := Int.mul_le_mul_of_nonneg_right (by omega) (by omega)
  have e3 : v / 2 * (2 * s) = (2 * (v / 2)) * s := by rw [← Int.mul_assoc, Int.mul_comm (v / 2) 2]
  rw [Int.add_mul, Int.one_mul] at e2
  rw [e3]
  generalize 2 * (v / 2) * s = A at *
  generalize v * s = B at *
  omega
theorem bes_up (v : Int) : bes v / 2 = v / 2 := by unfold bes; split <;> omega
theorem hiN_bounds {d : Nat} (hd : d ≤ 24) (v : Int) : 0 ≤ hiN d v ∧ hiN d v < 16777216 ∧ 0 ≤ loN d v ∧ loN d v < 16777216 := by
  have hb := top_small hd
  by_cases h : isNode d v
  · have := rng_in hd h
    omega
  · unfold hiN loN
    rw [if_neg h, if_neg h]
    omega

/-- The counts of those of which something is so. -/
def sumIf (g : Int → Bool) (r : List Pr) : Nat := (r.map fun p => if g p.i then p.c else 0).sum
theorem sumIf_nil (g : Int → Bool) : sumIf g [] = 0 := rfl
theorem sumIf_cons (g : Int → Bool) (p : Pr) (r : List Pr) : sumIf g (p :: r) = (if g p.i then p.c else 0) + sumIf g r := by simp [sumIf]
theorem sumIf_app (g : Int → Bool) (a b : List Pr) : sumIf g (a ++ b) = sumIf g a + sumIf g b := by simp [sumIf]
theorem sumIf_filter (g q : Int → Bool) (r : List Pr) : sumIf g (r.filter fun p => q p.i) = sumIf (fun i => q i && g i) r := by
  induction r with
  | nil => rfl
  | cons p r ih =>
    rw [List.filter_cons, sumIf_cons]
    cases hq : q p.i with
    | true => rw [if_pos (by simp), sumIf_cons, ih]; simp
    | false => rw [if_neg (by simp), ih]; simp
theorem sumIf_mono {g h : Int → Bool} {r : List Pr} (k : ∀ p ∈ r, g p.i = true → h p.i = true) : sumIf g r ≤ sumIf h r := by
  induction r with
  | nil => exact Nat.le_refl _
  | cons p r ih =>
    have := ih (fun q hq => k q (by simp [hq]))
    rw [sumIf_cons, sumIf_cons]
    have hp := k p (by simp)
    cases hg : g p.i with
    | true => rw [hp hg]; simp; omega
    | false => simp; omega
theorem sumIf_or {g h f : Int → Bool} {r : List Pr} (k : ∀ p ∈ r, f p.i = true → g p.i = true ∨ h p.i = true) : sumIf f r ≤ sumIf g r + sumIf h r := by
  induction r with
  | nil => exact Nat.zero_le _
  | cons p r ih =>
    have := ih (fun q hq => k q (by simp [hq]))
    rw [sumIf_cons, sumIf_cons, sumIf_cons]
    have hp := k p (by simp)
    cases hf : f p.i with
    | false => simp; omega
    | true =>
      rcases hp hf with h1 | h1
      · rw [h1]; simp; omega
      · rw [h1]; simp; omega
theorem sumIf_one (r : List Pr) (i : Int) : sumIf (fun j => decide (j = i)) r = cntI r i := by
  unfold sumIf cntI
  congr 1
  exact List.map_congr_left (fun p _ => by simp)
theorem sumIf_none (r : List Pr) : sumIf (fun _ => false) r = 0 := by
  induction r with
  | nil => rfl
  | cons p r ih => rw [sumIf_cons, ih]; rfl
theorem sumIf_tot (r : List Pr) : sumIf (fun _ => true) r = totP r := by simp [sumIf, totP]
theorem sumIf_le (g : Int → Bool) (r : List Pr) : sumIf g r ≤ totP r := by
  rw [← sumIf_tot]
  exact sumIf_mono (fun _ _ _ => rfl)
theorem sumIf_perm {g : Int → Bool} {a b : List Pr} (h : a.Perm b) : sumIf g a = sumIf g b := List.Perm.sum_nat (h.map _)
theorem sumIf_refAdd {l : List Pr} (hr : rises l) (g : Int → Bool) (i : Int) (c : Nat) : sumIf g (refAdd l i c) = sumIf g l + if g i then c else 0 := by
  obtain ⟨A, M, B, h⟩ := parted hr i
  rw [refAdd, h.filter_lt, h.filter_gt, sumIf_app, sumIf_app]
  have e : sumIf g l = sumIf g A + sumIf g M + sumIf g B := by rw [h.eq, sumIf_app, sumIf_app]
  have hm : cntI l i = cntI M i := h.cnt
  have hM : sumIf g (if 0 < cntI l i + c then [⟨i, cntI l i + c⟩] else []) = if g i then cntI l i + c else 0 := by
    split
    · simp [sumIf]
    · rw [sumIf_nil]; split <;> omega
  have hM2 : sumIf g M = if g i then cntI l i else 0 := by
    rw [hm]
    rcases h.mid with h1 | ⟨c0, h1⟩
    · rw [h1]; simp [sumIf, cntI]
    · rw [h1]; simp [sumIf, cntI]
  rw [hM, e, hM2]
  cases g i <;> simp <;> omega
theorem sumIf_addAll {top : Int} (g : Int → Bool) : ∀ (o : List Pr) {r : List Pr}, Nodes r top → (∀ p ∈ o, 1 ≤ p.i ∧ p.i < top) → sumIf g (addAll r o) = sumIf g r + sumIf g o
  | [], r, _, _ => by simp [addAll, sumIf]
  | p :: o, r, h, hv => by
    obtain ⟨g1, g2⟩ := hv p (by simp)
    have e : addAll r (p :: o) = addAll (refAdd r p.i p.c) o := rfl
    rw [e, sumIf_addAll g o (h.add g1 g2 p.c) (fun u hu => hv u (by simp [hu])), sumIf_refAdd h.up, sumIf_cons]
    omega
/-- What goes out of a row when a node is lifted. -/
theorem sumIf_rest (g : Int → Bool) (r : List Pr) {v : Int} (h : 2 ≤ v) : sumIf g r = sumIf g (rest r v) + (if g v then cntI r v else 0) + (if g (bes v) then cntI r (bes v) else 0) + (if g (v / 2) then cntI r (v / 2) else 0) := by
  have hb := bes_half h
  have hn := bes_ne v
  have hv : v / 2 ≠ v := by omega
  induction r with
  | nil => simp [rest, sumIf, cntI]
  | cons p r ih =>
    have ec : ∀ i, cntI (p :: r) i = (if p.i = i then p.c else 0) + cntI r i := fun i => by simp [cntI]
    have eo : p.i = v ∨ p.i = bes v ∨ p.i = v / 2 → rest (p :: r) v = rest r v := fun ho => by
      unfold rest
      rw [List.filter_cons, if_neg]
      rcases ho with h | h | h <;> simp [h]
    rw [ec, ec, ec]
    by_cases h1 : p.i = v
    · rw [eo (.inl h1), sumIf_cons, ih, if_pos h1, if_neg (show ¬ p.i = bes v by omega), if_neg (show ¬ p.i = v / 2 by omega), h1]
      cases g v <;> simp <;> omega
    · by_cases h2 : p.i = bes v
      · rw [eo (.inr (.inl h2)), sumIf_cons, ih, if_neg h1, if_pos h2, if_neg (show ¬ p.i = v / 2 by omega), h2]
        cases g (bes v) <;> simp <;> omega
      · by_cases h3 : p.i = v / 2
        · rw [eo (.inr (.inr h3)), sumIf_cons, ih, if_neg h1, if_neg h2, if_pos h3, h3]
          cases g (v / 2) <;> simp <;> omega
        · have er : rest (p :: r) v = p :: rest r v := by
            unfold rest
            rw [List.filter_cons, if_pos (by simp [h1, h2, h3])]
          rw [er, sumIf_cons, sumIf_cons, ih, if_neg h1, if_neg h2, if_neg h3]
          simp
          omega
/-- What is told of a node, and then of the one above it, can only grow by lifting. -/
theorem lift_sum {f : Nat} {r : List Pr} {top v : Int} (h : Nodes r top) (hv : 1 ≤ v) (hv2 : v < top) (ht : top % 2 = 0) (g : Int → Bool) :
    ((∀ u, 2 ≤ u → u < top → g u = true → g (u / 2) = true) → sumIf g r ≤ sumIf g (liftV f r v).2) ∧ ((∀ u, 2 ≤ u → u < top → g (u / 2) = true → g u = true) → sumIf g (liftV f r v).2 ≤ sumIf g r) := by
  unfold liftV
  split
  · exact ⟨fun _ => Nat.le_refl _, fun _ => Nat.le_refl _⟩
  · next hs =>
    have hs' : stays f r v = false := by simpa using hs
    simp only [stays, Bool.or_eq_false_iff, decide_eq_false_iff_not] at hs'
    have h2v : 2 ≤ v := by omega
    have hb := bes_in h2v hv2 ht
    have e := sumIf_rest g r h2v
    have e2 := sumIf_refAdd (h.filter (fun p => decide (p.i ≠ v) && decide (p.i ≠ bes v) && decide (p.i ≠ v / 2))).up g (v / 2) (upSum r v)
    have e3 : r.filter (fun p => decide (p.i ≠ v) && decide (p.i ≠ bes v) && decide (p.i ≠ v / 2)) = rest r v := rfl
    rw [e3] at e2
    have hbu := bes_up v
    refine ⟨fun k => ?_, fun k => ?_⟩
    · have k1 := k v h2v hv2
      have k2 := k (bes v) hb.1 hb.2
      rw [hbu] at k2
      show sumIf g r ≤ sumIf g (refAdd (rest r v) (v / 2) (upSum r v))
      rw [e2, e, upSum]
      cases h1 : g v <;> cases h2 : g (bes v) <;> cases h3 : g (v / 2) <;> simp [h1, h2, h3] at k1 k2 ⊢ <;> omega
    · have k1 := k v h2v hv2
      have k2 := k (bes v) hb.1 hb.2
      rw [hbu] at k2
      show sumIf g (refAdd (rest r v) (v / 2) (upSum r v)) ≤ sumIf g r
      rw [e2, e, upSum]
      cases h1 : g v <;> cases h2 : g (bes v) <;> cases h3 : g (v / 2) <;> simp [h1, h2, h3] at k1 k2 ⊢ <;> omega
theorem passV_sum {f : Nat} {top : Int} (ht : top % 2 = 0) (g : Int → Bool) : ∀ (vs : List Int) (m : Bool) {r : List Pr}, Nodes r top → (∀ v ∈ vs, 1 ≤ v ∧ v < top) →
    ((∀ u, 2 ≤ u → u < top → g u = true → g (u / 2) = true) → sumIf g r ≤ sumIf g (passV f vs m r).2) ∧ ((∀ u, 2 ≤ u → u < top → g (u / 2) = true → g u = true) → sumIf g (passV f vs m r).2 ≤ sumIf g r)
  | [], _, _, _, _ => ⟨fun _ => Nat.le_refl _, fun _ => Nat.le_refl _⟩
  | v :: vs, m, r, h, hv => by
    obtain ⟨g1, g2⟩ := hv v (by simp)
    obtain ⟨a1, -⟩ := lift_ok (f := f) h g1 g2
    obtain ⟨b1, b2⟩ := lift_sum (f := f) h g1 g2 ht g
    obtain ⟨c1, c2⟩ := passV_sum (f := f) ht g vs (m || (liftV f r v).1) a1 (fun u hu => hv u (by simp [hu]))
    rw [passV]
    exact ⟨fun k => Nat.le_trans (b1 k) (c1 k), fun k => Nat.le_trans (c2 k) (b2 k)⟩
theorem pass_sum {f : Nat} {top : Int} (ht : top % 2 = 0) (g : Int → Bool) {r : List Pr} (h : Nodes r top) :
    ((∀ u, 2 ≤ u → u < top → g u = true → g (u / 2) = true) → sumIf g r ≤ sumIf g (pass f r).2) ∧ ((∀ u, 2 ≤ u → u < top → g (u / 2) = true → g u = true) → sumIf g (pass f r).2 ≤ sumIf g r) :=
  passV_sum ht g (r.map Pr.i).reverse false h (fun v hv => by
    rw [List.mem_reverse, List.mem_map] at hv
    obtain ⟨p, hp, rfl⟩ := hv
    exact h.ix p hp)
theorem SqR.sum {f : Nat} {top : Int} (ht : top % 2 = 0) (g : Int → Bool) {r R : List Pr} (h : SqR f r R) : Nodes r top →
    ((∀ u, 2 ≤ u → u < top → g u = true → g (u / 2) = true) → sumIf g r ≤ sumIf g R) ∧ ((∀ u, 2 ≤ u → u < top → g (u / 2) = true → g u = true) → sumIf g R ≤ sumIf g r) := by
  induction h with
  | @stop r R e =>
    intro hr
    have b := pass_sum (f := f) ht g hr
    rw [e] at b
    exact b
  | @go r r' R e _ ih =>
    intro hr
    have b := pass_sum (f := f) ht g hr
    have b1 := (pass_ok (f := f) hr).1
    rw [e] at b b1
    obtain ⟨c1, c2⟩ := ih b1
    exact ⟨fun k => Nat.le_trans (b.1 k) (c1 k), fun k => Nat.le_trans (c2 k) (b.2 k)⟩
theorem tidyR_sum {f : Nat} {top : Int} (ht : top % 2 = 0) (g : Int → Bool) {r : List Pr} (h : Nodes r top) :
    ((∀ u, 2 ≤ u → u < top → g u = true → g (u / 2) = true) → sumIf g r ≤ sumIf g (tidyR f r)) ∧ ((∀ u, 2 ≤ u → u < top → g (u / 2) = true → g u = true) → sumIf g (tidyR f r) ≤ sumIf g r) := by
  unfold tidyR
  split
  · exact (squeezeR_is h).sum ht g h
  · exact ⟨fun _ => Nat.le_refl _, fun _ => Nat.le_refl _⟩

/-- How many there are up to a value: at least, and at most. -/
def rankLo (d : Nat) (r : List Pr) (x : Int) : Nat := sumIf (fun i => decide (hiN d i ≤ x)) r
def rankHi (d : Nat) (r : List Pr) (x : Int) : Nat := sumIf (fun i => decide (loN d i ≤ x)) r
/-- A row of nodes tells no more, and no less, of values than there are. -/
def fits (d : Nat) (r : List Pr) (l : List Vl) : Prop := ∀ x, rankLo d r x ≤ upS x l ∧ upS x l ≤ rankHi d r x
theorem fits_nil (d : Nat) : fits d [] [] := fun _ => ⟨Nat.le_refl _, Nat.le_refl _⟩
theorem fits_tidy {d f : Nat} (hd : d ≤ 24) {r : List Pr} {l : List Vl} (h : Nodes r (2 * ((2 ^ d : Nat) : Int))) (k : fits d r l) : fits d (tidyR f r) l := by
  intro x
  obtain ⟨k1, k2⟩ := k x
  have ht : (2 * ((2 ^ d : Nat) : Int)) % 2 = 0 := by omega
  have h1 := (tidyR_sum (f := f) ht (fun i => decide (hiN d i ≤ x)) h).2 (fun u hu1 hu2 hg => by
    have := (up_rng hd (v := u) ⟨by omega, hu2⟩ hu1).2
    rw [decide_eq_true_eq] at hg ⊢
    omega)
  have h2 := (tidyR_sum (f := f) ht (fun i => decide (loN d i ≤ x)) h).1 (fun u hu1 hu2 hg => by
    have := (up_rng hd (v := u) ⟨by omega, hu2⟩ hu1).1
    rw [decide_eq_true_eq] at hg ⊢
    omega)
  exact ⟨Nat.le_trans h1 k1, Nat.le_trans k2 h2⟩
theorem fits_add {d : Nat} (hd : d ≤ 24) {r : List Pr} {l : List Vl} (h : rises r) (k : fits d r l) {x : Int} (h0 : 0 ≤ x) (h1 : x < ((2 ^ d : Nat) : Int)) (c : Nat) : fits d (refAdd r (((2 ^ d : Nat) : Int) + x) c) (l ++ [⟨x, c⟩]) := by
  intro y
  obtain ⟨k1, k2⟩ := k y
  obtain ⟨-, e1, e2⟩ := leaf_rng hd h0 h1
  unfold rankLo rankHi at *
  rw [sumIf_refAdd h, sumIf_refAdd h, upS_app, e1, e2]
  simp only [upS, decide_eq_true_eq]
  omega
theorem fits_addAll {d : Nat} {r o : List Pr} {l m : List Vl} (h : Nodes r (2 * ((2 ^ d : Nat) : Int))) (ho : ∀ p ∈ o, 1 ≤ p.i ∧ p.i < 2 * ((2 ^ d : Nat) : Int)) (k : fits d r l) (k2 : fits d o m) : fits d (addAll r o) (l ++ m) := by
  intro x
  obtain ⟨a1, a2⟩ := k x
  obtain ⟨b1, b2⟩ := k2 x
  unfold rankLo rankHi at *
  rw [sumIf_addAll _ o h ho, sumIf_addAll _ o h ho, upS_app]
  omega

/-- How many are told ahead of a node; the value that a place asks for. -/
def ahead (d : Nat) (r : List Pr) (i : Int) : Nat := sumIf (fun j => befN d j i) r
def pickP (d : Nat) (r : List Pr) (t : Nat) (p : Pr) : Bool := decide (ahead d r p.i < t) && decide (t ≤ ahead d r p.i + p.c)
def quantD (d : Nat) (r : List Pr) (t : Nat) : Int := match r.find? (pickP d r t) with
  | some p => hiN d p.i
  | none => 0
theorem bef_irr (d : Nat) (v : Int) : befN d v v = false := by unfold befN; rw [decide_eq_false_iff_not]; omega
theorem bef_asym {d : Nat} {v w : Int} (h : befN d v w = true) : befN d w v = false := by
  unfold befN at *
  rw [decide_eq_true_eq] at h
  rw [decide_eq_false_iff_not]
  omega
theorem ahead_sorted {d : Nat} {l : List Pr} (hs : l.Pairwise fun a b => befN d a.i b.i = true) (k : Nat) (hk : k < l.length) : ahead d l l[k].i = totP (l.take k) := by
  have e : l = l.take k ++ l[k] :: l.drop (k + 1) := by
    rw [← List.drop_eq_getElem_cons hk, List.take_append_drop]
  have hs2 := hs
  rw [e, List.pairwise_append] at hs2
  obtain ⟨-, h2, h3⟩ := hs2
  rw [List.pairwise_cons] at h2
  have e1 : ahead d l l[k].i = sumIf (fun j => befN d j l[k].i) (l.take k) + sumIf (fun j => befN d j l[k].i) (l[k] :: l.drop (k + 1)) := by
    rw [← sumIf_app, ← e]
    rfl
  have e2 : sumIf (fun j => befN d j l[k].i) (l.take k) = totP (l.take k) := by
    rw [← sumIf_tot]
    refine Nat.le_antisymm (sumIf_mono (fun _ _ _ => rfl)) (sumIf_mono (fun p hp _ => h3 p hp _ List.mem_cons_self))
  have e3 : sumIf (fun j => befN d j l[k].i) (l[k] :: l.drop (k + 1)) = 0 := by
    have : sumIf (fun j => befN d j l[k].i) (l[k] :: l.drop (k + 1)) ≤ sumIf (fun _ => false) (l[k] :: l.drop (k + 1)) := sumIf_mono (fun p hp hb => by
      rcases List.mem_cons.1 hp with rfl | hp
      · rw [bef_irr] at hb; exact absurd hb (by decide)
      · rw [bef_asym (h2.1 p hp)] at hb; exact absurd hb (by decide))
    have e0 := sumIf_none (l[k] :: l.drop (k + 1))
    omega
  rw [e1, e2, e3, Nat.add_zero]
theorem quantD_is {d : Nat} {r l : List Pr} (hp : l.Perm r) (hs : l.Pairwise fun a b => befN d a.i b.i = true) {t k : Nat} (hk : k < l.length) (h1 : totP (l.take k) < t) (h2 : t ≤ totP (l.take k) + l[k].c) : quantD d r t = hiN d l[k].i := by
  have ha : ∀ i, ahead d r i = ahead d l i := fun i => sumIf_perm hp.symm
  have hin : l[k] ∈ r := hp.mem_iff.1 (List.getElem_mem hk)
  have hpk : pickP d r t l[k] = true := by
    unfold pickP
    rw [ha, ahead_sorted hs k hk, decide_eq_true h1, decide_eq_true h2]
    rfl
  unfold quantD
  cases hf : r.find? (pickP d r t) with
  | none => exact absurd hpk (by simpa using List.find?_eq_none.1 hf _ hin)
  | some p =>
    have hpp := List.find?_some hf
    have hpin := List.mem_of_find?_eq_some hf
    obtain ⟨j, hj, rfl⟩ := List.getElem_of_mem (hp.mem_iff.2 hpin)
    unfold pickP at hpp
    rw [ha, ahead_sorted hs j hj, Bool.and_eq_true, decide_eq_true_eq, decide_eq_true_eq] at hpp
    have hmono : ∀ a b, a < b → (hb : b ≤ l.length) → (ha : a < l.length) → totP (l.take a) + l[a].c ≤ totP (l.take b) := fun a b hab hb hal => by
      have e1 : totP (l.take (a + 1)) = totP (l.take a) + l[a].c := by rw [List.take_succ_eq_append_getElem hal, totP_app]; simp [totP]
      have e2 : l.take (a + 1) = (l.take b).take (a + 1) := by rw [List.take_take, Nat.min_eq_left (by omega)]
      have e3 := take_tot (l.take b) (a + 1)
      rw [← e2, e1] at e3
      exact e3
    rcases Nat.lt_trichotomy j k with h | h | h
    · have := hmono j k h (by omega) hj; omega
    · subst h; rfl
    · have := hmono k j h (by omega) hk; omega
theorem anc_sum {r : List Pr} {top : Int} (hr : rises r) {L : Nat} (hl : low r top L) (x : Int) (d : Nat) (hx : ∀ e, 1 ≤ e → e ≤ d → 2 * (x / ((2 ^ e : Nat) : Int)) < top) :
    sumIf (fun i => decide (∃ e, e < d ∧ i = x / ((2 ^ (e + 1) : Nat) : Int))) r ≤ d * L := by
  induction d with
  | zero =>
    have : sumIf (fun i => decide (∃ e, e < 0 ∧ i = x / ((2 ^ (e + 1) : Nat) : Int))) r ≤ sumIf (fun _ => false) r := sumIf_mono (fun p _ h => by
      rw [decide_eq_true_eq] at h
      obtain ⟨e, h1, -⟩ := h
      omega)
    have e0 := sumIf_none r
    omega
  | succ d ih =>
    have h1 := ih (fun e h1 h2 => hx e h1 (by omega))
    have h2 : sumIf (fun i => decide (∃ e, e < d + 1 ∧ i = x / ((2 ^ (e + 1) : Nat) : Int))) r ≤ sumIf (fun i => decide (∃ e, e < d ∧ i = x / ((2 ^ (e + 1) : Nat) : Int))) r + sumIf (fun i => decide (i = x / ((2 ^ (d + 1) : Nat) : Int))) r := sumIf_or (fun p _ h => by
      rw [decide_eq_true_eq] at h
      obtain ⟨e, h1, h2⟩ := h
      by_cases he : e < d
      · left; rw [decide_eq_true_eq]; exact ⟨e, he, h2⟩
      · right
        obtain rfl : e = d := by omega
        rw [decide_eq_true_eq]; exact h2)
    rw [sumIf_one] at h2
    have h3 := (low_cnt hr).1 hl _ (hx (d + 1) (by omega) (Nat.le_refl _))
    rw [Nat.add_mul, Nat.one_mul]
    omega
/-- What a digest answers is near. -/
theorem near {d : Nat} (hd : d ≤ 24) {r : List Pr} {l : List Vl} (h : Nodes r (2 * ((2 ^ d : Nat) : Int))) (k : fits d r l) {L : Nat} (hl : low r (2 * ((2 ^ d : Nat) : Int)) L) {p : Pr} (hp : p ∈ r) {t : Nat} (h1 : ahead d r p.i < t) (h2 : t ≤ ahead d r p.i + p.c) :
    t ≤ upS (hiN d p.i) l ∧ upS (hiN d p.i - 1) l ≤ t + d * L := by
  have hb := top_small hd
  have hpn : isNode d p.i := h.ix p hp
  obtain ⟨p1, p2, p3, p4⟩ := rng_in hd hpn
  constructor
  · refine Nat.le_trans ?_ (k (hiN d p.i)).1
    refine Nat.le_trans h2 ?_
    have e : sumIf (fun j => befN d j p.i) r + sumIf (fun j => decide (j = p.i)) r ≤ rankLo d r (hiN d p.i) := by
      unfold rankLo
      have key : ∀ r : List Pr, sumIf (fun j => befN d j p.i) r + sumIf (fun j => decide (j = p.i)) r ≤ sumIf (fun i => decide (hiN d i ≤ hiN d p.i)) r := fun r => by
        induction r with
        | nil => exact Nat.le_refl _
        | cons q r ih =>
          rw [sumIf_cons, sumIf_cons, sumIf_cons]
          by_cases hq : q.i = p.i
          · rw [hq, bef_irr, decide_eq_true (rfl : p.i = p.i), decide_eq_true (Int.le_refl (hiN d p.i))]
            simp
            omega
          · rw [decide_eq_false hq]
            cases hbq : befN d q.i p.i with
            | false => simp; omega
            | true =>
              unfold befN at hbq
              rw [decide_eq_true_eq] at hbq
              rw [decide_eq_true (show hiN d q.i ≤ hiN d p.i by omega)]
              simp
              omega
      exact key r
    rw [sumIf_one, cntI_of_mem h.up hp] at e
    exact e
  · refine Nat.le_trans (k (hiN d p.i - 1)).2 ?_
    unfold rankHi
    have hx : ∀ e, 1 ≤ e → e ≤ d → 2 * ((((2 ^ d : Nat) : Int) + hiN d p.i) / ((2 ^ e : Nat) : Int)) < 2 * ((2 ^ d : Nat) : Int) := fun e he _ => by
      have h2e : 2 ≤ 2 ^ e := by
        have : 2 ^ 1 ≤ 2 ^ e := Nat.pow_le_pow_right (by omega) he
        simpa using this
      have : (((2 ^ d : Nat) : Int) + hiN d p.i) / ((2 ^ e : Nat) : Int) < ((2 ^ d : Nat) : Int) := by
        refine Int.ediv_lt_of_lt_mul (by omega) ?_
        have : ((2 ^ d : Nat) : Int) * 2 ≤ ((2 ^ d : Nat) : Int) * ((2 ^ e : Nat) : Int) := Int.mul_le_mul_of_nonneg_left (by omega) (by omega)
        omega
      omega
    have h3 := anc_sum h.up hl (((2 ^ d : Nat) : Int) + hiN d p.i) d hx
    have h4 : sumIf (fun i => decide (loN d i ≤ hiN d p.i - 1)) r ≤ sumIf (fun j => befN d j p.i) r + sumIf (fun i => decide (∃ e, e < d ∧ i = (((2 ^ d : Nat) : Int) + hiN d p.i) / ((2 ^ (e + 1) : Nat) : Int))) r := sumIf_or (fun q hq hg => by
      rw [decide_eq_true_eq] at hg
      have hqn : isNode d q.i := h.ix q hq
      obtain ⟨q1, q2, q3, q4⟩ := rng_in hd hqn
      by_cases hlt : hiN d q.i < hiN d p.i
      · left; unfold befN; rw [decide_eq_true_eq]; exact .inl hlt
      · right
        rw [decide_eq_true_eq]
        have hlv := lev_le hd hqn
        have hs : 2 ≤ szN d q.i := by omega
        have hle : lev q.i < d := by
          rcases Nat.lt_or_ge (lev q.i) d with h | h
          · exact h
          · exfalso
            unfold szN at hs
            rw [show d - lev q.i = 0 from by omega] at hs
            simp at hs
        refine ⟨d - lev q.i - 1, by omega, ?_⟩
        rw [show d - lev q.i - 1 + 1 = d - lev q.i from by omega]
        have hz : ((2 ^ (d - lev q.i) : Nat) : Int) = szN d q.i := rfl
        rw [hz]
        have hlo : loN d q.i = q.i * szN d q.i - ((2 ^ d : Nat) : Int) := if_pos hqn
        generalize szN d q.i = s at *
        refine Int.le_antisymm ((Int.le_ediv_iff_mul_le (by omega)).2 (by omega)) (Int.lt_add_one_iff.1 (Int.ediv_lt_of_lt_mul (by omega) ?_))
        rw [Int.add_mul, Int.one_mul]
        omega)
    unfold ahead at h1
    omega
end Go.Proofs.Ytgnbabkafobeoaa
