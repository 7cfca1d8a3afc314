/-
  A digest of given values, plainly: it tells no more, and no less, than there are; its ends; how near its answers are. Conditions: none.
-/
import Derived.Test.YtgnbabkafobeoaaDgQuant
import Derived.Test.YtgnbabkafobeoaaDgBuild
namespace Go.Proofs.Ytgnbabkafobeoaa

theorem put_fits {D : DgD} (h : D.ok) {m : List Vl} (k : fits D.depth D.row m) {x : Int} (h0 : 0 ≤ x) (h1 : x < ((2 ^ D.depth : Nat) : Int)) (c : Nat) : fits D.depth (D.put x c).row (m ++ [⟨x, c⟩]) := by
  have hb := top_small h.d2
  have hN : Nodes (refAdd D.row (((2 ^ D.depth : Nat) : Int) + x) c) (2 * ((2 ^ D.depth : Nat) : Int)) := h.nodes.add (by omega) (by unfold DgD.top; omega) c
  exact fits_tidy h.d2 hN (fits_add h.d2 h.nodes.up k h0 h1 c)
theorem put_ends {D : DgD} {m : List Vl} (ht : totP D.row = 0 ↔ m = []) (k1 : D.least = loV m) (k2 : D.most = hiV m) (x : Int) (c : Nat) : (D.put x c).least = loV (m ++ [⟨x, c⟩]) ∧ (D.put x c).most = hiV (m ++ [⟨x, c⟩]) := by
  have e1 : (D.put x c).least = (D.ends x x).least := rfl
  have e2 : (D.put x c).most = (D.ends x x).most := rfl
  rw [e1, e2, loV_app, hiV_app]
  have e3 : loV [⟨x, c⟩] = x := rfl
  have e4 : hiV [⟨x, c⟩] = x := rfl
  rw [e3, e4]
  unfold DgD.ends
  by_cases hz : totP D.row = 0
  · rw [if_pos hz, if_pos (ht.1 hz), if_pos (ht.1 hz)]
    exact ⟨rfl, rfl⟩
  · have hm : m ≠ [] := fun e => hz (ht.2 e)
    rw [if_neg hz, if_neg hm, if_neg hm, if_neg (by simp), if_neg (by simp)]
    exact ⟨by rw [← k1], by rw [← k2]⟩
/-- What is so of a digest of values. -/
structure DgD.of (D : DgD) (m : List Vl) : Prop where
  fit : fits D.depth D.row m
  nil : totP D.row = 0 ↔ m = []
  least : D.least = loV m
  most : D.most = hiV m
theorem DgD.of_new (d f : Nat) : (DgD.new d f).of [] := ⟨fits_nil d, by simp [DgD.new, totP], rfl, rfl⟩
theorem DgD.of_put {D : DgD} (h : D.ok) {m : List Vl} (k : D.of m) {x : Int} {c : Nat} (h0 : 0 ≤ x) (h1 : x < ((2 ^ D.depth : Nat) : Int)) (hc1 : 1 ≤ c) (hc : totP D.row + c ≤ 9223372036854775807) (hl : D.row.length + 1 ≤ 1000) : (D.put x c).of (m ++ [⟨x, c⟩]) := by
  obtain ⟨a1, a2, a3, a4, -⟩ := DgD.put_ok h h0 h1 hc hl
  obtain ⟨e1, e2⟩ := put_ends k.nil k.least k.most x c
  exact ⟨by rw [a2]; exact put_fits h k.fit h0 h1 c, ⟨fun e => by omega, fun e => by simp at e⟩, e1, e2⟩
theorem DgD.of_vals : ∀ (l : List Vl) {D : DgD} {m : List Vl}, D.ok → D.of m → (∀ v ∈ l, okVD D.depth v) → totP D.row + sumS l ≤ 9223372036854775807 → D.row.length + l.length ≤ 1000 → (D.valsK l).of (m ++ l)
  | [], _, _, _, h, _, _, _ => by rw [List.append_nil]; exact h
  | v :: l, D, m, h, hf, hv, ht, hl => by
    obtain ⟨g1, g2, g3, g4⟩ := hv v (by simp)
    simp only [sumS, List.length_cons] at ht hl ⊢
    obtain ⟨a1, a2, a3, a4, a5⟩ := DgD.put_ok h g3 g4 (c := v.n) (by omega) (by omega)
    have e : D.valsK (v :: l) = (D.put v.x v.n).valsK l := rfl
    have e2 : m ++ v :: l = (m ++ [v]) ++ l := by simp
    rw [e, e2]
    exact DgD.of_vals l a1 (DgD.of_put h hf g3 g4 g1 (by omega) (by omega)) (fun u hu => by rw [a2]; exact hv u (by simp [hu])) (by omega) (by omega)
theorem valsDg_of {d f : Nat} {l : List Vl} (h : okDg d f l) : (valsDg d f l).of l := by
  obtain ⟨h1, h2, h3, h4⟩ := h
  have hb := sumS_bound l h4
  have := DgD.of_vals l (D := DgD.new d f) (m := []) (new_ok (by omega) (by omega) (by omega) (by omega)) (DgD.of_new d f) h4 (by simp only [DgD.new, totP, List.map_nil, List.sum_nil]; omega) (by simp only [DgD.new, List.length_nil]; omega)
  rw [List.nil_append] at this
  exact this
/-- Two digests joined are of all values. -/
theorem DgD.of_join {D O : DgD} (h : D.ok) (ho : O.ok) (hp : O.depth = D.depth ∧ O.factor = D.factor) {a b : List Vl} (k : D.of a) (k2 : O.of b) : (D.join O).of (a ++ b) := by
  have hix : ∀ p ∈ O.row, 1 ≤ p.i ∧ p.i < 2 * ((2 ^ D.depth : Nat) : Int) := fun x hx => by
    have h := ho.nodes.ix x hx
    unfold DgD.top at h
    rw [← hp.1]
    exact h
  obtain ⟨g1, g2, -⟩ := addAll_ok O.row (top := 2 * ((2 ^ D.depth : Nat) : Int)) h.nodes hix
  obtain ⟨j1, j2⟩ := D.join_same O
  by_cases hz : totP O.row = 0
  · have hb := k2.nil.1 hz
    have e : D.join O = D := if_pos hz
    rw [e, hb, List.append_nil]
    exact k
  · have hb : b ≠ [] := fun e => hz (k2.nil.2 e)
    have e : D.join O = { D.ends O.least O.most with row := tidyR D.factor (addAll D.row O.row) } := if_neg hz
    obtain ⟨t1, t2, -⟩ := tidyR_ok (f := D.factor) g1
    have er : (D.join O).row = tidyR D.factor (addAll D.row O.row) := by rw [e]
    refine ⟨?_, ?_, ?_, ?_⟩
    · rw [j1, er]
      have hf2 := k2.fit
      rw [hp.1] at hf2
      exact fits_tidy h.d2 g1 (fits_addAll h.nodes hix k.fit hf2)
    · rw [er, t2, g2]
      exact ⟨fun e => by omega, fun e => absurd (List.append_eq_nil_iff.1 e).2 hb⟩
    · have e1 : (D.join O).least = (D.ends O.least O.most).least := by rw [e]
      rw [e1, loV_app, ← k.least, ← k2.least]
      unfold DgD.ends
      by_cases ha : totP D.row = 0
      · rw [if_pos ha, if_pos (k.nil.1 ha)]
      · rw [if_neg ha, if_neg (fun e => ha (k.nil.2 e)), if_neg hb]
    · have e1 : (D.join O).most = (D.ends O.least O.most).most := by rw [e]
      rw [e1, hiV_app, ← k.most, ← k2.most]
      unfold DgD.ends
      by_cases ha : totP D.row = 0
      · rw [if_pos ha, if_pos (k.nil.1 ha)]
      · rw [if_neg ha, if_neg (fun e => ha (k.nil.2 e)), if_neg hb]
theorem prefix_at (l : List Pr) {t : Nat} (h1 : 1 ≤ t) (h2 : t ≤ totP l) : ∃ k, ∃ h : k < l.length, totP (l.take k) < t ∧ t ≤ totP (l.take k) + l[k].c := by
  have key : ∀ n, n ≤ l.length → t ≤ totP (l.take n) → ∃ k, ∃ h : k < l.length, totP (l.take k) < t ∧ t ≤ totP (l.take k) + l[k].c := fun n => by
    induction n with
    | zero => intro _ h; simp [totP] at h; omega
    | succ n ih =>
      intro hn h
      by_cases hp : t ≤ totP (l.take n)
      · exact ih (by omega) hp
      · refine ⟨n, by omega, by omega, ?_⟩
        rw [List.take_succ_eq_append_getElem (by omega), totP_app] at h
        have : totP [l[n]] = l[n].c := by simp [totP]
        omega
  exact key l.length (Nat.le_refl _) (by rw [List.take_length]; exact h2)
theorem quantD_pick {d : Nat} {r : List Pr} (hr : rises r) {t : Nat} (h1 : 1 ≤ t) (h2 : t ≤ totP r) : ∃ p ∈ r, quantD d r t = hiN d p.i ∧ ahead d r p.i < t ∧ t ≤ ahead d r p.i + p.c := by
  have hs := List.pairwise_mergeSort (le := fun a b : Pr => !befN d b.i a.i) (fun a b c g1 g2 => by
    simp only [Bool.not_eq_true', befN, decide_eq_false_iff_not] at g1 g2 ⊢
    omega) (fun a b => by
    cases hx : befN d b.i a.i with
    | false => rfl
    | true => rw [bef_asym hx]; rfl) r
  have hp := List.mergeSort_perm r (fun a b : Pr => !befN d b.i a.i)
  generalize r.mergeSort (fun a b : Pr => !befN d b.i a.i) = l at *
  have hst := sorted_strict hp hr (hs.imp (fun {a b} h => by simpa using h))
  have htl : totP l = totP r := by rw [← sumIf_tot, sumIf_perm hp, sumIf_tot]
  obtain ⟨k, hk, g1, g2⟩ := prefix_at l h1 (by omega)
  refine ⟨l[k], hp.mem_iff.1 (List.getElem_mem hk), quantD_is hp hst hk g1 g2, ?_⟩
  have e : ahead d r l[k].i = totP (l.take k) := by
    rw [← ahead_sorted hst k hk]
    exact sumIf_perm hp.symm
  rw [e]
  exact ⟨g1, g2⟩
/-- How near an answer is. -/
theorem DgD.near {D : DgD} (h : D.ok) (hf : D.few) {m : List Vl} (k : D.of m) {t : Nat} (h1 : 1 ≤ t) (h2 : t ≤ totP D.row) :
    0 ≤ quantD D.depth D.row t ∧ quantD D.depth D.row t < 16777216 ∧ t ≤ upS (quantD D.depth D.row t) m ∧ upS (quantD D.depth D.row t - 1) m ≤ t + D.depth * (totP D.row / D.factor) := by
  obtain ⟨p, hp, e, g1, g2⟩ := quantD_pick (d := D.depth) h.nodes.up h1 h2
  rw [e]
  have hb := hiN_bounds h.d2 p.i
  obtain ⟨n1, n2⟩ := Go.Proofs.Ytgnbabkafobeoaa.near h.d2 (l := m) h.nodes k.fit hf.1 hp g1 g2
  exact ⟨hb.1, hb.2.1, n1, n2⟩
end Go.Proofs.Ytgnbabkafobeoaa
