/-
  What stays so of a digest's nodes: they are few; a Put that may be out of range; the document's Good of nodes (layers 16, 17). Conditions: the form's own reach.
-/
import Derived.Test.YtgnbabkafobeoaaDgBuild
import Derived.Test.YtgnbabkafobeoaaDgJoin
import Derived.Test.YtgnbabkafobeoaaPlainFew
namespace Go.Proofs.Ytgnbabkafobeoaa
open Go.RowKit

def DgD.few (D : DgD) : Prop := low D.row D.top (totP D.row / D.factor) ∧ D.row.length ≤ 4 * D.factor
theorem DgD.new_few (d f : Nat) : (DgD.new d f).few := ⟨fun p hp => by simp [DgD.new] at hp, by simp [DgD.new]⟩
theorem DgD.put_few {D : DgD} (h : D.ok) (hf : D.few) {x : Int} (c : Nat) (h0 : 0 ≤ x) (h1 : x < ((2 ^ D.depth : Nat) : Int)) : (D.put x c).few := by
  obtain ⟨e1, e2, e3⟩ := D.ends_same x x
  have hp := two_d h.d1 h.d2
  have hN : Nodes (refAdd D.row (((2 ^ D.depth : Nat) : Int) + x) c) D.top := h.nodes.add (by omega) (by unfold DgD.top; omega) c
  have hl := add_leaf_low (i := ((2 ^ D.depth : Nat) : Int) + x) hf.1 h.nodes.up c (by unfold DgD.top; omega)
  have ht := tidyR_few h.f1 hN hl
  have et : (D.put x c).top = D.top := by show 2 * ((2 ^ (D.ends x x).depth : Nat) : Int) = _; rw [e1]; rfl
  have ef : (D.put x c).factor = D.factor := e2
  unfold DgD.few
  rw [et, ef]
  exact ht
theorem refAdd_cnt {l : List Pr} (hr : rises l) (i : Int) (c : Nat) (j : Int) : cntI (refAdd l i c) j = cntI l j + if i = j then c else 0 := by
  obtain ⟨A, M, B, h⟩ := parted hr i
  rw [refAdd, h.filter_lt, h.filter_gt, cntI_app, cntI_app]
  have e : cntI l j = cntI A j + cntI M j + cntI B j := by rw [h.eq, cntI_app, cntI_app]
  rw [e]
  have hm : cntI l i = cntI M i := h.cnt
  by_cases hj : i = j
  · subst hj
    rw [if_pos rfl]
    have hA : cntI A i = 0 := cntI_none (fun p hp => by have := h.lo p hp; omega)
    have hB : cntI B i = 0 := cntI_none (fun p hp => by have := h.hi p hp; omega)
    have h1 : cntI (if 0 < cntI l i + c then [⟨i, cntI l i + c⟩] else []) i = cntI l i + c := by
      split
      · simp [cntI]
      · simp [cntI] at *; omega
    rw [h1]
    omega
  · rw [if_neg hj]
    have h1 : cntI (if 0 < cntI l i + c then [⟨i, cntI l i + c⟩] else []) j = 0 := cntI_none (fun p hp => by
      split at hp
      · simp at hp; subst hp; exact hj
      · simp at hp)
    have h2 : cntI M j = 0 := cntI_none (fun p hp => by
      rcases h.mid with h | ⟨c0, h⟩
      · rw [h] at hp; simp at hp
      · rw [h] at hp; simp at hp; subst hp; exact hj)
    rw [h1, h2]
    omega
theorem addAll_cnt {top : Int} (j : Int) : ∀ (o : List Pr) {r : List Pr}, Nodes r top → (∀ p ∈ o, 1 ≤ p.i ∧ p.i < top) → cntI (addAll r o) j = cntI r j + cntI o j
  | [], r, _, _ => by simp [addAll, cntI]
  | p :: o, r, h, hv => by
    obtain ⟨g1, g2⟩ := hv p (by simp)
    have e : addAll r (p :: o) = addAll (refAdd r p.i p.c) o := rfl
    rw [e, addAll_cnt j o (h.add g1 g2 p.c) (fun u hu => hv u (by simp [hu])), refAdd_cnt h.up]
    simp only [cntI, List.map_cons, List.sum_cons]
    omega
theorem low_cnt {r : List Pr} {top : Int} {L : Nat} (hr : rises r) : low r top L ↔ ∀ i, 2 * i < top → cntI r i ≤ L := by
  constructor
  · intro h i hi
    by_cases hx : ∃ p ∈ r, p.i = i
    · obtain ⟨p, hp, rfl⟩ := hx
      rw [cntI_of_mem hr hp]
      exact h p hp hi
    · rw [cntI_none (fun p hp e => hx ⟨p, hp, e⟩)]
      exact Nat.zero_le _
  · intro h p hp hi
    have := h p.i hi
    rw [cntI_of_mem hr hp] at this
    exact this
theorem div_two (a b f : Nat) : a / f + b / f ≤ (a + b) / f := by
  rcases Nat.eq_zero_or_pos f with rfl | hf
  · simp
  · rw [Nat.le_div_iff_mul_le hf, Nat.add_mul]
    have := Nat.div_mul_le_self a f
    have := Nat.div_mul_le_self b f
    omega
theorem DgD.join_same (D O : DgD) : (D.join O).depth = D.depth ∧ (D.join O).factor = D.factor := by
  obtain ⟨e1, e2, e3⟩ := D.ends_same O.least O.most
  unfold DgD.join
  split
  · exact ⟨rfl, rfl⟩
  · exact ⟨e1, e2⟩
theorem DgD.join_row {D O : DgD} (h : D.ok) (k : O.ok) (hp : O.depth = D.depth ∧ O.factor = D.factor) (hn : totP D.row + totP O.row ≤ 9223372036854775807) (hl : D.row.length + O.row.length ≤ 1000) :
    (D.join O).ok ∧ totP (D.join O).row = totP D.row + totP O.row ∧ (D.few → O.few → (D.join O).few) := by
  have hj := D.join_same O
  unfold DgD.join at hj ⊢
  split
  · next hz => exact ⟨h, by omega, fun g _ => g⟩
  · next hz =>
    rw [if_neg hz] at hj
    have hix : ∀ p ∈ O.row, 1 ≤ p.i ∧ p.i < D.top := fun x hx => by
      have h := k.nodes.ix x hx
      unfold DgD.top at h ⊢
      rw [← hp.1]
      exact h
    obtain ⟨g1, g2, g3⟩ := addAll_ok O.row h.nodes hix
    obtain ⟨t1, t2, t3⟩ := tidyR_ok (f := D.factor) g1
    obtain ⟨e1, e2, e3⟩ := D.ends_same O.least O.most
    have et : ({ D.ends O.least O.most with row := tidyR D.factor (addAll D.row O.row) } : DgD).top = D.top := by
      show 2 * ((2 ^ (D.ends O.least O.most).depth : Nat) : Int) = _
      rw [e1]
      rfl
    refine ⟨⟨by show 1 ≤ (D.ends _ _).depth; rw [e1]; exact h.d1, by show (D.ends _ _).depth ≤ 24; rw [e1]; exact h.d2, by show 1 ≤ (D.ends _ _).factor; rw [e2]; exact h.f1, by show (D.ends _ _).factor ≤ 64; rw [e2]; exact h.f2, by rw [et]; exact t1, ?_, ?_⟩, ?_, ?_⟩
    · show totP (tidyR D.factor (addAll D.row O.row)) ≤ _; omega
    · show (tidyR D.factor (addAll D.row O.row)).length ≤ _; omega
    · show totP (tidyR D.factor (addAll D.row O.row)) = _; omega
    · intro fd fo
      have hlow : low (addAll D.row O.row) D.top (totP (addAll D.row O.row) / D.factor) := by
        rw [low_cnt g1.up, g2]
        intro i hi
        rw [addAll_cnt i O.row h.nodes hix]
        have h1 := (low_cnt h.nodes.up).1 fd.1 i hi
        have h2 := (low_cnt k.nodes.up).1 fo.1 i (by unfold DgD.top at hi ⊢; rw [hp.1]; exact hi)
        rw [hp.2] at h2
        exact Nat.le_trans (Nat.add_le_add h1 h2) (div_two _ _ _)
      have ht := tidyR_few h.f1 g1 hlow
      unfold DgD.few
      rw [et, show ({ D.ends O.least O.most with row := tidyR D.factor (addAll D.row O.row) } : DgD).factor = D.factor from e2]
      exact ht
theorem DgD.vals_few : ∀ (l : List Vl) {D : DgD}, D.ok → D.few → (∀ v ∈ l, okVD D.depth v) → totP D.row + sumS l ≤ 9223372036854775807 → D.row.length + l.length ≤ 1000 → (D.valsK l).few
  | [], _, _, h, _, _, _ => h
  | v :: l, D, h, hf, hv, ht, hl => by
    obtain ⟨g1, g2, g3, g4⟩ := hv v (by simp)
    simp only [sumS, List.length_cons] at ht hl ⊢
    obtain ⟨a1, a2, a3, a4, a5⟩ := DgD.put_ok h g3 g4 (c := v.n) (by omega) (by omega)
    have e : D.valsK (v :: l) = (D.put v.x v.n).valsK l := rfl
    rw [e]
    exact DgD.vals_few l a1 (DgD.put_few h hf v.n g3 g4) (fun u hu => by rw [a2]; exact hv u (by simp [hu])) (by omega) (by omega)
theorem valsDg_few {d f : Nat} {l : List Vl} (h : okDg d f l) : (valsDg d f l).few := by
  obtain ⟨h1, h2, h3, h4⟩ := h
  have hb := sumS_bound l h4
  exact DgD.vals_few l (D := DgD.new d f) (new_ok (by omega) (by omega) (by omega) (by omega)) (DgD.new_few d f) h4 (by simp only [DgD.new, totP, List.map_nil, List.sum_nil]; omega) (by simp only [DgD.new, List.length_nil]; omega)
set_option maxRecDepth 100000 in
set_option maxHeartbeats 1000000 in
theorem dg_put_rangeN (w : World) (p s : Nat) (rv : Value) (D : DgD) (h : Dg w p s rv D) (hok : D.ok) (x : Int) (hx : x < 0 ∨ ((2 ^ D.depth : Nat) : Int) ≤ x) (hx2 : x < 9223372036854775808) (c : Nat) (hc : 1 ≤ c) : Calls Try.prog 18 #[.pointer (some ⟨p, 0, none⟩), .int .i64 x, .int .u64 (c : Nat)] w fun e w' => e = .returned (.int .i64 7) ∧ Chg [] w w' := by
  obtain ⟨-, -, c2, -, -, -⟩ := h.cells
  have HL := Lib.hid (tree_leaf_out w D.depth (2 ^ D.depth) hok.d1 hok.d2 rfl x hx hx2)
  have d0 : ((c : Int) == 0) = false := by rw [beq_eq_false_iff_ne]; omega
  clear h hok hx hx2 hc
  go_enter Try.func18, Try.ntmps18
  go_wp2_with fail
  refine HL.out.mono ?_
  rintro e w1 ⟨rfl, hc1⟩
  go_wp2_with fail
  go_ret
  exact ⟨rfl, hc1⟩
/-- A Put of any value. -/
theorem dg_put_any (w : World) (p s : Nat) (rv : Value) (D : DgD) (h : Dg w p s rv D) (hok : D.ok) (x : Int) (hx : x < 9223372036854775808) (c : Nat) (hc1 : 1 ≤ c) (hc : totP D.row + c ≤ 9223372036854775807) (hl : D.row.length + 1 ≤ 1000) :
    Calls Try.prog 18 #[.pointer (some ⟨p, 0, none⟩), .int .i64 x, .int .u64 (c : Nat)] w fun e w' => ∃ (k : Int) (s' : Nat) (rv' : Value) (D' : DgD), e = .returned (.int .i64 k) ∧ Dg w' p s' rv' D' ∧ Mv (fpD p s rv) w (fpD p s' rv') w' ∧ D'.ok ∧ D'.depth = D.depth ∧ D'.factor = D.factor ∧ totP D'.row ≤ totP D.row + c ∧ (D.few → D'.few) := by
  by_cases h0 : 0 ≤ x ∧ x < ((2 ^ D.depth : Nat) : Int)
  · refine (dg_put w p s rv D h hok x c h0.1 h0.2 hc1 hc hl).mono ?_
    rintro e w' ⟨rfl, s', rv', h1, h2⟩
    obtain ⟨a1, a2, a3, a4, -⟩ := DgD.put_ok hok h0.1 h0.2 hc hl
    exact ⟨0, s', rv', _, rfl, h1, h2, a1, a2, a3, by omega, fun hf => DgD.put_few hok hf c h0.1 h0.2⟩
  · refine (dg_put_rangeN w p s rv D h hok x (by omega) hx c hc1).mono ?_
    rintro e w' ⟨rfl, h1⟩
    exact ⟨7, s, rv, D, rfl, h.chg h1 (by simp), Mv.of_chg h1.nil, hok, rfl, rfl, by omega, fun hf => hf⟩
set_option maxRecDepth 100000 in
set_option maxHeartbeats 1000000 in
theorem ref16_good (w : World) (d P : Nat) (hd : d ≤ 24) (hP : P = 2 ^ d) (v : Int) : Calls Try.prog 22 #[.int .i64 (d : Nat), .int .i64 v] w fun e w' => e = .returned (.bool (decide (1 ≤ v) && decide (v < 2 * (P : Int)))) ∧ w = w' := by
  have HPB := Lib.hid (fun k (hk : k ≤ d) => show 2 ^ k ≤ 16777216 from Nat.le_trans (Nat.pow_le_pow_right (by omega) (by omega : k ≤ 24)) (by decide))
  have HP := Lib.hid hP
  clear hP
  go_enter Try.func22, Try.ntmps22
  go_wp2
  go_loopw [5, 6] (fun l i wx => ∃ k L : Nat, k ≤ d ∧ i = .int .i64 (k : Nat) ∧ l = .int .i64 (2 * (L : Nat)) ∧ Hid (L = 2 ^ k) ∧ wx = w) (fun _ i _ => d - (intOf i).toNat)
  case atStart => exact ⟨0, 1, Nat.zero_le _, rfl, rfl, Lib.hid rfl, rfl⟩
  case round =>
    obtain ⟨k, L, hk, rfl, rfl, HL, rfl⟩ := hrel
    by_cases hlt : k < d
    · have hb := HPB.out k hk
      rw [← HL.out] at hb
      have HL2 := Lib.hid (show 2 * L = 2 ^ (k + 1) from by rw [Nat.pow_succ, HL.out]; omega)
      go_wp2
      exact ⟨⟨k + 1, 2 * L, by omega, by go_num, by go_num, HL2, by trivial⟩, by simp [intOf]; omega⟩
    · obtain rfl : k = d := by omega
      obtain rfl : L = P := by rw [HL.out, HP.out]
      by_cases h1 : 1 ≤ v
      · have e1 : decide ((1 : Int) ≤ v) = true := decide_eq_true h1
        go_wp2
        go_ret
        first | done | (refine ⟨?_, rfl⟩; simp [h1])
      · have e1 : decide ((1 : Int) ≤ v) = false := decide_eq_false h1
        go_wp2
        go_ret
        first | done | (refine ⟨?_, rfl⟩; simp)
end Go.Proofs.Ytgnbabkafobeoaa
