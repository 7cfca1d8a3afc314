/-
  Plain law: over all ways in which the coins could fall the ranks together are what they should be. Conditions: none.
-/
import Derived.Test.YtbaobiniianamaaPlainReqJ
namespace Go.Proofs.Ytbaobiniianamaa

def lens (l : List (List Int)) : List Nat := l.map List.length
theorem step_lens {W : Nat} {c1 c2 : Nat → Bool} {h u : Nat} {l1 l2 : List (List Int)} (hl : lens l1 = lens l2) (hh : h < l1.length) :
    (stepR W c1 h (u, l1)).1 = (stepR W c2 h (u, l2)).1 ∧ lens (stepR W c1 h (u, l1)).2 = lens (stepR W c2 h (u, l2)).2 := by
  have hll : l1.length = l2.length := by have := congrArg List.length hl; simpa [lens] using this
  obtain ⟨A1, r1, B1, rfl, rfl⟩ := split_at hh
  obtain ⟨A2, r2, B2, rfl, hA⟩ := split_at (show A1.length < l2.length by omega)
  simp only [lens, List.map_append, List.map_cons] at hl
  obtain ⟨e1, e2⟩ := List.append_inj hl (by simp [hA])
  simp only [List.cons.injEq] at e2
  obtain ⟨e2, e3⟩ := e2
  rw [stepR_split]
  rw [← hA, stepR_split, e2]
  split
  · exact ⟨rfl, by simp [lens, e1, e2, e3]⟩
  · next hlt =>
    refine ⟨rfl, ?_⟩
    have e4 : (halveL ((sortL r1).drop (keepN r2.length (W / 2))) (c1 u)).length = (halveL ((sortL r2).drop (keepN r2.length (W / 2))) (c2 u)).length := by
      have h2 := half_len (W := W) (c1 u) r1 e2 rfl (by omega)
      have h3 := half_len (W := W) (c2 u) r2 rfl rfl (by omega)
      rw [h2, h3]
    have e5 : (B1.headD []).length = (B2.headD []).length := by
      cases B1 <;> cases B2 <;> simp at e3 ⊢
      exact e3.1
    have e6 : B1.tail.map List.length = B2.tail.map List.length := by
      rw [List.map_tail, List.map_tail, e3]
    simp only [lens, List.map_append, List.map_cons, List.length_append, List.length_take, (sort_ok r1).2.2, (sort_ok r2).2.2, e1, e2, e4, e5, e6]

def sumTo : Nat → (Nat → Nat) → Nat
  | 0, _ => 0
  | n + 1, f => sumTo n f + f n
theorem sumTo_congr {f g : Nat → Nat} : ∀ n, (∀ i, i < n → f i = g i) → sumTo n f = sumTo n g
  | 0, _ => rfl
  | n + 1, h => by rw [sumTo, sumTo, sumTo_congr n (fun i hi => h i (by omega)), h n (by omega)]
theorem sumTo_add (f : Nat → Nat) (a : Nat) : ∀ b, sumTo (a + b) f = sumTo a f + sumTo b (fun i => f (i + a))
  | 0 => rfl
  | b + 1 => by rw [← Nat.add_assoc, sumTo, sumTo_add f a b, sumTo, Nat.add_comm a b]; omega
theorem sumTo_two (f g : Nat → Nat) : ∀ n, sumTo n f + sumTo n g = sumTo n (fun i => f i + g i)
  | 0 => rfl
  | n + 1 => by have := sumTo_two f g n; simp only [sumTo]; omega
theorem sumTo_const (f : Nat → Nat) (c : Nat) : ∀ n, (∀ i, i < n → f i = c) → sumTo n f = n * c
  | 0, _ => by simp [sumTo]
  | n + 1, h => by rw [sumTo, sumTo_const f c n (fun i hi => h i (by omega)), h n (by omega), Nat.add_mul, Nat.one_mul]
theorem sumTo_scale (f : Nat → Nat) (c : Nat) : ∀ n, sumTo n (fun i => c * f i) = c * sumTo n f
  | 0 => by simp [sumTo]
  | n + 1 => by rw [sumTo, sumTo, sumTo_scale f c n, Nat.mul_add]

/-- Rows, one for each word: of the same lengths; with k coins used, only the word's k lowest bits count, and over all of these the ranks even out. -/
def Fam (x : Int) (m k : Nat) (F : Nat → List (List Int)) : Prop :=
  (∀ w, lens (F w) = lens (F 0)) ∧ (k ≤ 64 → (∀ w, F w = F (w % 2 ^ k)) ∧ sumTo (2 ^ k) (fun w => rankR x (F w)) = 2 ^ k * m)
theorem coin_low {k v : Nat} (hk : k < 64) (hv : v < 2 ^ k) : coinB v k = false ∧ coinB (v + 2 ^ k) k = true := by
  have h1 : k % 64 = k := Nat.mod_eq_of_lt hk
  unfold coinB
  rw [h1, Nat.div_eq_of_lt hv, Nat.add_div_right _ (Nat.pow_pos (by omega)), Nat.div_eq_of_lt hv]
  simp
theorem coin_mod {k w : Nat} (hk : k < 64) : coinB (w % 2 ^ (k + 1)) k = coinB w k := by
  have h1 : k % 64 = k := Nat.mod_eq_of_lt hk
  unfold coinB
  rw [h1]
  have : w % 2 ^ (k + 1) / 2 ^ k % 2 = w / 2 ^ k % 2 := by
    rw [Nat.pow_succ, Nat.mod_mul_right_div_self, Nat.mod_mod]
  rw [this]
theorem fam_step {x : Int} {m k W h : Nat} {F : Nat → List (List Int)} (_hW : 4 ≤ W) (hF : Fam x m k F) (hh : h < (F 0).length) :
    ∃ k', k ≤ k' ∧ (∀ w, (stepR W (coinB w) h (k, F w)).1 = k') ∧ Fam x m k' (fun w => (stepR W (coinB w) h (k, F w)).2) := by
  obtain ⟨h1, h2⟩ := hF
  have hlen : ∀ w, (F w).length = (F 0).length := fun w => by have := congrArg List.length (h1 w); simpa [lens] using this
  have hst : ∀ w, (stepR W (coinB w) h (k, F w)).1 = (stepR W (coinB 0) h (k, F 0)).1 ∧ lens (stepR W (coinB w) h (k, F w)).2 = lens (stepR W (coinB 0) h (k, F 0)).2 := fun w => step_lens (h1 w) (by rw [hlen w]; exact hh)
  have hgl : ∀ w, ((F w).getD h []).length = ((F 0).getD h []).length := fun w => by
    have hw : h < (F w).length := by rw [hlen w]; exact hh
    rw [getD_at hw, getD_at hh]
    have h4 : (lens (F w))[h]'(by simpa [lens] using hw) = (lens (F 0))[h]'(by simpa [lens] using hh) := by simp only [h1 w]
    simpa [lens] using h4
  by_cases hlt : ((F 0).getD h []).length < W
  · refine ⟨k, Nat.le_refl _, fun w => ?_, ?_⟩
    · unfold stepR; rw [if_pos (by rw [hgl w]; exact hlt)]
    · have e : (fun w => (stepR W (coinB w) h (k, F w)).2) = F := by
        funext w
        unfold stepR; rw [if_pos (by rw [hgl w]; exact hlt)]
      rw [e]
      exact ⟨h1, h2⟩
  · refine ⟨k + 1, by omega, fun w => ?_, fun w => (hst w).2, fun hk => ?_⟩
    · unfold stepR; rw [if_neg (by rw [hgl w]; exact hlt)]
    · obtain ⟨h3, h4⟩ := h2 (by omega)
      have hk64 : k < 64 := by omega
      refine ⟨fun w => ?_, ?_⟩
      · have e1 : F (w % 2 ^ (k + 1)) = F w := by
          rw [h3 (w % 2 ^ (k + 1)), h3 w, Nat.pow_succ, Nat.mod_mul_right_mod]
        have e2 := coin_mod (w := w) hk64
        simp only [stepR, e1, e2]
      · have e1 : 2 ^ (k + 1) = 2 ^ k + 2 ^ k := by rw [Nat.pow_succ]; omega
        rw [e1, sumTo_add, sumTo_two, sumTo_congr (g := fun v => 2 * rankR x (F v)), sumTo_scale, h4]
        · rw [Nat.add_mul]; omega
        · intro v hv
          have e2 : F (v + 2 ^ k) = F v := by rw [h3 (v + 2 ^ k), Nat.add_mod_right, Nat.mod_eq_of_lt hv]
          obtain ⟨c1, c2⟩ := coin_low hk64 hv
          have hv2 : h < (F v).length := by rw [hlen v]; exact hh
          have hgv := hgl v
          dsimp only
          rw [e2]
          obtain ⟨A, r, B, hA, rfl⟩ := split_at hv2
          rw [hA] at hgv ⊢
          have hgr : (A ++ r :: B).getD A.length [] = r := by simp [List.getD]
          rw [hgr] at hgv
          have hltr : ¬ r.length < W := by omega
          obtain ⟨d1, -, hr1, hd1⟩ := step_rank (coinB v) x A r B k hltr
          obtain ⟨d2, -, hr2, hd2⟩ := step_rank (coinB (v + 2 ^ k)) x A r B k hltr
          rw [c1] at hr1
          rw [c2] at hr2
          simp only [Bool.false_eq_true, if_false, if_true, Nat.add_zero] at hr1 hr2
          have hdd : d1 = d2 := by rw [hd1, hd2]
          subst hdd
          omega
theorem fam_settleF {x : Int} {m W : Nat} (hW : 4 ≤ W) : ∀ (f h k : Nat) (F : Nat → List (List Int)), Fam x m k F →
    ∃ k', k ≤ k' ∧ (∀ w, (settleF W (coinB w) f h (k, F w)).1 = k') ∧ Fam x m k' (fun w => (settleF W (coinB w) f h (k, F w)).2)
  | 0, h, k, F, hF => ⟨k, Nat.le_refl _, fun _ => rfl, hF⟩
  | f + 1, h, k, F, hF => by
    have hlen : ∀ w, (F w).length = (F 0).length := fun w => by have := congrArg List.length (hF.1 w); simpa [lens] using this
    by_cases hh : h < (F 0).length
    · obtain ⟨k1, hk1, hu, hF1⟩ := fam_step (h := h) hW hF hh
      obtain ⟨k2, hk2, hu2, hF2⟩ := fam_settleF hW f (h + 1) k1 _ hF1
      have e : ∀ w, settleF W (coinB w) (f + 1) h (k, F w) = settleF W (coinB w) f (h + 1) (k1, (stepR W (coinB w) h (k, F w)).2) := fun w => by
        rw [settleF, if_pos (by rw [hlen w]; exact hh), ← hu w]
      simp only [e]
      exact ⟨k2, by omega, hu2, hF2⟩
    · have e : ∀ w, settleF W (coinB w) (f + 1) h (k, F w) = (k, F w) := fun w => by rw [settleF, if_neg (by rw [hlen w]; exact hh)]
      simp only [e]
      exact ⟨k, Nat.le_refl _, fun _ => rfl, hF⟩
theorem fam_settle {x : Int} {m W k : Nat} (hW : 4 ≤ W) {F : Nat → List (List Int)} (hF : Fam x m k F) :
    ∃ k', k ≤ k' ∧ (∀ w, (settle W (coinB w) (k, F w)).1 = k') ∧ Fam x m k' (fun w => (settle W (coinB w) (k, F w)).2) := by
  have hn : ∀ w, needF 0 (k, F w) = needF 0 (k, F 0) := fun w => by
    have h1 : (F w).flatten.length = (F 0).flatten.length := by
      rw [List.length_flatten, List.length_flatten]
      exact congrArg List.sum (hF.1 w)
    have h2 : (F w).length = (F 0).length := by have := congrArg List.length (hF.1 w); simpa [lens] using this
    simp only [needF, List.drop_zero, h1, h2]
  have e : ∀ w, settle W (coinB w) (k, F w) = settleF W (coinB w) (needF 0 (k, F 0)) 0 (k, F w) := fun w => by rw [settle, hn w]
  simp only [e]
  exact fam_settleF hW _ _ _ _ hF
theorem fam_add {x : Int} {m k : Nat} {F : Nat → List (List Int)} (hF : Fam x m k F) (h0 : 1 ≤ (F 0).length) (y : Int) : Fam x (m + if y ≤ x then 1 else 0) k (fun w => (F w).set 0 ((F w).getD 0 [] ++ [y])) := by
  have hlen : ∀ w, (F w).length = (F 0).length := fun w => by have := congrArg List.length (hF.1 w); simpa [lens] using this
  have hx : ∀ w, ∃ r l, F w = r :: l := fun w => by
    cases h : F w with
    | nil => have := hlen w; rw [h] at this; simp at this; omega
    | cons r l => exact ⟨r, l, rfl⟩
  have hr : ∀ w, rankR x ((F w).set 0 ((F w).getD 0 [] ++ [y])) = rankR x (F w) + if y ≤ x then 1 else 0 := fun w => by
    obtain ⟨r, l, h⟩ := hx w
    rw [h]
    have hu : upL [y] x = if y ≤ x then 1 else 0 := by simp [upL, List.countP_cons]
    simp only [List.set_cons_zero, List.getD_cons_zero, rankR, wsum, upL_app, hu]
    omega
  refine ⟨fun w => ?_, fun hk => ⟨fun w => ?_, ?_⟩⟩
  · obtain ⟨r, l, h⟩ := hx w
    obtain ⟨r0, l0, h0'⟩ := hx 0
    have h1 := hF.1 w
    rw [h, h0'] at h1
    dsimp only
    rw [h, h0']
    simp only [lens, List.map_cons, List.cons.injEq, List.set_cons_zero, List.getD_cons_zero, List.length_append, List.length_cons, List.length_nil] at h1 ⊢
    exact ⟨by omega, h1.2⟩
  · dsimp only
    rw [← (hF.2 hk).1 w]
  · rw [sumTo_congr (g := fun w => rankR x (F w) + if y ≤ x then 1 else 0) _ (fun w _ => hr w), ← sumTo_two, (hF.2 hk).2, sumTo_const _ (if y ≤ x then 1 else 0) _ (fun _ _ => rfl), Nat.mul_add]
/-- Towers, one for each word. -/
def FamT (W : Nat) (x : Int) (m k : Nat) (G : Nat → TwD) : Prop :=
  (∀ w, (G w).W = W ∧ (G w).word = w ∧ (G w).used = k) ∧ 1 ≤ (G 0).rows.length ∧ Fam x m k (fun w => (G w).rows)
theorem famT_put1 {W : Nat} {x : Int} {m k : Nat} {G : Nat → TwD} (hW : 4 ≤ W) (h : FamT W x m k G) (y : Int) : ∃ k', FamT W x (m + if y ≤ x then 1 else 0) k' (fun w => (G w).put1 y) := by
  obtain ⟨h1, h2, h3⟩ := h
  obtain ⟨k', -, hu, hF⟩ := fam_settle hW (fam_add h3 h2 y)
  have e : ∀ w, ((G w).put1 y).used = (settle W (coinB w) (k, (G w).rows.set 0 ((G w).rows.getD 0 [] ++ [y]))).1 ∧ ((G w).put1 y).rows = (settle W (coinB w) (k, (G w).rows.set 0 ((G w).rows.getD 0 [] ++ [y]))).2 := fun w => by
    obtain ⟨a, b, c⟩ := h1 w
    have e1 : settle ((G w).add y).W (coinB ((G w).add y).word) (((G w).add y).used, ((G w).add y).rows) = settle W (coinB w) (k, (G w).rows.set 0 ((G w).rows.getD 0 [] ++ [y])) := by
      show settle (G w).W (coinB (G w).word) ((G w).used, _) = _
      rw [a, b, c]; rfl
    exact ⟨congrArg Prod.fst e1, congrArg Prod.snd e1⟩
  refine ⟨k', fun w => ⟨(h1 w).1, (h1 w).2.1, by rw [(e w).1]; exact hu w⟩, ?_, ?_⟩
  · rw [(e 0).2]
    exact settle_ne hW _ (by simpa using h2)
  · have e2 : (fun w => ((G w).put1 y).rows) = fun w => (settle W (coinB w) (k, (G w).rows.set 0 ((G w).rows.getD 0 [] ++ [y]))).2 := funext fun w => (e w).2
    rw [e2]
    exact hF
theorem famT_putN {W : Nat} {x : Int} {m k : Nat} {G : Nat → TwD} (hW : 4 ≤ W) (h : FamT W x m k G) (y : Int) (n : Nat) : ∃ k', FamT W x (m + if y ≤ x then n else 0) k' (fun w => (G w).putN y n) := by
  induction n with
  | zero =>
    have e : (m + if y ≤ x then 0 else 0) = m := by split <;> rfl
    rw [e]
    exact ⟨k, h⟩
  | succ n ih =>
    obtain ⟨k1, h1⟩ := ih
    obtain ⟨k2, h2⟩ := famT_put1 hW h1 y
    have e : (m + if y ≤ x then n else 0) + (if y ≤ x then 1 else 0) = m + if y ≤ x then n + 1 else 0 := by split <;> omega
    rw [e] at h2
    exact ⟨k2, h2⟩
theorem famT_ends {W : Nat} {x : Int} {m k : Nat} {G : Nat → TwD} (h : FamT W x m k G) (a b : Int) : FamT W x m k (fun w => (G w).ends a b) := by
  obtain ⟨h1, h2, h3⟩ := h
  have e : ∀ w, ((G w).ends a b).rows = (G w).rows := fun w => (G w).ends_rows a b
  refine ⟨fun w => ?_, by rw [e 0]; exact h2, by simp only [e]; exact h3⟩
  obtain ⟨z1, z2, -, -, z5⟩ := (G w).ends_same a b
  obtain ⟨a1, a2, a3⟩ := h1 w
  exact ⟨z1.trans a1, z2.trans a2, z5.trans a3⟩
theorem famT_vals {W : Nat} {x : Int} (hW : 4 ≤ W) : ∀ (l : List Vl) {m k : Nat} {G : Nat → TwD}, FamT W x m k G → ∃ k', FamT W x (m + upS x l) k' (fun w => (G w).vals l)
  | [], m, k, G, h => ⟨k, h⟩
  | v :: l, m, k, G, h => by
    obtain ⟨k1, h1⟩ := famT_putN hW (famT_ends h v.x v.x) v.x v.n
    obtain ⟨k2, h2⟩ := famT_vals hW l h1
    rw [Nat.add_assoc] at h2
    exact ⟨k2, h2⟩
theorem famT_new (W : Nat) (x : Int) : FamT W x 0 0 (fun w => TwD.new W w) :=
  ⟨fun _ => ⟨rfl, rfl, rfl⟩, by simp [TwD.new], fun _ => rfl, fun _ => ⟨fun _ => rfl, by simp [TwD.new, sumTo, rankR, wsum, upL]⟩⟩
/-- Over all words the ranks together are what they should be, and as many coins are used in each. -/
theorem fair {W : Nat} (hW : 4 ≤ W) (x : Int) (l : List Vl) {k : Nat} (hk : (valsD W 0 l).used = k) (hk8 : k ≤ 8) :
    (∀ w, (valsD W w l).used = k) ∧ sumTo (2 ^ k) (fun w => rankR x (valsD W w l).rows) = 2 ^ k * upS x l := by
  obtain ⟨k', h1, h2, h3⟩ := famT_vals hW l (famT_new W x)
  obtain rfl : k = k' := hk.symm.trans (h1 0).2.2
  have h4 := (h3.2 (by omega)).2
  rw [Nat.zero_add] at h4
  exact ⟨fun w => (h1 w).2.2, h4⟩
end Go.Proofs.Ytbaobiniianamaa
