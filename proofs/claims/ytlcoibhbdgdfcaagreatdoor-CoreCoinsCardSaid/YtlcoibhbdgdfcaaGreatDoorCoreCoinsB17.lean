/-
  Plain law: what two towers joined are; that ranks are exact at the lower end, and near elsewhere. Conditions: none.
-/
import Derived.Test.YtlcoibhbdgdfcaaGreatDoorCoreCoinsB16
namespace Go.Proofs.YtlcoibhbdgdfcaaGreatDoor

/-- Rows joined. -/
def joinR : List (List Int) → List (List Int) → List (List Int)
  | a, [] => a
  | [], b => b
  | r :: a, s :: b => (r ++ s) :: joinR a b
theorem joinR_nil (a : List (List Int)) : joinR a [] = a := by cases a <;> rfl
theorem joinR_len : ∀ (a b : List (List Int)), (joinR a b).length = max a.length b.length
  | a, [] => by rw [joinR_nil]; simp
  | [], s :: b => by rw [joinR]; simp; simp
  | r :: a, s :: b => by rw [joinR, List.length_cons, joinR_len a b]; simp
theorem joinR_step : ∀ (a b : List (List Int)) (k : Nat) (h : k < b.length) (P : List (List Int)), P = (if k = (joinR a (b.take k)).length then joinR a (b.take k) ++ [[]] else joinR a (b.take k)) → joinR a (b.take (k + 1)) = P.set k (P.getD k [] ++ b[k])
  | [], s :: b, 0, _, P, hP => by subst hP; simp [joinR]
  | r :: a, s :: b, 0, _, P, hP => by
    subst hP
    simp [joinR, joinR_nil]
  | [], s :: b, k + 1, h, P, hP => by
    have hk : k < b.length := by simpa using h
    have e1 : joinR [] (b.take k) = b.take k := by cases hb : b.take k <;> rfl
    have e2 : joinR [] ((s :: b).take (k + 1)) = s :: b.take k := rfl
    have e3 : joinR [] ((s :: b).take (k + 1 + 1)) = s :: b.take (k + 1) := rfl
    rw [e2] at hP
    rw [if_pos (by simp; omega)] at hP
    subst hP
    rw [e3]
    have hl : (b.take k).length = k := by simp; omega
    have e4 : (s :: b.take k ++ [[]]).getD (k + 1) [] = [] := by
      rw [List.getD, List.cons_append, List.getElem?_cons_succ, List.getElem?_append_right (by omega), hl, Nat.sub_self]; rfl
    rw [e4, List.nil_append, List.cons_append, List.set_cons_succ, List.set_append_right _ _ (by omega), hl, Nat.sub_self]
    simp only [List.set_cons_zero, List.getElem_cons_succ]
    rw [List.take_succ_eq_append_getElem hk]
  | r :: a, s :: b, k + 1, h, P, hP => by
    have hk : k < b.length := by simpa using h
    have e2 : joinR (r :: a) ((s :: b).take (k + 1)) = (r ++ s) :: joinR a (b.take k) := rfl
    have e3 : joinR (r :: a) ((s :: b).take (k + 1 + 1)) = (r ++ s) :: joinR a (b.take (k + 1)) := rfl
    rw [e2] at hP
    rw [e3, joinR_step a b k hk _ rfl]
    subst hP
    simp only [List.length_cons, Nat.add_right_cancel_iff, List.getElem_cons_succ]
    split <;> simp
theorem joinR_wsum (φ : List Int → Nat) (hφ : ∀ a b, φ (a ++ b) = φ a + φ b) : ∀ (a b : List (List Int)), wsum φ (joinR a b) = wsum φ a + wsum φ b
  | a, [] => by rw [joinR_nil]; rfl
  | [], s :: b => by simp [joinR, wsum]
  | r :: a, s :: b => by simp only [joinR, wsum, hφ, joinR_wsum φ hφ a b]; omega
theorem joinR_tot (a b : List (List Int)) : totR (joinR a b) = totR a + totR b := joinR_wsum _ (fun _ _ => List.length_append) a b
theorem joinR_rank (x : Int) (a b : List (List Int)) : rankR x (joinR a b) = rankR x a + rankR x b := joinR_wsum _ (fun u v => upL_app u v x) a b
theorem joinR_above : ∀ (a b : List (List Int)), aboveR (joinR a b) = aboveR a + aboveR b
  | a, [] => by rw [joinR_nil]; rfl
  | [], s :: b => by simp [joinR, aboveR]
  | r :: a, s :: b => by simp only [joinR, aboveR, joinR_above a b, joinR_tot]; omega
theorem joinR_all {Q : Int → Prop} : ∀ {a b : List (List Int)}, (∀ r ∈ a, ∀ v ∈ r, Q v) → (∀ r ∈ b, ∀ v ∈ r, Q v) → ∀ r ∈ joinR a b, ∀ v ∈ r, Q v
  | a, [], ha, _ => by rw [joinR_nil]; exact ha
  | [], s :: b, _, hb => hb
  | r :: a, s :: b, ha, hb => fun q hq v hv => by
    simp only [joinR, List.mem_cons] at hq
    rcases hq with rfl | hq
    · rcases List.mem_append.1 hv with h | h
      · exact ha r (by simp) v h
      · exact hb s (by simp) v h
    · exact joinR_all (fun u hu => ha u (by simp [hu])) (fun u hu => hb u (by simp [hu])) q hq v hv
theorem joinR_full : ∀ {a b : List (List Int)}, (∀ r ∈ a, 1 ≤ r.length) → (∀ r ∈ b, 1 ≤ r.length) → ∀ r ∈ joinR a b, 1 ≤ r.length
  | a, [], ha, _ => by rw [joinR_nil]; exact ha
  | [], s :: b, _, hb => hb
  | r :: a, s :: b, ha, hb => fun q hq => by
    simp only [joinR, List.mem_cons] at hq
    rcases hq with rfl | hq
    · have := ha r (by simp); rw [List.length_append]; omega
    · exact joinR_full (fun u hu => ha u (by simp [hu])) (fun u hu => hb u (by simp [hu])) q hq
theorem flat_tot (l : List (List Int)) : l.flatten.length ≤ totR l := by
  induction l with
  | nil => exact Nat.le_refl _
  | cons r l ih => simp only [List.flatten_cons, List.length_append, totR, wsum] at *; omega
theorem joinR_flat : ∀ (a b : List (List Int)), (joinR a b).flatten.length = a.flatten.length + b.flatten.length
  | a, [] => by rw [joinR_nil]; rfl
  | [], s :: b => by simp [joinR]
  | r :: a, s :: b => by simp only [joinR, List.flatten_cons, List.length_append, joinR_flat a b]; omega

/-- Two towers joined. -/
def TwD.joined (D O : TwD) : TwD := { D.ends O.least O.most with total := D.total + O.total, rows := joinR D.rows O.rows }
def TwD.join (D O : TwD) : TwD := (D.joined O).settled
/-- What is so of a tower behind n values, however they came. -/
structure TwD.fine (D : TwD) (W word n : Nat) : Prop where
  W_eq : D.W = W
  word_eq : D.word = word
  tot : D.total = n
  ne : 1 ≤ D.rows.length
  sum : totR D.rows = n
  short : ∀ r ∈ D.rows, r.length < W
  full : ∀ r ∈ D.rows.tail, 1 ≤ r.length
  low : ∀ r ∈ D.rows, ∀ v ∈ r, v ≤ 9223372036854775807
theorem TwD.ok.fine {D : TwD} {W word n : Nat} (h : D.ok W word n) : D.fine W word n := ⟨h.1, h.2, h.3, h.4.1, h.5, h.6, h.7, h.8⟩
theorem settle_ne {W : Nat} {c : Nat → Bool} (hW : 4 ≤ W) (s : Nat × List (List Int)) (h1 : 1 ≤ s.2.length) : 1 ≤ (settle W c s).2.length := by
  obtain ⟨h', hi, _⟩ := settleF_inv (c := c) hW (fun _ t => 1 ≤ t.2.length)
    (fun h t hi hh => by
      obtain ⟨u, l⟩ := t
      obtain ⟨A, r, B, rfl, rfl⟩ := split_at hh
      rw [stepR_split]
      split
      · exact hi
      · simp; omega) (needF 0 s) 0 s (Nat.le_refl _) h1
  exact hi
theorem TwD.ends_rows (D : TwD) (x y : Int) : (D.ends x y).rows = D.rows := (D.ends_same x y).2.2.2.1
theorem TwD.join_fine {D O : TwD} {W word word2 n m : Nat} (hW : 4 ≤ W) (hd : D.fine W word n) (ho : O.fine W word2 m) : (D.join O).fine W word (n + m) := by
  obtain ⟨e1, e2, -, -, e5⟩ := D.ends_same O.least O.most
  have e6 : (D.join O).rows = (settle W (coinB word) (D.used, joinR D.rows O.rows)).2 := by
    show (settle (D.ends O.least O.most).W (coinB (D.ends O.least O.most).word) ((D.ends O.least O.most).used, joinR D.rows O.rows)).2 = _
    rw [e1, e2, e5, hd.W_eq, hd.word_eq]
  refine ⟨e1.trans hd.W_eq, e2.trans hd.word_eq, ?_, ?_, ?_, ?_, ?_, ?_⟩
  · show D.total + O.total = _
    rw [hd.tot, ho.tot]
  · rw [e6]; exact settle_ne hW _ (by simp only; rw [joinR_len]; have := hd.ne; omega)
  · rw [e6, settle_tot hW]; simp only; rw [joinR_tot, hd.sum, ho.sum]
  · rw [e6]; exact settle_short hW _
  · rw [e6]
    refine settle_full hW _ ?_
    have h1 := hd.full
    have h2 := ho.full
    have h3 := hd.ne
    have h4 := ho.ne
    rcases hr : D.rows with _ | ⟨r, l⟩
    · rw [hr] at h3; simp at h3
    rcases hs : O.rows with _ | ⟨s, k⟩
    · rw [hs] at h4; simp at h4
    rw [hr] at h1
    rw [hs] at h2
    exact joinR_full h1 h2
  · rw [e6]
    exact settle_all hW _ _ (joinR_all hd.low ho.low)
theorem TwD.fine.few {D : TwD} {W word n : Nat} (h : D.fine W word n) : 2 ^ D.rows.length ≤ n + 2 := by
  have := rows_few h.full
  rw [h.sum] at this
  exact this
theorem TwD.fine.flat {D : TwD} {W word n : Nat} (h : D.fine W word n) : D.rows.flatten.length ≤ n := by
  have := flat_tot D.rows
  rw [h.sum] at this
  exact this

/-- Of the values up to x there are m; no more than half a width: all stand in the lowest row. -/
def lowR (x : Int) (m W : Nat) (rows : List (List Int)) : Prop := m ≤ W / 2 → upL (rows.headD []) x = m ∧ ∀ r ∈ rows.tail, upL r x = 0
/-- The rank is near m. -/
def nearR (x : Int) (m W : Nat) (rows : List (List Int)) : Prop := rankR x rows * (W / 2) ≤ m * (W / 2) + aboveR rows ∧ m * (W / 2) ≤ rankR x rows * (W / 2) + aboveR rows
theorem upL_zero {l : List Int} {x : Int} : upL l x = 0 ↔ ∀ v ∈ l, ¬ v ≤ x := by
  rw [upL, List.countP_eq_zero]; simp
theorem up_drop {l : List Int} (h : up l) {x : Int} {k : Nat} (hk : upL l x ≤ k) : upL (l.drop k) x = 0 := by
  rw [upL_zero]
  intro v hv hx
  obtain ⟨i, hi, rfl⟩ := List.getElem_of_mem hv
  rw [List.getElem_drop] at hx
  have hl : k + i < l.length := by simp at hi; omega
  have h1 : upL (l.take (k + i + 1)) x = k + i + 1 := by
    have : ∀ u ∈ l.take (k + i + 1), u ≤ x := fun u hu => by
      obtain ⟨j, hj, rfl⟩ := List.getElem_of_mem hu
      rw [List.getElem_take]
      have hj2 : j < k + i + 1 := by simp at hj; omega
      rcases Nat.lt_or_ge j (k + i) with h3 | h3
      · have h4 := h j (k + i) h3 hl
        omega
      · obtain rfl : j = k + i := by omega
        exact hx
    rw [upL_all this]; simp; omega
  have h2 := upL_app (l.take (k + i + 1)) (l.drop (k + i + 1)) x
  rw [List.take_append_drop] at h2
  omega
theorem upL_half {l : List Int} {x : Int} {b : Bool} (h : upL l x = 0) : upL (halveL l b) x = 0 := by
  rw [upL_zero] at *
  exact fun v hv => h v (halveL_mem _ _ hv)
theorem upL_parts {r : List Int} {x : Int} {m : Nat} (h : upL r x = 0) : upL ((sortL r).take m) x = 0 ∧ upL ((sortL r).drop m) x = 0 := by
  have := sort_parts r m x
  omega
theorem headD_zero {B : List (List Int)} {x : Int} (h : ∀ r ∈ B, upL r x = 0) : upL (B.headD []) x = 0 := by
  cases B with
  | nil => rfl
  | cons b B => exact h b (by simp)
theorem low_step {x : Int} {m W : Nat} {c : Nat → Bool} {h : Nat} {s : Nat × List (List Int)} (_hW : 4 ≤ W) (hh : h < s.2.length) (hl : lowR x m W s.2) : lowR x m W (stepR W c h s).2 := by
  obtain ⟨u, l⟩ := s
  obtain ⟨A, r, B, rfl, rfl⟩ := split_at hh
  rw [stepR_split]
  split
  · exact hl
  · next hlt =>
    intro hm
    obtain ⟨h1, h2⟩ := hl hm
    have hk := keepN_le (n := r.length) (k := W / 2) (by omega)
    cases A with
    | nil =>
      simp only [List.nil_append, List.headD_cons, List.tail_cons] at h1 h2 ⊢
      have h3 : upL ((sortL r).drop (keepN r.length (W / 2))) x = 0 := up_drop (sort_ok r).1 (by rw [(sort_ok r).2.1 x]; omega)
      have h4 := sort_parts r (keepN r.length (W / 2)) x
      refine ⟨by omega, fun q hq => ?_⟩
      simp only [List.mem_cons] at hq
      rcases hq with rfl | hq
      · rw [upL_app, headD_zero h2, upL_half h3]
      · exact h2 q (List.mem_of_mem_tail hq)
    | cons a A =>
      simp only [List.cons_append, List.headD_cons, List.tail_cons] at h1 h2 ⊢
      have h3 := upL_parts (m := keepN r.length (W / 2)) (h2 r (by simp))
      refine ⟨h1, fun q hq => ?_⟩
      simp only [List.mem_append, List.mem_cons] at hq
      rcases hq with hq | rfl | rfl | hq
      · exact h2 q (by simp [hq])
      · exact h3.1
      · rw [upL_app, headD_zero (fun q hq => h2 q (by simp [hq])), upL_half h3.2]
      · exact h2 q (by simp [List.mem_of_mem_tail hq])
theorem near_step {x : Int} {m W : Nat} {c : Nat → Bool} {h : Nat} {s : Nat × List (List Int)} (hW : 4 ≤ W) (h4 : W % 4 = 0) (hh : h < s.2.length) (hl : nearR x m W s.2) : nearR x m W (stepR W c h s).2 := by
  obtain ⟨u, l⟩ := s
  obtain ⟨A, r, B, rfl, rfl⟩ := split_at hh
  by_cases hlt : r.length < W
  · rw [stepR_split, if_pos hlt]; exact hl
  · obtain ⟨d, hd, hr, -⟩ := step_rank c x A r B u hlt
    have ha := step_above c A r B u hW h4 hlt
    obtain ⟨l1, l2⟩ := hl
    unfold nearR
    simp only at l1 l2 ⊢
    generalize rankR x (stepR W c A.length (u, A ++ r :: B)).2 = R1 at *
    generalize aboveR (stepR W c A.length (u, A ++ r :: B)).2 = A1 at *
    generalize rankR x (A ++ r :: B) = R0 at *
    generalize aboveR (A ++ r :: B) = A0 at *
    generalize W / 2 = K at *
    generalize 2 ^ A.length = T at *
    have e : T * d * K ≤ T * K := by
      rcases (show d = 0 ∨ d = 1 by omega) with rfl | rfl
      · simp
      · simp
    have hr2 : R1 * K + (if c u = true then T * d else 0) * K = R0 * K + (if c u = true then 0 else T * d) * K := by rw [← Nat.add_mul, hr, Nat.add_mul]
    split at hr2 <;> simp only [Nat.zero_mul, Nat.add_zero] at hr2 <;> omega
theorem settle_low {x : Int} {m W : Nat} {c : Nat → Bool} (hW : 4 ≤ W) (s : Nat × List (List Int)) (h : lowR x m W s.2) : lowR x m W (settle W c s).2 := by
  obtain ⟨h', hi, _⟩ := settleF_inv (c := c) hW (fun _ t => lowR x m W t.2) (fun h t hi hh => low_step hW hh hi) (needF 0 s) 0 s (Nat.le_refl _) h
  exact hi
theorem settle_near {x : Int} {m W : Nat} {c : Nat → Bool} (hW : 4 ≤ W) (h4 : W % 4 = 0) (s : Nat × List (List Int)) (h : nearR x m W s.2) : nearR x m W (settle W c s).2 := by
  obtain ⟨h', hi, _⟩ := settleF_inv (c := c) hW (fun _ t => nearR x m W t.2) (fun h t hi hh => near_step hW h4 hh hi) (needF 0 s) 0 s (Nat.le_refl _) h
  exact hi
/-- What a tower tells of x, of which m are no more. -/
def TwD.tells (D : TwD) (x : Int) (m : Nat) : Prop := lowR x m D.W D.rows ∧ nearR x m D.W D.rows
theorem low_mono {x : Int} {m k W : Nat} {r s : List Int} {l : List (List Int)} (h : lowR x m W (r :: l)) (hs : upL s x = k) : lowR x (m + k) W ((r ++ s) :: l) := fun hm => by
  obtain ⟨h1, h2⟩ := h (by omega)
  exact ⟨by simp only [List.headD_cons] at h1 ⊢; rw [upL_app, h1, hs], h2⟩
theorem near_mono {x : Int} {m k W : Nat} {r s : List Int} {l : List (List Int)} (h : nearR x m W (r :: l)) (hs : upL s x = k) : nearR x (m + k) W ((r ++ s) :: l) := by
  have e : rankR x ((r ++ s) :: l) = rankR x (r :: l) + k := by simp only [rankR, wsum, upL_app, hs]; omega
  have e2 : aboveR ((r ++ s) :: l) = aboveR (r :: l) := rfl
  obtain ⟨h1, h2⟩ := h
  unfold nearR
  rw [e, e2, Nat.add_mul, Nat.add_mul]
  omega
theorem TwD.new_tells {W word : Nat} (x : Int) : (TwD.new W word).tells x 0 := ⟨fun _ => ⟨rfl, by simp [TwD.new]⟩, by simp [nearR, TwD.new, rankR, wsum, upL, aboveR]⟩
theorem TwD.ends_tells {D : TwD} {x : Int} {m : Nat} (h : D.tells x m) (a b : Int) : (D.ends a b).tells x m := by
  obtain ⟨e1, -, -, e4, -⟩ := D.ends_same a b
  unfold TwD.tells
  rw [e1, e4]
  exact h
theorem TwD.put1_tells {D : TwD} {x : Int} {m : Nat} (hW : 4 ≤ D.W) (h4 : D.W % 4 = 0) (hn : 1 ≤ D.rows.length) (h : D.tells x m) (y : Int) : (D.put1 y).tells x (m + if y ≤ x then 1 else 0) := by
  obtain ⟨r, l, hr⟩ : ∃ r l, D.rows = r :: l := by
    cases hr : D.rows with
    | nil => rw [hr] at hn; simp at hn
    | cons r l => exact ⟨r, l, rfl⟩
  have e1 : (D.add y).rows = (r ++ [y]) :: l := by simp [TwD.add, hr]
  have hs : (D.put1 y).rows = (settle D.W (coinB D.word) (D.used, (r ++ [y]) :: l)).2 := by
    show (settle D.W (coinB D.word) (D.used, (D.add y).rows)).2 = _
    rw [e1]
  have hu : upL [y] x = if y ≤ x then 1 else 0 := by simp [upL, List.countP_cons]
  obtain ⟨h1, h2⟩ := h
  rw [hr] at h1 h2
  unfold TwD.tells
  rw [hs]
  exact ⟨settle_low hW _ (low_mono h1 hu), settle_near hW h4 _ (near_mono h2 hu)⟩
theorem TwD.putN_tells {D : TwD} {x : Int} {m W word n : Nat} (hW : 4 ≤ W) (h4 : W % 4 = 0) (hok : D.ok W word n) (h : D.tells x m) {y : Int} (hy : y ≤ 9223372036854775807) (k : Nat) : (D.putN y k).tells x (m + if y ≤ x then k else 0) := by
  induction k with
  | zero =>
    have e : (m + if y ≤ x then 0 else 0) = m := by split <;> rfl
    rw [e]
    exact h
  | succ k ih =>
    have ho := TwD.putN_ok hW hok hy k
    have h1 := TwD.put1_tells (by rw [ho.W_eq]; exact hW) (by rw [ho.W_eq]; exact h4) ho.fit.1 ih y
    have e : (m + if y ≤ x then k else 0) + (if y ≤ x then 1 else 0) = m + if y ≤ x then k + 1 else 0 := by split <;> omega
    rw [e] at h1
    exact h1
theorem TwD.vals_tells {x : Int} {W word : Nat} (hW : 4 ≤ W) (h4 : W % 4 = 0) : ∀ (l : List Vl) {D : TwD} {m n : Nat}, D.ok W word n → D.tells x m → (∀ v ∈ l, v.x ≤ 9223372036854775807) → (D.vals l).tells x (m + upS x l)
  | [], D, m, n, _, h, _ => h
  | v :: l, D, m, n, ho, h, hx => by
    have h1 := TwD.vals_tells hW h4 l (TwD.putN_ok hW (TwD.ends_ok ho v.x v.x) (hx v (by simp)) v.n) (TwD.putN_tells hW h4 (TwD.ends_ok ho v.x v.x) (TwD.ends_tells h v.x v.x) (hx v (by simp)) v.n) (fun u hu => hx u (by simp [hu]))
    rw [Nat.add_assoc] at h1
    exact h1
theorem TwD.join_tells {D O : TwD} {x : Int} {W word word2 n n2 m m2 : Nat} (hW : 4 ≤ W) (h4 : W % 4 = 0) (hd : D.fine W word n) (ho : O.fine W word2 n2) (h1 : D.tells x m) (h2 : O.tells x m2) : (D.join O).tells x (m + m2) := by
  obtain ⟨e1, e2, -, -, e5⟩ := D.ends_same O.least O.most
  have e6 : (D.join O).rows = (settle W (coinB word) (D.used, joinR D.rows O.rows)).2 := by
    show (settle (D.ends O.least O.most).W (coinB (D.ends O.least O.most).word) ((D.ends O.least O.most).used, joinR D.rows O.rows)).2 = _
    rw [e1, e2, e5, hd.W_eq, hd.word_eq]
  have e7 : (D.join O).W = W := e1.trans hd.W_eq
  unfold TwD.tells at *
  rw [e6, e7]
  rw [hd.W_eq] at h1
  rw [ho.W_eq] at h2
  refine ⟨settle_low hW _ ?_, settle_near hW h4 _ ?_⟩
  · intro hm
    obtain ⟨a1, a2⟩ := h1.1 (by omega)
    obtain ⟨b1, b2⟩ := h2.1 (by omega)
    have h3 := hd.ne
    have h4 := ho.ne
    rcases hr : D.rows with _ | ⟨r, l⟩
    · rw [hr] at h3; simp at h3
    rcases hs : O.rows with _ | ⟨s, k⟩
    · rw [hs] at h4; simp at h4
    rw [hr] at a1 a2
    rw [hs] at b1 b2
    simp only [List.headD_cons, List.tail_cons] at a1 a2 b1 b2
    refine ⟨by simp only [joinR, List.headD_cons]; rw [upL_app, a1, b1], fun q hq => ?_⟩
    simp only [joinR, List.tail_cons] at hq
    rw [upL_zero]
    exact joinR_all (Q := fun v => ¬ v ≤ x) (fun r hr => upL_zero.1 (a2 r hr)) (fun r hr => upL_zero.1 (b2 r hr)) q hq
  · obtain ⟨a1, a2⟩ := h1.2
    obtain ⟨b1, b2⟩ := h2.2
    unfold nearR
    simp only
    rw [joinR_rank, joinR_above, Nat.add_mul, Nat.add_mul]
    omega
/-- The rank of few values is exact. -/
theorem TwD.tells_low {D : TwD} {x : Int} {m : Nat} (h : D.tells x m) (hn : 1 ≤ D.rows.length) (hm : m ≤ D.W / 2) : rankR x D.rows = m := by
  obtain ⟨h1, h2⟩ := h.1 hm
  rcases hr : D.rows with _ | ⟨r, l⟩
  · rw [hr] at hn; simp at hn
  rw [hr] at h1 h2
  simp only [List.headD_cons, List.tail_cons] at h1 h2
  have hz : ∀ l : List (List Int), (∀ r ∈ l, upL r x = 0) → rankR x l = 0 := fun l => by
    induction l with
    | nil => exact fun _ => rfl
    | cons r l ih => intro h; simp only [rankR, wsum]; rw [h r (by simp)]; have := ih (fun q hq => h q (by simp [hq])); unfold rankR at this; rw [this]
  have := hz l h2
  unfold rankR at *
  simp only [wsum]
  rw [h1, this]
  omega
end Go.Proofs.YtlcoibhbdgdfcaaGreatDoor
