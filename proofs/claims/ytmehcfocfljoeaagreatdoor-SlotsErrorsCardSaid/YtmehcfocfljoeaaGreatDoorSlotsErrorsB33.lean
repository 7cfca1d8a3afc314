/-
  What lumps answer, plainly (layer 22): an answer never falls with the place, and lies between the ends; lumps of given values. Conditions: none.
  Lumps pressed together, plainly (layer 22): which two neighbours cost the least, and pressing until there are few enough. Conditions: none.
  The walks of the reference's Add, Less, Bit, Sub, Double, Times, Over (layer 1). Conditions: none.
  The walk of the reference's Times (layer 1). Conditions: none.
  The walks of the reference's Times and Over (layer 1). Conditions: none.
  The walks of share.Good, Place, wide.Ceil, and the reference's Ceil, Good and Place. Conditions: none.
-/
import Derived.Test.YtmehcfocfljoeaaGreatDoorSlotsErrorsB29
import Derived.Test.YtmehcfocfljoeaaGreatDoorSlotsErrorsB11
import Derived.Laws.Externs
namespace Go.Proofs.YtmehcfocfljoeaaGreatDoor

/-- The greatest upper end of as many lumps as a place asks for. -/
def goL (t : Nat) : List Lp → Int → Nat → Int
  | [], x, _ => x
  | p :: l, x, s => if t ≤ s then x else goL t l (max x p.hi) (s + p.n)
def quantL (l : List Lp) (t : Nat) : Int := goL t l (l.headD default).hi 0
theorem goL_ge (t : Nat) : ∀ (l : List Lp) (x : Int) (s : Nat), x ≤ goL t l x s
  | [], _, _ => Int.le_refl _
  | p :: l, x, s => by
    rw [goL]
    split
    · exact Int.le_refl _
    · have := goL_ge t l (max x p.hi) (s + p.n); omega
theorem goL_le (t : Nat) {hi : Int} : ∀ (l : List Lp) (x : Int) (s : Nat), x ≤ hi → (∀ p ∈ l, p.hi ≤ hi) → goL t l x s ≤ hi
  | [], _, _, hx, _ => hx
  | p :: l, x, s, hx, hl => by
    rw [goL]
    split
    · exact hx
    · have := hl p (by simp)
      exact goL_le t l (max x p.hi) (s + p.n) (by omega) (fun q hq => hl q (by simp [hq]))
theorem goL_mono {t u : Nat} (h : t ≤ u) : ∀ (l : List Lp) (x : Int) (s : Nat), goL t l x s ≤ goL u l x s
  | [], _, _ => Int.le_refl _
  | p :: l, x, s => by
    rw [goL, goL]
    by_cases h1 : t ≤ s
    · rw [if_pos h1]
      split
      · exact Int.le_refl _
      · have := goL_ge u l (max x p.hi) (s + p.n); omega
    · rw [if_neg h1, if_neg (by omega)]
      exact goL_mono h l _ _
theorem quantL_mono {t u : Nat} (h : t ≤ u) (l : List Lp) : quantL l t ≤ quantL l u := goL_mono h l _ _
/-- What is so of lumps of given values. -/
structure OfL (l : List Lp) (m : List Vl) : Prop where
  rises : risesL l
  pos : ∀ p ∈ l, 1 ≤ p.n ∧ p.lo ≤ p.hi
  tot : totL l = sumS m
  fit : ∀ x, rankLoL l x ≤ upS x m ∧ upS x m ≤ rankHiL l x
  ends : m ≠ [] → EndsL l (loV m) (hiV m)
  nil : l = [] ↔ m = []
theorem OfL.new : OfL [] [] := ⟨List.Pairwise.nil, by simp, rfl, fun x => ⟨Nat.le_refl _, Nat.le_refl _⟩, fun h => absurd rfl h, by simp⟩
theorem lay_ne (l : List Lp) (p : Lp) : layL l p ≠ [] := by unfold layL; simp
theorem lay_pos {l : List Lp} (h : ∀ p ∈ l, 1 ≤ p.n ∧ p.lo ≤ p.hi) {p : Lp} (h1 : 1 ≤ p.n) (h2 : p.lo ≤ p.hi) : ∀ q ∈ layL l p, 1 ≤ q.n ∧ q.lo ≤ q.hi := by
  intro q hq
  rcases lay_mem hq with h3 | ⟨e1, e2, e3⟩
  · exact h q h3
  · omega
/-- A value more. -/
theorem OfL.put {l : List Lp} {m : List Vl} (h : OfL l m) (x : Int) {c : Nat} (hc : 1 ≤ c) : OfL (layL l ⟨c, x, x⟩) (m ++ [⟨x, c⟩]) := by
  refine ⟨lay_rises h.rises _, lay_pos h.pos hc (Int.le_refl _), ?_, fun y => ?_, fun _ => ?_, ?_⟩
  · rw [totL_lay, sumS_app, h.tot]; simp [sumS]
  · obtain ⟨k1, k2⟩ := h.fit y
    unfold rankLoL rankHiL at *
    rw [sumL_lay _ (same_hi y), sumL_lay _ (same_lo y), upS_app]
    simp only [upS, decide_eq_true_eq]
    omega
  · rw [loV_app, hiV_app]
    by_cases hm : m = []
    · subst hm
      obtain rfl := h.nil.2 rfl
      rw [if_pos rfl, if_pos rfl]
      exact lay_ends0 ⟨c, x, x⟩
    · rw [if_neg hm, if_neg hm, if_neg (by simp), if_neg (by simp)]
      exact lay_ends (h.ends hm) ⟨c, x, x⟩
  · exact ⟨fun e => absurd e (lay_ne _ _), fun e => by simp at e⟩
theorem OfL.melt {l : List Lp} {m : List Vl} (h : OfL l m) {k : Nat} (hk : k + 1 < l.length) : OfL (meltL l k) m := by
  obtain ⟨a, b, e, ea, eb⟩ := melt_parts hk
  have ha := h.pos a (by rw [e]; simp)
  have hb := h.pos b (by rw [e]; simp)
  refine ⟨melt_rises h.rises k, ?_, by rw [melt_tot hk]; exact h.tot, fun x => ?_, fun hm => melt_ends h.rises hk (h.ends hm), ?_⟩
  · unfold meltL
    rw [ea, eb]
    refine lay_pos (fun q hq => h.pos q ?_) (by simp only; omega) (by simp only; omega)
    rw [e]
    rcases List.mem_append.1 hq with h1 | h1 <;> simp [h1]
  · obtain ⟨k1, k2⟩ := h.fit x
    obtain ⟨g1, g2⟩ := melt_ranks h.rises hk x
    omega
  · refine ⟨fun e2 => absurd e2 (lay_ne _ _), fun e2 => ?_⟩
    have := h.nil.2 e2
    rw [this] at hk
    simp at hk
def layAll (l o : List Lp) : List Lp := o.foldl layL l
theorem layAll_take (l o : List Lp) (k : Nat) (h : k < o.length) : layAll l (o.take (k + 1)) = layL (layAll l (o.take k)) o[k] := by
  rw [List.take_succ_eq_append_getElem h, layAll, List.foldl_append]
  rfl
/-- All of another one's lumps. -/
theorem layAll_ok (g : Lp → Bool) (hg : ∀ a b, sameL a b = true → g a = g b) : ∀ (o : List Lp) {l : List Lp}, risesL l → (∀ p ∈ l, 1 ≤ p.n ∧ p.lo ≤ p.hi) → (∀ p ∈ o, 1 ≤ p.n ∧ p.lo ≤ p.hi) →
    risesL (layAll l o) ∧ (∀ p ∈ layAll l o, 1 ≤ p.n ∧ p.lo ≤ p.hi) ∧ sumL g (layAll l o) = sumL g l + sumL g o ∧ totL (layAll l o) = totL l + totL o ∧ (layAll l o).length ≤ l.length + o.length
  | [], l, h, hp, _ => ⟨h, hp, by simp [layAll, sumL], by simp [layAll, totL], by simp [layAll]⟩
  | p :: o, l, h, hp, ho => by
    obtain ⟨g1, g2⟩ := ho p (by simp)
    have e : layAll l (p :: o) = layAll (layL l p) o := rfl
    obtain ⟨b1, b2, b3, b4, b5⟩ := layAll_ok g hg o (lay_rises h p) (lay_pos hp g1 g2) (fun q hq => ho q (by simp [hq]))
    have hll := lay_len h p
    rw [e]
    refine ⟨b1, b2, ?_, ?_, ?_⟩
    · rw [b3, sumL_lay g hg, sumL_cons]; omega
    · rw [b4, totL_lay, totL_cons]; omega
    · rw [List.length_cons]; omega
theorem layAll_ends : ∀ (o : List Lp) {l : List Lp} {lo hi lo2 hi2 : Int}, EndsL l lo hi → EndsL o lo2 hi2 → EndsL (layAll l o) (min lo lo2) (max hi hi2) := by
  have key : ∀ (o : List Lp) {l : List Lp} {lo hi : Int}, EndsL l lo hi → ∃ a b, EndsL (layAll l o) a b ∧ a ≤ lo ∧ hi ≤ b ∧ (∀ p ∈ o, a ≤ p.lo ∧ p.hi ≤ b) ∧ (a = lo ∨ ∃ p ∈ o, p.lo = a) ∧ (b = hi ∨ ∃ p ∈ o, p.hi = b) := fun o => by
    induction o with
    | nil => intro l lo hi h; exact ⟨lo, hi, h, Int.le_refl _, Int.le_refl _, by simp, .inl rfl, .inl rfl⟩
    | cons p o ih =>
      intro l lo hi h
      obtain ⟨a, b, h1, h2, h3, h4, h5, h6⟩ := ih (lay_ends h p)
      have q0 : a ≤ lo ∧ hi ≤ b ∧ a ≤ p.lo ∧ p.hi ≤ b := by clear h5 h6 ih h; omega
      refine ⟨a, b, h1, q0.1, q0.2.1, fun q hq => ?_, ?_, ?_⟩
      · rcases List.mem_cons.1 hq with rfl | hq
        · exact q0.2.2
        · exact h4 q hq
      · clear h6 ih h h1
        rcases h5 with h5 | ⟨q, hq, h5⟩
        · by_cases hx : lo ≤ p.lo
          · left; omega
          · right; exact ⟨p, by simp, by omega⟩
        · exact .inr ⟨q, by simp [hq], h5⟩
      · clear h5 ih h h1
        rcases h6 with h6 | ⟨q, hq, h6⟩
        · by_cases hx : p.hi ≤ hi
          · left; omega
          · right; exact ⟨p, by simp, by omega⟩
        · exact .inr ⟨q, by simp [hq], h6⟩
  intro o l lo hi lo2 hi2 h k
  obtain ⟨a, b, h1, h2, h3, h4, h5, h6⟩ := key o h
  obtain ⟨p, hp, ep⟩ := k.atLow
  obtain ⟨q, hq, eq⟩ := k.atHigh
  have e1 : a = min lo lo2 := by
    have := (h4 p hp).1
    clear h6 h1
    rcases h5 with h5 | ⟨r, hr, h5⟩
    · omega
    · have := k.low r hr; omega
  have e2 : b = max hi hi2 := by
    have := (h4 q hq).2
    clear h5 h1
    rcases h6 with h6 | ⟨r, hr, h6⟩
    · omega
    · have := k.high r hr; omega
  rw [← e1, ← e2]
  exact h1
theorem layAll_nil : ∀ (o : List Lp), risesL o → (∀ p ∈ o, 1 ≤ p.n ∧ p.lo ≤ p.hi) → ∀ {lo hi : Int}, EndsL o lo hi → EndsL (layAll [] o) lo hi
  | [], _, _, _, _, h => h
  | p :: o, hr, hp, lo, hi, h => by
    have e : layAll [] (p :: o) = layAll (layL [] p) o := rfl
    rw [e]
    by_cases ho : o = []
    · subst ho
      have h1 := h.atLow
      have h2 := h.atHigh
      simp at h1 h2
      subst h1 h2
      exact lay_ends0 p
    · -- ends of the rest
      have hmin : ∀ (r : List Lp), r ≠ [] → ∃ a b, EndsL r a b := fun r hr => by
        induction r with
        | nil => exact absurd rfl hr
        | cons q r ih =>
          by_cases hr2 : r = []
          · subst hr2; exact ⟨q.lo, q.hi, by simp, by simp, ⟨q, by simp, rfl⟩, ⟨q, by simp, rfl⟩⟩
          · obtain ⟨a, b, k⟩ := ih hr2
            refine ⟨min q.lo a, max q.hi b, fun x hx => ?_, fun x hx => ?_, ?_, ?_⟩
            · rcases List.mem_cons.1 hx with rfl | hx
              · omega
              · have := k.low x hx; omega
            · rcases List.mem_cons.1 hx with rfl | hx
              · omega
              · have := k.high x hx; omega
            · by_cases hq : q.lo ≤ a
              · exact ⟨q, by simp, by omega⟩
              · obtain ⟨x, hx, ex⟩ := k.atLow
                exact ⟨x, by simp [hx], by omega⟩
            · by_cases hq : b ≤ q.hi
              · exact ⟨q, by simp, by omega⟩
              · obtain ⟨x, hx, ex⟩ := k.atHigh
                exact ⟨x, by simp [hx], by omega⟩
      obtain ⟨a, b, k⟩ := hmin o ho
      have h1 := layAll_ends o (lay_ends0 p) k
      have e1 : min p.lo a = lo := by
        obtain ⟨x, hx, ex⟩ := h.atLow
        obtain ⟨y, hy, ey⟩ := k.atLow
        have g1 := h.low p (by simp)
        have g2 := h.low y (by simp [hy])
        rcases List.mem_cons.1 hx with rfl | hx
        · omega
        · have := k.low x hx; omega
      have e2 : max p.hi b = hi := by
        obtain ⟨x, hx, ex⟩ := h.atHigh
        obtain ⟨y, hy, ey⟩ := k.atHigh
        have g1 := h.high p (by simp)
        have g2 := h.high y (by simp [hy])
        rcases List.mem_cons.1 hx with rfl | hx
        · omega
        · have := k.high x hx; omega
      rw [e1, e2] at h1
      exact h1
theorem OfL.join {l o : List Lp} {a b : List Vl} (h : OfL l a) (k : OfL o b) : OfL (layAll l o) (a ++ b) := by
  obtain ⟨r1, r2, -, r4, -⟩ := layAll_ok (fun _ => true) (fun _ _ _ => rfl) o h.rises h.pos k.pos
  refine ⟨r1, r2, by rw [r4, sumS_app, h.tot, k.tot], fun x => ?_, fun hm => ?_, ?_⟩
  · have g1 := (layAll_ok _ (same_hi x) o h.rises h.pos k.pos).2.2.1
    have g2 := (layAll_ok _ (same_lo x) o h.rises h.pos k.pos).2.2.1
    obtain ⟨a1, a2⟩ := h.fit x
    obtain ⟨b1, b2⟩ := k.fit x
    unfold rankLoL rankHiL at *
    rw [g1, g2, upS_app]
    omega
  · rw [loV_app, hiV_app]
    by_cases ha : a = []
    · subst ha
      obtain rfl := h.nil.2 rfl
      rw [if_pos rfl, if_pos rfl]
      exact layAll_nil o k.rises k.pos (k.ends (by simpa using hm))
    · by_cases hb : b = []
      · subst hb
        obtain rfl := k.nil.2 rfl
        rw [if_neg ha, if_neg ha, if_pos rfl, if_pos rfl]
        exact h.ends ha
      · rw [if_neg ha, if_neg ha, if_neg hb, if_neg hb]
        exact layAll_ends o (h.ends ha) (k.ends hb)
  · constructor
    · intro e
      have e1 : totL (layAll l o) = 0 := by rw [e]; rfl
      rw [r4] at e1
      have hl : l = [] := by
        rcases hl : l with _ | ⟨p, r⟩
        · rfl
        · exfalso
          have := h.pos p (by rw [hl]; simp)
          rw [hl, totL_cons] at e1
          omega
      have ho : o = [] := by
        rcases hl : o with _ | ⟨p, r⟩
        · rfl
        · exfalso
          have := k.pos p (by rw [hl]; simp)
          rw [hl, totL_cons] at e1
          omega
      rw [h.nil.1 hl, k.nil.1 ho]
      rfl
    · intro e
      obtain ⟨ea, eb⟩ := List.append_eq_nil_iff.1 e
      rw [h.nil.2 ea, k.nil.2 eb]
      rfl
/-- An answer lies between the ends. -/
theorem OfL.between {l : List Lp} {m : List Vl} (h : OfL l m) (hm : m ≠ []) (t : Nat) : loV m ≤ quantL l t ∧ quantL l t ≤ hiV m := by
  have he := h.ends hm
  have hl : l ≠ [] := fun e => hm (h.nil.1 e)
  obtain ⟨p, r, rfl⟩ := List.exists_cons_of_ne_nil hl
  have g1 := he.low p (by simp)
  have g2 := he.high p (by simp)
  have g3 := (h.pos p (by simp)).2
  unfold quantL
  rw [List.headD_cons]
  have g4 := goL_ge t (p :: r) p.hi 0
  have g5 := goL_le t (p :: r) p.hi 0 g2 he.high
  omega
end Go.Proofs.YtmehcfocfljoeaaGreatDoor

namespace Go.Proofs.YtmehcfocfljoeaaGreatDoor

theorem totL_take_le (l : List Lp) (k : Nat) : totL (l.take k) ≤ totL l := by
  conv => rhs; rw [← List.take_append_drop k l, totL_app]
  omega
/-- What is known behind some neighbours: the least cost, at which, and how many lie ahead. -/
structure Sc where
  num : Nat
  den : Nat
  at_ : Int
  ahead : Nat
def pairN (l : List Lp) (k : Nat) : Nat := (l.getD k default).n + (l.getD (k + 1) default).n
def costD (T ahead n : Nat) : Nat := min ahead (T - ahead - n) + 1
def betterS (s : Sc) (n d : Nat) : Bool := decide (s.at_ < 0) || decide (n * s.den < s.num * d)
def scanL (l : List Lp) (T : Nat) : Nat → Sc
  | 0 => ⟨0, 0, -1, 0⟩
  | k + 1 =>
    let s := scanL l T k
    let n := pairN l k
    let d := costD T s.ahead n
    if betterS s n d then ⟨n, d, k, s.ahead + (l.getD k default).n⟩ else ⟨s.num, s.den, s.at_, s.ahead + (l.getD k default).n⟩
theorem scanL_ahead (l : List Lp) (T : Nat) : ∀ k, k ≤ l.length → (scanL l T k).ahead = totL (l.take k)
  | 0, _ => rfl
  | k + 1, h => by
    have ih := scanL_ahead l T k (by omega)
    have hk : k < l.length := by omega
    have e : totL (l.take (k + 1)) = totL (l.take k) + (l.getD k default).n := by
      rw [List.take_succ_eq_append_getElem hk, totL_app, totL_cons, totL_nil]
      simp [List.getD, hk]
    rw [e, ← ih, scanL]
    split <;> rfl
theorem scanL_at (l : List Lp) (T : Nat) : ∀ k, -1 ≤ (scanL l T k).at_ ∧ (scanL l T k).at_ < k ∧ (0 < k → 0 ≤ (scanL l T k).at_)
  | 0 => by simp [scanL]
  | k + 1 => by
    have ih := scanL_at l T k
    rw [scanL]
    split
    · simp only; omega
    · rename_i hb
      simp only
      refine ⟨ih.1, by omega, fun _ => ?_⟩
      rcases Nat.eq_zero_or_pos k with h0 | h0
      · subst h0
        exact absurd (by simp [betterS, scanL]) hb
      · exact ih.2.2 h0
theorem pairN_le (l : List Lp) (k : Nat) (h : k + 1 < l.length) : totL (l.take k) + pairN l k + totL (l.drop (k + 2)) = totL l := by
  obtain ⟨a, b, e, ea, eb⟩ := melt_parts h
  unfold pairN
  rw [ea, eb]
  conv => rhs; rw [e]
  rw [totL_app, totL_cons, totL_cons]
  omega
theorem scanL_le (l : List Lp) : ∀ k, k + 1 ≤ l.length → (scanL l (totL l) k).num ≤ totL l ∧ (scanL l (totL l) k).den ≤ totL l + 1 ∧ (0 < k → 0 < (scanL l (totL l) k).den)
  | 0, _ => by simp [scanL]
  | k + 1, h => by
    have ih := scanL_le l k (by omega)
    have h1 := pairN_le l k (by omega)
    have h2 := scanL_ahead l (totL l) k (by omega)
    rw [scanL]
    split
    · simp only [costD]; omega
    · rename_i hb
      refine ⟨ih.1, ih.2.1, fun _ => ?_⟩
      rcases Nat.eq_zero_or_pos k with h0 | h0
      · subst h0
        exact absurd (by simp [betterS, scanL]) hb
      · exact ih.2.2 h0
/-- Which ones are pressed. -/
def atL (l : List Lp) : Nat := (scanL l (totL l) (l.length - 1)).at_.toNat
theorem atL_lt {l : List Lp} (h : 1 < l.length) : atL l + 1 < l.length := by
  have := scanL_at l (totL l) (l.length - 1)
  unfold atL
  omega
theorem atL_eq {l : List Lp} (h : 1 < l.length) : (scanL l (totL l) (l.length - 1)).at_ = (atL l : Nat) := by
  have := scanL_at l (totL l) (l.length - 1)
  unfold atL
  omega
/-- So long as there are more than so many. -/
def pressN : Nat → Nat → List Lp → List Lp
  | 0, _, l => l
  | f + 1, most, l => if l.length ≤ most then l else pressN f most (meltL l (atL l))
def pressL (most : Nat) (l : List Lp) : List Lp := pressN l.length most l
theorem pressN_few {f most : Nat} {l : List Lp} (h : l.length ≤ most) : pressN f most l = l := by
  cases f with
  | zero => rfl
  | succ f => rw [pressN, if_pos h]
theorem pressN_more (most : Nat) (hm : 1 ≤ most) : ∀ (f g : Nat) (l : List Lp), risesL l → l.length ≤ f → l.length ≤ g → pressN f most l = pressN g most l
  | 0, g, l, _, hf, _ => by
    rw [pressN_few (f := g) (by omega)]
    rfl
  | f + 1, 0, l, _, _, hg => by
    rw [pressN_few (f := f + 1) (by omega)]
    rfl
  | f + 1, g + 1, l, hr, hf, hg => by
    rw [pressN, pressN]
    by_cases h : l.length ≤ most
    · rw [if_pos h, if_pos h]
    · rw [if_neg h, if_neg h]
      have h1 := melt_len hr (atL_lt (l := l) (by omega))
      exact pressN_more most hm f g _ (melt_rises hr _) (by omega) (by omega)
theorem pressL_few {most : Nat} {l : List Lp} (h : l.length ≤ most) : pressL most l = l := pressN_few h
theorem pressL_step {most : Nat} {l : List Lp} (hr : risesL l) (hm : 1 ≤ most) (h : most < l.length) : pressL most l = pressL most (meltL l (atL l)) := by
  unfold pressL
  have h1 := melt_len hr (atL_lt (l := l) (by omega))
  obtain ⟨n, hn⟩ : ∃ n, l.length = n + 1 := ⟨l.length - 1, by omega⟩
  rw [hn, pressN, if_neg (by omega)]
  exact pressN_more most hm _ _ _ (melt_rises hr _) (by omega) (Nat.le_refl _)
theorem press_ind {most : Nat} (hm : 1 ≤ most) (P : List Lp → Prop) (hP : ∀ l k, risesL l → P l → k + 1 < l.length → P (meltL l k)) :
    ∀ (n : Nat) (l : List Lp), l.length ≤ n → risesL l → P l → risesL (pressL most l) ∧ P (pressL most l) ∧ (pressL most l).length ≤ most
  | n, l, hn, hr, h => by
    by_cases hle : l.length ≤ most
    · rw [pressL_few hle]
      exact ⟨hr, h, hle⟩
    · have h1 := melt_len hr (atL_lt (l := l) (by omega))
      rw [pressL_step hr hm (by omega)]
      cases n with
      | zero => omega
      | succ n => exact press_ind hm P hP n _ (by omega) (melt_rises hr _) (hP l _ hr h (atL_lt (by omega)))
theorem OfL.press {most : Nat} (hm : 1 ≤ most) {m : List Vl} {l : List Lp} (h : OfL l m) : OfL (pressL most l) m :=
  (press_ind hm (fun l => OfL l m) (fun _ _ _ h hk => h.melt hk) _ l (Nat.le_refl _) h.rises h).2.1
theorem melt_pos {l : List Lp} (h : ∀ p ∈ l, 1 ≤ p.n ∧ p.lo ≤ p.hi) {k : Nat} (hk : k + 1 < l.length) : ∀ q ∈ meltL l k, 1 ≤ q.n ∧ q.lo ≤ q.hi := by
  obtain ⟨a, b, e, ea, eb⟩ := melt_parts hk
  have ha := h a (by rw [e]; simp)
  have hb := h b (by rw [e]; simp)
  unfold meltL
  rw [ea, eb]
  refine lay_pos (fun q hq => h q ?_) (by simp only; omega) (by simp only; omega)
  rw [e]
  rcases List.mem_append.1 hq with h1 | h1 <;> simp [h1]
/-- The least and the greatest value of lumps. -/
def loL (l : List Lp) : Int := (l.headD default).lo
def hiL (l : List Lp) : Int := l.foldl (fun m p => max m p.hi) (l.headD default).hi
theorem fold_hi (l : List Lp) (a b : Int) : l.foldl (fun m p => max m p.hi) (max a b) = max a (l.foldl (fun m p => max m p.hi) b) := by
  induction l generalizing b with
  | nil => rfl
  | cons v l ih => simp only [List.foldl_cons]; rw [← ih]; congr 1; omega
theorem fold_hi_take (l : List Lp) (k : Nat) (h : k < l.length) (z : Int) : (l.take (k + 1)).foldl (fun m p => max m p.hi) z = max ((l.take k).foldl (fun m p => max m p.hi) z) l[k].hi := by
  rw [List.take_succ_eq_append_getElem h, List.foldl_append]
  rfl
theorem fold_hi_ge (l : List Lp) : ∀ z, z ≤ l.foldl (fun m p => max m p.hi) z ∧ ∀ p ∈ l, p.hi ≤ l.foldl (fun m p => max m p.hi) z := by
  induction l with
  | nil => intro z; simp
  | cons q l ih =>
    intro z
    obtain ⟨h1, h2⟩ := ih (max z q.hi)
    simp only [List.foldl_cons]
    refine ⟨by omega, fun p hp => ?_⟩
    rcases List.mem_cons.1 hp with rfl | hp
    · omega
    · exact h2 p hp
theorem fold_hi_at (l : List Lp) : ∀ z, l.foldl (fun m p => max m p.hi) z = z ∨ ∃ p ∈ l, p.hi = l.foldl (fun m p => max m p.hi) z := by
  induction l with
  | nil => intro z; simp
  | cons q l ih =>
    intro z
    simp only [List.foldl_cons]
    rcases ih (max z q.hi) with h | ⟨p, hp, h⟩
    · rw [h]
      by_cases hq : q.hi ≤ z
      · left; omega
      · right; exact ⟨q, by simp, by omega⟩
    · exact .inr ⟨p, by simp [hp], h⟩
theorem endsL_of {l : List Lp} (hr : risesL l) (h0 : l ≠ []) : EndsL l (loL l) (hiL l) := by
  obtain ⟨p, r, rfl⟩ := List.exists_cons_of_ne_nil h0
  have h1 := List.pairwise_cons.1 hr
  obtain ⟨g1, g2⟩ := fold_hi_ge (p :: r) p.hi
  refine ⟨fun q hq => ?_, fun q hq => ?_, ⟨p, by simp, rfl⟩, ?_⟩
  · unfold loL
    rw [List.headD_cons]
    rcases List.mem_cons.1 hq with rfl | hq
    · exact Int.le_refl _
    · have := h1.1 q hq
      unfold ltL at this
      rw [decide_eq_true_eq] at this
      omega
  · unfold hiL
    rw [List.headD_cons]
    exact g2 q hq
  · unfold hiL
    rw [List.headD_cons]
    rcases fold_hi_at (p :: r) p.hi with h | h
    · exact ⟨p, by simp, h.symm⟩
    · exact h
theorem EndsL.same {l : List Lp} {a b c d : Int} (h : EndsL l a b) (k : EndsL l c d) : a = c ∧ b = d := by
  obtain ⟨p, hp, e1⟩ := h.atLow
  obtain ⟨q, hq, e2⟩ := h.atHigh
  obtain ⟨r, hr, e3⟩ := k.atLow
  obtain ⟨s, hs, e4⟩ := k.atHigh
  have h1 := h.low r hr
  have h2 := h.high s hs
  have h3 := k.low p hp
  have h4 := k.high q hq
  omega
theorem OfL.told {l : List Lp} {m : List Vl} (h : OfL l m) (hm : m ≠ []) : loL l = loV m ∧ hiL l = hiV m :=
  (endsL_of h.rises (fun e => hm (h.nil.1 e))).same (h.ends hm)
end Go.Proofs.YtmehcfocfljoeaaGreatDoor

namespace Go.Proofs.YtmehcfocfljoeaaGreatDoor
open Go.RowKit

theorem tmod2 (a : Nat) : ((a : Int)).tmod 2 = ((a % 2 : Nat) : Int) := by rw [Int.tmod_eq_emod_of_nonneg (by omega)]; omega
end Go.Proofs.YtmehcfocfljoeaaGreatDoor

namespace Go.Proofs.YtmehcfocfljoeaaGreatDoor
open Go.RowKit

theorem wide_parts {X Y : Nat} (h : Y < 18446744073709551616) : (X * 18446744073709551616 + Y) / 18446744073709551616 = X ∧ (X * 18446744073709551616 + Y) % 18446744073709551616 = Y := by omega
end Go.Proofs.YtmehcfocfljoeaaGreatDoor

namespace Go.Proofs.YtmehcfocfljoeaaGreatDoor
open Go.RowKit

/-- Four pairs of words behind each other, the call's own. -/
structure St4 (w0 wx : World) (S : Nat) (a0 a1 d0 d1 r0 r1 q0 q1 : Nat) : Prop where
  own : w0.heap.size ≤ S
  a : Blk wx S #[.int .u64 a0, .int .u64 a1] 343
  d : Blk wx (S + 1) #[.int .u64 d0, .int .u64 d1] 343
  r : Blk wx (S + 1 + 1) #[.int .u64 r0, .int .u64 r1] 343
  q : Blk wx (S + 1 + 1 + 1) #[.int .u64 q0, .int .u64 q1] 343
  chg : Chg [] w0 wx
namespace St4
variable {w0 wx w1 : World} {S a0 a1 d0 d1 r0 r1 q0 q1 : Nat}
theorem call (h : St4 w0 wx S a0 a1 d0 d1 r0 r1 q0 q1) (k : Chg [] wx w1) : St4 w0 w1 S a0 a1 d0 d1 r0 r1 q0 q1 :=
  ⟨h.own, h.a.chg k (by simp), h.d.chg k (by simp), h.r.chg k (by simp), h.q.chg k (by simp), h.chg.trans k⟩
theorem drew (h : St4 w0 wx S a0 a1 d0 d1 r0 r1 q0 q1) : St4 w0 wx.drew S a0 a1 d0 d1 r0 r1 q0 q1 := ⟨h.own, h.a, h.d, h.r, h.q, h.chg.drew⟩
theorem setR1 (h : St4 w0 wx S a0 a1 d0 d1 r0 r1 q0 q1) (x : Nat) : St4 w0 (wx.setCell ⟨S + 1 + 1, 1, none⟩ (.int .u64 x)) S a0 a1 d0 d1 r0 x q0 q1 :=
  ⟨h.own, h.a.setCell_other (by simp only; omega) _, h.d.setCell_other (by simp only; omega) _, h.r.setCell 1 _, h.q.setCell_other (by simp only; omega) _,
   h.chg.setCell (.inr (by simp only; have := h.own; omega)) _⟩
theorem setR0 (h : St4 w0 wx S a0 a1 d0 d1 r0 r1 q0 q1) (x : Nat) : St4 w0 (wx.setCell ⟨S + 1 + 1, 0, none⟩ (.int .u64 x)) S a0 a1 d0 d1 x r1 q0 q1 :=
  ⟨h.own, h.a.setCell_other (by simp only; omega) _, h.d.setCell_other (by simp only; omega) _, h.r.setCell 0 _, h.q.setCell_other (by simp only; omega) _,
   h.chg.setCell (.inr (by simp only; have := h.own; omega)) _⟩
theorem setQ1 (h : St4 w0 wx S a0 a1 d0 d1 r0 r1 q0 q1) (x : Nat) : St4 w0 (wx.setCell ⟨S + 1 + 1 + 1, 1, none⟩ (.int .u64 x)) S a0 a1 d0 d1 r0 r1 q0 x :=
  ⟨h.own, h.a.setCell_other (by simp only; omega) _, h.d.setCell_other (by simp only; omega) _, h.r.setCell_other (by simp only; omega) _, h.q.setCell 1 _,
   h.chg.setCell (.inr (by simp only; have := h.own; omega)) _⟩
theorem setQ0 (h : St4 w0 wx S a0 a1 d0 d1 r0 r1 q0 q1) (x : Nat) : St4 w0 (wx.setCell ⟨S + 1 + 1 + 1, 0, none⟩ (.int .u64 x)) S a0 a1 d0 d1 r0 r1 x q1 :=
  ⟨h.own, h.a.setCell_other (by simp only; omega) _, h.d.setCell_other (by simp only; omega) _, h.r.setCell_other (by simp only; omega) _, h.q.setCell 0 _,
   h.chg.setCell (.inr (by simp only; have := h.own; omega)) _⟩
theorem cells (h : St4 w0 wx S a0 a1 d0 d1 r0 r1 q0 q1) : (wx.cell? ⟨S, 0, none⟩ = some (.int .u64 a0) ∧ wx.cell? ⟨S, 1, none⟩ = some (.int .u64 a1)) ∧
    (wx.cell? ⟨S + 1, 0, none⟩ = some (.int .u64 d0) ∧ wx.cell? ⟨S + 1, 1, none⟩ = some (.int .u64 d1)) ∧
    (wx.cell? ⟨S + 1 + 1, 0, none⟩ = some (.int .u64 r0) ∧ wx.cell? ⟨S + 1 + 1, 1, none⟩ = some (.int .u64 r1)) ∧
    (wx.cell? ⟨S + 1 + 1 + 1, 0, none⟩ = some (.int .u64 q0) ∧ wx.cell? ⟨S + 1 + 1 + 1, 1, none⟩ = some (.int .u64 q1)) ∧
    (wx.frozen? ⟨S + 1 + 1, 0, none⟩ = false ∧ wx.frozen? ⟨S + 1 + 1, 1, none⟩ = false) ∧ (wx.frozen? ⟨S + 1 + 1 + 1, 0, none⟩ = false ∧ wx.frozen? ⟨S + 1 + 1 + 1, 1, none⟩ = false) :=
  ⟨⟨h.a.cell 0, h.a.cell 1⟩, ⟨h.d.cell 0, h.d.cell 1⟩, ⟨h.r.cell 0, h.r.cell 1⟩, ⟨h.q.cell 0, h.q.cell 1⟩, ⟨h.r.free 0, h.r.free 1⟩, ⟨h.q.free 0, h.q.free 1⟩⟩
end St4

theorem over_step {P y b : Nat} (hy : 0 < y) (_hb : b < 2) :
    (2 * (P % y) + b < y → (2 * P + b) / y = 2 * (P / y) ∧ (2 * P + b) % y = 2 * (P % y) + b) ∧
    (¬ 2 * (P % y) + b < y → (2 * P + b) / y = 2 * (P / y) + 1 ∧ (2 * P + b) % y = 2 * (P % y) + b - y) := by
  have h := Nat.div_add_mod P y
  have hr := Nat.mod_lt P hy
  generalize P / y = q at *
  generalize P % y = r at *
  have e : 2 * P + b = (2 * r + b) + y * (2 * q) := by rw [Nat.mul_left_comm]; omega
  constructor
  · intro hl
    rw [e, Nat.add_mul_div_left _ _ hy, Nat.add_mul_mod_self_left, Nat.div_eq_of_lt hl, Nat.mod_eq_of_lt hl]
    exact ⟨by omega, rfl⟩
  · intro hl
    have e2 : 2 * P + b = (2 * r + b - y) + y * (2 * q + 1) := by rw [Nat.mul_add]; omega
    have hl2 : 2 * r + b - y < y := by omega
    rw [e2, Nat.add_mul_div_left _ _ hy, Nat.add_mul_mod_self_left, Nat.div_eq_of_lt hl2, Nat.mod_eq_of_lt hl2]
    exact ⟨by omega, rfl⟩

end Go.Proofs.YtmehcfocfljoeaaGreatDoor

namespace Go.Proofs.YtmehcfocfljoeaaGreatDoor
open Go.RowKit

theorem add64_run (q : Nat) (hq : q < 18446744073709551615) (w : World) :
    (callFunc 261 #[.int .u64 (q : Nat), .int .u64 1, .int .u64 0]).run Tryz.prog w = .ok (.value (.tuple #[.int .u64 ((q + 1 : Nat) : Int), .int .u64 0])) w := by
  rw [run_callFunc_extern Tryz.func261 (by kernel_rfl) (by kernel_rfl) (by kernel_rfl) (e := add64Entry) (by kernel_rfl), run_add64 q 1 0 (by omega) (by omega) (by omega) (by omega)]
  simp only [Result.andThen]
  rw [show ((q : Int) + 1 + 0) % 18446744073709551616 = ((q + 1 : Nat) : Int) from by omega, show ((q : Int) + 1 + 0) / 18446744073709551616 = 0 from by omega]

/-- A product divided, rounded up. -/
def ceilT (n y : Nat) : Nat := if n % y = 0 then n / y else n / y + 1
theorem ceilT_le {n y b : Nat} (hy : 0 < y) (h : n ≤ y * b) : ceilT n y ≤ b := by
  unfold ceilT
  have h1 := Nat.div_add_mod n y
  have h2 := Nat.mod_lt n hy
  split
  · next h0 =>
    have h3 : y * (n / y) ≤ y * b := by omega
    exact Nat.le_of_mul_le_mul_left h3 hy
  · next h0 =>
    have h3 : y * (n / y) < y * b := by omega
    exact Nat.lt_of_mul_lt_mul_left h3

set_option maxRecDepth 100000 in
set_option maxHeartbeats 1000000 in
theorem wide_ceil (w : World) (a b y n q : Nat) (hn : a * b = n) (ha : a < 18446744073709551616) (hb : b < 18446744073709551616) (hy : y < 18446744073709551616) (hy0 : 0 < y) (hle : n ≤ y * b) (hq : q = ceilT n y) :
    Calls Tryz.prog 259 #[.int .u64 a, .int .u64 b, .int .u64 y] w fun e w' => e = .returned (.tuple #[.int .u64 (q : Nat), .bool true]) ∧ Chg [] w w' := by
  have hqb := ceilT_le hy0 hle
  rw [← hq] at hqb
  have hh : n / 18446744073709551616 < 18446744073709551616 := by
    rw [← hn, Nat.div_lt_iff_lt_mul (by decide)]
    exact Nat.mul_lt_mul'' ha hb
  have hl : n % 18446744073709551616 < 18446744073709551616 := Nat.mod_lt _ (by decide)
  have hf : n < y * 18446744073709551616 := Nat.lt_of_le_of_lt hle (Nat.mul_lt_mul_of_pos_left hb hy0)
  have HT := Lib.hid (wide_times w a b (n / 18446744073709551616) (n % 18446744073709551616) ha hb (by rw [hn]) (by rw [hn]))
  have HO := Lib.hid (fun W => wide_over W (n / 18446744073709551616) (n % 18446744073709551616) y n (by omega) hh hl hy)
  have HV2 := Lib.hid (show overV n y = .tuple #[.int .u64 (n / y : Nat), .int .u64 (n % y : Nat), .bool true] from if_pos hf)
  unfold ceilT at hq
  clear hf hle hn
  generalize n / 18446744073709551616 = h at *
  generalize n % 18446744073709551616 = l at *
  generalize n / y = d at *
  generalize n % y = r at *
  go_enter Tryz.func259, Tryz.ntmps259
  go_wp2_with fail
  refine HT.out.mono ?_
  rintro e w1 ⟨rfl, hc1⟩
  go_wp2_with fail
  refine (HO.out w1).mono ?_
  rintro e w2 ⟨rfl, hc2⟩
  have HC := Lib.hid (hc1.trans hc2)
  rw [HV2.out]
  clear HT HO HV2 hc1 hc2
  by_cases h0 : r = 0
  · subst h0
    rw [if_pos rfl] at hq
    subst hq
    go_wp2
    go_ret2
    exact ⟨rfl, HC.out⟩
  · have hr : ((r : Int) == 0) = false := by rw [beq_eq_false_iff_ne]; omega
    rw [if_neg h0] at hq
    subst hq
    have ha := add64_run d (by omega)
    go_wp2
    go_ret2
    exact ⟨rfl, HC.out⟩

/-- Can a part be? -/
def goodR (num den : Nat) : Bool := decide (0 < den ∧ num ≤ den)
set_option maxRecDepth 100000 in
theorem share_good (w : World) (num den : Nat) :
    Calls Tryz.prog 131 #[.agg #[.int .u64 (num : Nat), .int .u64 (den : Nat)]] w fun e w' => e = .returned (.bool (goodR num den)) ∧ Chg [] w w' := by
  have HG := Lib.hid (show goodR num den = decide (0 < den ∧ num ≤ den) from rfl)
  generalize goodR num den = G at *
  have hc := (Chg.refl [] w).alloc (.cells #[.int .u64 num, .int .u64 den] 25)
  have hbx := Blk.alloc_new w #[.int .u64 num, .int .u64 den] 25
  have c0 := hbx.cell 0
  have c1 := hbx.cell 1
  by_cases h1 : 0 < den
  · have d1 : decide ((0 : Int) < (den : Int)) = true := decide_eq_true (by omega)
    have d1' : decide (0 < den) = true := decide_eq_true h1
    have e1 : G = decide (num ≤ den) := by rw [HG.out]; simp [h1]
    subst e1
    clear HG
    go_enter Tryz.func131, Tryz.ntmps131
    go_wp2
    go_ret
    exact ⟨rfl, hc⟩
  · have d1 : decide ((0 : Int) < (den : Int)) = false := decide_eq_false (by omega)
    have d1' : decide (0 < den) = false := decide_eq_false h1
    have e1 : G = false := by rw [HG.out]; simp; omega
    subst e1
    clear HG
    go_enter Tryz.func131, Tryz.ntmps131
    go_wp2
    go_ret
    exact ⟨rfl, hc⟩

/-- The error of a place, and the place. -/
def placeE (num den n : Nat) : Nat := if goodR num den then (if n = 0 then 5 else 0) else 1
def placeT (num den n : Nat) : Nat := if placeE num den n = 0 then max (ceilT (num * n) den) 1 else 0
theorem placeT_of {num den n : Nat} (h : placeE num den n = 0) : 1 ≤ placeT num den n ∧ placeT num den n ≤ n := by
  unfold placeT
  rw [if_pos h]
  unfold placeE at h
  split at h
  · next hg =>
    split at h
    · omega
    · next hn =>
      have hg' : 0 < den ∧ num ≤ den := by simpa [goodR] using hg
      have := ceilT_le hg'.1 (Nat.mul_le_mul_right n hg'.2)
      omega
  · omega

set_option maxRecDepth 100000 in
set_option maxHeartbeats 1000000 in
theorem share_place (w : World) (num den n : Nat) (hn : num < 18446744073709551616) (hd : den < 18446744073709551616) (hN : n < 18446744073709551616) (T E : Nat) (hT : T = placeT num den n) (hE : E = placeE num den n) :
    Calls Tryz.prog 256 #[.agg #[.int .u64 (num : Nat), .int .u64 (den : Nat)], .int .u64 (n : Nat)] w fun e w' => e = .returned (.tuple #[.int .u64 (T : Nat), .int .i64 (E : Nat)]) ∧ Chg [] w w' := by
  have hc := (Chg.refl [] w).alloc (.cells #[.int .u64 num, .int .u64 den] 25)
  have hbx := Blk.alloc_new w #[.int .u64 num, .int .u64 den] 25
  have c0 := hbx.cell 0
  have c1 := hbx.cell 1
  have HG := Lib.hid (fun u => share_good u num den)
  have HC := Lib.hid hc
  have HB := Lib.hid hbx
  by_cases hg : goodR num den = true
  · have hg' : 0 < den ∧ num ≤ den := by simpa [goodR] using hg
    by_cases h0 : n = 0
    · have e1 : placeE num den n = 5 := by rw [placeE, if_pos hg, if_pos h0]
      have e2 : placeT num den n = 0 := by rw [placeT, e1]; rfl
      rw [e1] at hE
      rw [e2] at hT
      subst hE hT h0
      rw [hg] at HG
      clear hg' hg e1 e2 hc hbx
      go_enter Tryz.func256, Tryz.ntmps256
      go_wp2_with fail
      refine (HG.out _).mono ?_
      rintro e w1 ⟨rfl, hc1⟩
      go_wp2
      go_ret2
      exact ⟨rfl, HC.out.trans hc1⟩
    · have e1 : placeE num den n = 0 := by rw [placeE, if_pos hg, if_neg h0]
      have e2 : placeT num den n = max (ceilT (num * n) den) 1 := by rw [placeT, if_pos e1]
      rw [e1] at hE
      rw [e2] at hT
      subst hE
      have HL := Lib.hid (fun u => wide_ceil u num n den (num * n) (ceilT (num * n) den) rfl hn hN hd hg'.1 (Nat.mul_le_mul_right n hg'.2) rfl)
      have hz : ((n : Int) == 0) = false := by rw [beq_eq_false_iff_ne]; omega
      rw [hg] at HG
      have HTT := Lib.hid hT
      generalize ceilT (num * n) den = q at *
      clear hg' hg e1 e2 hc hbx hT h0
      go_enter Tryz.func256, Tryz.ntmps256
      go_wp2_with fail
      refine (HG.out _).mono ?_
      rintro e w1 ⟨rfl, hc1⟩
      have hb1 := HB.out.chg hc1 (by simp)
      have c0 := hb1.cell 0
      have c1 := hb1.cell 1
      have HC1 := Lib.hid (HC.out.trans hc1)
      clear hc1 hb1 HG
      go_wp2_with fail
      refine (HL.out _).mono ?_
      rintro e w2 ⟨rfl, hc2⟩
      clear HL
      go_wp2
      go_ret2
      rw [HTT.out]
      refine ⟨?_, HC1.out.trans hc2⟩
      rw [show ((max q 1 : Nat) : Int) = max (q : Int) 1 from by omega]
      rfl
  · have e1 : placeE num den n = 1 := by rw [placeE, if_neg hg]
    have e2 : placeT num den n = 0 := by rw [placeT, e1]; rfl
    rw [e1] at hE
    rw [e2] at hT
    subst hE hT
    have hg2 : goodR num den = false := by simpa using hg
    rw [hg2] at HG
    clear hg hg2 e1 e2 hc hbx
    go_enter Tryz.func256, Tryz.ntmps256
    go_wp2_with fail
    refine (HG.out _).mono ?_
    rintro e w1 ⟨rfl, hc1⟩
    go_wp2
    go_ret2
    exact ⟨rfl, HC.out.trans hc1⟩

end Go.Proofs.YtmehcfocfljoeaaGreatDoor
