/-
  Plain law of sketches by comparisons: what they keep, and how close they are. Conditions: none.
-/
import Derived.Test.YtkcldhimjnehdaaPlainMerged
import Derived.Test.YtkcldhimjnehdaaPlainFind
import Derived.Test.YtkcldhimjnehdaaPlainReq
namespace Go.Proofs.Ytkcldhimjnehdaa

/-- To which rows are squeezed, of so many. -/
def limG (num den n : Nat) : Nat := max (2 * num * n / den) 1
theorem limG_mono {num den a b : Nat} (h : a ≤ b) : limG num den a ≤ limG num den b := by
  have := Nat.div_le_div_right (c := den) (Nat.mul_le_mul_left (2 * num) h)
  unfold limG
  omega
theorem add_div_le (a b d : Nat) : a / d + b / d ≤ (a + b) / d := by
  rcases Nat.eq_zero_or_pos d with h | h
  · subst h; simp
  · rw [Nat.le_div_iff_mul_le h, Nat.add_mul]
    have h1 := Nat.div_mul_le_self a d
    have h2 := Nat.div_mul_le_self b d
    omega
theorem limG_add (num den a b : Nat) : limG num den a + limG num den b ≤ limG num den (a + b) + 1 := by
  have h : 2 * num * a / den + 2 * num * b / den ≤ 2 * num * (a + b) / den := by
    rw [Nat.mul_add]
    exact add_div_le _ _ _
  unfold limG
  generalize 2 * num * a / den = x at *
  generalize 2 * num * b / den = y at *
  generalize 2 * num * (a + b) / den = z at *
  omega
/-- A sketch: a closeness, a row, all values that were flushed, and those that wait. -/
structure GkD where
  num : Nat
  den : Nat
  row : List Tp
  vals : List Int
  waits : List Int
namespace GkD
def total (D : GkD) : Nat := D.vals.length + D.waits.length
end GkD
def ins1 (r : List Tp) (x : Int) : List Tp := insT r x (upT r x)
def insAll (r : List Tp) (ws : List Int) : List Tp := ws.foldl ins1 r
namespace GkD
def flush (D : GkD) : GkD := if D.waits = [] then D else
  { D with row := sqT (limG D.num D.den D.total) (insAll D.row (sortL D.waits)), vals := D.vals ++ sortL D.waits, waits := [] }
def wait (D : GkD) (x : Int) : GkD := { D with waits := D.waits ++ [x] }
def put1 (D : GkD) (x : Int) : GkD := if 16 ≤ (D.wait x).waits.length then (D.wait x).flush else D.wait x
def putN (D : GkD) (x : Int) : Nat → GkD
  | 0 => D
  | k + 1 => (D.putN x k).put1 x
def join (D O : GkD) : GkD := { D with row := sqT (limG D.num D.den (D.total + O.total)) (mrgT D.flush.row O.flush.row), vals := D.flush.vals ++ O.flush.vals, waits := [] }
/-- What is so of each. -/
structure ok (D : GkD) : Prop where
  fine : FineT D.row D.vals.length
  placed : Placed (spF 0 D.row) D.vals
  len : D.row.length ≤ D.vals.length
  few : D.waits.length < 16
  tight : ∀ p ∈ D.row, p.st + p.sl ≤ limG D.num D.den D.vals.length
theorem flush_same (D : GkD) : D.flush.num = D.num ∧ D.flush.den = D.den ∧ D.flush.total = D.total ∧ D.flush.waits = [] := by
  unfold flush
  split
  · next h => exact ⟨rfl, rfl, rfl, h⟩
  · refine ⟨rfl, rfl, ?_, rfl⟩
    simp [total, (sort_ok D.waits).2.2]
theorem put1_same (D : GkD) (x : Int) : (D.put1 x).num = D.num ∧ (D.put1 x).den = D.den ∧ (D.put1 x).total = D.total + 1 := by
  have ht : (D.wait x).total = D.total + 1 := by simp [wait, total]; omega
  unfold put1
  split
  · obtain ⟨h1, h2, h3, _⟩ := (D.wait x).flush_same
    exact ⟨h1, h2, h3.trans ht⟩
  · exact ⟨rfl, rfl, ht⟩
theorem putN_same (D : GkD) (x : Int) (k : Nat) : (D.putN x k).num = D.num ∧ (D.putN x k).den = D.den ∧ (D.putN x k).total = D.total + k := by
  induction k with
  | zero => exact ⟨rfl, rfl, rfl⟩
  | succ k ih =>
    obtain ⟨h1, h2, h3⟩ := (D.putN x k).put1_same x
    exact ⟨h1.trans ih.1, h2.trans ih.2.1, by rw [show D.putN x (k + 1) = (D.putN x k).put1 x from rfl, h3, ih.2.2]; omega⟩
end GkD
theorem getD_memT {l : List Tp} {k : Nat} (h : k < l.length) : l.getD k default ∈ l := by
  simp [List.getD, h]
/-- What holds of each tuple behind an insertion: of the new one too. -/
theorem insT_tight {r : List Tp} {x : Int} {k g : Nat} (hg : 1 ≤ g) (hp : ∀ p ∈ r, 1 ≤ p.st) (h : ∀ p ∈ r, p.st + p.sl ≤ g) : ∀ p ∈ insT r x k, p.st + p.sl ≤ g := by
  intro p hm
  unfold insT at hm
  simp only [List.mem_append, List.mem_cons, List.not_mem_nil, or_false] at hm
  rcases hm with (hm | rfl) | hm
  · exact h p (List.mem_of_mem_take hm)
  · simp only
    split
    · next hk =>
      have h1 := h _ (getD_memT hk.2)
      have h2 := hp _ (getD_memT hk.2)
      omega
    · omega
  · exact h p (List.mem_of_mem_drop hm)
theorem sqStep_tight {m i : Nat} {r : List Tp} {g : Nat} (hmg : m ≤ g) (h : ∀ p ∈ r, p.st + p.sl ≤ g) : ∀ p ∈ sqStep m i r, p.st + p.sl ≤ g := by
  intro p hm
  unfold sqStep at hm
  split at hm
  · next hle =>
    simp only [List.mem_append, List.mem_cons, List.not_mem_nil, or_false] at hm
    rcases hm with (hm | rfl) | hm
    · exact h p (List.mem_of_mem_take hm)
    · simp only; omega
    · exact h p (List.mem_of_mem_drop hm)
  · exact h p hm
theorem sqTo_tight {m g : Nat} (hmg : m ≤ g) : ∀ (i : Nat) (r : List Tp), (∀ p ∈ r, p.st + p.sl ≤ g) → ∀ p ∈ sqTo m i r, p.st + p.sl ≤ g
  | 0, _, h => h
  | i + 1, _, h => sqTo_tight hmg i _ (sqStep_tight hmg h)
theorem sqT_tight {m g : Nat} (hmg : m ≤ g) {r : List Tp} (h : ∀ p ∈ r, p.st + p.sl ≤ g) : ∀ p ∈ sqT m r, p.st + p.sl ≤ g := sqTo_tight hmg _ r h
theorem mrgT_tight {ga gb : Nat} : ∀ (a b : List Tp), (∀ p ∈ a, p.st + p.sl ≤ ga) → (∀ p ∈ b, p.st + p.sl ≤ gb) → 1 ≤ ga → 1 ≤ gb → ∀ p ∈ mrgT a b, p.st + p.sl ≤ ga + gb - 1
  | [], b, _, hb, h1, h2, p, hp => by
    rw [mrgT_nil] at hp
    have := hb p hp
    omega
  | q :: a, [], ha, _, h1, h2, p, hp => by
    rw [mrgT_left] at hp
    have := ha p hp
    omega
  | q :: a, r :: b, ha, hb, h1, h2, p, hp => by
    by_cases h : q.x ≤ r.x
    · rw [mrgT_le a b h] at hp
      rcases List.mem_cons.1 hp with rfl | hp
      · have h3 := ha q (by simp)
        have h4 := hb r (by simp)
        simp only
        omega
      · exact mrgT_tight a (r :: b) (fun p hp => ha p (by simp [hp])) hb h1 h2 p hp
    · rw [mrgT_gt a b h] at hp
      rcases List.mem_cons.1 hp with rfl | hp
      · have h3 := ha q (by simp)
        have h4 := hb r (by simp)
        simp only
        omega
      · exact mrgT_tight (q :: a) b ha (fun p hp => hb p (by simp [hp])) h1 h2 p hp
termination_by a b => a.length + b.length
theorem insAll_fine {g : Nat} (hg : 1 ≤ g) : ∀ (ws : List Int) {r : List Tp} {A : List Int}, FineP (r, A) A.length → (∀ p ∈ r, p.st + p.sl ≤ g) →
    FineP (insAll r ws, A ++ ws) (A ++ ws).length ∧ ∀ p ∈ insAll r ws, p.st + p.sl ≤ g
  | [], r, A, h, h3 => by rw [List.append_nil]; exact ⟨h, h3⟩
  | x :: ws, r, A, h, h3 => by
    have h4 := h.step ⟨x, 0, false⟩
    have e : playS (r, A) ⟨x, 0, false⟩ = (ins1 r x, A ++ [x]) := by simp [playS, ins1]
    rw [e] at h4
    have hl : (A ++ [x]).length = A.length + 1 := by simp
    have h5 := insAll_fine hg ws (r := ins1 r x) (A := A ++ [x]) (by rw [hl]; exact h4) (insT_tight hg h.fine.pos h3)
    rw [List.append_assoc, List.singleton_append] at h5
    exact h5
namespace GkD
theorem ok.lim {D : GkD} (h : D.ok) {n : Nat} (hn : D.vals.length ≤ n) : ∀ p ∈ D.row, p.st + p.sl ≤ limG D.num D.den n := fun p hp => Nat.le_trans (h.tight p hp) (limG_mono hn)
theorem limG_pos (num den n : Nat) : 1 ≤ limG num den n := Nat.le_max_right _ _
theorem flush_ok {D : GkD} (h : D.ok) (hw : D.waits.length ≤ 16) : D.flush.ok := by
  unfold flush
  split
  · exact h
  · have hlen : (D.vals ++ sortL D.waits).length = D.total := by simp [total, (sort_ok D.waits).2.2]
    have h1 := insAll_fine (limG_pos D.num D.den D.total) (sortL D.waits) (r := D.row) (A := D.vals) ⟨h.fine, h.placed, h.len, Nat.le_refl _⟩ (h.lim (by unfold total; omega))
    obtain ⟨⟨h2, h3, h4, _⟩, h6⟩ := h1
    refine ⟨h2.squeeze _, ?_, ?_, by simp, ?_⟩
    · show Placed (spF 0 (sqT (limG D.num D.den D.total) (insAll D.row (sortL D.waits)))) _
      rw [squeeze_same]
      exact h3.squeeze _
    · exact Nat.le_trans (sqT_len _ _) h4
    · show ∀ p ∈ sqT (limG D.num D.den D.total) (insAll D.row (sortL D.waits)), p.st + p.sl ≤ limG D.num D.den (D.vals ++ sortL D.waits).length
      rw [hlen]
      exact sqT_tight (Nat.le_refl _) h6
/-- A row may wait for a moment with one value too many. -/
structure ok' (D : GkD) : Prop where
  fine : FineT D.row D.vals.length
  placed : Placed (spF 0 D.row) D.vals
  len : D.row.length ≤ D.vals.length
  few : D.waits.length ≤ 16
  tight : ∀ p ∈ D.row, p.st + p.sl ≤ limG D.num D.den D.vals.length
theorem flush_ok' {D : GkD} (h : D.ok') (hw : D.waits ≠ []) : D.flush.ok := by
  unfold flush
  rw [if_neg hw]
  have hlen : (D.vals ++ sortL D.waits).length = D.total := by simp [total, (sort_ok D.waits).2.2]
  have h1 := insAll_fine (limG_pos D.num D.den D.total) (sortL D.waits) (r := D.row) (A := D.vals) ⟨h.fine, h.placed, h.len, Nat.le_refl _⟩ (fun p hp => Nat.le_trans (h.tight p hp) (limG_mono (by unfold total; omega)))
  obtain ⟨⟨h2, h3, h4, _⟩, h6⟩ := h1
  refine ⟨h2.squeeze _, ?_, ?_, by simp, ?_⟩
  · show Placed (spF 0 (sqT (limG D.num D.den D.total) (insAll D.row (sortL D.waits)))) _
    rw [squeeze_same]
    exact h3.squeeze _
  · exact Nat.le_trans (sqT_len _ _) h4
  · show ∀ p ∈ sqT (limG D.num D.den D.total) (insAll D.row (sortL D.waits)), p.st + p.sl ≤ limG D.num D.den (D.vals ++ sortL D.waits).length
    rw [hlen]
    exact sqT_tight (Nat.le_refl _) h6
theorem put1_ok {D : GkD} (h : D.ok) (x : Int) : (D.put1 x).ok := by
  unfold put1
  have hl : (D.wait x).waits.length = D.waits.length + 1 := by simp [wait]
  have hf := h.few
  split
  · refine flush_ok' ⟨h.fine, h.placed, h.len, by omega, h.tight⟩ (fun e => ?_)
    rw [e] at hl
    simp at hl
  · exact ⟨h.fine, h.placed, h.len, by omega, h.tight⟩
theorem putN_ok {D : GkD} (h : D.ok) (x : Int) (k : Nat) : (D.putN x k).ok := by
  induction k with
  | zero => exact h
  | succ k ih => exact put1_ok ih x
theorem flush_ok0 {D : GkD} (h : D.ok) : D.flush.ok := flush_ok h (by have := h.few; omega)
theorem join_ok {D O : GkD} (h : D.ok) (k : O.ok) (hn : O.num = D.num) (hd : O.den = D.den) : (D.join O).ok := by
  have a := flush_ok0 h
  have b := flush_ok0 k
  obtain ⟨a1, a2, a3, a4⟩ := D.flush_same
  obtain ⟨b1, b2, b3, b4⟩ := O.flush_same
  have ha : D.flush.vals.length = D.total := by rw [← a3, total, a4]; rfl
  have hb : O.flush.vals.length = O.total := by rw [← b3, total, b4]; rfl
  obtain ⟨m1, m2⟩ := merged a.fine b.fine a.placed b.placed
  have ht := mrgT_tight D.flush.row O.flush.row a.tight b.tight (limG_pos _ _ _) (limG_pos _ _ _)
  rw [a1, a2, b1, b2, hn, hd, ha, hb] at ht
  have hlen : (D.flush.vals ++ O.flush.vals).length = D.total + O.total := by rw [List.length_append, ha, hb]
  refine ⟨m1.squeeze _, ?_, ?_, by simp [join], ?_⟩
  · show Placed (spF 0 (sqT _ _)) _
    rw [squeeze_same]
    exact m2.squeeze _
  · refine Nat.le_trans (sqT_len _ _) ?_
    rw [mrgT_len]
    have h1 := a.len
    have h2 := b.len
    simp only [join, List.length_append]
    omega
  · show ∀ p ∈ sqT (limG D.num D.den (D.total + O.total)) (mrgT D.flush.row O.flush.row), p.st + p.sl ≤ limG D.num D.den (D.flush.vals ++ O.flush.vals).length
    rw [hlen]
    refine sqT_tight (Nat.le_refl _) (fun p hp => ?_)
    have h1 := ht p hp
    have h2 := limG_add D.num D.den D.total O.total
    omega
theorem join_same {D O : GkD} (_h : D.ok) (_k : O.ok) : (D.join O).num = D.num ∧ (D.join O).den = D.den ∧ (D.join O).total = D.total + O.total := by
  obtain ⟨a1, a2, a3, a4⟩ := D.flush_same
  obtain ⟨b1, b2, b3, b4⟩ := O.flush_same
  refine ⟨rfl, rfl, ?_⟩
  simp only [total, join, List.length_append, List.length_nil] at *
  rw [a4] at a3
  rw [b4] at b3
  simp at a3 b3
  omega
/-- All values that were put. -/
def all (D : GkD) : List Int := D.vals ++ D.waits
theorem upC_sort (l : List Int) (x : Int) : upC (sortL l) x = upC l x := (sort_ok l).2.1 x
theorem flush_all (D : GkD) (x : Int) : upC D.flush.all x = upC D.all x := by
  unfold flush
  split
  · rfl
  · simp only [all, upC_app, upC_sort, List.append_nil]
theorem put1_all (D : GkD) (y x : Int) : upC (D.put1 y).all x = upC D.all x + if y ≤ x then 1 else 0 := by
  have hw : upC (D.wait y).all x = upC D.all x + if y ≤ x then 1 else 0 := by
    simp only [all, wait, ← List.append_assoc]
    exact upC_snoc _ _ _
  unfold put1
  split
  · rw [flush_all, hw]
  · exact hw
theorem putN_all (D : GkD) (y x : Int) (k : Nat) : upC (D.putN y k).all x = upC D.all x + if y ≤ x then k else 0 := by
  induction k with
  | zero => simp [putN]
  | succ k ih =>
    rw [show D.putN y (k + 1) = (D.putN y k).put1 y from rfl, put1_all, ih]
    split <;> omega
theorem join_all (D O : GkD) (x : Int) : upC (D.join O).all x = upC D.all x + upC O.all x := by
  have h1 := D.flush_all x
  have h2 := O.flush_all x
  obtain ⟨_, _, _, a4⟩ := D.flush_same
  obtain ⟨_, _, _, b4⟩ := O.flush_same
  simp only [all, a4, b4, List.append_nil] at h1 h2
  simp only [all, join, List.append_nil, upC_app] at *
  omega
theorem all_len (D : GkD) : D.all.length = D.total := by simp [all, total]
end GkD
theorem unC_up1 (A : List Int) (x : Int) : unC A x = upC A (x - 1) := by
  unfold unC upC
  congr 1
  funext y
  rw [Bool.eq_iff_iff]
  simp
  omega
/-- Half of the limit, as a part of all. -/
theorem lim_half {num den n g : Nat} (hg : g ≤ limG num den n / 2) : g * den ≤ num * n := by
  unfold limG at hg
  by_cases h : 2 * num * n / den ≤ 1
  · have : g = 0 := by omega
    subst this
    simp
  · have h1 : 2 * g ≤ 2 * num * n / den := by omega
    have h2 := Nat.div_mul_le_self (2 * num * n) den
    have h3 := Nat.mul_le_mul_right den h1
    have h4 : 2 * g * den = 2 * (g * den) := Nat.mul_assoc _ _ _
    have h5 : 2 * num * n = 2 * (num * n) := Nat.mul_assoc _ _ _
    omega
end Go.Proofs.Ytkcldhimjnehdaa
