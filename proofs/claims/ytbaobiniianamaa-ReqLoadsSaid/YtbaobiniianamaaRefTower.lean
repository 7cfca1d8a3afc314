/-
  The document's tower in the heap: its rows are only read. Conditions: none.
-/
import Derived.Test.YtbaobiniianamaaTower
namespace Go.Proofs.Ytbaobiniianamaa
open Go.RowKit

/-- The document's tower: its own block, its row of rows, and the rows, which are never written into. -/
structure RT (w : World) (p : Nat) (rv : Value) (vs : List Value) (W word used : Nat) (rows : List (List Int)) : Prop where
  blk : Blk w p #[.int .i64 (W : Nat), .int .u64 (word : Nat), .int .i64 (used : Nat), rv] 89
  own : Own w 22 1 rv rows.length vs
  len : vs.length = rows.length
  rd : ∀ j (h : j < vs.length) (h' : j < rows.length), Rd w 1 vs[j] rows[j].length (ints rows[j])
  out : ∀ v ∈ vs, ∀ b ∈ blkOf v, b < w.heap.size ∧ b ≠ p ∧ b ∉ blkOf rv
def fpR (p : Nat) (rv : Value) (vs : List Value) : List Nat := p :: (blkOf rv ++ vs.flatMap blkOf)
namespace RT
variable {w w1 : World} {p W word used : Nat} {rv : Value} {vs : List Value} {rows : List (List Int)}
theorem lt (h : RT w p rv vs W word used rows) : ∀ b ∈ fpR p rv vs, b < w.heap.size := by
  intro b hb
  simp only [fpR, List.mem_cons, List.mem_append, List.mem_flatMap] at hb
  rcases hb with rfl | hb | ⟨v, hv, hb⟩
  · exact h.blk.lt
  · exact h.own.lt b hb
  · exact (h.out v hv b hb).1
theorem chg {F : List Nat} (h : RT w p rv vs W word used rows) (k : Chg F w w1) (hF : ∀ b ∈ fpR p rv vs, b ∉ F) : RT w1 p rv vs W word used rows := by
  have hv : ∀ v ∈ vs, ∀ b ∈ blkOf v, b ∉ F := fun v hv b hb => hF b (by simp only [fpR, List.mem_cons, List.mem_append, List.mem_flatMap]; exact .inr (.inr ⟨v, hv, hb⟩))
  exact ⟨h.blk.chg k (hF p (by simp [fpR])), h.own.chg k (fun b hb => hF b (by simp [fpR, hb])), h.len,
    fun j hj hj' => (h.rd j hj hj').chg k (hv _ (List.getElem_mem hj)), fun v hv b hb => ⟨Nat.lt_of_lt_of_le (h.out v hv b hb).1 k.size, (h.out v hv b hb).2⟩⟩
theorem p_rv (h : RT w p rv vs W word used rows) : p ∉ blkOf rv := h.own.ne_blk h.blk (by decide)
theorem cells (h : RT w p rv vs W word used rows) : w.cell? ⟨p, 0, none⟩ = some (.int .i64 (W : Nat)) ∧ w.cell? ⟨p, 1, none⟩ = some (.int .u64 (word : Nat)) ∧ w.cell? ⟨p, 2, none⟩ = some (.int .i64 (used : Nat)) ∧ w.cell? ⟨p, 3, none⟩ = some rv :=
  ⟨h.blk.cell 0, h.blk.cell 1, h.blk.cell 2, h.blk.cell 3⟩
theorem mem_rv (_h : RT w p rv vs W word used rows) : ∀ b ∈ blkOf rv, b ∈ fpR p rv vs := fun b hb => by simp [fpR, hb]
theorem mem_row (_h : RT w p rv vs W word used rows) (k : Nat) (hk : k < vs.length) : ∀ b ∈ blkOf vs[k], b ∈ fpR p rv vs := fun b hb => by
  simp only [fpR, List.mem_cons, List.mem_append, List.mem_flatMap]
  exact .inr (.inr ⟨vs[k], List.getElem_mem hk, hb⟩)
/-- So many coins are used now. -/
theorem setUsed (h : RT w p rv vs W word used rows) (u : Nat) : RT (w.setCell ⟨p, 2, none⟩ (.int .i64 (u : Nat))) p rv vs W word u rows := by
  have k : Chg [p] w (w.setCell ⟨p, 2, none⟩ (.int .i64 (u : Nat))) := (Chg.refl _ w).setCell (a := ⟨p, 2, none⟩) (.inl (by simp)) _
  exact ⟨h.blk.setCell 2 _, h.own.chg k (fun b hb e => by simp at e; subst e; exact h.p_rv hb), h.len,
    fun j hj hj' => (h.rd j hj hj').chg k (fun b hb e => by simp at e; exact (h.out _ (List.getElem_mem hj) b hb).2.1 e),
    fun v hv b hb => ⟨Nat.lt_of_lt_of_le (h.out v hv b hb).1 k.size, (h.out v hv b hb).2⟩⟩
/-- One row more, an empty one. -/
theorem push (h : RT w p rv vs W word used rows) {rv2 : Value} (k : Chg (blkOf rv) w w1) (ho : Own w1 22 1 rv2 (rows.length + 1) (vs ++ [.slice none 0 0])) (hf : ∀ b ∈ blkOf rv2, b ∈ blkOf rv ∨ w.heap.size ≤ b) :
    RT (w1.setCell ⟨p, 3, none⟩ rv2) p rv2 (vs ++ [.slice none 0 0]) W word used (rows ++ [[]]) := by
  have hb := h.blk.chg k h.p_rv
  have k2 : Chg [p] w1 (w1.setCell ⟨p, 3, none⟩ rv2) := (Chg.refl _ w1).setCell (.inl (by simp)) _
  refine ⟨hb.setCell 3 rv2, ?_, by simp [h.len], fun j hj hj' => ?_, fun v hv b hbv => ?_⟩
  · simp only [List.length_append, List.length_cons, List.length_nil, Nat.zero_add]
    exact ho.chg k2 (fun b hb2 e => by simp at e; subst e; exact ho.ne_blk hb (by decide) hb2)
  · by_cases hjl : j < vs.length
    · have hjl' : j < rows.length := by rw [← h.len]; exact hjl
      rw [List.getElem_append_left hjl, List.getElem_append_left hjl']
      exact ((h.rd j hjl hjl').chg k (fun b hb => (h.out _ (List.getElem_mem hjl) b hb).2.2)).chg k2 (fun b hb e => by simp at e; exact (h.out _ (List.getElem_mem hjl) b hb).2.1 e)
    · have h1 := h.len
      obtain rfl : j = vs.length := by simp at hj; omega
      have e2 : (rows ++ [[]])[vs.length] = [] := by rw [List.getElem_append_right (by omega)]; simp
      rw [e2]
      simp only [List.getElem_concat_length]
      exact (Own.nil _ 2 _).rd
  · rw [List.mem_append] at hv
    rcases hv with hv | hv
    · obtain ⟨h1, h2, h3⟩ := h.out v hv b hbv
      refine ⟨Nat.lt_of_lt_of_le h1 (Nat.le_trans k.size k2.size), h2, fun e => ?_⟩
      rcases hf b e with h4 | h4
      · exact h3 h4
      · omega
    · simp at hv; subst hv; simp at hbv
/-- A row is stored anew. -/
theorem turn {g o n c j : Nat} (h : RT w p (.slice (some ⟨g, o, none⟩) n c) vs W word used rows) (hj : j < vs.length) (k : Chg [] w w1)
    {v : Value} {r : List Int} (hv : Rd w1 1 v r.length (ints r)) (hd : ∀ b ∈ blkOf v, b < w1.heap.size ∧ b ≠ p ∧ b ≠ g) :
    RT (w1.setCell ⟨g, o + j, none⟩ v) p (.slice (some ⟨g, o, none⟩) n c) (vs.set j v) W word used (rows.set j r) := by
  have h' := h.chg k (by simp)
  have hgn : n = rows.length := by
    obtain ⟨_, ⟨h0, _⟩ | ⟨_, _, _, _, h0, _⟩⟩ := h.own
    · simp at h0
    · simp only [Value.slice.injEq] at h0; omega
  subst hgn
  have k2 : Chg [g] w1 (w1.setCell ⟨g, o + j, none⟩ v) := (Chg.refl _ w1).setCell (.inl (by simp)) _
  have hpg : p ≠ g := fun e => h.p_rv (by simp [e])
  refine ⟨h'.blk.setCell_other (by simp only; exact hpg) _, by simp only [List.length_set]; exact h'.own.set j v, by simpa using h.len, fun i hi hi' => ?_, fun u hu b hb => ?_⟩
  · simp only [List.length_set] at hi hi'
    by_cases hij : i = j
    · subst hij
      simp only [List.getElem_set_self]
      exact hv.chg k2 (fun b hb e => by simp at e; exact (hd b hb).2.2 e)
    · rw [List.getElem_set_ne (by omega), List.getElem_set_ne (by omega)]
      exact (h'.rd i hi hi').chg k2 (fun b hb e => by simp at e; exact (h.out _ (List.getElem_mem hi) b hb).2.2 (by simp [e]))
  · rcases List.mem_or_eq_of_mem_set hu with hu | rfl
    · exact ⟨Nat.lt_of_lt_of_le (h'.out u hu b hb).1 k2.size, (h'.out u hu b hb).2⟩
    · exact ⟨Nat.lt_of_lt_of_le (hd b hb).1 k2.size, (hd b hb).2.1, by simpa using (hd b hb).2.2⟩
theorem at2v {g o n c j : Nat} (h : RT w p (.slice (some ⟨g, o, none⟩) n c) vs W word used rows) (hj : j < vs.length) {v : Value} (hv : vs[j] = v) :
    w.cell? ⟨g, o + j, none⟩ = some v ∧ w.frozen? ⟨g, o + j, none⟩ = false ∧ w.cell? ⟨p, 3, none⟩ = some (.slice (some ⟨g, o, none⟩) n c) := by
  have hr := h.len
  subst hv
  exact ⟨by rw [h.own.cells j (by omega), List.getElem?_eq_getElem hj], h.own.free _, h.blk.cell 3⟩
end RT
end Go.Proofs.Ytbaobiniianamaa
