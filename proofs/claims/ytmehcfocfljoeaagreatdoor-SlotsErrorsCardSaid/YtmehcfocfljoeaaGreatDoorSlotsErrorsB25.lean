/-
  The walk of coins.Split. Conditions: the form's own reach.
  Towers in the heap: rows of rows, each of the program's own. Conditions: none.
  The walk of (*Tower).Rank. Conditions: the form's own reach.
-/
import Derived.Test.YtmehcfocfljoeaaGreatDoorSlotsErrorsB24
import Derived.Test.YtmehcfocfljoeaaGreatDoorSlotsErrorsB19
import Derived.Test.YtmehcfocfljoeaaGreatDoorSlotsErrorsB20
import Derived.Test.YtmehcfocfljoeaaGreatDoorSlotsErrorsB3
namespace Go.Proofs.YtmehcfocfljoeaaGreatDoor
open Go.RowKit

/-- How many stay, of n, of which so many are asked to. -/
def keepI (n : Nat) (k : Int) : Nat := keepN n k.toNat

theorem Own.cut {w : World} {e : TypeId} {g o n c : Nat} {xs : List Int} (h : Own w e 1 (.slice (some ⟨g, o, none⟩) n c) n (ints xs)) {m : Nat} (hm : m ≤ n) :
    Own w e 1 (.slice (some ⟨g, o, none⟩) m m) m (ints (xs.take m)) ∧ ∀ c', Rd w 1 (.slice (some ⟨g, o + m, none⟩) (n - m) c') (n - m) (ints (xs.drop m)) := by
  have hl : xs.length = n := by simpa using h.1
  have hcell := fun j hj => h.cells j hj
  obtain ⟨hx, ⟨h0, _⟩ | ⟨g', o', cp, cur, h0, hg, h1, h2, h3, h4⟩⟩ := h
  · simp at h0
  · simp only [Value.slice.injEq, Option.some.injEq, Addr.mk.injEq, true_and, and_true] at h0
    obtain ⟨⟨rfl, rfl⟩, rfl⟩ := h0
    refine ⟨⟨by simp; omega, .inr ⟨g, o, m, cur, rfl, hg, Nat.le_refl _, by omega, by omega, ?_⟩⟩, fun c' => ⟨by simp; omega, _, _, rfl, .inr ⟨g, o + m, rfl, fun j hj => ?_⟩⟩⟩
    · have e1 : (cur.toList.drop o).take (m * 1) = ((cur.toList.drop o).take (n * 1)).take m := by rw [List.take_take]; congr 1; omega
      rw [e1, h4]
      simp [ints, List.map_take]
    · rw [Nat.add_assoc, hcell (m + j) (by omega), ints_drop]

/-- What Split hands back: one row in order, in two parts. -/
def SplitP (w w' : World) (l : List Int) (n m : Nat) (e : Ending) : Prop :=
  ∃ a3 c3 a4 c4, e = .returned (.tuple #[.slice a3 m c3, .slice a4 (n - m) c4]) ∧
      Own w' 2 1 (.slice a3 m c3) m (ints ((sortL l).take m)) ∧ Rd w' 1 (.slice a4 (n - m) c4) (n - m) (ints ((sortL l).drop m)) ∧ Chg [] w w' ∧ (∀ b ∈ abl a3, w.heap.size ≤ b) ∧ (∀ b ∈ abl a4, w.heap.size ≤ b) ∧
      (∃ c5, Own w' 2 1 (.slice a3 n c5) n (ints (sortL l))) ∧ (n - m = 0 ∨ ∃ g o, a3 = some ⟨g, o, none⟩ ∧ a4 = some ⟨g, o + m, none⟩) ∧ c3 = m
set_option maxRecDepth 100000 in
set_option maxHeartbeats 1000000 in
theorem coins_split (w : World) (ao : Option Addr) (cap : Nat) (l : List Int) (n : Nat) (hn : n = l.length) (k : Int) (m : Nat) (hm : m = keepI n k) (hr : Rd w 1 (.slice ao n cap) n (ints l)) (hl : n ≤ 1000000) :
    Calls Tryz.prog 401 #[.slice ao n cap, .int .i64 k] w fun e w' => SplitP w w' l n m e := by
  have hB := (Blk.alloc_new w #[.slice ao n cap] 73).cell 0
  have HS := Lib.hid (slices_sorted (w.alloc (.cells #[.slice ao n cap] 73)) w.heap.size ao cap l (by rw [← hn]; exact hB) (by rw [← hn]; exact hr.alloc _) (by omega))
  rw [← hn] at HS
  have HN := Lib.hid hn
  clear hB hn
  have hkb := keepN_le (n := n) (k := min k.toNat n) (Nat.min_le_right _ _)
  go_enter Tryz.func401, Tryz.ntmps401
  go_wp2_with fail
  refine (slices_values w ao n cap).mono ?_
  rintro e w1 ⟨rfl, rfl⟩
  go_wp2_with fail
  refine HS.out.mono ?_
  rintro e w2 ⟨a3, c3, rfl, ho, hc, hab⟩
  have hcc := ((Chg.refl [] w).alloc _).trans hc
  clear HS
  have hck : k.toNat = (max k 0).toNat := by omega
  have hmn : m ≤ n := by rw [hm, keepI, keepN]; split <;> omega
  have hval1 : ((n : Int) - min (max k 0) (n : Int)) % 2 = 1 → min (max k 0) (n : Int) + 1 = (m : Int) := fun h => by
    rw [hm, keepI, keepN, if_pos (by omega)]; omega
  have hval2 : ¬ ((n : Int) - min (max k 0) (n : Int)) % 2 = 1 → min (max k 0) (n : Int) = (m : Int) := fun h => by
    rw [hm, keepI, keepN, if_neg (by omega)]; omega
  have HV1 := Lib.hid hval1
  have HV2 := Lib.hid hval2
  clear hval1 hval2 hck hkb hm
  have HO := Lib.hid ho
  obtain ⟨hx, ⟨h0, rfl⟩ | ⟨g, o, cp, cur, h0, hg, h1, h2, h3, h4⟩⟩ := ho
  · simp only [Value.slice.injEq] at h0
    obtain ⟨rfl, _, rfl⟩ := h0
    obtain rfl : m = 0 := by omega
    have hp : ¬ (((0 : Nat) : Int) - min (max k 0) ((0 : Nat) : Int)) % 2 = 1 := by omega
    have hv := HV2.out hp
    have hpb : ((((0 : Nat) : Int) - min (max k 0) ((0 : Nat) : Int)) % 2 == 1) = false := by rw [beq_eq_false_iff_ne]; exact hp
    simp only [Int.natCast_zero] at hv hpb
    have HE := Lib.hid (show sortL l = [] from List.eq_nil_of_length_eq_zero (by simpa using hx))
    clear hp HV1 HV2 hx
    go_wp2
    go_quiet (fail)
    go_wp2
    go_ret2
    rw [SplitP, HE.out]
    exact ⟨none, 0, none, 0, rfl, Own.nil _ _ _, (Own.nil w2 2 1).rd, hcc.drewN _, by simp, by simp, ⟨0, by rw [ints]; exact Own.nil _ _ _⟩, .inl (by omega), rfl⟩
  · simp only [Value.slice.injEq, true_and] at h0
    obtain ⟨rfl, rfl⟩ := h0
    have hmc : (m : Int) ≤ (c3 : Int) := by omega
    have hmc2 : (n : Int) ≤ (c3 : Int) := by omega
    have hmn2 : (m : Int) ≤ (n : Int) := by omega
    have hm0 : (0 : Int) ≤ (m : Int) := by omega
    have HF := Lib.hid (HO.out.cut hmn)
    have hgw : w.heap.size ≤ g := by have := hab g (by simp); simp at this; omega
    clear hg h2 h3 h4 hx
    have HZ := Lib.hid (show ∀ nq c', c3 = m → Rd (w2.drewN nq) 1 (.slice (some ⟨g, o, none⟩) (n - m) c') (n - m) (ints ((sortL l).drop m)) from fun nq c' hc => by
      have h0 : n - m = 0 := by omega
      have hs : (sortL l).length = n := by rw [(sort_ok l).2.2, HN.out]
      exact ⟨by simp; omega, _, _, rfl, .inl h0⟩)
    have HFD := Lib.hid (fun nq => (⟨HF.out.1.chg ((Chg.refl [] w2).drewN nq) (by simp), fun c' => (HF.out.2 c').chg ((Chg.refl [] w2).drewN nq) (by simp)⟩ : Own (w2.drewN nq) 2 1 (.slice (some ⟨g, o, none⟩) m m) m (ints ((sortL l).take m)) ∧ ∀ c', Rd (w2.drewN nq) 1 (.slice (some ⟨g, o + m, none⟩) (n - m) c') (n - m) (ints ((sortL l).drop m))))
    by_cases hp : ((n : Int) - min (max k 0) (n : Int)) % 2 = 1
    · have hpb : (((n : Int) - min (max k 0) (n : Int)) % 2 == 1) = true := by rw [beq_iff_eq]; exact hp
      have hv := HV1.out hp
      clear hp
      go_wp2
      go_quiet (fail)
      go_wp2
      · go_ret2
        exact ⟨_, _, _, _, rfl, (HFD.out nq).1, HZ.out nq _ (by assumption), hcc.drewN _, by simpa using hgw, by simpa using hgw, ⟨c3, HO.out.chg ((Chg.refl [] w2).drewN nq) (by simp)⟩, .inl (by omega), by first | rfl | assumption⟩
      · go_ret2
        exact ⟨_, _, _, _, rfl, (HFD.out nq).1, (HFD.out nq).2 _, hcc.drewN _, by simpa using hgw, by simpa using hgw, ⟨c3, HO.out.chg ((Chg.refl [] w2).drewN nq) (by simp)⟩, .inr ⟨g, o, rfl, rfl⟩, rfl⟩
    · have hpb : (((n : Int) - min (max k 0) (n : Int)) % 2 == 1) = false := by rw [beq_eq_false_iff_ne]; exact hp
      have hv := HV2.out hp
      clear hp
      go_wp2
      go_quiet (fail)
      go_wp2
      · go_ret2
        exact ⟨_, _, _, _, rfl, (HFD.out nq).1, HZ.out nq _ (by assumption), hcc.drewN _, by simpa using hgw, by simpa using hgw, ⟨c3, HO.out.chg ((Chg.refl [] w2).drewN nq) (by simp)⟩, .inl (by omega), by first | rfl | assumption⟩
      · go_ret2
        exact ⟨_, _, _, _, rfl, (HFD.out nq).1, (HFD.out nq).2 _, hcc.drewN _, by simpa using hgw, by simpa using hgw, ⟨c3, HO.out.chg ((Chg.refl [] w2).drewN nq) (by simp)⟩, .inr ⟨g, o, rfl, rfl⟩, rfl⟩
end Go.Proofs.YtmehcfocfljoeaaGreatDoor

namespace Go.Proofs.YtmehcfocfljoeaaGreatDoor
open Go.RowKit

theorem under_rowsT : Tryz.prog.underlying 232 = some (.slice 73) := by kernel_rfl
theorem info_intsT : (Tryz.prog.info? 73).map (fun i => (i.zero, i.size, i.bytes)) = some (some (.slice none 0 0), 1, 24) := by kernel_rfl

/-- Rows of numbers, each of the program's own, none of which share a block. -/
def RowsW (w : World) (vs : List Value) (rows : List (List Int)) : Prop :=
  vs.length = rows.length ∧ (∀ j (h : j < vs.length) (h' : j < rows.length), Own w 2 1 vs[j] rows[j].length (ints rows[j])) ∧
  ∀ j k (h : j < vs.length) (h' : k < vs.length), j ≠ k → ∀ b ∈ blkOf vs[j], b ∉ blkOf vs[k]
theorem RowsW.lt {w : World} {vs : List Value} {rows : List (List Int)} (h : RowsW w vs rows) (k : Nat) (hk : k < vs.length) : ∀ b ∈ blkOf vs[k], b < w.heap.size :=
  (h.2.1 k hk (by rw [← h.1]; exact hk)).lt
/-- One row has turned. -/
theorem RowsW.turn {w w1 : World} {vs : List Value} {rows : List (List Int)} {F : List Nat} (h : RowsW w vs rows) (k : Chg F w w1) (j : Nat) (hj : j < vs.length) (hF : ∀ i (hi : i < vs.length), i ≠ j → ∀ b ∈ blkOf vs[i], b ∉ F)
    {v : Value} {r : List Int} (ho : Own w1 2 1 v r.length (ints r)) (hd : ∀ i (hi : i < vs.length), i ≠ j → ∀ b ∈ blkOf v, b ∉ blkOf vs[i]) : RowsW w1 (vs.set j v) (rows.set j r) := by
  refine ⟨by simpa using h.1, fun i hi hi' => ?_, fun i i2 hi hi2 hne b hb => ?_⟩
  · simp only [List.length_set] at hi hi'
    by_cases hij : i = j
    · subst hij
      simpa using ho
    · rw [List.getElem_set_ne (by omega), List.getElem_set_ne (by omega)]
      exact (h.2.1 i hi hi').chg k (hF i hi hij)
  · have hiL : i < vs.length := by simpa using hi
    have hiL2 : i2 < vs.length := by simpa using hi2
    by_cases hij : i = j
    · subst hij
      rw [List.getElem_set_self] at hb
      rw [List.getElem_set_ne hne]
      exact hd i2 hiL2 (by omega) b hb
    · rw [List.getElem_set_ne (by omega)] at hb
      by_cases hi2j : i2 = j
      · subst hi2j
        rw [List.getElem_set_self]
        intro hb2
        exact hd i hiL hij b hb2 hb
      · rw [List.getElem_set_ne (by omega)]
        exact h.2.2 i i2 hiL hiL2 hne b hb
theorem RowsW.chg {w w1 : World} {vs : List Value} {rows : List (List Int)} {F : List Nat} (h : RowsW w vs rows) (k : Chg F w w1) (hF : ∀ v ∈ vs, ∀ b ∈ blkOf v, b ∉ F) : RowsW w1 vs rows :=
  ⟨h.1, fun i hi hi' => (h.2.1 i hi hi').chg k (hF _ (List.getElem_mem hi)), h.2.2⟩
theorem RowsW.push {w : World} {vs : List Value} {rows : List (List Int)} (h : RowsW w vs rows) : RowsW w (vs ++ [.slice none 0 0]) (rows ++ [[]]) := by
  refine ⟨by simp [h.1], fun i hi hi' => ?_, fun i i2 hi hi2 hne b hb => ?_⟩
  · by_cases hil : i < vs.length
    · have hil' : i < rows.length := by rw [← h.1]; exact hil
      rw [List.getElem_append_left hil, List.getElem_append_left hil']
      exact h.2.1 i hil hil'
    · have h1 := h.1
      obtain rfl : i = vs.length := by simp at hi; omega
      have e2 : (rows ++ [[]])[vs.length] = [] := by rw [List.getElem_append_right (by omega)]; simp
      rw [e2]
      simp only [List.getElem_concat_length]
      exact Own.nil _ _ _
  · by_cases hil : i < vs.length
    · rw [List.getElem_append_left hil] at hb
      by_cases hil2 : i2 < vs.length
      · rw [List.getElem_append_left hil2]
        exact h.2.2 i i2 hil hil2 hne b hb
      · obtain rfl : i2 = vs.length := by simp at hi2; omega
        simp
    · obtain rfl : i = vs.length := by simp at hi; omega
      simp at hb

/-- What a tower is. -/
structure TwD where
  W : Nat
  word : Nat
  used : Nat
  total : Nat
  rows : List (List Int)
  least : Int
  most : Int
def twCells (tp : Nat) (rv : Value) (D : TwD) : Array Value :=
  #[.int .i64 (D.W : Nat), .int .u64 (D.word : Nat), .pointer (some ⟨tp, 0, none⟩), rv, .int .u64 (D.total : Nat), .int .i64 D.least, .int .i64 D.most]
/-- A tower in the heap: its own block, its tape, its row of rows, and the rows. -/
structure Tow (w : World) (p tp : Nat) (rv : Value) (vs : List Value) (D : TwD) : Prop where
  blk : Blk w p (twCells tp rv D) 234
  tape : Tape w tp D.word D.used
  own : Own w 73 1 rv D.rows.length vs
  rows : RowsW w vs D.rows
/-- The blocks of a tower. -/
def fp (p tp : Nat) (rv : Value) (vs : List Value) : List Nat := p :: tp :: (blkOf rv ++ vs.flatMap blkOf)
namespace Tow
variable {w w1 : World} {p tp : Nat} {rv : Value} {vs : List Value} {D : TwD}
theorem lt (h : Tow w p tp rv vs D) : ∀ b ∈ fp p tp rv vs, b < w.heap.size := by
  intro b hb
  simp only [fp, List.mem_cons, List.mem_append, List.mem_flatMap] at hb
  rcases hb with rfl | rfl | hb | ⟨v, hv, hb⟩
  · exact h.blk.lt
  · exact Blk.lt h.tape
  · exact h.own.lt b hb
  · obtain ⟨k, hk, rfl⟩ := List.getElem_of_mem hv
    exact h.rows.lt k hk b hb
theorem chg {F : List Nat} (h : Tow w p tp rv vs D) (k : Chg F w w1) (hF : ∀ b ∈ fp p tp rv vs, b ∉ F) : Tow w1 p tp rv vs D :=
  ⟨h.blk.chg k (hF p (by simp [fp])), h.tape.chg k (hF tp (by simp [fp])), h.own.chg k (fun b hb => hF b (by simp [fp, hb])),
   h.rows.chg k (fun v hv b hb => hF b (by simp only [fp, List.mem_cons, List.mem_append, List.mem_flatMap]; exact .inr (.inr (.inr ⟨v, hv, hb⟩))))⟩
theorem ne_tape (h : Tow w p tp rv vs D) : p ≠ tp := by
  intro e
  have h1 := h.blk
  have h2 := h.tape
  simp only [Tape, Blk, ← e] at h1 h2
  rw [h1] at h2
  simp at h2
theorem p_rv (h : Tow w p tp rv vs D) : p ∉ blkOf rv := h.own.ne_blk h.blk (by decide)
theorem tp_rv (h : Tow w p tp rv vs D) : tp ∉ blkOf rv := h.own.ne_blk h.tape (by decide)
theorem p_row (h : Tow w p tp rv vs D) (k : Nat) (hk : k < vs.length) : p ∉ blkOf vs[k] := (h.rows.2.1 k hk (by rw [← h.rows.1]; exact hk)).ne_blk h.blk (by decide)
theorem tp_row (h : Tow w p tp rv vs D) (k : Nat) (hk : k < vs.length) : tp ∉ blkOf vs[k] := (h.rows.2.1 k hk (by rw [← h.rows.1]; exact hk)).ne_blk h.tape (by decide)
theorem rv_row (h : Tow w p tp rv vs D) (k : Nat) (hk : k < vs.length) : ∀ b ∈ blkOf rv, b ∉ blkOf vs[k] := h.own.apart (h.rows.2.1 k hk (by rw [← h.rows.1]; exact hk)) (by decide)
theorem cells (h : Tow w p tp rv vs D) : w.cell? ⟨p, 0, none⟩ = some (.int .i64 (D.W : Nat)) ∧ w.cell? ⟨p, 1, none⟩ = some (.int .u64 (D.word : Nat)) ∧ w.cell? ⟨p, 2, none⟩ = some (.pointer (some ⟨tp, 0, none⟩)) ∧
    w.cell? ⟨p, 3, none⟩ = some rv ∧ w.cell? ⟨p, 4, none⟩ = some (.int .u64 (D.total : Nat)) ∧ w.cell? ⟨p, 5, none⟩ = some (.int .i64 D.least) ∧ w.cell? ⟨p, 6, none⟩ = some (.int .i64 D.most) :=
  ⟨h.blk.cell 0, h.blk.cell 1, h.blk.cell 2, h.blk.cell 3, h.blk.cell 4, h.blk.cell 5, h.blk.cell 6⟩
theorem mem_rv (_h : Tow w p tp rv vs D) : ∀ b ∈ blkOf rv, b ∈ fp p tp rv vs := fun b hb => by simp [fp, hb]
theorem mem_row (_h : Tow w p tp rv vs D) (k : Nat) (hk : k < vs.length) : ∀ b ∈ blkOf vs[k], b ∈ fp p tp rv vs := fun b hb => by
  simp only [fp, List.mem_cons, List.mem_append, List.mem_flatMap]
  exact .inr (.inr (.inr ⟨vs[k], List.getElem_mem hk, hb⟩))
end Tow
theorem Own.at1 {w : World} {e : TypeId} {rv : Value} {n : Nat} {vs : List Value} (h : Own w e 1 rv n vs) {j : Nat} (hj : j < n) (hj' : j < vs.length) :
    ∃ g o cap, rv = .slice (some ⟨g, o, none⟩) n cap ∧ w.cell? ⟨g, o + j, none⟩ = some vs[j] ∧ w.frozen? ⟨g, o + j, none⟩ = false ∧ n ≤ cap := by
  have h' := h
  obtain ⟨_, ⟨_, h0⟩ | ⟨g, o, cap, cur, rfl, _, h1, _⟩⟩ := h
  · omega
  · exact ⟨g, o, cap, rfl, by rw [h'.cells j (by omega), List.getElem?_eq_getElem hj'], h'.free _, h1⟩
theorem Rd.lt {w : World} {size n : Nat} {v : Value} {xs : List Value} (h : Rd w size v n xs) (hs : 0 < size) : n = 0 ∨ ∀ b ∈ blkOf v, b < w.heap.size := by
  by_cases h0 : n = 0
  · exact .inl h0
  · refine .inr fun x hx => ?_
    obtain ⟨ao, cap, rfl⟩ := h.shape
    obtain ⟨b, o, rfl, hc⟩ := h.addr (by omega)
    simp only [blkOf_some, List.mem_singleton] at hx
    subst hx
    have hp : 0 < n * size := Nat.mul_pos (by omega) hs
    have h1 := hc 0 hp
    rw [List.getElem?_eq_getElem (by rw [h.1]; exact hp)] at h1
    exact World.block_lt_of_cell? w _ h1
theorem Rd.keep {w w1 : World} {F : List Nat} {size n : Nat} {v : Value} {xs : List Value} (h : Rd w size v n xs) (k : Chg F w w1) (hn : n = 0 ∨ ∀ b ∈ blkOf v, b ∉ F) : Rd w1 size v n xs := by
  rcases hn with h0 | hn
  · obtain ⟨h1, ao, cap, rfl, _⟩ := h
    exact ⟨h1, ao, cap, rfl, .inl h0⟩
  · exact h.chg k hn
namespace Tow
variable {w w1 : World} {p tp : Nat} {rv : Value} {vs : List Value} {D : TwD}
/-- The tape has been used. -/
theorem tape' (h : Tow w p tp rv vs D) {u : Nat} (k : Chg [tp] w w1) (ht : Tape w1 tp D.word u) : Tow w1 p tp rv vs { D with used := u } :=
  ⟨h.blk.chg k (by simpa using h.ne_tape), ht, h.own.chg k (fun b hb e => by simp at e; subst e; exact h.tp_rv hb),
   h.rows.chg k (fun v hv b hb e => by
     simp at e; subst e
     obtain ⟨i, hi, rfl⟩ := List.getElem_of_mem hv
     exact h.tp_row i hi hb)⟩
/-- One row more, an empty one. -/
theorem push (h : Tow w p tp rv vs D) {rv2 : Value} (k : Chg (blkOf rv) w w1) (ho : Own w1 73 1 rv2 (D.rows.length + 1) (vs ++ [.slice none 0 0])) :
    Tow (w1.setCell ⟨p, 3, none⟩ rv2) p tp rv2 (vs ++ [.slice none 0 0]) { D with rows := D.rows ++ [[]] } := by
  have hb := h.blk.chg k h.p_rv
  have k2 : Chg [p] w1 (w1.setCell ⟨p, 3, none⟩ rv2) := (Chg.refl _ w1).setCell (.inl (by simp)) _
  refine ⟨hb.setCell 3 rv2, (Blk.chg h.tape k h.tp_rv).setCell_other (by simp only; exact h.ne_tape.symm) _, ?_, ?_⟩
  · simp only [List.length_append, List.length_cons, List.length_nil, Nat.zero_add]
    exact ho.chg k2 (fun b hb2 e => by simp at e; subst e; exact ho.ne_blk hb (by decide) hb2)
  · refine ((h.rows.chg k (fun v hv b hb2 e => ?_)).chg k2 (fun v hv b hb2 e => ?_)).push
    · obtain ⟨i, hi, rfl⟩ := List.getElem_of_mem hv
      exact h.rv_row i hi b e hb2
    · simp at e; subst e
      obtain ⟨i, hi, rfl⟩ := List.getElem_of_mem hv
      exact h.p_row i hi hb2
/-- A row has turned, and is stored. -/
theorem turn {g o n c j : Nat} (h : Tow w p tp (.slice (some ⟨g, o, none⟩) n c) vs D) (hj : j < vs.length) {F : List Nat} (k : Chg F w w1) (hF : ∀ b ∈ F, b ∈ blkOf vs[j] ∨ w.heap.size ≤ b)
    {v : Value} {r : List Int} (hv : Own w1 2 1 v r.length (ints r)) (hd : ∀ i (hi : i < vs.length), i ≠ j → ∀ b ∈ blkOf v, b ∉ blkOf vs[i]) :
    Tow (w1.setCell ⟨g, o + j, none⟩ v) p tp (.slice (some ⟨g, o, none⟩) n c) (vs.set j v) { D with rows := D.rows.set j r } := by
  have hout : ∀ b, b < w.heap.size → b ∉ blkOf vs[j] → b ∉ F := fun b h1 h2 h3 => by
    rcases hF b h3 with h4 | h4
    · exact h2 h4
    · omega
  have hgr : g ∉ blkOf vs[j] := h.rv_row j hj g (by simp)
  have hgn : n = D.rows.length := by
    obtain ⟨_, ⟨h0, _⟩ | ⟨_, _, _, _, h0, _⟩⟩ := h.own
    · simp at h0
    · simp only [Value.slice.injEq] at h0; omega
  subst hgn
  have k2 : Chg [g] w1 (w1.setCell ⟨g, o + j, none⟩ v) := (Chg.refl _ w1).setCell (.inl (by simp)) _
  have hown1 := h.own.chg k (fun b hb => hout b (h.own.lt b hb) (h.rv_row j hj b hb))
  have hpg : p ≠ g := fun e => h.p_rv (by simp [e])
  have htg : tp ≠ g := fun e => h.tp_rv (by simp [e])
  refine ⟨(h.blk.chg k (hout p h.blk.lt (h.p_row j hj))).setCell_other (by simp only; exact hpg) _, (Blk.chg h.tape k (hout tp (Blk.lt h.tape) (h.tp_row j hj))).setCell_other (by simp only; exact htg) _, ?_, ?_⟩
  · simp only [List.length_set]
    exact hown1.set j v
  · have k3 : Chg (g :: F) w (w1.setCell ⟨g, o + j, none⟩ v) := (k.mono (F1 := g :: F) (fun b hb => .inl (by simp [hb]))).setCell (a := ⟨g, o + j, none⟩) (.inl (by simp)) v
    refine h.rows.turn k3 j hj (fun i hi hij b hb e => ?_) (hv.chg k2 (fun b hb e => ?_)) hd
    · rcases List.mem_cons.1 e with rfl | e
      · exact h.rv_row i hi b (by simp) hb
      · exact hout b (h.rows.lt i hi b hb) (h.rows.2.2 i j hi hj hij b hb) e
    · simp at e; subst e
      exact hown1.apart hv (by decide) b (by simp) hb
theorem at2 {g o n c j : Nat} (h : Tow w p tp (.slice (some ⟨g, o, none⟩) n c) vs D) (hj : j < vs.length) :
    w.cell? ⟨g, o + j, none⟩ = some vs[j] ∧ w.frozen? ⟨g, o + j, none⟩ = false ∧ w.cell? ⟨p, 3, none⟩ = some (.slice (some ⟨g, o, none⟩) n c) ∧ w.cell? ⟨p, 2, none⟩ = some (.pointer (some ⟨tp, 0, none⟩)) := by
  have hr := h.rows.1
  refine ⟨by rw [h.own.cells j (by omega), List.getElem?_eq_getElem hj], h.own.free _, h.blk.cell 3, h.blk.cell 2⟩
theorem at3 {g o n c j : Nat} (h : Tow w p tp (.slice (some ⟨g, o, none⟩) n c) vs D) (hj : j < vs.length) {v : Value} (hv : vs[j] = v) (k : Chg (blkOf v) w w1) :
    w1.cell? ⟨g, o + j, none⟩ = some v ∧ w1.frozen? ⟨g, o + j, none⟩ = false ∧ w1.cell? ⟨p, 3, none⟩ = some (.slice (some ⟨g, o, none⟩) n c) := by
  have hr := h.rows.1
  subst hv
  have ho := h.own.chg k (fun b hb e => h.rv_row j hj b hb e)
  exact ⟨by rw [ho.cells j (by omega), List.getElem?_eq_getElem hj], ho.free _, (h.blk.chg k (h.p_row j hj)).cell 3⟩
end Tow
theorem coins_halve' (w : World) (ao : Option Addr) (cap n : Nat) (l : List Int) (hn : n = l.length) (s : Bool) (hr : Rd w 1 (.slice ao n cap) n (ints l)) (hl : n ≤ 1000000) (H : List Int) (hH : H = halveL l s) (k : Nat) (hk : k = H.length) :
    Calls Tryz.prog 402 #[.slice ao n cap, .bool s] w fun e w' => ∃ a3 c3, e = .returned (.slice a3 k c3) ∧
      Own w' 2 1 (.slice a3 k c3) k (ints H) ∧ Chg [] w w' ∧ ∀ b ∈ abl a3, w.heap.size ≤ b := by
  subst hn
  subst hk
  subst hH
  exact coins_halve w ao cap l s hr hl
theorem stepR_eq {W : Nat} {c : Nat → Bool} {ix u m : Nat} {rows rowsP : List (List Int)} {r : List Int} (hlt : ix < rows.length) (hr : rows[ix] = r) (hs : ¬ r.length < W) (hm : m = keepN r.length (W / 2)) (hP : rowsP = if ix + 1 = rows.length then rows ++ [[]] else rows) (hx : ix + 1 < rowsP.length) :
    stepR W c ix (u, rows) = (u + 1, (rowsP.set ix ((sortL r).take m)).set (ix + 1) (((rowsP.set ix ((sortL r).take m))[ix + 1]'(by simpa using hx)) ++ halveL ((sortL r).drop m) (c u))) := by
  have e1 : rows.getD ix [] = r := by rw [List.getD, List.getElem?_eq_getElem hlt, hr]; rfl
  unfold stepR
  simp only [e1]
  rw [if_neg hs, ← hm, ← hP]
  rw [List.getElem_set_ne (by omega)]
  rw [List.getD, List.getElem?_eq_getElem hx]
  rfl
/-- A tower that has settled. -/
def TwD.at (D : TwD) (s : Nat × List (List Int)) : TwD := { D with used := s.1, rows := s.2 }
def TwD.settled (D : TwD) : TwD := D.at (settle D.W (coinB D.word) (D.used, D.rows))
end Go.Proofs.YtmehcfocfljoeaaGreatDoor

namespace Go.Proofs.YtmehcfocfljoeaaGreatDoor
open Go.RowKit

theorem rankR_step (x : Int) (l : List (List Int)) (k : Nat) (h : k < l.length) : rankR x (l.take (k + 1)) = rankR x (l.take k) + 2 ^ k * upL l[k] x := by
  rw [List.take_succ_eq_append_getElem h]
  unfold rankR
  rw [wsum_app, List.length_take, Nat.min_eq_left (by omega)]
  simp [wsum]
theorem upL_step (x : Int) (l : List Int) (k : Nat) (h : k < l.length) : upL (l.take (k + 1)) x = upL (l.take k) x + if l[k] ≤ x then 1 else 0 := by
  rw [List.take_succ_eq_append_getElem h, upL_app, upL_cons]
  simp [upL]
theorem rankR_take (x : Int) (l : List (List Int)) (k : Nat) : rankR x (l.take k) ≤ rankR x l := by
  conv => rhs; rw [← List.take_append_drop k l]
  unfold rankR
  rw [wsum_app]
  omega

set_option maxRecDepth 100000 in
set_option maxHeartbeats 2000000 in
theorem req_rank (w : World) (p tp : Nat) (rv : Value) (vs : List Value) (D : TwD) (ht : Tow w p tp rv vs D) (hN : D.rows.flatten.length ≤ 100000) (hR : D.rows.length ≤ 40) (x : Int) (htot : totR D.rows ≤ 4611686018427387904) (R : Nat) (hRR : R = rankR x D.rows) :
    Calls Tryz.prog 427 #[.pointer (some ⟨p, 0, none⟩), .int .i64 x] w fun e w' => e = .returned (.int .u64 (R : Nat)) ∧ w = w' := by
  obtain ⟨-, -, -, c3, -, -, -⟩ := ht.cells
  obtain ⟨ro, rc, hrv⟩ := ht.own.shape
  subst hrv
  have HT := Lib.hid ht
  have hvl := Lib.hid (show vs.length = D.rows.length from ht.rows.1)
  have HRB := Lib.hid (fun k => show rankR x (D.rows.take k) ≤ 4611686018427387904 from Nat.le_trans (rankR_take x D.rows k) (Nat.le_trans (rankR_le x D.rows) htot))
  have HNN := Lib.hid hN
  have HRF := Lib.hid hRR
  generalize hrl : D.rows.length = n at *
  have HRL := Lib.hid hrl
  clear ht hrl hN htot hRR
  go_enter Tryz.func427, Tryz.ntmps427
  go_wp2
  go_loopw [5, 17] (fun s i wx => ∃ (k S : Nat), k ≤ n ∧ i = .int .i64 (k : Nat) ∧ s = .int .u64 (S : Nat) ∧ Hid (S = rankR x (D.rows.take k)) ∧ w = wx) (fun _ i _ => n - (intOf i).toNat)
  case atStart => exact ⟨0, 0, Nat.zero_le _, rfl, rfl, Lib.hid (by simp [rankR, wsum]), rfl⟩
  case round =>
    obtain ⟨k, S, hk, rfl, rfl, HS, hw⟩ := hrel
    subst hw
    by_cases hlt : k < n
    · have hkr : k < D.rows.length := by have := HRL.out; omega
      have hkv : k < vs.length := by have := hvl.out; have := HRL.out; omega
      obtain ⟨g, o, cp, hsl, d0, -, -⟩ := HT.out.own.at1 (j := k) hkr hkv
      rw [HRL.out] at hsl
      simp only [Value.slice.injEq, true_and] at hsl
      obtain ⟨rfl, rfl⟩ := hsl
      have hrow := HT.out.rows.2.1 k hkv hkr
      obtain ⟨so, sc, hsv⟩ := hrow.shape
      rw [hsv] at d0 hrow
      have hrn : D.rows[k].length ≤ 100000 := by
        obtain ⟨A, r, B, h1, h2⟩ := split_at hkr
        have h3 := HNN.out
        have e : D.rows[k] = r := by simp [h1, ← h2]
        rw [e]
        rw [h1] at h3
        simp at h3
        omega
      have HST := Lib.hid (rankR_step x D.rows k hkr)
      have hb1 := HRB.out (k + 1)
      rw [HST.out, ← HS.out] at hb1
      generalize D.rows[k] = r at *
      obtain ⟨m, hm⟩ : ∃ m, m = r.length := ⟨_, rfl⟩
      rw [← hm] at d0 hrow hrn
      have HM := Lib.hid hm
      have HRW := Lib.hid hrow.rd
      obtain ⟨P, hP⟩ : ∃ P, P = 2 ^ k := ⟨_, rfl⟩
      have hP64 : P ≤ 2 ^ 40 := by rw [hP]; exact Nat.pow_le_pow_right (by omega) (by omega)
      have hPw : IntKind.u64.wrap ((2 : Int) ^ k) = (P : Int) := by
        rw [hP, IntKind.wrap_u64]
        have e : ((2 : Int) ^ k) = ((2 ^ k : Nat) : Int) := by norm_cast
        rw [e, ← hP]
        have : (2 : Nat) ^ 40 = 1099511627776 := by decide
        omega
      rw [← hP] at HST hb1
      have HUB := Lib.hid (fun q (hq : q < r.length) => show S + P * upL (r.take (q + 1)) x ≤ 4611686018427387904 from Nat.le_trans (Nat.add_le_add_left (Nat.mul_le_mul_left _ (List.Sublist.countP_le (List.take_sublist _ _))) _) hb1)
      clear hsv hm hrow hP hb1 hP64
      go_wp2
      go_loopw [5, 24] (fun s i wx => ∃ (q T : Nat), q ≤ m ∧ i = .int .i64 (q : Nat) ∧ s = .int .u64 (T : Nat) ∧ Hid (T = S + P * upL (r.take q) x) ∧ w = wx) (fun _ i _ => m - (intOf i).toNat)
      case atStart => exact ⟨0, S, Nat.zero_le _, rfl, rfl, Lib.hid (by simp [upL]), rfl⟩
      case round =>
        obtain ⟨q, T, hq, rfl, rfl, HTT, hw⟩ := hrel
        subst hw
        by_cases hqm : q < m
        · have hqr : q < r.length := by have := HM.out; omega
          obtain ⟨b, o2, rfl, hcs⟩ := HRW.out.addr (by omega)
          have y0 := ints_at (l := r) (fun j hj => hcs j (by rw [HM.out]; exact hj)) q hqr
          have hus := upL_step x r q hqr
          have hub := HUB.out q hqr
          rw [hus, Nat.mul_add, ← Nat.add_assoc, ← HTT.out] at hub
          have HUS := Lib.hid hus
          generalize r[q] = y at *
          clear hcs
          by_cases hyx : y ≤ x
          · have hd : decide (y ≤ x) = true := decide_eq_true hyx
            rw [if_pos hyx] at HUS hub
            have hT2 : T + P ≤ 4611686018427387904 := by omega
            have HN := Lib.hid (show T + P = S + P * upL (r.take (q + 1)) x from by rw [HUS.out, HTT.out, Nat.mul_add]; omega)
            clear hub hus hyx
            go_wp2
            exact ⟨⟨q + 1, T + P, by omega, by go_num, by go_num, HN, by first | rfl | trivial⟩, by simp [intOf]; omega⟩
          · have hd : decide (y ≤ x) = false := decide_eq_false hyx
            rw [if_neg hyx] at HUS hub
            have HN := Lib.hid (show T = S + P * upL (r.take (q + 1)) x from by rw [HUS.out, HTT.out]; rfl)
            clear hub hus hyx
            go_wp2
            exact ⟨⟨q + 1, T, by omega, by go_num, rfl, HN, by first | rfl | trivial⟩, by simp [intOf]; omega⟩
        · obtain rfl : q = m := by omega
          have HN := Lib.hid (show T = rankR x (D.rows.take (k + 1)) from by rw [HST.out, HTT.out, HS.out, List.take_of_length_le (l := r) (by have := HM.out; omega)])
          clear HST HTT
          go_wp2
          exact ⟨⟨k + 1, T, by omega, by go_num, rfl, HN, by first | rfl | trivial⟩, by simp [intOf]; omega⟩
    · obtain rfl : k = n := by omega
      have HE := Lib.hid (show S = R from by rw [HS.out, HRF.out, List.take_of_length_le (by have := HRL.out; omega)])
      clear HS
      go_wp2
      go_ret
      rw [HE.out]
      exact ⟨rfl, rfl⟩
end Go.Proofs.YtmehcfocfljoeaaGreatDoor
