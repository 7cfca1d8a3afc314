/-
  The walks of (*Tower).Most, Total, Used, ends, Ends, Config. Conditions: the form's own reach. The walks of req.New and of (*Tower).Rank. Conditions: the form's own reach. Plain law: what Put makes of a tower, and what stays true of it. Conditions: none. Plain law: what stays true of a tower that takes values. Conditions: none.
  Rows of values with counts: their cells, their sums and ends, the walks of ogiveref13.Up and ogiveref14.Ends. Conditions: the form's own reach.
  The walk of the reference's Up. Conditions: the form's own reach. Rows of values with counts: their cells, their sums, the walk of ogiveref13.Up. Conditions: the form's own reach.
  The document's tower in the heap: its rows are only read. Conditions: none.
  The walks of the reference's Split, Halve, Same (layer 20). Conditions: the form's own reach.
  The walks of the reference's Halve and Same (layer 20). Conditions: the form's own reach.
-/
import Derived.Test.YtmehcfocfljoeaaGreatDoorSlotsErrorsB25
import Derived.Test.YtmehcfocfljoeaaGreatDoorSlotsErrorsB19
import Derived.Test.YtmehcfocfljoeaaGreatDoorProg
import Derived.Test.YtmehcfocfljoeaaGreatDoorSlotsErrorsB1
import Derived.Test.YtmehcfocfljoeaaGreatDoorSlotsErrorsB24
namespace Go.Proofs.YtmehcfocfljoeaaGreatDoor
open Go.RowKit

set_option maxRecDepth 100000 in
set_option maxHeartbeats 1000000 in
theorem req_total (w : World) (p tp : Nat) (rv : Value) (vs : List Value) (D : TwD) (ht : Tow w p tp rv vs D) :
    Calls Tryz.prog 396 #[.pointer (some ⟨p, 0, none⟩)] w fun e w' => e = .returned (.int .u64 (D.total : Nat)) ∧ w = w' := by
  obtain ⟨c0, c1, c2, c3, c4, c5, c6⟩ := ht.cells
  go_enter Tryz.func396, Tryz.ntmps396
  go_wp2
  go_ret
  exact ⟨rfl, rfl⟩

set_option maxRecDepth 100000 in
set_option maxHeartbeats 1000000 in
theorem req_most (w : World) (p tp : Nat) (rv : Value) (vs : List Value) (D : TwD) (ht : Tow w p tp rv vs D) (hW : D.W ≤ 64) :
    Calls Tryz.prog 158 #[.pointer (some ⟨p, 0, none⟩)] w fun e w' => e = .returned (.int .u64 (D.W * 1024 : Nat)) ∧ w = w' := by
  obtain ⟨c0, c1, c2, c3, c4, c5, c6⟩ := ht.cells
  have e1 : IntKind.u64.wrap (D.W : Int) = (D.W : Int) := IntWalk.u64_in _ (by omega)
  have e2 : IntKind.u64.wrap ((D.W : Int) * 1024) = ((D.W * 1024 : Nat) : Int) := by rw [IntKind.wrap_u64]; omega
  go_enter Tryz.func158, Tryz.ntmps158
  go_wp2
  go_ret
  refine ⟨?_, rfl⟩
  rw [show ((D.W * 1024 : Nat) : Int) = (D.W : Int) * 1024 from by omega]
  rfl

set_option maxRecDepth 100000 in
set_option maxHeartbeats 1000000 in
theorem req_used (w : World) (p tp : Nat) (rv : Value) (vs : List Value) (D : TwD) (ht : Tow w p tp rv vs D) :
    Calls Tryz.prog 430 #[.pointer (some ⟨p, 0, none⟩)] w fun e w' => e = .returned (.int .i64 (D.used : Nat)) ∧ w = w' := by
  obtain ⟨c0, c1, c2, c3, c4, c5, c6⟩ := ht.cells
  have HU := Lib.hid (coins_used w tp D.word D.used ht.tape)
  go_enter Tryz.func430, Tryz.ntmps430
  go_wp2_with fail
  refine HU.out.mono ?_
  rintro e w' ⟨rfl, hw⟩
  subst hw
  go_wp2
  go_ret
  exact ⟨rfl, rfl⟩

/-- The least and the greatest value, with two more. -/
def TwD.ends (D : TwD) (lo hi : Int) : TwD := if D.total = 0 then { D with least := lo, most := hi } else { D with least := min D.least lo, most := max D.most hi }
set_option maxRecDepth 100000 in
set_option maxHeartbeats 2000000 in
theorem req_ends (w : World) (p tp : Nat) (rv : Value) (vs : List Value) (D : TwD) (ht : Tow w p tp rv vs D) (lo hi : Int) :
    Calls Tryz.prog 398 #[.pointer (some ⟨p, 0, none⟩), .int .i64 lo, .int .i64 hi] w fun e w' => e = .returned (.tuple #[]) ∧ Tow w' p tp rv vs (D.ends lo hi) ∧ Chg [p] w w' := by
  obtain ⟨c0, c1, c2, c3, c4, c5, c6⟩ := ht.cells
  have f5 := ht.blk.free 5
  have f6 := ht.blk.free 6
  have HE := Lib.hid (fun a b => show Tow ((w.setCell ⟨p, 5, none⟩ (.int .i64 a)).setCell ⟨p, 6, none⟩ (.int .i64 b)) p tp rv vs { D with least := a, most := b } from by
    have k : Chg [p] w ((w.setCell ⟨p, 5, none⟩ (.int .i64 a)).setCell ⟨p, 6, none⟩ (.int .i64 b)) := ((Chg.refl _ w).setCell (a := ⟨p, 5, none⟩) (.inl (by simp)) _).setCell (a := ⟨p, 6, none⟩) (.inl (by simp)) _
    exact ⟨(ht.blk.setCell 5 _).setCell 6 _, ht.tape.chg k (by simpa using ht.ne_tape.symm), ht.own.chg k (fun b hb e => by simp at e; subst e; exact ht.p_rv hb),
      ht.rows.chg k (fun v hv b hb e => by simp at e; subst e; obtain ⟨i, hi, rfl⟩ := List.getElem_of_mem hv; exact ht.p_row i hi hb)⟩)
  have HK := Lib.hid (fun a b => show Chg [p] w ((w.setCell ⟨p, 5, none⟩ (.int .i64 a)).setCell ⟨p, 6, none⟩ (.int .i64 b)) from ((Chg.refl _ w).setCell (a := ⟨p, 5, none⟩) (.inl (by simp)) _).setCell (a := ⟨p, 6, none⟩) (.inl (by simp)) _)
  by_cases h0 : D.total = 0
  · have hz : ((D.total : Int) == 0) = true := by rw [beq_iff_eq]; omega
    have HV := Lib.hid (show D.ends lo hi = { D with least := lo, most := hi } from if_pos h0)
    clear h0
    go_enter Tryz.func398, Tryz.ntmps398
    go_wp2
    refine bodyPost_ret (results_none rfl _ _ _) rfl ?_
    rw [HV.out]
    exact ⟨rfl, HE.out _ _, HK.out _ _⟩
  · have hz : ((D.total : Int) == 0) = false := by rw [beq_eq_false_iff_ne]; omega
    have HV := Lib.hid (show D.ends lo hi = { D with least := min D.least lo, most := max D.most hi } from if_neg h0)
    clear h0
    go_enter Tryz.func398, Tryz.ntmps398
    go_wp2_with fail
    go_region_with (fail)
    all_goals
      go_end0
      rw [HV.out]
      exact ⟨rfl, (HE.out _ _).chg ((Chg.refl [] _).drew) (by simp), (HK.out _ _).drew⟩
end Go.Proofs.YtmehcfocfljoeaaGreatDoor

namespace Go.Proofs.YtmehcfocfljoeaaGreatDoor
open Go.RowKit

theorem make_rows (w : World) : (Instr.makeSlice 232 (.int .i64 1) (.int .i64 1)).run Tryz.prog w = .ok (.slice (some ⟨w.heap.size, 0, none⟩) 1 1) (w.alloc (.cells #[.slice none 0 0] 73)) := by
  obtain ⟨i, hi, hz0, hz1, hz2⟩ := info_parts info_intsT
  have h := run_makeSlice (P := Tryz.prog) w 232 73 i (.slice none 0 0) under_rowsT hi hz0 .i64 .i64 1 1 (by omega) (by omega) (by rw [hz1]; decide) (by rw [hz2]; decide) (by omega)
  rw [hz1] at h
  have e : madeCells (Value.slice none 0 0).cells ((1 : Int).toNat * 1) = #[.slice none 0 0] := by
    apply Array.toList_inj.1
    have := toList_madeCells_one (Value.slice none 0 0) 1
    simpa [Value.cells] using this
  rw [e] at h
  simpa using h

/-- A tower without values. -/
def TwD.new (W word : Nat) : TwD := ⟨W, word, 0, 0, [[]], 0, 0⟩
theorem rows_nil (w : World) : RowsW w [.slice none 0 0] [[]] :=
  ⟨rfl, fun j h h' => by
    obtain rfl : j = 0 := by simp at h; omega
    exact Own.nil _ _ _, fun j k h h' hne => by simp at h h'; omega⟩

set_option maxRecDepth 100000 in
set_option maxHeartbeats 2000000 in
theorem req_new (w : World) (W word : Nat) (hW : 4 ≤ W) (hW2 : W ≤ 64) (hW4 : W % 4 = 0) :
    Calls Tryz.prog 71 #[.agg #[.int .i64 W, .int .u64 word]] w fun e w' => ∃ p tp rv, e = .returned (.tuple #[.pointer (some ⟨p, 0, none⟩), .int .i64 0]) ∧
      Tow w' p tp rv [.slice none 0 0] (TwD.new W word) ∧ Chg [] w w' ∧ ∀ b ∈ fp p tp rv [.slice none 0 0], w.heap.size ≤ b := by
  have e1 : decide ((W : Int) < 4) = false := decide_eq_false (by omega)
  have e2 : decide ((64 : Int) < (W : Int)) = false := decide_eq_false (by omega)
  have e3 : ((W : Int).tmod 4 != 0) = false := by rw [bne_eq_false_iff_eq, Int.tmod_eq_emod_of_nonneg (by omega)]; omega
  have e4 : ((W : Int) % 4 != 0) = false := by rw [bne_eq_false_iff_eq]; omega
  have hbx := Blk.alloc_new w #[.int .i64 W, .int .u64 word] 167
  have c0 := hbx.cell 0
  have c1 := hbx.cell 1
  have hmk := make_rows
  clear hW4
  go_enter Tryz.func71, Tryz.ntmps71
  go_wp2_with fail
  go_region_law (refine step_calls rfl 105 _ _ rfl (enters_of Tryz.func105 (by kernel_rfl) rfl) _ #[.int .u64 word] (by simp [Act.eval]) (coins_new _ word) ?_; rintro e w1 ⟨rfl, ht1, hc1⟩; refine ⟨_, rfl, ?_⟩; have hcc : Chg [] (w.alloc (.cells #[.int .i64 W, .int .u64 word] 167)) w1 := Chg.trans (by with_reducible (repeat (first | exact Chg.refl _ _ | apply Chg.drew | apply Chg.alloc))) hc1; have c0' := (hbx.chg hcc (by simp)).cell 0; have c1' := (hbx.chg hcc (by simp)).cell 1; have ca0 := fun o => ((hbx.chg hcc (by simp)).alloc o).cell 0; have ca1 := fun o => ((hbx.chg hcc (by simp)).alloc o).cell 1)
  all_goals
    clear hmk ca0 ca1 c0' c1' e1 e2 e3 e4 c0 c1
    go_wp2
    go_ret2
  all_goals
    have hs1 := hcc.size
    simp only [World.size_alloc] at hs1
    first
    | (refine ⟨w1.heap.size + 1, w.heap.size + 1, .slice (some ⟨w1.heap.size, 0, none⟩) 1 1, rfl, ⟨?_, ?_, ?_, rows_nil _⟩, ?_, ?_⟩
       · have := Blk.alloc_new (w1.alloc (.cells #[.slice none 0 0] 73)) (twCells (w.heap.size + 1) (.slice (some ⟨w1.heap.size, 0, none⟩) 1 1) (TwD.new W word)) 234
         rw [World.size_alloc] at this
         exact this
       · have h2 : Tape w1 (w.heap.size + 1) word 0 := by simpa using ht1
         exact h2.chg (((Chg.refl [] w1).alloc _).alloc _) (by simp)
       · exact (Own.lit w1 73 1 1 #[.slice none 0 0] rfl (by unfold maxLen; omega)).alloc _
       · exact ((((Chg.refl [] w).alloc _).trans hcc).alloc _).alloc _
       · intro b hb
         simp [fp] at hb
         omega)
    | (refine ⟨w1.heap.size, w.heap.size + 1 + 1, .slice (some ⟨w.heap.size + 1, 0, none⟩) 1 1, rfl, ⟨?_, ?_, ?_, rows_nil _⟩, ?_, ?_⟩
       · exact Blk.alloc_new w1 (twCells (w.heap.size + 1 + 1) (.slice (some ⟨w.heap.size + 1, 0, none⟩) 1 1) (TwD.new W word)) 234
       · have h2 : Tape w1 (w.heap.size + 1 + 1) word 0 := by simpa using ht1
         exact h2.chg ((Chg.refl [] w1).alloc _) (by simp)
       · have h3 := Own.lit (w.alloc (.cells #[.int .i64 W, .int .u64 word] 167)) 73 1 1 #[.slice none 0 0] rfl (by unfold maxLen; omega)
         rw [World.size_alloc] at h3
         exact (h3.drew.chg hc1 (by simp)).alloc _
       · exact (((Chg.refl [] w).alloc _).trans hcc).alloc _
       · intro b hb
         simp [fp] at hb
         omega)
    | trace_state
end Go.Proofs.YtmehcfocfljoeaaGreatDoor

namespace Go.Proofs.YtmehcfocfljoeaaGreatDoor

/-- A tower with one value more, and with so many. -/
def TwD.add (D : TwD) (x : Int) : TwD := { D with rows := D.rows.set 0 (D.rows.getD 0 [] ++ [x]), total := D.total + 1 }
def TwD.put1 (D : TwD) (x : Int) : TwD := (D.add x).settled
def TwD.putN (D : TwD) (x : Int) : Nat → TwD
  | 0 => D
  | k + 1 => (D.putN x k).put1 x
/-- What bounds a tower: its rows, and its coins. -/
def TwD.fits (D : TwD) (M : Nat) : Prop := 1 ≤ D.rows.length ∧ D.rows.length ≤ D.used + 1 ∧ D.used + D.rows.flatten.length ≤ M
theorem TwD.put1_fits {D : TwD} {M : Nat} (x : Int) (hW : 4 ≤ D.W) (h : D.fits M) : (D.put1 x).fits (M + 1) := by
  obtain ⟨h1, h2, h3⟩ := h
  have hs := settle_fits (W := D.W) (c := coinB D.word) hW (s := (D.used, D.rows.set 0 (D.rows.getD 0 [] ++ [x]))) (by simpa using h1) (by simpa using h2)
  have e : (D.rows.set 0 (D.rows.getD 0 [] ++ [x])).flatten.length = D.rows.flatten.length + 1 := by
    cases hr : D.rows with
    | nil => rw [hr] at h1; simp at h1
    | cons r l => simp; omega
  simp only at hs
  rw [e] at hs
  exact ⟨hs.1, hs.2.1, by have := hs.2.2; show _ ≤ _; simp only [TwD.put1, TwD.settled, TwD.at, TwD.add]; omega⟩
theorem TwD.putN_W (D : TwD) (x : Int) (k : Nat) : (D.putN x k).W = D.W ∧ (D.putN x k).word = D.word ∧ (D.putN x k).total = D.total + k := by
  induction k with
  | zero => exact ⟨rfl, rfl, rfl⟩
  | succ k ih => exact ⟨ih.1, ih.2.1, by show (D.putN x k).total + 1 = _; omega⟩
theorem TwD.putN_fits {D : TwD} {M : Nat} (x : Int) (hW : 4 ≤ D.W) (h : D.fits M) (k : Nat) : (D.putN x k).fits (M + k) := by
  induction k with
  | zero => exact h
  | succ k ih => exact TwD.put1_fits x (by rw [(D.putN_W x k).1]; exact hW) ih

theorem TwD.add_size {D : TwD} (x : Int) (h1 : 1 ≤ D.rows.length) : (D.add x).rows.flatten.length = D.rows.flatten.length + 1 ∧ (D.add x).rows.length = D.rows.length := by
  unfold TwD.add
  cases hr : D.rows with
  | nil => rw [hr] at h1; simp at h1
  | cons r l => simp; omega
end Go.Proofs.YtmehcfocfljoeaaGreatDoor

namespace Go.Proofs.YtmehcfocfljoeaaGreatDoor

theorem halveL_mem {y : Int} : ∀ (l : List Int) (b : Bool), y ∈ halveL l b → y ∈ l
  | [], b, h => by cases b <;> simp [halveL] at h
  | x :: l, false, h => by
    rw [halveL, List.mem_cons] at h
    rcases h with rfl | h
    · simp
    · exact List.mem_cons_of_mem _ (halveL_mem l _ h)
  | x :: l, true, h => by
    rw [halveL] at h
    exact List.mem_cons_of_mem _ (halveL_mem l _ h)
theorem put1_mem {l : List Int} {x y : Int} (h : y ∈ put1 l x) : y ∈ l ∨ y = x := by
  unfold put1 at h
  simp only [List.append_assoc, List.mem_append, List.mem_cons, List.not_mem_nil, or_false] at h
  rcases h with h | h | h
  · exact .inl (List.mem_of_mem_take h)
  · exact .inr h
  · exact .inl (List.mem_of_mem_drop h)
theorem sortL_mem {l : List Int} {y : Int} (h : y ∈ sortL l) : y ∈ l := by
  have gen : ∀ (r acc : List Int), y ∈ r.foldl put1 acc → y ∈ acc ∨ y ∈ r := by
    intro r
    induction r with
    | nil => intro acc h; exact .inl h
    | cons x r ih =>
      intro acc h
      rw [List.foldl_cons] at h
      rcases ih _ h with h | h
      · rcases put1_mem h with h | rfl
        · exact .inl h
        · exact .inr (by simp)
      · exact .inr (List.mem_cons_of_mem _ h)
  rcases gen l [] h with h | h
  · simp at h
  · exact h
/-- What holds of all values holds of them behind settling. -/
theorem settle_all {W : Nat} {c : Nat → Bool} (hW : 4 ≤ W) (Q : Int → Prop) (s : Nat × List (List Int)) (h : ∀ r ∈ s.2, ∀ v ∈ r, Q v) : ∀ r ∈ (settle W c s).2, ∀ v ∈ r, Q v := by
  obtain ⟨h', hi, hn⟩ := settleF_inv (c := c) hW (fun _ t => ∀ r ∈ t.2, ∀ v ∈ r, Q v)
    (fun h t hi hh => by
      obtain ⟨u, l⟩ := t
      obtain ⟨A, r, B, rfl, rfl⟩ := split_at hh
      rw [stepR_split]
      split
      · exact hi
      · next hlt =>
        simp only [List.mem_append, List.mem_cons] at hi
        have hr := hi r (.inr (.inl rfl))
        intro q hq v hv
        simp only [List.mem_append, List.mem_cons] at hq
        rcases hq with hq | rfl | rfl | hq
        · exact hi q (.inl hq) v hv
        · exact hr v (sortL_mem (List.mem_of_mem_take hv))
        · rcases List.mem_append.1 hv with hv | hv
          · cases B with
            | nil => simp at hv
            | cons b B => exact hi b (.inr (.inr (by simp))) v (by simpa using hv)
          · exact hr v (sortL_mem (List.mem_of_mem_drop (halveL_mem _ _ hv)))
        · exact hi q (.inr (.inr (List.mem_of_mem_tail hq))) v hv) (needF 0 s) 0 s (Nat.le_refl _) h
  exact hi
theorem upL_all {r : List Int} {x : Int} (h : ∀ v ∈ r, v ≤ x) : upL r x = r.length := by
  rw [upL, List.countP_eq_length]
  intro v hv
  simpa using h v hv
theorem rank_all {x : Int} : ∀ {l : List (List Int)}, (∀ r ∈ l, ∀ v ∈ r, v ≤ x) → rankR x l = totR l
  | [], _ => rfl
  | r :: l, h => by
    have h1 := rank_all (l := l) (fun q hq => h q (by simp [hq]))
    unfold rankR totR at *
    rw [wsum, wsum, h1, upL_all (h r (by simp))]

/-- What is so of a tower behind n values. -/
structure TwD.ok (D : TwD) (W word n : Nat) : Prop where
  W_eq : D.W = W
  word_eq : D.word = word
  tot : D.total = n
  fit : D.fits n
  sum : totR D.rows = n
  short : ∀ r ∈ D.rows, r.length < W
  full : ∀ r ∈ D.rows.tail, 1 ≤ r.length
  low : ∀ r ∈ D.rows, ∀ v ∈ r, v ≤ 9223372036854775807
theorem TwD.new_ok {W word : Nat} (hW : 4 ≤ W) : (TwD.new W word).ok W word 0 :=
  ⟨rfl, rfl, rfl, ⟨by simp [TwD.new], by simp [TwD.new], by simp [TwD.new]⟩, rfl, by simp [TwD.new]; omega, by simp [TwD.new], by simp [TwD.new]⟩
theorem TwD.ends_ok {D : TwD} {W word n : Nat} (h : D.ok W word n) (x y : Int) : (D.ends x y).ok W word n := by
  unfold TwD.ends
  split <;> exact ⟨h.1, h.2, h.3, h.4, h.5, h.6, h.7, h.8⟩
theorem TwD.put1_ok {D : TwD} {W word n : Nat} (hW : 4 ≤ W) (h : D.ok W word n) {x : Int} (hx : x ≤ 9223372036854775807) : (D.put1 x).ok W word (n + 1) := by
  obtain ⟨rfl, rfl, rfl, h4, h5, h6, h7, h8⟩ := h
  obtain ⟨r, l, hr⟩ : ∃ r l, D.rows = r :: l := by
    obtain ⟨q1, _⟩ := h4
    cases hr : D.rows with
    | nil => rw [hr] at q1; simp at q1
    | cons r l => exact ⟨r, l, rfl⟩
  have e1 : (D.add x).rows = (r ++ [x]) :: l := by simp [TwD.add, hr]
  have hs : (D.put1 x).rows = (settle D.W (coinB D.word) (D.used, (r ++ [x]) :: l)).2 := by
    show (settle D.W (coinB D.word) (D.used, (D.add x).rows)).2 = _
    rw [e1]
  refine ⟨rfl, rfl, rfl, TwD.put1_fits x hW h4, ?_, ?_, ?_, ?_⟩
  · rw [hs, settle_tot hW]
    rw [hr] at h5
    simp only [totR, wsum, List.length_append, List.length_cons, List.length_nil] at h5 ⊢
    omega
  · rw [hs]; exact settle_short hW _
  · rw [hs]
    exact settle_full hW _ (by rw [hr] at h7; simpa using h7)
  · rw [hs]
    refine settle_all hW _ _ ?_
    rw [hr] at h8
    intro q hq v hv
    simp only [List.mem_cons] at hq
    rcases hq with rfl | hq
    · rcases List.mem_append.1 hv with hv | hv
      · exact h8 r (by simp) v hv
      · simp at hv; subst hv; exact hx
    · exact h8 q (by simp [hq]) v hv
theorem TwD.putN_ok {D : TwD} {W word n : Nat} (hW : 4 ≤ W) (h : D.ok W word n) {x : Int} (hx : x ≤ 9223372036854775807) (k : Nat) : (D.putN x k).ok W word (n + k) := by
  induction k with
  | zero => exact h
  | succ k ih => exact TwD.put1_ok hW ih hx
/-- What the statements ask of the document first. -/
def aliveD : Nat → TwD
  | 0 => TwD.new 4 0
  | k + 1 => ((aliveD k).ends (4 - k) (4 - k)).putN (4 - k) 1
theorem aliveD_ok (k : Nat) : (aliveD k).ok 4 0 k := by
  induction k with
  | zero => exact TwD.new_ok (by omega)
  | succ k ih => exact TwD.putN_ok (by omega) (TwD.ends_ok ih _ _) (by omega) 1
theorem aliveD_end : (aliveD 4).rows.map List.length = [2, 1] ∧ (aliveD 4).used = 1 := by decide
end Go.Proofs.YtmehcfocfljoeaaGreatDoor

namespace Go.Proofs.YtmehcfocfljoeaaGreatDoor
open Go.RowKit

structure Vl where
  x : Int
  n : Nat
def Vl.cells (p : Vl) : List Value := [.int .i64 p.x, .int .u64 p.n]
def Vl.ok (p : Vl) : Prop := -9223372036854775808 ≤ p.x ∧ p.x < 9223372036854775808 ∧ p.n < 18446744073709551616
def vlCells (l : List Vl) : List Value := (l.map Vl.cells).flatten
theorem vlCells_get (l : List Vl) (k j : Nat) (hk : k < l.length) (hj : j < 2) : (vlCells l)[k * 2 + j]? = (l[k].cells)[j]? := by
  induction l generalizing k with
  | nil => simp at hk
  | cons a r ih =>
    cases k with
    | zero =>
      simp only [vlCells, List.map_cons, List.flatten_cons, Nat.zero_mul, Nat.zero_add, List.getElem_cons_zero]
      rw [List.getElem?_append_left (by simpa [Vl.cells] using hj)]
    | succ k =>
      have := ih k (by simpa using hk)
      simp only [vlCells, List.map_cons, List.flatten_cons, List.getElem_cons_succ] at *
      rw [List.getElem?_append_right (by simp [Vl.cells]; omega), ← this]
      congr 1
      simp [Vl.cells]
      omega
theorem vlCells_len (l : List Vl) : (vlCells l).length = l.length * 2 := by
  induction l with
  | nil => rfl
  | cons a r ih => simp only [vlCells, List.map_cons, List.flatten_cons, List.length_append, List.length_cons] at *; rw [ih]; simp [Vl.cells]; omega
theorem vlCells_oneCell (l : List Vl) : ∀ y ∈ vlCells l, y.oneCell' = true := by
  intro y hy
  simp only [vlCells, List.mem_flatten, List.mem_map] at hy
  obtain ⟨x, ⟨i, _, rfl⟩, hy⟩ := hy
  simp only [Vl.cells, List.mem_cons, List.not_mem_nil, or_false] at hy
  rcases hy with rfl | rfl <;> rfl
theorem vl_at {w : World} {b o k : Nat} {l : List Vl} (hc : ∀ j, j < l.length * 2 → w.cell? ⟨b, o + j, none⟩ = (vlCells l)[j]?) (h : k < l.length) :
    w.cell? ⟨b, o + k * 2, none⟩ = some (.int .i64 l[k].x) ∧ w.cell? ⟨b, o + k * 2 + 1, none⟩ = some (.int .u64 l[k].n) := by
  have g : ∀ j, j < 2 → w.cell? ⟨b, o + k * 2 + j, none⟩ = (l[k].cells)[j]? := fun j hj => by
    rw [← vlCells_get l k j h hj, ← hc (k * 2 + j) (by omega), Nat.add_assoc]
  exact ⟨g 0 (by omega), g 1 (by omega)⟩

/-- How many values there are, and how many up to x. -/
def sumS : List Vl → Nat
  | [] => 0
  | v :: l => v.n + sumS l
def upS (x : Int) : List Vl → Nat
  | [] => 0
  | v :: l => (if v.x ≤ x then v.n else 0) + upS x l
theorem sumS_app (a b : List Vl) : sumS (a ++ b) = sumS a + sumS b := by
  induction a with
  | nil => simp [sumS]
  | cons v a ih => simp only [List.cons_append, sumS, ih]; omega
theorem upS_app (x : Int) (a b : List Vl) : upS x (a ++ b) = upS x a + upS x b := by
  induction a with
  | nil => simp [upS]
  | cons v a ih => simp only [List.cons_append, upS, ih]; omega
theorem upS_le (x : Int) : ∀ l : List Vl, upS x l ≤ sumS l
  | [] => Nat.le_refl _
  | v :: l => by have := upS_le x l; simp only [upS, sumS]; split <;> omega
theorem sumS_take (l : List Vl) (k : Nat) (h : k < l.length) : sumS (l.take (k + 1)) = sumS (l.take k) + l[k].n := by
  rw [List.take_succ_eq_append_getElem h, sumS_app]; simp [sumS]
theorem upS_take (x : Int) (l : List Vl) (k : Nat) (h : k < l.length) : upS x (l.take (k + 1)) = upS x (l.take k) + if l[k].x ≤ x then l[k].n else 0 := by
  rw [List.take_succ_eq_append_getElem h, upS_app]; simp [upS]
theorem sumS_take_le (l : List Vl) (k : Nat) : sumS (l.take k) ≤ sumS l := by
  conv => rhs; rw [← List.take_append_drop k l, sumS_app]
  omega
theorem upS_all {l : List Vl} {x : Int} (h : ∀ v ∈ l, v.x ≤ x) : upS x l = sumS l := by
  induction l with
  | nil => rfl
  | cons v l ih => simp only [upS, sumS]; rw [if_pos (h v (by simp)), ih (fun u hu => h u (by simp [hu]))]

def loV : List Vl → Int
  | [] => 0
  | v :: l => l.foldl (fun m u => min m u.x) v.x
def hiV : List Vl → Int
  | [] => 0
  | v :: l => l.foldl (fun m u => max m u.x) v.x
theorem fold_min (l : List Vl) (a b : Int) : l.foldl (fun m u => min m u.x) (min a b) = min a (l.foldl (fun m u => min m u.x) b) := by
  induction l generalizing b with
  | nil => rfl
  | cons v l ih => simp only [List.foldl_cons]; rw [← ih]; congr 1; omega
theorem fold_max (l : List Vl) (a b : Int) : l.foldl (fun m u => max m u.x) (max a b) = max a (l.foldl (fun m u => max m u.x) b) := by
  induction l generalizing b with
  | nil => rfl
  | cons v l ih => simp only [List.foldl_cons]; rw [← ih]; congr 1; omega
theorem loV_app (a b : List Vl) : loV (a ++ b) = if a = [] then loV b else if b = [] then loV a else min (loV a) (loV b) := by
  rcases a with _ | ⟨v, a⟩
  · simp
  rcases b with _ | ⟨u, b⟩
  · simp
  simp only [List.cons_append, loV, List.foldl_append, List.foldl_cons, reduceCtorEq, if_false]
  rw [fold_min]
theorem hiV_app (a b : List Vl) : hiV (a ++ b) = if a = [] then hiV b else if b = [] then hiV a else max (hiV a) (hiV b) := by
  rcases a with _ | ⟨v, a⟩
  · simp
  rcases b with _ | ⟨u, b⟩
  · simp
  simp only [List.cons_append, hiV, List.foldl_append, List.foldl_cons, reduceCtorEq, if_false]
  rw [fold_max]
theorem loV_take (l : List Vl) (k : Nat) (h : k < l.length) (h0 : 0 < k) : loV (l.take (k + 1)) = min (loV (l.take k)) l[k].x := by
  rw [List.take_succ_eq_append_getElem h, loV_app, if_neg (by intro e; have h5 := congrArg List.length e; rw [List.length_take] at h5; simp only [List.length_nil] at h5; omega), if_neg (by simp)]
  rfl
theorem hiV_take (l : List Vl) (k : Nat) (h : k < l.length) (h0 : 0 < k) : hiV (l.take (k + 1)) = max (hiV (l.take k)) l[k].x := by
  rw [List.take_succ_eq_append_getElem h, hiV_app, if_neg (by intro e; have h5 := congrArg List.length e; rw [List.length_take] at h5; simp only [List.length_nil] at h5; omega), if_neg (by simp)]
  rfl
/-- Two things that share no block, one of which is moved. -/
theorem two_left {w wr w2 : World} {A A' B : List Nat} (hc : Chg [] w wr) (hA : ∀ b ∈ A, w.heap.size ≤ b) (hBlt : ∀ b ∈ B, b < wr.heap.size) (hd : ∀ b ∈ A, b ∉ B) (m : Mv A wr A' w2) :
    Chg [] w w2 ∧ (∀ b ∈ A', w.heap.size ≤ b) ∧ ∀ b ∈ A', b ∉ B := by
  have hs := hc.size
  refine ⟨hc.trans' m.chg (fun b hb => .inr (hA b hb)), fun b hb => ?_, fun b hb hB => ?_⟩
  · rcases m.fr b hb with h | h
    · exact hA b h
    · omega
  · rcases m.fr b hb with h | h
    · exact hd b h hB
    · have := hBlt b hB; omega
end Go.Proofs.YtmehcfocfljoeaaGreatDoor

namespace Go.Proofs.YtmehcfocfljoeaaGreatDoor
open Go.RowKit

end Go.Proofs.YtmehcfocfljoeaaGreatDoor

namespace Go.Proofs.YtmehcfocfljoeaaGreatDoor
open Go.RowKit
end Go.Proofs.YtmehcfocfljoeaaGreatDoor

namespace Go.Proofs.YtmehcfocfljoeaaGreatDoor
open Go.RowKit

def fpR (p : Nat) (rv : Value) (vs : List Value) : List Nat := p :: (blkOf rv ++ vs.flatMap blkOf)
namespace RT
variable {w w1 : World} {p W word used : Nat} {rv : Value} {vs : List Value} {rows : List (List Int)}
end RT
end Go.Proofs.YtmehcfocfljoeaaGreatDoor

namespace Go.Proofs.YtmehcfocfljoeaaGreatDoor
open Go.RowKit

theorem Rd.cap {w : World} {size n m c : Nat} {ao : Option Addr} {xs : List Value} (h : Rd w size (.slice ao m c) n xs) (c' : Nat) : Rd w size (.slice ao m c') n xs := by
  obtain ⟨h1, ao', cap, hv, h2⟩ := h
  simp only [Value.slice.injEq] at hv
  obtain ⟨rfl, rfl, rfl⟩ := hv
  exact ⟨h1, ao, c', rfl, h2⟩
/-- What the reference's Split hands back. -/
def SplitR (w w' : World) (l : List Int) (n m : Nat) (e : Ending) : Prop :=
  ∃ a3 c3 a4 c4, e = .returned (.tuple #[.slice a3 m c3, .slice a4 (n - m) c4]) ∧
    Rd w' 1 (.slice a3 m c3) m (ints ((sortL l).take m)) ∧ Rd w' 1 (.slice a4 (n - m) c4) (n - m) (ints ((sortL l).drop m)) ∧ Chg [] w w' ∧ (∀ b ∈ abl a3, w.heap.size ≤ b) ∧ (∀ b ∈ abl a4, w.heap.size ≤ b)

end Go.Proofs.YtmehcfocfljoeaaGreatDoor

namespace Go.Proofs.YtmehcfocfljoeaaGreatDoor
open Go.RowKit

theorem halveL_two (l : List Int) (s : Bool) (i : Nat) (h : i < l.length) (hp : decide (i % 2 = 1) = s) : halveL (l.take (i + 2)) s = halveL (l.take i) s ++ [l[i]] := by
  have h1 := halveL_step l s i h
  rw [hp, if_pos (by simp)] at h1
  by_cases h2 : i + 1 < l.length
  · have h3 := halveL_step l s (i + 1) h2
    have hp2 : decide ((i + 1) % 2 = 1) = !s := by
      rw [← hp, Bool.eq_iff_iff]
      simp
      omega
    rw [hp2, if_neg (by cases s <;> simp), List.append_nil] at h3
    rw [h3, h1]
  · rw [show l.take (i + 2) = l.take (i + 1) from by rw [List.take_of_length_le (by omega), List.take_of_length_le (by omega)], h1]

end Go.Proofs.YtmehcfocfljoeaaGreatDoor
