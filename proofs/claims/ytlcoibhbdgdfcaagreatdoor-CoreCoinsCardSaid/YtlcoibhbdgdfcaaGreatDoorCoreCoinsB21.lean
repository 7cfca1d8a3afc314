/-
  The walk of req.Load. Conditions: the form's own reach.
-/
import Derived.Test.YtlcoibhbdgdfcaaGreatDoorCoreCoinsB16
import Derived.Test.YtlcoibhbdgdfcaaGreatDoorCoreCoinsB18
import Derived.Test.YtlcoibhbdgdfcaaGreatDoorCoreCoinsB15
import Derived.Test.YtlcoibhbdgdfcaaGreatDoorCoreCoinsB19
import Derived.Test.YtlcoibhbdgdfcaaGreatDoorCoreCoinsB20
namespace Go.Proofs.YtlcoibhbdgdfcaaGreatDoor
open Go.RowKit

theorem Tow.snoc {w w1 w2 : World} {p tp : Nat} {rv rv2 v : Value} {vs : List Value} {D : TwD} {r : List Int} (h : Tow w p tp rv vs D) (k1 : Chg [] w w1) (hv : Own w1 2 1 v r.length (ints r)) (hf : ∀ b ∈ blkOf v, w.heap.size ≤ b)
    (k2 : Chg (blkOf rv) w1 w2) (ho : Own w2 121 1 rv2 (D.rows.length + 1) (vs ++ [v])) (S : Nat) :
    Tow ((w2.setCell ⟨p, 3, none⟩ rv2).setCell ⟨p, 4, none⟩ (.int .u64 (S : Nat))) p tp rv2 (vs ++ [v]) { D with rows := D.rows ++ [r], total := S } := by
  have hb := (h.blk.chg k1 (by simp)).chg k2 h.p_rv
  have k3 : Chg [p] w2 ((w2.setCell ⟨p, 3, none⟩ rv2).setCell ⟨p, 4, none⟩ (.int .u64 (S : Nat))) := ((Chg.refl _ w2).setCell (a := ⟨p, 3, none⟩) (.inl (by simp)) _).setCell (a := ⟨p, 4, none⟩) (.inl (by simp)) _
  have hvs : ∀ u ∈ vs, ∀ b ∈ blkOf u, b < w.heap.size := fun u hu b hb => by
    obtain ⟨i, hi, rfl⟩ := List.getElem_of_mem hu
    exact h.rows.lt i hi b hb
  refine ⟨(hb.setCell 3 rv2).setCell 4 (.int .u64 (S : Nat)), ((Blk.chg h.tape k1 (by simp)).chg k2 h.tp_rv).chg k3 (by simpa using h.ne_tape.symm), ?_, ?_⟩
  · simp only [List.length_append, List.length_cons, List.length_nil, Nat.zero_add]
    exact ho.chg k3 (fun b hb2 e => by simp at e; subst e; exact ho.ne_blk hb (by decide) hb2)
  · have h1 : RowsW w2 vs D.rows := (h.rows.chg k1 (by simp)).chg k2 (fun u hu b hb2 e => by
      obtain ⟨i, hi, rfl⟩ := List.getElem_of_mem hu
      exact h.rv_row i hi b e hb2)
    have h2 : Own w2 2 1 v r.length (ints r) := hv.chg k2 (fun b hb2 e => by
      have h3 := hf b hb2
      have h4 := h.own.lt b e
      omega)
    refine (h1.snoc h2 (fun u hu b hb2 e => ?_)).chg k3 (fun u hu b hb2 e => ?_)
    · have h3 := hf b hb2
      have h4 := hvs u hu b e
      omega
    · simp at e; subst e
      rcases List.mem_append.1 hu with hu | hu
      · obtain ⟨i, hi, rfl⟩ := List.getElem_of_mem hu
        exact h.p_row i hi hb2
      · simp at hu; subst hu
        have h3 := hf b hb2
        have h4 := h.blk.lt
        omega
theorem totR_step (l : List (List Int)) (k : Nat) (h : k < l.length) : totR (l.take (k + 1)) = totR (l.take k) + 2 ^ k * l[k].length := by
  rw [List.take_succ_eq_append_getElem h]
  unfold totR
  rw [wsum_app, List.length_take, Nat.min_eq_left (by omega)]
  simp [wsum]
theorem totR_le {m : Nat} : ∀ (l : List (List Int)), (∀ r ∈ l, r.length ≤ m) → totR l + m ≤ m * 2 ^ l.length
  | [], _ => by simp [totR, wsum]
  | r :: l, h => by
    have h1 := totR_le l (fun q hq => h q (by simp [hq]))
    have h2 := h r (by simp)
    simp only [totR, wsum, List.length_cons, Nat.pow_succ] at h1 ⊢
    rw [← Nat.mul_assoc]
    generalize m * 2 ^ l.length = z at *
    omega

set_option maxRecDepth 100000 in
set_option maxHeartbeats 1000000 in
theorem clone_rd (w : World) (ao : Option Addr) (cap n : Nat) (l : List Int) (hrd : Rd w 1 (.slice ao n cap) n (ints l)) (hl : n ≤ 1000000) :
    Calls Tryz.prog 111 #[.slice ao n cap] w fun e w' => ∃ a3 c3, e = .returned (.slice a3 n c3) ∧ Own w' 2 1 (.slice a3 n c3) n (ints l) ∧ Chg [] w w' ∧ ∀ b ∈ abl a3, w.heap.size ≤ b := by
  have hu : ∀ (w : World) (a : Option Addr) (n c n' c' : Nat), (binOp .eql 121 (.slice a n c) (.slice none n' c')).run Tryz.prog w = .ok (.bool a.isNone) w := fun w a n c n' c' => Lib.run_eql_slice_nil w _ _ a n c n' c' under_ints
  cases ao with
  | none =>
    obtain ⟨hx, ao, cp, h0, h1⟩ := hrd
    simp only [Value.slice.injEq] at h0
    obtain ⟨rfl, -, -⟩ := h0
    obtain rfl : n = 0 := by
      rcases h1 with h1 | ⟨_, _, h1, _⟩
      · exact h1
      · simp at h1
    have hxl : l = [] := List.eq_nil_of_length_eq_zero (by simpa using hx)
    subst hxl
    go_enter Tryz.func111, Tryz.ntmps111
    go_wp2
    go_ret
    exact ⟨none, 0, rfl, Own.nil _ _ _, Chg.refl _ _, by simp⟩
  | some a =>
    go_enter Tryz.func111, Tryz.ntmps111
    go_wp2_with (at_builtin; go_must (refine wpList_append_src _ rfl (.tmp 5) (.tmp 6) 121 121 rfl 2 _ 1 8 under_ints info_i64 rfl (by decide) (.slice (some ⟨w.heap.size, 0, none⟩) 0 0) 0 (ints []) rfl (Own.lit w 2 1 0 #[] rfl (by unfold maxLen; omega)) (.slice (some a) n cap) n (ints l) rfl (Src.of_rd under_ints (hrd.alloc _)) (ints_oneCell _) (by unfold maxLen; omega) (by omega) ?_; intro a5 c5 w2 ho2 hg2 hf2))
    go_ret
    rw [Nat.zero_add] at ho2
    refine ⟨a5, c5, by simp, by simpa [ints] using ho2, ((Chg.refl [] w).alloc _).trans' hg2 (by simp), fun b hb => ?_⟩
    rcases hf2 b hb with h | h
    · simp at h; omega
    · simp at h; omega

/-- Can a row stand there? -/
def rowOk (W n k m : Nat) : Prop := m < W ∧ ¬ (0 < k ∧ k + 1 = n ∧ m = 0)
/-- Can these be loaded? -/
structure okL (W : Int) (rows : List (List Int)) (used low high : Int) : Prop where
  good : goodW W = true
  n1 : 1 ≤ rows.length
  n2 : rows.length ≤ 16
  used : 0 ≤ used
  each : ∀ k (h : k < rows.length), rowOk W.toNat rows.length k rows[k].length
  most : totR rows ≤ W.toNat * 1024
  ends : low ≤ high
  none : totR rows = 0 → low = 0 ∧ high = 0
def TwD.loaded (W : Int) (word : Nat) (rows : List (List Int)) (used low high : Int) : TwD := ⟨W.toNat, word, used.toNat, totR rows, rows, low, high⟩
/-- A tower on the way. -/
def TwD.part (W word : Nat) (rows : List (List Int)) (k : Nat) : TwD := ⟨W, word, 0, totR (rows.take k), rows.take k, 0, 0⟩
def LoadR (w w' : World) (W : Int) (word : Nat) (rows : List (List Int)) (used low high : Int) (e : Ending) : Prop :=
  (¬ okL W rows used low high ∧ e = .returned (.tuple #[.pointer none, .int .i64 1]) ∧ Chg [] w w') ∨
  (okL W rows used low high ∧ ∃ p tp rv vs, e = .returned (.tuple #[.pointer (some ⟨p, 0, none⟩), .int .i64 0]) ∧ Tow w' p tp rv vs (TwD.loaded W word rows used low high) ∧ Chg [] w w' ∧ ∀ b ∈ fp p tp rv vs, w.heap.size ≤ b)
theorem Tow.clear {w : World} {p tp : Nat} {rv : Value} {vs : List Value} {D : TwD} (h : Tow w p tp rv vs D) : Tow (w.setCell ⟨p, 3, none⟩ (.slice none 0 0)) p tp (.slice none 0 0) [] { D with rows := [] } := by
  have k3 : Chg [p] w (w.setCell ⟨p, 3, none⟩ (.slice none 0 0)) := (Chg.refl _ w).setCell (a := ⟨p, 3, none⟩) (.inl (by simp)) _
  refine ⟨h.blk.setCell 3 _, Blk.chg h.tape k3 (by simpa using h.ne_tape.symm), Own.nil _ _ _, ?_⟩
  exact ⟨by simp, fun j h => by simp at h, fun j k h => by simp at h⟩
/-- The last stores. -/
theorem Tow.close {w w1 : World} {p tp : Nat} {rv : Value} {vs : List Value} {D : TwD} (h : Tow w p tp rv vs D) {u : Nat} (k : Chg [tp] w w1) (ht : Tape w1 tp D.word u) (a b : Int) :
    Tow ((w1.setCell ⟨p, 5, none⟩ (.int .i64 a)).setCell ⟨p, 6, none⟩ (.int .i64 b)) p tp rv vs { D with used := u, least := a, most := b } := by
  have h1 := h.tape' k ht
  have k3 : Chg [p] w1 ((w1.setCell ⟨p, 5, none⟩ (.int .i64 a)).setCell ⟨p, 6, none⟩ (.int .i64 b)) := ((Chg.refl _ w1).setCell (a := ⟨p, 5, none⟩) (.inl (by simp)) _).setCell (a := ⟨p, 6, none⟩) (.inl (by simp)) _
  exact ⟨(h1.blk.setCell 5 _).setCell 6 _, h1.tape.chg k3 (by simpa using h1.ne_tape.symm), h1.own.chg k3 (fun b hb e => by simp at e; subst e; exact h1.p_rv hb),
    h1.rows.chg k3 (fun v hv b hb e => by simp at e; subst e; obtain ⟨i, hi, rfl⟩ := List.getElem_of_mem hv; exact h1.p_row i hi hb)⟩
set_option maxRecDepth 100000 in
theorem step_build1R {ops : Array Oper} {w : World} {o : Oper} {a : Act} {K : Act → World → Prop} {Q : Exit → Act → World → Prop} {E : Prop} (hg : o.guard = none) (t : Tmp)
    (ho : o.op = .buildSlice 191 1 #[(0, .tmp t)]) (ax : Option Addr) (n c : Nat) (hx : a.eval (.tmp t) = .slice ax n c)
    (h : ∀ g w', Rd w' 1 (.slice (some ⟨g, 0, none⟩) 1 1) 1 [.slice ax n c] → Chg [] w w' → w.heap.size ≤ g → K (a.put o.dst (.slice (some ⟨g, 0, none⟩) 1 1)) w') :
    if Region.wanted o (yielded ops a.tmps) = true then Oper.wp Tryz.prog o a w K Q else E := by
  obtain ⟨dst, op, ty, pos, af, gd⟩ := o
  simp only at hg ho h
  subst hg ho
  have H := h w.heap.size (w.alloc (.cells #[.slice ax n c] 121)) (Rd.lit1 w (.slice ax n c) 121 1) ((Chg.refl [] w).alloc _) (Nat.le_refl _)
  clear h
  have hx' : a.tmps[t]?.getD undef = .slice ax n c := by simpa [Act.eval] using hx
  clear hx
  go_simp
  exact H
theorem enters_clone : ∀ (args : Array Value) (w : World), (callFunc 111 args).run Tryz.prog w = .ok (.enter 111 args) w := enters_of Tryz.func111 (by kernel_rfl) rfl

set_option maxRecDepth 100000 in
set_option maxHeartbeats 4000000 in
set_option linter.unusedSimpArgs false in
theorem req_load (w : World) (W : Int) (word : Nat) (ro : Option Addr) (rc n : Nat) (xs : List Value) (rows : List (List Int)) (hr : RowsR w (.slice ro n rc) n xs rows) (hlen : ∀ r ∈ rows, r.length ≤ 1000) (hn : n ≤ 1000) (used low high : Int) :
    Calls Tryz.prog 85 #[.agg #[.int .i64 W, .int .u64 (word : Nat)], .slice ro n rc, .int .i64 used, .int .i64 low, .int .i64 high] w fun e w' => LoadR w w' W word rows used low high e := by
  have hc0 := (Chg.refl [] w).alloc (.cells #[.int .i64 W, .int .u64 (word : Nat)] 165)
  have hb0 := Blk.alloc_new w #[.int .i64 W, .int .u64 (word : Nat)] 165
  have b0 := hb0.cell 0
  have b1 := hb0.cell 1
  have HC0 := Lib.hid hc0
  have HB0 := Lib.hid hb0
  have HRR := Lib.hid hr
  have HNR := Lib.hid (show n = rows.length from hr.n_eq)
  have HLEN := Lib.hid hlen
  have HNEW := Lib.hid (fun u => req_newF u W word)
  clear hc0 hb0 hr hlen
  go_enter Tryz.func85, Tryz.ntmps85
  go_wp2_with fail
  refine (HNEW.out _).mono ?_
  rintro e w1 (⟨hbad, rfl, hc1⟩ | ⟨hgood, p, tp, rv, rfl, ht1, hc1, hf1⟩)
  · go_wp2_with fail
    go_ret2
    exact .inl ⟨fun h => by rw [h.good] at hbad; simp at hbad, rfl, HC0.out.trans hc1⟩
  · have hw : 4 ≤ W ∧ W ≤ 64 ∧ W % 4 = 0 := by simpa [goodW] using hgood
    obtain ⟨Wn, rfl⟩ := Int.eq_ofNat_of_zero_le (show 0 ≤ W by omega)
    have ht1 : Tow w1 p tp rv [.slice none 0 0] (TwD.new Wn word) := ht1
    have HG := Lib.hid hgood
    have HC1 := Lib.hid (HC0.out.trans hc1)
    have HB1 := Lib.hid (HB0.out.chg hc1 (by simp))
    have HRX := Lib.hid (fun u (hu : Chg [] w u) => HRR.out.nil hu)
    have HF1 := Lib.hid (show w.heap.size ≤ p ∧ w.heap.size ≤ tp from ⟨Nat.le_trans HC0.out.size (hf1 p (by simp [fp])), Nat.le_trans HC0.out.size (hf1 tp (by simp [fp]))⟩)
    have HPB := Lib.hid (show p ≠ w.heap.size from fun e => by
      have h1 := hf1 p (by simp [fp])
      have h2 := HB0.out.lt
      omega)
    have htb : tp ≠ w.heap.size := fun e => by
      have h1 := hf1 tp (by simp [fp])
      have h2 := HB0.out.lt
      omega
    have HTB := Lib.hid htb
    have HT1 := Lib.hid ht1
    have f3 := ht1.blk.free 3
    have q3 : w1.cell? ⟨p, 3, none⟩ = some rv := ht1.cells.2.2.2.1
    have hW4 : 4 ≤ Wn := by omega
    have hW64 : Wn ≤ 64 := by omega
    clear hc1 hf1 ht1 hw hgood HC0 HB0 HRR HNEW b0 b1 htb
    by_cases h1 : 1 ≤ n
    rotate_left
    · have d1 : decide ((n : Int) < 1) = true := decide_eq_true (by omega)
      have d1' : decide (n < 1) = true := decide_eq_true (by omega)
      go_wp2_with fail
      go_ret2
      exact .inl ⟨fun h => by have := h.n1; have := HNR.out; omega, rfl, HC1.out⟩
    have d1 : decide ((n : Int) < 1) = false := decide_eq_false (by omega)
    have d1' : decide (n < 1) = false := decide_eq_false (by omega)
    by_cases h2 : n ≤ 16
    rotate_left
    · have d2 : decide ((16 : Int) < (n : Int)) = true := decide_eq_true (by omega)
      have d2' : decide (16 < n) = true := decide_eq_true (by omega)
      go_wp2_with fail
      go_ret2
      exact .inl ⟨fun h => by have := h.n2; have := HNR.out; omega, rfl, HC1.out⟩
    have d2 : decide ((16 : Int) < (n : Int)) = false := decide_eq_false (by omega)
    have d2' : decide (16 < n) = false := decide_eq_false (by omega)
    by_cases h3 : used < 0
    · have d3 : decide (used < 0) = true := decide_eq_true h3
      go_wp2_with fail
      go_ret2
      exact .inl ⟨fun h => by have := h.used; omega, rfl, HC1.out⟩
    have d3 : decide (used < 0) = false := decide_eq_false h3
    go_wp2_with fail
    have HT2 := Lib.hid HT1.out.clear
    have HC2 := Lib.hid (HC1.out.setCell (a := ⟨p, 3, none⟩) (.inr HF1.out.1) (.slice none 0 0))
    have HB2 := Lib.hid (HB1.out.setCell_other (a := ⟨p, 3, none⟩) (by simp only; exact HPB.out.symm) (.slice none 0 0))
    clear HT1 HC1 HB1 f3 q3
    generalize w1.setCell ⟨p, 3, none⟩ (.slice none 0 0) = w2 at *
    obtain ⟨B, hB⟩ : ∃ B, B = w.heap.size := ⟨_, rfl⟩
    rw [← hB] at HB2 HPB HTB HF1
    have HBB := Lib.hid hB
    rw [← hB]
    clear hB d1 d1' d2 d2' d3
    go_loopw [43] (fun i wx => ∃ (k : Nat) (rv' : Value) (vs' : List Value), k ≤ n ∧ i = .int .i64 (k : Nat) ∧ Tow wx p tp rv' vs' (TwD.part Wn word rows k) ∧ Blk wx B #[.int .i64 (Wn : Nat), .int .u64 (word : Nat)] 165 ∧ Hid (∀ j (h : j < rows.length), j < k → rowOk Wn n j rows[j].length) ∧ Hid (∀ b ∈ fp p tp rv' vs', B ≤ b ∧ b ≠ B) ∧ Chg [] w wx) (fun i _ => n - (intOf i).toNat)
    case atStart => exact ⟨0, _, _, Nat.zero_le _, rfl, HT2.out, HB2.out, Lib.hid (fun j h h2 => by omega), Lib.hid (fun b hb => by
      simp only [fp, List.mem_cons, blkOf_none, List.flatMap_nil, List.append_nil, List.not_mem_nil, or_false] at hb
      rcases hb with rfl | rfl
      · exact ⟨HF1.out.1, HPB.out⟩
      · exact ⟨HF1.out.2, HTB.out⟩), HC2.out⟩
    case round =>
      obtain ⟨k, rv', vs', hk, rfl, ht', hb', HOK, HFR, hch⟩ := hrel
      clear HT2 HC2 HB2
      have c0 := hb'.cell 0
      simp only [List.getElem?_toArray, List.getElem?_cons_zero] at c0
      obtain ⟨-, -, -, q3, q4, -, -⟩ := ht'.cells
      have f4 := ht'.blk.free 4
      by_cases hlt : k < n
      · have hkr : k < rows.length := by have := HNR.out; omega
        obtain ⟨g, o, cp, so, sc, hsl, d0, hx0, hrd⟩ : ∃ g o cp so sc, Value.slice ro n rc = .slice (some ⟨g, o, none⟩) n cp ∧ wr.cell? ⟨g, o + k, none⟩ = some (.slice so rows[k].length sc) ∧ True ∧ Rd wr 1 (.slice so rows[k].length sc) rows[k].length (ints rows[k]) := by
          have hx := HRX.out wr hch
          obtain ⟨g, o, e1, e2⟩ := hx.top.addr (by omega)
          have hkx : k < xs.length := by rw [hx.len]; exact hkr
          have e3 := hx.rd k hkx hkr
          obtain ⟨so, sc, e4⟩ := e3.shape
          rw [e4] at e3
          have e5 := e2 k (by omega)
          rw [List.getElem?_eq_getElem hkx, e4] at e5
          exact ⟨g, o, rc, so, sc, by rw [e1], e5, trivial, e3⟩
        simp only [Value.slice.injEq, true_and] at hsl
        obtain ⟨rfl, rfl⟩ := hsl
        have hm1000 := HLEN.out _ (List.getElem_mem hkr)
        have HST := Lib.hid (totR_step rows k hkr)
        have HTK := Lib.hid (show rows.take (k + 1) = rows.take k ++ [rows[k]] from List.take_succ_eq_append_getElem hkr)
        have HOK2 := Lib.hid (show rowOk Wn n k rows[k].length → ∀ j (h : j < rows.length), j < k + 1 → rowOk Wn n j rows[j].length from fun h0 j h h2 => by
          rcases Nat.lt_or_ge j k with h3 | h3
          · exact HOK.out j h h3
          · have : j = k := by omega
            subst this
            exact h0)
        have HNO := Lib.hid (show ¬ rowOk Wn n k rows[k].length → ¬ okL (Wn : Int) rows used low high from fun h0 h => h0 (by have := h.each k hkr; rw [← HNR.out] at this; exact this))
        have hS : totR (rows.take k) ≤ 65536000 := by
          have h4 := totR_le (m := 1000) (rows.take k) (fun r hr => HLEN.out r (List.mem_of_mem_take hr))
          have h5 : (2 : Nat) ^ (rows.take k).length ≤ 2 ^ 16 := Nat.pow_le_pow_right (by omega) (by simp; omega)
          have h6 : (2 : Nat) ^ 16 = 65536 := by decide
          have h7 : 1000 * 2 ^ (rows.take k).length ≤ 1000 * 65536 := Nat.mul_le_mul_left _ (by omega)
          omega
        obtain ⟨m, hm⟩ : ∃ m, m = rows[k].length := ⟨_, rfl⟩
        obtain ⟨S, hSS⟩ : ∃ S, S = totR (rows.take k) := ⟨_, rfl⟩
        obtain ⟨Z, hZ⟩ : ∃ Z, Z = m * 2 ^ k := ⟨_, rfl⟩
        have hZ2 : Z ≤ 65536000 := by
          rw [hZ]
          have h5 : (2 : Nat) ^ k ≤ 2 ^ 16 := Nat.pow_le_pow_right (by omega) (by omega)
          have h6 : (2 : Nat) ^ 16 = 65536 := by decide
          exact Nat.le_trans (Nat.mul_le_mul (by omega : m ≤ 1000) (by omega : 2 ^ k ≤ 65536)) (by omega)
        have q4' : wr.cell? ⟨p, 4, none⟩ = some (.int .u64 (S : Nat)) := by rw [hSS]; exact q4
        clear q4
        have HSZ := Lib.hid (show totR (rows.take (k + 1)) = S + Z from by rw [HST.out, ← hSS, ← hm, hZ, Nat.mul_comm])
        rw [← hm] at d0 hrd hm1000 HOK2 HNO
        rw [← hSS] at hS
        have hw1 : IntKind.u64.wrap (m : Int) = (m : Int) := IntWalk.u64_in _ (by omega)
        have hw2 : IntKind.u64.wrap ((m : Int) * (2 : Int) ^ k) = (Z : Int) := by
          have e : ((m : Int) * (2 : Int) ^ k) = ((m * 2 ^ k : Nat) : Int) := by rw [Int.natCast_mul, Int.natCast_pow]; rfl
          rw [e, ← hZ, IntKind.wrap_u64]; omega
        have HPL := Lib.hid (fun (u : World) (b1 : Nat) (hrd2 : Rd u 1 (.slice (some ⟨b1, 0, none⟩) 2 2) 2 [.int .u64 (S : Nat), .int .u64 (Z : Nat)]) => show Calls Tryz.prog 96 #[.slice (some ⟨b1, 0, none⟩) 2 2] u fun e w' => e = .returned (.tuple #[.int .u64 ((S + Z : Nat) : Int), .bool true]) ∧ u = w' from by
          have h := wide_plus u (some ⟨b1, 0, none⟩) 2 [S, Z] (by simp; omega) hrd2 (by simp)
          have e : plusV [S, Z] = .tuple #[.int .u64 ((S + Z : Nat) : Int), .bool true] := by
            have e0 : [S, Z].sum = S + Z := by simp
            unfold plusV
            rw [e0, if_pos (by omega)]
          rw [e] at h
          exact h)
        have HT := Lib.hid ht'
        have HB := Lib.hid hb'
        have HCH := Lib.hid hch
        have HRD := Lib.hid hrd
        have HMM := Lib.hid hm
        clear ht' hb' hch hx0 hrd hm hSS hZ HST
        obtain ⟨U, hU⟩ : ∃ U, U = S + Z := ⟨_, rfl⟩
        rw [← hU] at HPL HSZ
        have hU2 : U ≤ 131072000 := by omega
        clear hU
        go_wp2_with fail
        go_cut [16, 17] (fun a b wx => a = .int .u64 (U : Nat) ∧ b = .bool true ∧ Chg [] wr wx)
        case first =>
          go_region_with (first | (go_at_call 96; refine (HPL.out (wr.alloc (.cells #[.int .u64 (S : Nat), .int .u64 (Z : Nat)] 25)).drew wr.heap.size (Rd.lit wr #[.int .u64 (S : Nat), .int .u64 (Z : Nat)] 25 1 2 2 rfl)).mono ?_; rintro e w3 ⟨rfl, rfl⟩))
          all_goals
            go_wp2_with fail
            go_meet
            refine ⟨rfl, rfl, ?_⟩
            with_reducible (repeat (first | exact Chg.refl _ _ | apply Chg.drew | apply Chg.alloc))
        case rest =>
          obtain ⟨rfl, rfl, hc3⟩ := hcut
          have HT3 := Lib.hid (HT.out.chg hc3 (by simp))
          have HB3 := Lib.hid (HB.out.chg hc3 (by simp))
          have HC3 := Lib.hid (HCH.out.trans hc3)
          have HR3 := Lib.hid (HRD.out.chg hc3 (by simp))
          clear c0 q3 q4' f4 d0 hc3 HT HB HCH HRD HPL
          have c0 := HB3.out.cell 0
          simp only [List.getElem?_toArray, List.getElem?_cons_zero] at c0
          by_cases hmW : m < Wn
          rotate_left
          · have d1 : decide ((Wn : Int) ≤ (m : Int)) = true := decide_eq_true (by omega)
            have d1' : decide (Wn ≤ m) = true := decide_eq_true (by omega)
            go_wp2_with fail
            go_ret2
            exact .inl ⟨HNO.out (fun h => hmW h.1), rfl, HC3.out⟩
          have d1 : decide ((Wn : Int) ≤ (m : Int)) = false := decide_eq_false (by omega)
          have d1' : decide (Wn ≤ m) = false := decide_eq_false (by omega)
          by_cases hend : 0 < k ∧ k + 1 = n ∧ m = 0
          · obtain ⟨e1, e2, e3⟩ := hend
            have d2 : decide ((0 : Int) < (k : Int)) = true := decide_eq_true (by omega)
            have d2' : decide (0 < k) = true := decide_eq_true (by omega)
            have d3 : ((k : Int) == (n : Int) - 1) = true := by rw [beq_iff_eq]; omega
            have d4 : ((m : Int) == 0) = true := by rw [beq_iff_eq]; omega
            go_wp2_with fail
            go_ret2
            exact .inl ⟨HNO.out (fun h => h.2 ⟨e1, e2, e3⟩), rfl, HC3.out⟩
          · have HROW := Lib.hid (HOK2.out ⟨hmW, hend⟩)
            have HCL := Lib.hid (fun u (hu : Chg [] wc u) => clone_rd u so sc m rows[k] (HR3.out.chg hu (by simp)) (by omega))
            obtain ⟨rr, rcp, hrv⟩ := HT3.out.own.shape
            subst hrv
            have hpl : (TwD.part Wn word rows k).rows.length = k := by simp [TwD.part]; have := HNR.out; omega
            rw [hpl] at HT3
            have HPLN := Lib.hid hpl
            have q3 : wc.cell? ⟨p, 3, none⟩ = some (.slice rr k rcp) := HT3.out.cells.2.2.2.1
            have f3 := HT3.out.blk.free 3
            have f4 := HT3.out.blk.free 4
            have HWAY : Hid (True) := Lib.hid trivial
            clear hpl
            rcases show (k = 0) ∨ (0 < k ∧ k + 1 ≠ n) ∨ (0 < k ∧ k + 1 = n ∧ m ≠ 0) by omega with hk0 | ⟨hk0, hk1⟩ | ⟨hk0, hk1, hk2⟩
            · have d2 : decide ((0 : Int) < (k : Int)) = false := decide_eq_false (by omega)
              have d2' : decide (0 < k) = false := decide_eq_false (by omega)
              clear hk0
              go_wp2_with fail
              refine startG (S := fun wx => wx.cell? ⟨p, 3, none⟩ = some (.slice rr k rcp)) (st := 13) (by kernel_rfl) q3 (fun hHeld => ?_)
              refine takeP (i := 0) (v := ?vz0) rfl (by kernel_rfl) (by kernel_rfl) (by kernel_rfl) (by decide) (fun _ _ _ h => h) (Or.inl ⟨by rfl, ?yz0⟩) q3 ?rz0
              case yz0 => (intro w _; go_simp; first | done | with_reducible rfl)
              try simp only [Act.put, List.setIfInBounds_toArray, List.set_cons_zero, List.set_cons_succ]
              refine takeP (i := 1) (v := ?vz1) rfl (by kernel_rfl) (by kernel_rfl) (by kernel_rfl) (by decide) (fun _ _ _ h => h) (Or.inl ⟨by rfl, ?yz1⟩) q3 ?rz1
              case yz1 => (intro w _; go_simp; first | done | with_reducible rfl)
              try simp only [Act.put, List.setIfInBounds_toArray, List.set_cons_zero, List.set_cons_succ]
              refine takeP (i := 2) (v := ?vz2) rfl (by kernel_rfl) (by kernel_rfl) (by kernel_rfl) (by decide) (fun _ _ _ h => h) (Or.inl ⟨by rfl, ?yz2⟩) q3 ?rz2
              case yz2 => (intro w _; go_simp; first | done | with_reducible rfl)
              try simp only [Act.put, List.setIfInBounds_toArray, List.set_cons_zero, List.set_cons_succ]
              refine takeP (i := 3) (v := ?vz3) rfl (by kernel_rfl) (by kernel_rfl) (by kernel_rfl) (by decide) (fun _ _ _ h => h) (Or.inl ⟨by rfl, ?yz3⟩) q3 ?rz3
              case yz3 => (intro w _; go_simp; first | done | with_reducible rfl)
              try simp only [Act.put, List.setIfInBounds_toArray, List.set_cons_zero, List.set_cons_succ]
              refine takeP (i := 4) (v := ?vz4) rfl (by kernel_rfl) (by kernel_rfl) (by kernel_rfl) (by decide) (fun _ _ _ h => h) (Or.inl ⟨by rfl, ?yz4⟩) q3 ?rz4
              case yz4 => (intro w _; go_simp; first | done | with_reducible rfl)
              try simp only [Act.put, List.setIfInBounds_toArray, List.set_cons_zero, List.set_cons_succ]
              refine takeG (i := 5) (v := ?vz5) rfl (by kernel_rfl) (by kernel_rfl) (by kernel_rfl) (by decide) (by kernel_rfl) (by kernel_rfl) (fun _ _ _ h => h) (Or.inl ⟨by rfl, ?yz5⟩) q3 ?rz5
              case yz5 => (intro w hSw; (try dsimp only at hSw); go_simp; first | done | with_reducible rfl)
              try simp only [Act.put, List.setIfInBounds_toArray, List.set_cons_zero, List.set_cons_succ]
              refine takeP (i := 6) (v := ?vz6) rfl (by kernel_rfl) (by kernel_rfl) (by kernel_rfl) (by decide) (fun _ _ _ h => h) (Or.inl ⟨by rfl, ?yz6⟩) q3 ?rz6
              case yz6 => (intro w _; go_simp; first | done | with_reducible rfl)
              try simp only [Act.put, List.setIfInBounds_toArray, List.set_cons_zero, List.set_cons_succ]
              refine takeP (i := 10) (v := ?vz10) rfl (by kernel_rfl) (by kernel_rfl) (by kernel_rfl) (by decide) (fun _ _ _ h => h) (Or.inl ⟨by rfl, ?yz10⟩) q3 ?rz10
              case yz10 => (intro w _; go_simp; first | done | with_reducible rfl)
              try simp only [Act.put, List.setIfInBounds_toArray, List.set_cons_zero, List.set_cons_succ]
              refine readyG (rs := [7]) (by kernel_rfl) (by simp) (consG rfl (fun K hK => ?_) nilG)
              refine step_calls rfl 111 _ _ rfl enters_clone _ #[.slice so m sc] (by simp [Act.eval, Act.put]) (HCL.out _ ((Chg.refl [] wc).drew)) ?_; rintro e w4 ⟨a4, c4, rfl, ho4, hc4, hf4⟩; refine ⟨_, rfl, ?_⟩
              have H34 := Lib.hid (((Chg.refl [] wc).drew).trans hc4)
              have HO4 := Lib.hid ho4
              have HF4 := Lib.hid (show ∀ b ∈ abl a4, wc.heap.size ≤ b from hf4)
              have q34 := (HT3.out.chg H34.out (by simp)).cells.2.2.2.1
              clear ho4 hc4 hf4
              refine hK.out _ _ (fun _ _ => q34) (fun hHeld => ?_)
              clear hK K hHeld
              try simp only [Act.put, List.setIfInBounds_toArray, List.set_cons_zero, List.set_cons_succ]
              refine readyG (rs := [8]) (by kernel_rfl) (by simp) (consG rfl (fun K hK => ?_) nilG)
              refine step_build1R rfl 94 rfl a4 m c4 (by simp [Act.eval]) ?_; intro g5 w5 hr5 hc5 hg5
              have H35 := Lib.hid (H34.out.trans hc5)
              have HR5 := Lib.hid hr5
              have HO5 := Lib.hid (HO4.out.chg hc5 (by simp))
              have HRW5 := Lib.hid (HT3.out.own.chg H35.out (by simp))
              rw [HPLN.out] at HRW5
              have q35 := (HT3.out.chg H35.out (by simp)).cells.2.2.2.1
              clear hr5 hc5 hg5
              refine hK.out _ _ (fun _ _ => q35) (fun hHeld => ?_)
              clear hK K hHeld
              try simp only [Act.put, List.setIfInBounds_toArray, List.set_cons_zero, List.set_cons_succ]
              refine readyG (rs := [9]) (by kernel_rfl) (by simp) (consG rfl (fun K hK => ?_) nilG)
              refine step_append_src rfl (.tmp 92) (.tmp 95) 191 191 rfl 121 _ 1 24 under_rowsT info_intsT rfl (by decide) (.slice rr k rcp) k vs' (by simp [Act.eval, Act.put]) HRW5.out (.slice (some ⟨g5, 0, none⟩) 1 1) 1 [.slice a4 m c4] (by simp [Act.eval, Act.put]) (Src.of_rd under_rowsT HR5.out) (fun y hy => by simp at hy; subst hy; rfl) (by unfold maxLen; omega) (by omega) ?_; intro a6 c6 w6 ho6 hg6 hf6
              have HO6 := Lib.hid ho6
              have HG6 := Lib.hid hg6
              have HF6 := Lib.hid hf6
              have hb6 := (HT3.out.blk.chg H35.out (by simp)).chg hg6 HT3.out.p_rv
              have q36 : w6.cell? ⟨p, 3, none⟩ = some (.slice rr k rcp) := hb6.cell 3
              have f36 := hb6.free 3
              have f46 := hb6.free 4
              have c36 : w6.cell? ⟨p, 4, none⟩ = some (.int .u64 ((TwD.part Wn word rows k).total : Nat)) := hb6.cell 4
              clear ho6 hg6 hf6 hb6
              refine hK.out _ _ (fun _ _ => q36) (fun hHeld => ?_)
              clear hK K hHeld
              try simp only [Act.put, List.setIfInBounds_toArray, List.set_cons_zero, List.set_cons_succ]
              refine takeP (i := 11) (v := ?vz11) rfl (by kernel_rfl) (by kernel_rfl) (by kernel_rfl) (by decide) (fun _ _ _ h => h) (Or.inl ⟨by rfl, ?yz11⟩) q36 ?rz11
              case yz11 => (intro w _; go_simp; first | done | with_reducible rfl)
              try simp only [Act.put, List.setIfInBounds_toArray, List.set_cons_zero, List.set_cons_succ]
              refine takeP (i := 12) (v := ?vz12) rfl (by kernel_rfl) (by kernel_rfl) (by kernel_rfl) (by decide) (fun _ _ _ h => h) (Or.inl ⟨by rfl, ?yz12⟩) q36 ?rz12
              case yz12 => (intro w _; go_simp; first | done | with_reducible rfl)
              try simp only [Act.put, List.setIfInBounds_toArray, List.set_cons_zero, List.set_cons_succ]
              refine readyG (rs := [13]) (by kernel_rfl) (by simp) (consG rfl (fun K hK => ?_) nilG)
              go_simp
              refine hK.out _ _ (fun h => absurd rfl h) (fun hHeld => ?_)
              clear hK K hHeld
              try simp only [Act.put, List.setIfInBounds_toArray, List.set_cons_zero, List.set_cons_succ]
              refine readyG (rs := [14]) (by kernel_rfl) (by simp) (consG rfl (fun K hK => ?_) nilG)
              go_simp
              refine hK.out _ _ (fun _ h => absurd h (by decide)) (fun hHeld => ?_)
              clear hK K hHeld
              try simp only [Act.put, List.setIfInBounds_toArray, List.set_cons_zero, List.set_cons_succ]
              refine readyG (rs := [15]) (by kernel_rfl) (by simp) (consG rfl (fun K hK => ?_) nilG)
              go_simp
              refine hK.out _ _ (fun _ h => absurd h (by decide)) (fun hHeld => ?_)
              clear hK K hHeld
              try simp only [Act.put, List.setIfInBounds_toArray, List.set_cons_zero, List.set_cons_succ]
              refine readyG (rs := [16]) (by kernel_rfl) (by simp) (consG rfl (fun K hK => ?_) nilG)
              go_simp
              refine hK.out _ _ (fun _ h => absurd h (by decide)) (fun hHeld => ?_)
              clear hK K hHeld
              try simp only [Act.put, List.setIfInBounds_toArray, List.set_cons_zero, List.set_cons_succ]
              refine doneG (by kernel_rfl) ?_ _
              have hfr := HFR.out
              have hlB := HB3.out.lt
              have h35 := H35.out.size
              have h34 := H34.out.size
              have HOW := Lib.hid (show Own w5 2 1 (.slice a4 m c4) rows[k].length (ints rows[k]) from by rw [← HMM.out]; exact HO5.out)
              have HT6 := Lib.hid (HT3.out.snoc H35.out HOW.out (fun b hb => HF4.out b (by simpa using hb)) HG6.out (by rw [HPLN.out]; exact HO6.out) U)
              have hfp : ∀ b ∈ fp p tp (.slice a6 (k + 1) c6) (vs' ++ [.slice a4 m c4]), B ≤ b ∧ b ≠ B := fun b hb => by
                simp only [fp, List.mem_cons, List.mem_append, List.mem_flatMap] at hb hfr
                rcases hb with rfl | rfl | hb | ⟨v, hv | hv, hb⟩
                · exact hfr _ (.inl rfl)
                · exact hfr _ (.inr (.inl rfl))
                · rcases HF6.out b (by simpa using hb) with h | h
                  · exact hfr b (.inr (.inr (.inl (by simpa using h))))
                  · omega
                · exact hfr b (.inr (.inr (.inr ⟨v, hv, hb⟩)))
                · simp at hv; subst hv
                  have := HF4.out b (by simpa using hb)
                  omega
              have hrr : ∀ b ∈ blkOf (.slice rr k rcp), B ≤ b ∧ b ≠ B := fun b hb => hfr b (by simp only [fp, List.mem_cons, List.mem_append]; exact .inr (.inr (.inl (by simpa using hb))))
              have hpB := hfp p (by simp [fp])
              have HC6 : Chg [] w w6 := (HC3.out.trans H35.out).trans' HG6.out (fun b hb => .inr (by have := hrr b hb; have := HBB.out; omega))
              have HB6 : Blk w6 B #[.int .i64 (Wn : Nat), .int .u64 (word : Nat)] 165 := (HB3.out.chg H35.out (by simp)).chg HG6.out (fun hb => (hrr B hb).2 rfl)
              have e1 : TwD.part Wn word rows (k + 1) = { TwD.part Wn word rows k with rows := (TwD.part Wn word rows k).rows ++ [rows[k]], total := U } := by
                unfold TwD.part
                rw [HTK.out, ← HSZ.out, HTK.out]
              have HT7 := HT6.out
              rw [← e1] at HT7
              have hBw := HBB.out
              go_wp2_with fail
              exact ⟨⟨k + 1, _, _, by omega, by go_num, HT7, (HB6.setCell_other (a := ⟨p, 3, none⟩) (by simp only; omega) _).setCell_other (a := ⟨p, 4, none⟩) (by simp only; omega) _, HROW, Lib.hid hfp, (HC6.setCell (a := ⟨p, 3, none⟩) (.inr (by simp only; omega)) _).setCell (a := ⟨p, 4, none⟩) (.inr (by simp only; omega)) _⟩, by simp [intOf]; omega⟩
            · have d2 : decide ((0 : Int) < (k : Int)) = true := decide_eq_true (by omega)
              have d2' : decide (0 < k) = true := decide_eq_true (by omega)
              have d3 : ((k : Int) == (n : Int) - 1) = false := by rw [beq_eq_false_iff_ne]; omega
              clear hk0 hk1
              go_wp2_with fail
              refine startG (S := fun wx => wx.cell? ⟨p, 3, none⟩ = some (.slice rr k rcp)) (st := 13) (by kernel_rfl) q3 (fun hHeld => ?_)
              refine takeP (i := 0) (v := ?vy0) rfl (by kernel_rfl) (by kernel_rfl) (by kernel_rfl) (by decide) (fun _ _ _ h => h) (Or.inl ⟨by rfl, ?yy0⟩) q3 ?ry0
              case yy0 => (intro w _; go_simp; first | done | with_reducible rfl)
              try simp only [Act.put, List.setIfInBounds_toArray, List.set_cons_zero, List.set_cons_succ]
              refine takeP (i := 1) (v := ?vy1) rfl (by kernel_rfl) (by kernel_rfl) (by kernel_rfl) (by decide) (fun _ _ _ h => h) (Or.inl ⟨by rfl, ?yy1⟩) q3 ?ry1
              case yy1 => (intro w _; go_simp; first | done | with_reducible rfl)
              try simp only [Act.put, List.setIfInBounds_toArray, List.set_cons_zero, List.set_cons_succ]
              refine takeP (i := 2) (v := ?vy2) rfl (by kernel_rfl) (by kernel_rfl) (by kernel_rfl) (by decide) (fun _ _ _ h => h) (Or.inl ⟨by rfl, ?yy2⟩) q3 ?ry2
              case yy2 => (intro w _; go_simp; first | done | with_reducible rfl)
              try simp only [Act.put, List.setIfInBounds_toArray, List.set_cons_zero, List.set_cons_succ]
              refine takeP (i := 3) (v := ?vy3) rfl (by kernel_rfl) (by kernel_rfl) (by kernel_rfl) (by decide) (fun _ _ _ h => h) (Or.inl ⟨by rfl, ?yy3⟩) q3 ?ry3
              case yy3 => (intro w _; go_simp; first | done | with_reducible rfl)
              try simp only [Act.put, List.setIfInBounds_toArray, List.set_cons_zero, List.set_cons_succ]
              refine takeP (i := 4) (v := ?vy4) rfl (by kernel_rfl) (by kernel_rfl) (by kernel_rfl) (by decide) (fun _ _ _ h => h) (Or.inl ⟨by rfl, ?yy4⟩) q3 ?ry4
              case yy4 => (intro w _; go_simp; first | done | with_reducible rfl)
              try simp only [Act.put, List.setIfInBounds_toArray, List.set_cons_zero, List.set_cons_succ]
              refine takeG (i := 5) (v := ?vy5) rfl (by kernel_rfl) (by kernel_rfl) (by kernel_rfl) (by decide) (by kernel_rfl) (by kernel_rfl) (fun _ _ _ h => h) (Or.inl ⟨by rfl, ?yy5⟩) q3 ?ry5
              case yy5 => (intro w hSw; (try dsimp only at hSw); go_simp; first | done | with_reducible rfl)
              try simp only [Act.put, List.setIfInBounds_toArray, List.set_cons_zero, List.set_cons_succ]
              refine takeP (i := 6) (v := ?vy6) rfl (by kernel_rfl) (by kernel_rfl) (by kernel_rfl) (by decide) (fun _ _ _ h => h) (Or.inl ⟨by rfl, ?yy6⟩) q3 ?ry6
              case yy6 => (intro w _; go_simp; first | done | with_reducible rfl)
              try simp only [Act.put, List.setIfInBounds_toArray, List.set_cons_zero, List.set_cons_succ]
              refine takeP (i := 10) (v := ?vy10) rfl (by kernel_rfl) (by kernel_rfl) (by kernel_rfl) (by decide) (fun _ _ _ h => h) (Or.inl ⟨by rfl, ?yy10⟩) q3 ?ry10
              case yy10 => (intro w _; go_simp; first | done | with_reducible rfl)
              try simp only [Act.put, List.setIfInBounds_toArray, List.set_cons_zero, List.set_cons_succ]
              refine readyG (rs := [7]) (by kernel_rfl) (by simp) (consG rfl (fun K hK => ?_) nilG)
              refine step_calls rfl 111 _ _ rfl enters_clone _ #[.slice so m sc] (by simp [Act.eval, Act.put]) (HCL.out _ ((Chg.refl [] wc).drew)) ?_; rintro e w4 ⟨a4, c4, rfl, ho4, hc4, hf4⟩; refine ⟨_, rfl, ?_⟩
              have H34 := Lib.hid (((Chg.refl [] wc).drew).trans hc4)
              have HO4 := Lib.hid ho4
              have HF4 := Lib.hid (show ∀ b ∈ abl a4, wc.heap.size ≤ b from hf4)
              have q34 := (HT3.out.chg H34.out (by simp)).cells.2.2.2.1
              clear ho4 hc4 hf4
              refine hK.out _ _ (fun _ _ => q34) (fun hHeld => ?_)
              clear hK K hHeld
              try simp only [Act.put, List.setIfInBounds_toArray, List.set_cons_zero, List.set_cons_succ]
              refine readyG (rs := [8]) (by kernel_rfl) (by simp) (consG rfl (fun K hK => ?_) nilG)
              refine step_build1R rfl 94 rfl a4 m c4 (by simp [Act.eval]) ?_; intro g5 w5 hr5 hc5 hg5
              have H35 := Lib.hid (H34.out.trans hc5)
              have HR5 := Lib.hid hr5
              have HO5 := Lib.hid (HO4.out.chg hc5 (by simp))
              have HRW5 := Lib.hid (HT3.out.own.chg H35.out (by simp))
              rw [HPLN.out] at HRW5
              have q35 := (HT3.out.chg H35.out (by simp)).cells.2.2.2.1
              clear hr5 hc5 hg5
              refine hK.out _ _ (fun _ _ => q35) (fun hHeld => ?_)
              clear hK K hHeld
              try simp only [Act.put, List.setIfInBounds_toArray, List.set_cons_zero, List.set_cons_succ]
              refine readyG (rs := [9]) (by kernel_rfl) (by simp) (consG rfl (fun K hK => ?_) nilG)
              refine step_append_src rfl (.tmp 92) (.tmp 95) 191 191 rfl 121 _ 1 24 under_rowsT info_intsT rfl (by decide) (.slice rr k rcp) k vs' (by simp [Act.eval, Act.put]) HRW5.out (.slice (some ⟨g5, 0, none⟩) 1 1) 1 [.slice a4 m c4] (by simp [Act.eval, Act.put]) (Src.of_rd under_rowsT HR5.out) (fun y hy => by simp at hy; subst hy; rfl) (by unfold maxLen; omega) (by omega) ?_; intro a6 c6 w6 ho6 hg6 hf6
              have HO6 := Lib.hid ho6
              have HG6 := Lib.hid hg6
              have HF6 := Lib.hid hf6
              have hb6 := (HT3.out.blk.chg H35.out (by simp)).chg hg6 HT3.out.p_rv
              have q36 : w6.cell? ⟨p, 3, none⟩ = some (.slice rr k rcp) := hb6.cell 3
              have f36 := hb6.free 3
              have f46 := hb6.free 4
              have c36 : w6.cell? ⟨p, 4, none⟩ = some (.int .u64 ((TwD.part Wn word rows k).total : Nat)) := hb6.cell 4
              clear ho6 hg6 hf6 hb6
              refine hK.out _ _ (fun _ _ => q36) (fun hHeld => ?_)
              clear hK K hHeld
              try simp only [Act.put, List.setIfInBounds_toArray, List.set_cons_zero, List.set_cons_succ]
              refine takeP (i := 11) (v := ?vy11) rfl (by kernel_rfl) (by kernel_rfl) (by kernel_rfl) (by decide) (fun _ _ _ h => h) (Or.inl ⟨by rfl, ?yy11⟩) q36 ?ry11
              case yy11 => (intro w _; go_simp; first | done | with_reducible rfl)
              try simp only [Act.put, List.setIfInBounds_toArray, List.set_cons_zero, List.set_cons_succ]
              refine takeP (i := 12) (v := ?vy12) rfl (by kernel_rfl) (by kernel_rfl) (by kernel_rfl) (by decide) (fun _ _ _ h => h) (Or.inl ⟨by rfl, ?yy12⟩) q36 ?ry12
              case yy12 => (intro w _; go_simp; first | done | with_reducible rfl)
              try simp only [Act.put, List.setIfInBounds_toArray, List.set_cons_zero, List.set_cons_succ]
              refine readyG (rs := [13]) (by kernel_rfl) (by simp) (consG rfl (fun K hK => ?_) nilG)
              go_simp
              refine hK.out _ _ (fun h => absurd rfl h) (fun hHeld => ?_)
              clear hK K hHeld
              try simp only [Act.put, List.setIfInBounds_toArray, List.set_cons_zero, List.set_cons_succ]
              refine readyG (rs := [14]) (by kernel_rfl) (by simp) (consG rfl (fun K hK => ?_) nilG)
              go_simp
              refine hK.out _ _ (fun _ h => absurd h (by decide)) (fun hHeld => ?_)
              clear hK K hHeld
              try simp only [Act.put, List.setIfInBounds_toArray, List.set_cons_zero, List.set_cons_succ]
              refine readyG (rs := [15]) (by kernel_rfl) (by simp) (consG rfl (fun K hK => ?_) nilG)
              go_simp
              refine hK.out _ _ (fun _ h => absurd h (by decide)) (fun hHeld => ?_)
              clear hK K hHeld
              try simp only [Act.put, List.setIfInBounds_toArray, List.set_cons_zero, List.set_cons_succ]
              refine readyG (rs := [16]) (by kernel_rfl) (by simp) (consG rfl (fun K hK => ?_) nilG)
              go_simp
              refine hK.out _ _ (fun _ h => absurd h (by decide)) (fun hHeld => ?_)
              clear hK K hHeld
              try simp only [Act.put, List.setIfInBounds_toArray, List.set_cons_zero, List.set_cons_succ]
              refine doneG (by kernel_rfl) ?_ _
              have hfr := HFR.out
              have hlB := HB3.out.lt
              have h35 := H35.out.size
              have h34 := H34.out.size
              have HOW := Lib.hid (show Own w5 2 1 (.slice a4 m c4) rows[k].length (ints rows[k]) from by rw [← HMM.out]; exact HO5.out)
              have HT6 := Lib.hid (HT3.out.snoc H35.out HOW.out (fun b hb => HF4.out b (by simpa using hb)) HG6.out (by rw [HPLN.out]; exact HO6.out) U)
              have hfp : ∀ b ∈ fp p tp (.slice a6 (k + 1) c6) (vs' ++ [.slice a4 m c4]), B ≤ b ∧ b ≠ B := fun b hb => by
                simp only [fp, List.mem_cons, List.mem_append, List.mem_flatMap] at hb hfr
                rcases hb with rfl | rfl | hb | ⟨v, hv | hv, hb⟩
                · exact hfr _ (.inl rfl)
                · exact hfr _ (.inr (.inl rfl))
                · rcases HF6.out b (by simpa using hb) with h | h
                  · exact hfr b (.inr (.inr (.inl (by simpa using h))))
                  · omega
                · exact hfr b (.inr (.inr (.inr ⟨v, hv, hb⟩)))
                · simp at hv; subst hv
                  have := HF4.out b (by simpa using hb)
                  omega
              have hrr : ∀ b ∈ blkOf (.slice rr k rcp), B ≤ b ∧ b ≠ B := fun b hb => hfr b (by simp only [fp, List.mem_cons, List.mem_append]; exact .inr (.inr (.inl (by simpa using hb))))
              have hpB := hfp p (by simp [fp])
              have HC6 : Chg [] w w6 := (HC3.out.trans H35.out).trans' HG6.out (fun b hb => .inr (by have := hrr b hb; have := HBB.out; omega))
              have HB6 : Blk w6 B #[.int .i64 (Wn : Nat), .int .u64 (word : Nat)] 165 := (HB3.out.chg H35.out (by simp)).chg HG6.out (fun hb => (hrr B hb).2 rfl)
              have e1 : TwD.part Wn word rows (k + 1) = { TwD.part Wn word rows k with rows := (TwD.part Wn word rows k).rows ++ [rows[k]], total := U } := by
                unfold TwD.part
                rw [HTK.out, ← HSZ.out, HTK.out]
              have HT7 := HT6.out
              rw [← e1] at HT7
              have hBw := HBB.out
              go_wp2_with fail
              exact ⟨⟨k + 1, _, _, by omega, by go_num, HT7, (HB6.setCell_other (a := ⟨p, 3, none⟩) (by simp only; omega) _).setCell_other (a := ⟨p, 4, none⟩) (by simp only; omega) _, HROW, Lib.hid hfp, (HC6.setCell (a := ⟨p, 3, none⟩) (.inr (by simp only; omega)) _).setCell (a := ⟨p, 4, none⟩) (.inr (by simp only; omega)) _⟩, by simp [intOf]; omega⟩
            · have d2 : decide ((0 : Int) < (k : Int)) = true := decide_eq_true (by omega)
              have d2' : decide (0 < k) = true := decide_eq_true (by omega)
              have d3 : ((k : Int) == (n : Int) - 1) = true := by rw [beq_iff_eq]; omega
              have d4 : ((m : Int) == 0) = false := by rw [beq_eq_false_iff_ne]; omega
              clear hk0 hk1 hk2
              go_wp2_with fail
              refine startG (S := fun wx => wx.cell? ⟨p, 3, none⟩ = some (.slice rr k rcp)) (st := 13) (by kernel_rfl) q3 (fun hHeld => ?_)
              refine takeP (i := 0) (v := ?vx0) rfl (by kernel_rfl) (by kernel_rfl) (by kernel_rfl) (by decide) (fun _ _ _ h => h) (Or.inl ⟨by rfl, ?yx0⟩) q3 ?rx0
              case yx0 => (intro w _; go_simp; first | done | with_reducible rfl)
              try simp only [Act.put, List.setIfInBounds_toArray, List.set_cons_zero, List.set_cons_succ]
              refine takeP (i := 1) (v := ?vx1) rfl (by kernel_rfl) (by kernel_rfl) (by kernel_rfl) (by decide) (fun _ _ _ h => h) (Or.inl ⟨by rfl, ?yx1⟩) q3 ?rx1
              case yx1 => (intro w _; go_simp; first | done | with_reducible rfl)
              try simp only [Act.put, List.setIfInBounds_toArray, List.set_cons_zero, List.set_cons_succ]
              refine takeP (i := 2) (v := ?vx2) rfl (by kernel_rfl) (by kernel_rfl) (by kernel_rfl) (by decide) (fun _ _ _ h => h) (Or.inl ⟨by rfl, ?yx2⟩) q3 ?rx2
              case yx2 => (intro w _; go_simp; first | done | with_reducible rfl)
              try simp only [Act.put, List.setIfInBounds_toArray, List.set_cons_zero, List.set_cons_succ]
              refine takeP (i := 3) (v := ?vx3) rfl (by kernel_rfl) (by kernel_rfl) (by kernel_rfl) (by decide) (fun _ _ _ h => h) (Or.inl ⟨by rfl, ?yx3⟩) q3 ?rx3
              case yx3 => (intro w _; go_simp; first | done | with_reducible rfl)
              try simp only [Act.put, List.setIfInBounds_toArray, List.set_cons_zero, List.set_cons_succ]
              refine takeP (i := 4) (v := ?vx4) rfl (by kernel_rfl) (by kernel_rfl) (by kernel_rfl) (by decide) (fun _ _ _ h => h) (Or.inl ⟨by rfl, ?yx4⟩) q3 ?rx4
              case yx4 => (intro w _; go_simp; first | done | with_reducible rfl)
              try simp only [Act.put, List.setIfInBounds_toArray, List.set_cons_zero, List.set_cons_succ]
              refine takeG (i := 5) (v := ?vx5) rfl (by kernel_rfl) (by kernel_rfl) (by kernel_rfl) (by decide) (by kernel_rfl) (by kernel_rfl) (fun _ _ _ h => h) (Or.inl ⟨by rfl, ?yx5⟩) q3 ?rx5
              case yx5 => (intro w hSw; (try dsimp only at hSw); go_simp; first | done | with_reducible rfl)
              try simp only [Act.put, List.setIfInBounds_toArray, List.set_cons_zero, List.set_cons_succ]
              refine takeP (i := 6) (v := ?vx6) rfl (by kernel_rfl) (by kernel_rfl) (by kernel_rfl) (by decide) (fun _ _ _ h => h) (Or.inl ⟨by rfl, ?yx6⟩) q3 ?rx6
              case yx6 => (intro w _; go_simp; first | done | with_reducible rfl)
              try simp only [Act.put, List.setIfInBounds_toArray, List.set_cons_zero, List.set_cons_succ]
              refine takeP (i := 10) (v := ?vx10) rfl (by kernel_rfl) (by kernel_rfl) (by kernel_rfl) (by decide) (fun _ _ _ h => h) (Or.inl ⟨by rfl, ?yx10⟩) q3 ?rx10
              case yx10 => (intro w _; go_simp; first | done | with_reducible rfl)
              try simp only [Act.put, List.setIfInBounds_toArray, List.set_cons_zero, List.set_cons_succ]
              refine readyG (rs := [7]) (by kernel_rfl) (by simp) (consG rfl (fun K hK => ?_) nilG)
              refine step_calls rfl 111 _ _ rfl enters_clone _ #[.slice so m sc] (by simp [Act.eval, Act.put]) (HCL.out _ ((Chg.refl [] wc).drew)) ?_; rintro e w4 ⟨a4, c4, rfl, ho4, hc4, hf4⟩; refine ⟨_, rfl, ?_⟩
              have H34 := Lib.hid (((Chg.refl [] wc).drew).trans hc4)
              have HO4 := Lib.hid ho4
              have HF4 := Lib.hid (show ∀ b ∈ abl a4, wc.heap.size ≤ b from hf4)
              have q34 := (HT3.out.chg H34.out (by simp)).cells.2.2.2.1
              clear ho4 hc4 hf4
              refine hK.out _ _ (fun _ _ => q34) (fun hHeld => ?_)
              clear hK K hHeld
              try simp only [Act.put, List.setIfInBounds_toArray, List.set_cons_zero, List.set_cons_succ]
              refine readyG (rs := [8]) (by kernel_rfl) (by simp) (consG rfl (fun K hK => ?_) nilG)
              refine step_build1R rfl 94 rfl a4 m c4 (by simp [Act.eval]) ?_; intro g5 w5 hr5 hc5 hg5
              have H35 := Lib.hid (H34.out.trans hc5)
              have HR5 := Lib.hid hr5
              have HO5 := Lib.hid (HO4.out.chg hc5 (by simp))
              have HRW5 := Lib.hid (HT3.out.own.chg H35.out (by simp))
              rw [HPLN.out] at HRW5
              have q35 := (HT3.out.chg H35.out (by simp)).cells.2.2.2.1
              clear hr5 hc5 hg5
              refine hK.out _ _ (fun _ _ => q35) (fun hHeld => ?_)
              clear hK K hHeld
              try simp only [Act.put, List.setIfInBounds_toArray, List.set_cons_zero, List.set_cons_succ]
              refine readyG (rs := [9]) (by kernel_rfl) (by simp) (consG rfl (fun K hK => ?_) nilG)
              refine step_append_src rfl (.tmp 92) (.tmp 95) 191 191 rfl 121 _ 1 24 under_rowsT info_intsT rfl (by decide) (.slice rr k rcp) k vs' (by simp [Act.eval, Act.put]) HRW5.out (.slice (some ⟨g5, 0, none⟩) 1 1) 1 [.slice a4 m c4] (by simp [Act.eval, Act.put]) (Src.of_rd under_rowsT HR5.out) (fun y hy => by simp at hy; subst hy; rfl) (by unfold maxLen; omega) (by omega) ?_; intro a6 c6 w6 ho6 hg6 hf6
              have HO6 := Lib.hid ho6
              have HG6 := Lib.hid hg6
              have HF6 := Lib.hid hf6
              have hb6 := (HT3.out.blk.chg H35.out (by simp)).chg hg6 HT3.out.p_rv
              have q36 : w6.cell? ⟨p, 3, none⟩ = some (.slice rr k rcp) := hb6.cell 3
              have f36 := hb6.free 3
              have f46 := hb6.free 4
              have c36 : w6.cell? ⟨p, 4, none⟩ = some (.int .u64 ((TwD.part Wn word rows k).total : Nat)) := hb6.cell 4
              clear ho6 hg6 hf6 hb6
              refine hK.out _ _ (fun _ _ => q36) (fun hHeld => ?_)
              clear hK K hHeld
              try simp only [Act.put, List.setIfInBounds_toArray, List.set_cons_zero, List.set_cons_succ]
              refine takeP (i := 11) (v := ?vx11) rfl (by kernel_rfl) (by kernel_rfl) (by kernel_rfl) (by decide) (fun _ _ _ h => h) (Or.inl ⟨by rfl, ?yx11⟩) q36 ?rx11
              case yx11 => (intro w _; go_simp; first | done | with_reducible rfl)
              try simp only [Act.put, List.setIfInBounds_toArray, List.set_cons_zero, List.set_cons_succ]
              refine takeP (i := 12) (v := ?vx12) rfl (by kernel_rfl) (by kernel_rfl) (by kernel_rfl) (by decide) (fun _ _ _ h => h) (Or.inl ⟨by rfl, ?yx12⟩) q36 ?rx12
              case yx12 => (intro w _; go_simp; first | done | with_reducible rfl)
              try simp only [Act.put, List.setIfInBounds_toArray, List.set_cons_zero, List.set_cons_succ]
              refine readyG (rs := [13]) (by kernel_rfl) (by simp) (consG rfl (fun K hK => ?_) nilG)
              go_simp
              refine hK.out _ _ (fun h => absurd rfl h) (fun hHeld => ?_)
              clear hK K hHeld
              try simp only [Act.put, List.setIfInBounds_toArray, List.set_cons_zero, List.set_cons_succ]
              refine readyG (rs := [14]) (by kernel_rfl) (by simp) (consG rfl (fun K hK => ?_) nilG)
              go_simp
              refine hK.out _ _ (fun _ h => absurd h (by decide)) (fun hHeld => ?_)
              clear hK K hHeld
              try simp only [Act.put, List.setIfInBounds_toArray, List.set_cons_zero, List.set_cons_succ]
              refine readyG (rs := [15]) (by kernel_rfl) (by simp) (consG rfl (fun K hK => ?_) nilG)
              go_simp
              refine hK.out _ _ (fun _ h => absurd h (by decide)) (fun hHeld => ?_)
              clear hK K hHeld
              try simp only [Act.put, List.setIfInBounds_toArray, List.set_cons_zero, List.set_cons_succ]
              refine readyG (rs := [16]) (by kernel_rfl) (by simp) (consG rfl (fun K hK => ?_) nilG)
              go_simp
              refine hK.out _ _ (fun _ h => absurd h (by decide)) (fun hHeld => ?_)
              clear hK K hHeld
              try simp only [Act.put, List.setIfInBounds_toArray, List.set_cons_zero, List.set_cons_succ]
              refine doneG (by kernel_rfl) ?_ _
              have hfr := HFR.out
              have hlB := HB3.out.lt
              have h35 := H35.out.size
              have h34 := H34.out.size
              have HOW := Lib.hid (show Own w5 2 1 (.slice a4 m c4) rows[k].length (ints rows[k]) from by rw [← HMM.out]; exact HO5.out)
              have HT6 := Lib.hid (HT3.out.snoc H35.out HOW.out (fun b hb => HF4.out b (by simpa using hb)) HG6.out (by rw [HPLN.out]; exact HO6.out) U)
              have hfp : ∀ b ∈ fp p tp (.slice a6 (k + 1) c6) (vs' ++ [.slice a4 m c4]), B ≤ b ∧ b ≠ B := fun b hb => by
                simp only [fp, List.mem_cons, List.mem_append, List.mem_flatMap] at hb hfr
                rcases hb with rfl | rfl | hb | ⟨v, hv | hv, hb⟩
                · exact hfr _ (.inl rfl)
                · exact hfr _ (.inr (.inl rfl))
                · rcases HF6.out b (by simpa using hb) with h | h
                  · exact hfr b (.inr (.inr (.inl (by simpa using h))))
                  · omega
                · exact hfr b (.inr (.inr (.inr ⟨v, hv, hb⟩)))
                · simp at hv; subst hv
                  have := HF4.out b (by simpa using hb)
                  omega
              have hrr : ∀ b ∈ blkOf (.slice rr k rcp), B ≤ b ∧ b ≠ B := fun b hb => hfr b (by simp only [fp, List.mem_cons, List.mem_append]; exact .inr (.inr (.inl (by simpa using hb))))
              have hpB := hfp p (by simp [fp])
              have HC6 : Chg [] w w6 := (HC3.out.trans H35.out).trans' HG6.out (fun b hb => .inr (by have := hrr b hb; have := HBB.out; omega))
              have HB6 : Blk w6 B #[.int .i64 (Wn : Nat), .int .u64 (word : Nat)] 165 := (HB3.out.chg H35.out (by simp)).chg HG6.out (fun hb => (hrr B hb).2 rfl)
              have e1 : TwD.part Wn word rows (k + 1) = { TwD.part Wn word rows k with rows := (TwD.part Wn word rows k).rows ++ [rows[k]], total := U } := by
                unfold TwD.part
                rw [HTK.out, ← HSZ.out, HTK.out]
              have HT7 := HT6.out
              rw [← e1] at HT7
              have hBw := HBB.out
              go_wp2_with fail
              exact ⟨⟨k + 1, _, _, by omega, by go_num, HT7, (HB6.setCell_other (a := ⟨p, 3, none⟩) (by simp only; omega) _).setCell_other (a := ⟨p, 4, none⟩) (by simp only; omega) _, HROW, Lib.hid hfp, (HC6.setCell (a := ⟨p, 3, none⟩) (.inr (by simp only; omega)) _).setCell (a := ⟨p, 4, none⟩) (.inr (by simp only; omega)) _⟩, by simp [intOf]; omega⟩
      · obtain rfl : k = n := by omega
        obtain ⟨un, rfl⟩ := Int.eq_ofNat_of_zero_le (show 0 ≤ used by omega)
        have htk : rows.take k = rows := List.take_of_length_le (by have := HNR.out; omega)
        have ht1 : Tow wr p tp rv' vs' ⟨Wn, word, 0, totR rows, rows, 0, 0⟩ := by
          have h := ht'
          unfold TwD.part at h
          rw [htk] at h
          exact h
        have hEach := Lib.hid (show ∀ j (h : j < rows.length), rowOk Wn rows.length j rows[j].length from fun j h => by rw [← HNR.out]; exact HOK.out j h (by have := HNR.out; omega))
        have HT := Lib.hid ht1
        have HMO := Lib.hid (fun u (hu : Chg [] wr u) => req_most u p tp rv' vs' _ (HT.out.chg hu (by simp)) hW64)
        have HCH := Lib.hid hch
        have HFRR := Lib.hid (show ∀ b ∈ fp p tp rv' vs', w.heap.size ≤ b from fun b hb => by have := (HFR.out b hb).1; have := HBB.out; omega)
        have hS : totR rows ≤ 65536000 := by
          have h4 := totR_le (m := 1000) rows HLEN.out
          have h5 : (2 : Nat) ^ rows.length ≤ 2 ^ 16 := Nat.pow_le_pow_right (by omega) (by have := HNR.out; omega)
          have h6 : (2 : Nat) ^ 16 = 65536 := by decide
          have h7 : 1000 * 2 ^ rows.length ≤ 1000 * 65536 := Nat.mul_le_mul_left _ (by omega)
          omega
        obtain ⟨T, hT⟩ : ∃ T, T = totR rows := ⟨_, rfl⟩
        obtain ⟨M, hM⟩ : ∃ M, M = Wn * 1024 := ⟨_, rfl⟩
        have HMO := Lib.hid (fun u (hu : Chg [] wr u) => show Calls Tryz.prog 112 #[.pointer (some ⟨p, 0, none⟩)] u fun e w' => e = .returned (.int .u64 (M : Nat)) ∧ u = w' from by rw [hM]; exact HMO.out u hu)
        have q4' : wr.cell? ⟨p, 4, none⟩ = some (.int .u64 (T : Nat)) := by rw [hT]; exact HT.out.cells.2.2.2.2.1
        have q2 : wr.cell? ⟨p, 2, none⟩ = some (.pointer (some ⟨tp, 0, none⟩)) := HT.out.cells.2.2.1
        have HTT := Lib.hid hT
        have HMM := Lib.hid hM
        have HSK := Lib.hid (fun u (hu : Chg [] wr u) => coins_skip u tp word 0 un ((HT.out.chg hu (by simp)).tape))
        have HNR2 := HNR.out
        clear q3 q4 f4 c0 ht' hb' hch htk ht1 HFR HOK hT hM HRX
        by_cases g1 : M < T
        · have d1 : decide ((M : Int) < (T : Int)) = true := decide_eq_true (by omega)
          have d1' : decide (M < T) = true := decide_eq_true g1
          go_wp2_with fail
          go_quiet (first | (go_at_call 112; exact (HMO.out _ (by with_reducible (repeat (first | exact Chg.refl _ _ | apply Chg.drew | apply Chg.drewN)))).mono fun e w' ⟨he, hw⟩ => ⟨he, _, hw.symm⟩))
          go_wp2_with fail
          go_ret2
          exact .inl ⟨fun h => by have h1 := h.most; have h2 := HTT.out; have h3 := HMM.out; simp only [Int.toNat_natCast] at h1; omega, rfl, HCH.out.trans (by with_reducible (repeat (first | exact Chg.refl _ _ | apply Chg.drew | apply Chg.drewN)))⟩
        have d1 : decide ((M : Int) < (T : Int)) = false := decide_eq_false (by omega)
        have d1' : decide (M < T) = false := decide_eq_false g1
        by_cases g2 : high < low
        · have d2 : decide (high < low) = true := decide_eq_true g2
          go_wp2_with fail
          go_quiet (first | (go_at_call 112; exact (HMO.out _ (by with_reducible (repeat (first | exact Chg.refl _ _ | apply Chg.drew | apply Chg.drewN)))).mono fun e w' ⟨he, hw⟩ => ⟨he, _, hw.symm⟩))
          go_wp2_with fail
          go_ret2
          exact .inl ⟨fun h => by have h1 := h.ends; omega, rfl, HCH.out.trans (by with_reducible (repeat (first | exact Chg.refl _ _ | apply Chg.drew | apply Chg.drewN)))⟩
        have d2 : decide (high < low) = false := decide_eq_false g2
        by_cases g3 : T = 0 ∧ low ≠ 0
        · have d3 : ((T : Int) == 0) = true := by rw [beq_iff_eq]; omega
          have d4 : (low != 0) = true := by rw [bne_iff_ne]; exact g3.2
          go_wp2_with fail
          go_quiet (first | (go_at_call 112; exact (HMO.out _ (by with_reducible (repeat (first | exact Chg.refl _ _ | apply Chg.drew | apply Chg.drewN)))).mono fun e w' ⟨he, hw⟩ => ⟨he, _, hw.symm⟩))
          go_wp2_with fail
          go_ret2
          exact .inl ⟨fun h => by have h1 := h.none (by rw [← HTT.out]; exact g3.1); exact g3.2 h1.1, rfl, HCH.out.trans (by with_reducible (repeat (first | exact Chg.refl _ _ | apply Chg.drew | apply Chg.drewN)))⟩
        by_cases g4 : T = 0 ∧ high ≠ 0
        · have d3 : ((T : Int) == 0) = true := by rw [beq_iff_eq]; omega
          have d4 : (low != 0) = false := by rw [bne_eq_false_iff_eq]; omega
          have d5 : (high != 0) = true := by rw [bne_iff_ne]; exact g4.2
          go_wp2_with fail
          go_quiet (first | (go_at_call 112; exact (HMO.out _ (by with_reducible (repeat (first | exact Chg.refl _ _ | apply Chg.drew | apply Chg.drewN)))).mono fun e w' ⟨he, hw⟩ => ⟨he, _, hw.symm⟩))
          go_wp2_with fail
          go_ret2
          exact .inl ⟨fun h => by have h1 := h.none (by rw [← HTT.out]; exact g4.1); exact g4.2 h1.2, rfl, HCH.out.trans (by with_reducible (repeat (first | exact Chg.refl _ _ | apply Chg.drew | apply Chg.drewN)))⟩
        have HOKL := Lib.hid (show okL (Wn : Int) rows (un : Int) low high from ⟨HG.out, by omega, by omega, by omega, hEach.out, by have h2 := HTT.out; have h3 := HMM.out; simp only [Int.toNat_natCast]; omega, by omega, fun h => by
          have h2 := HTT.out
          exact ⟨by omega, by omega⟩⟩)
        by_cases g5 : T = 0
        · obtain rfl : low = 0 := by omega
          obtain rfl : high = 0 := by omega
          subst g5
          have d3 : (((0 : Nat) : Int) == 0) = true := rfl
          go_wp2_with fail
          go_quiet (first | (go_at_call 112; exact (HMO.out _ (by with_reducible (repeat (first | exact Chg.refl _ _ | apply Chg.drew | apply Chg.drewN)))).mono fun e w' ⟨he, hw⟩ => ⟨he, _, hw.symm⟩))
          go_wp2_with fail
          refine (HSK.out _ (by with_reducible (repeat (first | exact Chg.refl _ _ | apply Chg.drew | apply Chg.drewN)))).mono ?_
          rintro e w5 ⟨rfl, ht5, hc5⟩
          have hc5' : Chg [tp] wr w5 := (show Chg [tp] wr _ from by with_reducible (repeat (first | exact Chg.refl _ _ | apply Chg.drew | apply Chg.drewN))).trans hc5
          have HTC := Lib.hid (HT.out.close hc5' ht5 0 0)
          have f5 := (HT.out.blk.chg hc5' (by simpa using HT.out.ne_tape)).free 5
          have f6 := (HT.out.blk.chg hc5' (by simpa using HT.out.ne_tape)).free 6
          have c5 : w5.cell? ⟨p, 5, none⟩ = some (.int .i64 0) := (HT.out.blk.chg hc5' (by simpa using HT.out.ne_tape)).cell 5
          have c6 : w5.cell? ⟨p, 6, none⟩ = some (.int .i64 0) := (HT.out.blk.chg hc5' (by simpa using HT.out.ne_tape)).cell 6
          have hpw := HFRR.out p (by simp [fp])
          have htw := HFRR.out tp (by simp [fp])
          have HCF := Lib.hid (((HCH.out.trans' hc5' (fun b hb => .inr (by simp at hb; subst hb; exact htw))).setCell (a := ⟨p, 5, none⟩) (.inr hpw) (.int .i64 0)).setCell (a := ⟨p, 6, none⟩) (.inr hpw) (.int .i64 0))
          clear hc5 hc5' ht5
          go_wp2_with fail
          go_ret2
          exact .inr ⟨HOKL.out, p, tp, rv', vs', rfl, HTC.out, HCF.out, HFRR.out⟩
        · have d3 : ((T : Int) == 0) = false := by rw [beq_eq_false_iff_ne]; omega
          go_wp2_with fail
          go_quiet (first | (go_at_call 112; exact (HMO.out _ (by with_reducible (repeat (first | exact Chg.refl _ _ | apply Chg.drew | apply Chg.drewN)))).mono fun e w' ⟨he, hw⟩ => ⟨he, _, hw.symm⟩))
          go_wp2_with fail
          refine (HSK.out _ (by with_reducible (repeat (first | exact Chg.refl _ _ | apply Chg.drew | apply Chg.drewN)))).mono ?_
          rintro e w5 ⟨rfl, ht5, hc5⟩
          have hc5' : Chg [tp] wr w5 := (show Chg [tp] wr _ from by with_reducible (repeat (first | exact Chg.refl _ _ | apply Chg.drew | apply Chg.drewN))).trans hc5
          have HTC := Lib.hid (HT.out.close hc5' ht5 low high)
          have f5 := (HT.out.blk.chg hc5' (by simpa using HT.out.ne_tape)).free 5
          have f6 := (HT.out.blk.chg hc5' (by simpa using HT.out.ne_tape)).free 6
          have c5 : w5.cell? ⟨p, 5, none⟩ = some (.int .i64 0) := (HT.out.blk.chg hc5' (by simpa using HT.out.ne_tape)).cell 5
          have c6 : w5.cell? ⟨p, 6, none⟩ = some (.int .i64 0) := (HT.out.blk.chg hc5' (by simpa using HT.out.ne_tape)).cell 6
          have hpw := HFRR.out p (by simp [fp])
          have htw := HFRR.out tp (by simp [fp])
          have HCF := Lib.hid (((HCH.out.trans' hc5' (fun b hb => .inr (by simp at hb; subst hb; exact htw))).setCell (a := ⟨p, 5, none⟩) (.inr hpw) (.int .i64 low)).setCell (a := ⟨p, 6, none⟩) (.inr hpw) (.int .i64 high))
          clear hc5 hc5' ht5
          go_wp2_with fail
          go_ret2
          exact .inr ⟨HOKL.out, p, tp, rv', vs', rfl, HTC.out, HCF.out, HFRR.out⟩
end Go.Proofs.YtlcoibhbdgdfcaaGreatDoor
