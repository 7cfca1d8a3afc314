/-
  The walks of layer 12 (spans) with one digit, of layer 2 (sign), at given magnitudes. Conditions: the form's own reach.
  The walks of runs.by, slices.BinarySearchFunc over it, and runs.Find. Conditions: the form's own reach.
-/
import Derived.Test.YtlcoibhbdgdfcaaGreatDoorProg
import Derived.Test.YtlcoibhbdgdfcaaGreatDoorCoreLumpsB1
import Derived.Test.YtlcoibhbdgdfcaaGreatDoorCoreLumpsB3
import Derived.Test.YtlcoibhbdgdfcaaGreatDoorCoreLumpsLBitLen
import Derived.Test.YtlcoibhbdgdfcaaGreatDoorCoreLumpsB8
namespace Go.Proofs.YtlcoibhbdgdfcaaGreatDoor
open Go.RowKit

/-- A span of one digit. -/
def Sp1 (w : World) (p : Nat) : Prop := Blk w p #[.int .i64 1, .int .i64 4] 254
set_option maxRecDepth 100000 in
theorem wide_logN (w : World) (x n : Nat) (hx : x ≤ 18446744073709551615) (h0 : 1 ≤ x) (hn : Lib.bitLen x = n + 1) (hn2 : n ≤ 64) : Calls Tryz.prog 157 #[.int .u64 (x : Nat)] w fun e w' => e = .returned (.tuple #[.int .i64 (n : Nat), .bool true]) ∧ w = w' := by
  have HL := Lib.hid (bits_len64 (x : Int) w (by omega) (by omega))
  rw [Int.toNat_natCast, hn] at HL
  have e1 : ((x : Int) != 0) = true := by rw [bne_iff_ne]; omega
  have e2 : IntKind.i64.wrap (((n + 1 : Nat) : Int) - 1) = (n : Int) := by rw [IntKind.wrap_i64]; omega
  clear hn
  go_enter Tryz.func157, Tryz.ntmps157
  go_wp2_with fail
  refine HL.out.mono ?_
  rintro e w' ⟨rfl, rfl⟩
  go_wp2_with fail
  go_ret2
  exact ⟨by first | rfl | simp, rfl⟩
set_option maxRecDepth 100000 in
theorem span_shift5 (w : World) (p : Nat) (h : Sp1 w p) : Calls Tryz.prog 151 #[.pointer (some ⟨p, 0, none⟩), .int .u64 5] w fun e w' => e = .returned (.int .i64 0) ∧ w = w' := by
  have HL := Lib.hid (wide_logN w 5 2 (by omega) (by omega) (by decide) (by omega))
  have c1 := h.cell 1
  simp only [List.getElem?_toArray, List.getElem?_cons_succ, List.getElem?_cons_zero] at c1
  clear h
  go_enter Tryz.func151, Tryz.ntmps151
  go_wp2_with fail
  refine HL.out.mono ?_
  rintro e w' ⟨rfl, rfl⟩
  go_wp2
  go_ret
  exact ⟨by first | rfl | simp, rfl⟩
set_option maxRecDepth 100000 in
theorem span_shiftM (w : World) (p : Nat) (h : Sp1 w p) : Calls Tryz.prog 151 #[.pointer (some ⟨p, 0, none⟩), .int .u64 9223372036854775808] w fun e w' => e = .returned (.int .i64 59) ∧ w = w' := by
  have HL := Lib.hid (wide_logN w 9223372036854775808 63 (by omega) (by omega) (by decide) (by omega))
  have c1 := h.cell 1
  simp only [List.getElem?_toArray, List.getElem?_cons_succ, List.getElem?_cons_zero] at c1
  clear h
  go_enter Tryz.func151, Tryz.ntmps151
  go_wp2_with fail
  refine HL.out.mono ?_
  rintro e w' ⟨rfl, rfl⟩
  go_wp2
  go_ret
  exact ⟨by first | rfl | simp, rfl⟩
set_option maxRecDepth 100000 in
set_option maxHeartbeats 1000000 in
theorem span_index5 (w : World) (p : Nat) (h : Sp1 w p) : Calls Tryz.prog 140 #[.pointer (some ⟨p, 0, none⟩), .int .u64 5] w fun e w' => e = .returned (.tuple #[.int .i64 5, .bool true]) ∧ Chg [] w w' := by
  have HL := Lib.hid (span_shift5 w p h)
  have c1 := h.cell 1
  simp only [List.getElem?_toArray, List.getElem?_cons_succ, List.getElem?_cons_zero] at c1
  clear h
  go_enter Tryz.func140, Tryz.ntmps140
  go_wp2_with fail
  refine HL.out.mono ?_
  rintro e w' ⟨rfl, rfl⟩
  go_wp2_with fail
  go_quiet (fail)
  go_wp2
  go_ret2
  exact ⟨by first | rfl | simp, (Chg.refl [] w).drewN _⟩
set_option maxRecDepth 100000 in
set_option maxHeartbeats 1000000 in
theorem span_indexM (w : World) (p : Nat) (h : Sp1 w p) : Calls Tryz.prog 140 #[.pointer (some ⟨p, 0, none⟩), .int .u64 9223372036854775808] w fun e w' => e = .returned (.tuple #[.int .i64 960, .bool true]) ∧ Chg [] w w' := by
  have HL := Lib.hid (span_shiftM w p h)
  have c1 := h.cell 1
  simp only [List.getElem?_toArray, List.getElem?_cons_succ, List.getElem?_cons_zero] at c1
  clear h
  go_enter Tryz.func140, Tryz.ntmps140
  go_wp2_with fail
  refine HL.out.mono ?_
  rintro e w' ⟨rfl, rfl⟩
  go_wp2_with fail
  go_quiet (fail)
  go_wp2
  go_ret2
  exact ⟨by first | rfl | simp, (Chg.refl [] w).drewN _⟩
set_option maxRecDepth 100000 in
set_option maxHeartbeats 1000000 in
theorem span_parts5 (w : World) (p : Nat) (h : Sp1 w p) : Calls Tryz.prog 132 #[.pointer (some ⟨p, 0, none⟩), .int .i64 5] w fun e w' => e = .returned (.tuple #[.int .i64 0, .int .u64 5, .bool true]) ∧ Chg [] w w' := by
  have HL := Lib.hid (span_indexM w p h)
  have HH := Lib.hid h
  clear h
  go_enter Tryz.func132, Tryz.ntmps132
  go_wp2_with fail
  refine HL.out.mono ?_
  rintro e w1 ⟨rfl, hc⟩
  have c1 := (HH.out.chg hc (by simp)).cell 1
  simp only [List.getElem?_toArray, List.getElem?_cons_succ, List.getElem?_cons_zero] at c1
  have HC := Lib.hid hc
  clear hc
  go_wp2_with fail
  go_quiet (fail)
  go_wp2
  refine bodyPost_ret (v := .tuple #[.int .i64 0, .int .u64 5, .bool true]) (by simp [results, Tryz.results132, go_sem]; omega) rfl ?_
  exact ⟨rfl, HC.out.drewN _⟩
set_option maxRecDepth 100000 in
set_option maxHeartbeats 1000000 in
theorem span_range5 (w : World) (p : Nat) (h : Sp1 w p) : Calls Tryz.prog 120 #[.pointer (some ⟨p, 0, none⟩), .int .i64 5] w fun e w' => e = .returned (.tuple #[.int .u64 5, .int .u64 5]) ∧ Chg [] w w' := by
  have HL := Lib.hid (span_parts5 w p h)
  clear h
  go_enter Tryz.func120, Tryz.ntmps120
  go_wp2_with fail
  refine HL.out.mono ?_
  rintro e w1 ⟨rfl, hc⟩
  have HC := Lib.hid hc
  clear hc
  go_wp2_with fail
  go_quiet (fail)
  go_wp2
  go_ret2
  exact ⟨by first | rfl | simp, HC.out.drewN _⟩
set_option maxRecDepth 100000 in
set_option maxHeartbeats 1000000 in
theorem span_rep5 (w : World) (p : Nat) (h : Sp1 w p) : Calls Tryz.prog 98 #[.pointer (some ⟨p, 0, none⟩), .int .i64 5] w fun e w' => e = .returned (.int .u64 5) ∧ Chg [] w w' := by
  have HL := Lib.hid (span_range5 w p h)
  clear h
  go_enter Tryz.func98, Tryz.ntmps98
  go_wp2_with fail
  refine HL.out.mono ?_
  rintro e w1 ⟨rfl, hc⟩
  have HC := Lib.hid hc
  clear hc
  go_wp2
  go_ret
  exact ⟨by first | rfl | simp, HC.out⟩
set_option maxRecDepth 100000 in
theorem sign_of5 (w : World) : Calls Tryz.prog 205 #[.int .i64 5] w fun e w' => e = .returned (.tuple #[.int .u64 5, .bool false]) ∧ w = w' := by
  go_enter Tryz.func205, Tryz.ntmps205
  go_wp2
  go_ret2
  exact ⟨rfl, rfl⟩
set_option maxRecDepth 100000 in
theorem sign_value5 (w : World) : Calls Tryz.prog 207 #[.int .u64 5, .bool false] w fun e w' => e = .returned (.tuple #[.int .i64 5, .bool true]) ∧ w = w' := by
  go_enter Tryz.func207, Tryz.ntmps207
  go_wp2
  go_ret2
  exact ⟨rfl, rfl⟩

/-- What the package's tens hold. -/
def tensC : Array Value := #[.int .u64 1, .int .u64 10, .int .u64 100, .int .u64 1000, .int .u64 10000]
def Tens (w : World) : Prop := 0 < w.heap.size ∧ ∀ j, j < 5 → w.cell? ⟨0, j, none⟩ = tensC[j]?
set_option maxRecDepth 100000 in
set_option maxHeartbeats 1000000 in
theorem spans_new1 (w : World) (ht : w.cell? ⟨0, 1, none⟩ = some (.int .u64 10)) : Calls Tryz.prog 89 #[.int .i64 1] w fun e w' => e = .returned (.tuple #[.pointer (some ⟨w.heap.size, 0, none⟩), .int .i64 0]) ∧ Sp1 w' w.heap.size ∧ Chg [] w w' := by
  go_enter Tryz.func89, Tryz.ntmps89
  go_wp2_with fail
  go_loopg [] 4 (fun g wx => g ≤ 4 ∧ Blk wx w.heap.size #[.int .i64 1, .int .i64 ((4 - g : Nat) : Int)] 254 ∧ Chg [] w wx)
  case atStart => exact ⟨Nat.le_refl _, Blk.alloc_new w _ _, (Chg.refl [] w).alloc _⟩
  case round =>
    obtain ⟨hg, hb, hc⟩ := hrel
    have c1 := hb.cell 1
    have f1 := hb.free 1
    have t1 := hc.cell ht (by simp)
    simp only [List.getElem?_toArray, List.getElem?_cons_succ, List.getElem?_cons_zero] at c1
    have HB := Lib.hid hb
    have HC := Lib.hid hc
    clear hb hc
    rcases (show gk = 0 ∨ gk = 1 ∨ gk = 2 ∨ gk = 3 ∨ gk = 4 by omega) with rfl | rfl | rfl | rfl | rfl
    · go_wp2_with fail
      go_quiet (fail)
      go_wp2
      go_ret2
      exact ⟨rfl, HB.out, HC.out.drewN _⟩
    · go_wp2_with fail
      go_quiet (fail)
      go_wp2
      go_roundg 0
      case measure => omega
      case rel => exact ⟨by omega, HB.out.setCell 1 _, (HC.out.drewN nq).setCell (a := ⟨w.heap.size, 1, none⟩) (.inr (Nat.le_refl _)) _⟩
    · go_wp2_with fail
      go_quiet (fail)
      go_wp2
      go_roundg 1
      case measure => omega
      case rel => exact ⟨by omega, HB.out.setCell 1 _, (HC.out.drewN nq).setCell (a := ⟨w.heap.size, 1, none⟩) (.inr (Nat.le_refl _)) _⟩
    · go_wp2_with fail
      go_quiet (fail)
      go_wp2
      go_roundg 2
      case measure => omega
      case rel => exact ⟨by omega, HB.out.setCell 1 _, (HC.out.drewN nq).setCell (a := ⟨w.heap.size, 1, none⟩) (.inr (Nat.le_refl _)) _⟩
    · go_wp2_with fail
      go_quiet (fail)
      go_wp2
      go_roundg 3
      case measure => omega
      case rel => exact ⟨by omega, HB.out.setCell 1 _, (HC.out.drewN nq).setCell (a := ⟨w.heap.size, 1, none⟩) (.inr (Nat.le_refl _)) _⟩
end Go.Proofs.YtlcoibhbdgdfcaaGreatDoor

namespace Go.Proofs.YtlcoibhbdgdfcaaGreatDoor
open Go.RowKit

def byV (p i : Int) : Int := if p < i then -1 else if i < p then 1 else 0
theorem byV_neg (p i : Int) : byV p i < 0 ↔ p < i := by
  unfold byV
  by_cases h : p < i
  · rw [if_pos h]; simp [h]
  · by_cases h2 : i < p
    · rw [if_neg h, if_pos h2]; omega
    · rw [if_neg h, if_neg h2]; omega
theorem byV_zero (p i : Int) : (byV p i == 0) = decide (p = i) := by
  unfold byV
  by_cases h : p < i
  · rw [if_pos h, decide_eq_false (by omega)]; rfl
  · by_cases h2 : i < p
    · rw [if_neg h, if_pos h2, decide_eq_false (by omega)]; rfl
    · rw [if_neg h, if_neg h2, decide_eq_true (by omega)]; rfl
set_option maxRecDepth 100000 in
theorem runs_by (w : World) (p : Pr) (i : Int) :
    Calls Tryz.prog 134 #[.agg #[.int .i64 p.i, .int .u64 p.c], .int .i64 i] w fun e w' => e = .returned (.int .i64 (byV p.i i)) ∧ Chg [] w w' := by
  have hc := (Chg.refl [] w).alloc (.cells #[.int .i64 p.i, .int .u64 p.c] 226)
  go_enter Tryz.func134, Tryz.ntmps134
  by_cases h1 : p.i < i
  · have hd : decide (p.i < i) = true := decide_eq_true h1
    have HV := Lib.hid (show byV p.i i = -1 from if_pos h1)
    go_wp2
    go_ret
    exact ⟨by rw [HV.out]; rfl, hc⟩
  · have hd : decide (p.i < i) = false := decide_eq_false h1
    by_cases h2 : i < p.i
    · have hd2 : decide (i < p.i) = true := decide_eq_true h2
      have HV := Lib.hid (show byV p.i i = 1 from by rw [byV, if_neg h1, if_pos h2])
      go_wp2
      go_ret
      exact ⟨by rw [HV.out]; rfl, hc⟩
    · have hd2 : decide (i < p.i) = false := decide_eq_false h2
      have HV := Lib.hid (show byV p.i i = 0 from by rw [byV, if_neg h1, if_neg h2])
      go_wp2
      go_ret
      exact ⟨by rw [HV.out]; rfl, hc⟩

/-- How many indexes are below one. -/
def cntLt (l : List Pr) (i : Int) : Nat := l.countP fun p => decide (p.i < i)
def hasI (l : List Pr) (i : Int) : Bool := l.any fun p => p.i == i
/-- Indexes that rise. -/
def rises (l : List Pr) : Prop := ∀ j k, (hjk : j < k) → (h : k < l.length) → (l[j]'(by omega)).i < l[k].i

theorem cntLt_eq {l : List Pr} {i : Int} {n : Nat} (hn : n ≤ l.length) (h0 : ∀ k, (h : k < l.length) → k < n → l[k].i < i) (h1 : ∀ k, (h : k < l.length) → n ≤ k → i ≤ l[k].i) : cntLt l i = n := by
  induction l generalizing n with
  | nil => simp at hn; subst hn; rfl
  | cons p l ih =>
    rw [cntLt, List.countP_cons]
    cases n with
    | zero =>
      have hp := h1 0 (by simp) (Nat.le_refl _)
      have := ih (n := 0) (Nat.zero_le _) (fun k _ hk => (Nat.not_lt_zero k hk).elim) (fun k h _ => by have := h1 (k + 1) (by simpa using h) (by omega); simpa using this)
      rw [cntLt] at this
      rw [this]
      simp only [List.getElem_cons_zero] at hp
      rw [if_neg (by simp; omega)]
    | succ n =>
      have hp := h0 0 (by simp) (by omega)
      have := ih (n := n) (by simpa using hn) (fun k h hk => by have := h0 (k + 1) (by simpa using h) (by omega); simpa using this) (fun k h hk => by have := h1 (k + 1) (by simpa using h) (by omega); simpa using this)
      rw [cntLt] at this
      rw [this]
      simpa using hp
theorem hasI_eq {l : List Pr} {i : Int} {n : Nat} (h0 : ∀ k, (h : k < l.length) → k < n → l[k].i < i) (h1 : ∀ k, (h : k < l.length) → n ≤ k → i ≤ l[k].i) (hr : rises l) : hasI l i = (decide (n < l.length) && decide ((l.getD n default).i = i)) := by
  rw [Bool.eq_iff_iff]
  simp only [hasI, List.any_eq_true, beq_iff_eq, Bool.and_eq_true, decide_eq_true_eq]
  constructor
  · rintro ⟨p, hp, rfl⟩
    obtain ⟨k, hk, rfl⟩ := List.getElem_of_mem hp
    have hnk : n ≤ k := by
      rcases Nat.lt_or_ge k n with h | h
      · have := h0 k hk h; omega
      · exact h
    have hn : n < l.length := by omega
    rcases Nat.lt_or_ge n k with h | h
    · have := hr n k h hk
      have := h1 n hn (Nat.le_refl _)
      omega
    · obtain rfl : n = k := by omega
      exact ⟨hn, by simp [List.getD, hn]⟩
  · rintro ⟨hn, he⟩
    refine ⟨l[n], List.getElem_mem _, ?_⟩
    rw [← he]
    simp [List.getD, hn]

set_option maxRecDepth 100000 in
set_option maxHeartbeats 1000000 in
theorem bsf_pairs (w : World) (ao : Option Addr) (cap : Nat) (l : List Pr) (i : Int) (hrs : rises l) (hr : Rd w 2 (.slice ao l.length cap) l.length (prCells l)) (hl : l.length ≤ 100000) :
    Calls Tryz.prog 133 #[.slice ao l.length cap, .int .i64 i, .func (.func 134) #[] #[]] w fun e w' => e = .returned (.tuple #[.int .i64 (cntLt l i), .bool (hasI l i)]) ∧ Chg [] w w' := by
  go_enter Tryz.func133, Tryz.ntmps133
  go_wp2
  go_loopw [9, 10] (fun a b wx => ∃ lo hi : Nat, lo ≤ hi ∧ hi ≤ l.length ∧ a = .int .i64 (lo : Nat) ∧ b = .int .i64 (hi : Nat) ∧ Hid (∀ k, (h : k < l.length) → k < lo → l[k].i < i) ∧ Hid (∀ k, (h : k < l.length) → hi ≤ k → i ≤ l[k].i) ∧ Chg [] w wx) (fun a b _ => (intOf b).toNat - (intOf a).toNat)
  case atStart => exact ⟨0, l.length, by omega, by omega, rfl, rfl, Lib.hid (fun k _ hk => (Nat.not_lt_zero k hk).elim), Lib.hid (fun k h hk => absurd h (by omega)), Chg.refl _ _⟩
  case round =>
    obtain ⟨lo, hi, hlh, hhl, rfl, rfl, H0, H1, hch⟩ := hrel
    have hr1 := hr.chg hch (by simp)
    by_cases hlt : lo < hi
    · obtain ⟨b, o, rfl, hc⟩ := hr1.addr (by omega)
      obtain ⟨m, hm⟩ : ∃ m, m = (lo + hi) / 2 := ⟨_, rfl⟩
      have hmi : ((lo : Int) + (hi : Int)) / 2 = (m : Int) := by omega
      have hml : m < l.length := by omega
      have hmlo : lo ≤ m := by omega
      have hmhi : m < hi := by omega
      have hmi2 : (m : Int) < (l.length : Int) := by omega
      have hmi3 : (0 : Int) ≤ (m : Int) := by omega
      obtain ⟨c0, c1⟩ := pr_at hc hml
      have HBY := Lib.hid (runs_by wr l[m] i)
      have hdl : decide ((lo : Int) < (hi : Int)) = true := decide_eq_true (by omega)
      have HR := Lib.hid hrs
      have HV := Lib.hid (show byV l[m].i i < 0 ↔ l[m].i < i from byV_neg _ _)
      clear hm hc hr1 hrs
      go_wp2_with fail
      refine HBY.out.mono ?_
      rintro e w2 ⟨rfl, hc2⟩
      have hc3 := hch.trans hc2
      clear hch hc2 HBY c0 c1 hr
      by_cases hb : l[m].i < i
      · have hv : byV l[m].i i < 0 := HV.out.2 hb
        have hd2 := decide_eq_true hv
        have HN := Lib.hid (show ∀ k, (h : k < l.length) → k < m + 1 → l[k].i < i from fun k h hk => by
          rcases Nat.lt_or_ge k m with h1 | h1
          · have := HR.out k m h1 hml; omega
          · obtain rfl : k = m := by omega
            exact hb)
        clear HV hb hv
        generalize byV l[m].i i = v at *
        go_wp2
        exact ⟨⟨m + 1, hi, by omega, by omega, by go_num, rfl, HN, H1, hc3⟩, by simp [intOf]; omega⟩
      · have hv : ¬ byV l[m].i i < 0 := fun h => hb (HV.out.1 h)
        have hd2 := decide_eq_false hv
        have HN := Lib.hid (show ∀ k, (h : k < l.length) → m ≤ k → i ≤ l[k].i from fun k h hk => by
          rcases Nat.lt_or_ge m k with h1 | h1
          · have := HR.out m k h1 h; omega
          · obtain rfl : k = m := by omega
            omega)
        clear HV hb hv
        generalize byV l[m].i i = v at *
        go_wp2
        exact ⟨⟨lo, m, by omega, by omega, rfl, rfl, H0, HN, hc3⟩, by simp [intOf]; omega⟩
    · obtain rfl : lo = hi := by omega
      have HC := Lib.hid (cntLt_eq hhl H0.out H1.out)
      have HH := Lib.hid (hasI_eq H0.out H1.out hrs)
      clear hrs
      by_cases hn : lo < l.length
      · obtain ⟨b, o, rfl, hc⟩ := hr1.addr (by omega)
        obtain ⟨c0, c1⟩ := pr_at hc hn
        have hdn : decide ((lo : Int) < (l.length : Int)) = true := decide_eq_true (by omega)
        have hn0 : (0 : Int) ≤ (lo : Int) := by omega
        have HBY := Lib.hid (runs_by wr l[lo] i)
        have HV := Lib.hid (show (byV l[lo].i i == 0) = hasI l i from by
          rw [HH.out, decide_eq_true hn, Bool.true_and, show l.getD lo default = l[lo] from by simp [List.getD, hn]]
          exact byV_zero _ _)
        clear hc hr1 HH
        go_wp2_with fail
        refine HBY.out.mono ?_
        rintro e w2 ⟨rfl, hc2⟩
        have hv := HV.out
        clear HV
        generalize byV l[lo].i i = v at *
        go_wp2
        go_ret2
        exact ⟨by rw [HC.out]; rfl, hch.trans hc2⟩
      · have hdn : decide ((lo : Int) < (l.length : Int)) = false := decide_eq_false (by omega)
        have HV := Lib.hid (show hasI l i = false from by rw [HH.out, decide_eq_false hn]; rfl)
        clear HH
        go_wp2
        go_ret2
        exact ⟨by rw [HC.out, HV.out]; rfl, hch⟩

set_option maxRecDepth 100000 in
theorem runs_find (w : World) (ao : Option Addr) (cap : Nat) (l : List Pr) (i : Int) (hrs : rises l) (hr : Rd w 2 (.slice ao l.length cap) l.length (prCells l)) (hl : l.length ≤ 100000) :
    Calls Tryz.prog 121 #[.slice ao l.length cap, .int .i64 i] w fun e w' => e = .returned (.tuple #[.int .i64 (cntLt l i), .bool (hasI l i)]) ∧ Chg [] w w' := by
  have HB := Lib.hid (bsf_pairs w ao cap l i hrs hr hl)
  clear hrs
  go_enter Tryz.func121, Tryz.ntmps121
  go_wp2_with fail
  refine HB.out.mono ?_
  rintro e w2 ⟨rfl, hc2⟩
  go_wp2
  go_ret2
  exact ⟨rfl, hc2⟩
end Go.Proofs.YtlcoibhbdgdfcaaGreatDoor
