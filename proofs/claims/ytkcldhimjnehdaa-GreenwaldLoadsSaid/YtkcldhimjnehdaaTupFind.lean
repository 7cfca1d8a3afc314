/-
  The walks of tuples.after: the binary search by its closure. Conditions: the form's own reach.
-/
import Derived.Test.YtkcldhimjnehdaaTupBase
import Derived.Test.YtkcldhimjnehdaaPlainPlay
namespace Go.Proofs.Ytkcldhimjnehdaa
open Go.RowKit

def afV (y x : Int) : Int := if x < y then 1 else -1
theorem afV_neg (y x : Int) : afV y x < 0 ↔ y ≤ x := by
  unfold afV
  by_cases h : x < y
  · rw [if_pos h]; omega
  · rw [if_neg h]; omega
theorem afV_zero (y x : Int) : (afV y x == 0) = false := by
  unfold afV
  by_cases h : x < y
  · rw [if_pos h]; rfl
  · rw [if_neg h]; rfl
set_option maxRecDepth 100000 in
theorem after_cmp (w : World) (p : Tp) (x : Int) :
    Calls Try.prog 86 #[.agg #[.int .i64 p.x, .int .u64 p.st, .int .u64 p.sl], .int .i64 x] w fun e w' => e = .returned (.int .i64 (afV p.x x)) ∧ Chg [] w w' := by
  have hc := (Chg.refl [] w).alloc (.cells #[.int .i64 p.x, .int .u64 p.st, .int .u64 p.sl] 28)
  go_enter Try.func86, Try.ntmps86
  by_cases h : x < p.x
  · have hd : decide (x < p.x) = true := decide_eq_true h
    have HV := Lib.hid (show afV p.x x = 1 from if_pos h)
    go_wp2
    go_ret
    exact ⟨by rw [HV.out]; rfl, hc⟩
  · have hd : decide (x < p.x) = false := decide_eq_false h
    have HV := Lib.hid (show afV p.x x = -1 from if_neg h)
    go_wp2
    go_ret
    exact ⟨by rw [HV.out]; rfl, hc⟩
theorem upT_cons (p : Tp) (l : List Tp) (x : Int) : upT (p :: l) x = upT l x + if p.x ≤ x then 1 else 0 := by
  simp [upT, List.countP_cons]
theorem upT_eq {l : List Tp} {x : Int} {n : Nat} (hn : n ≤ l.length) (h0 : ∀ k, (h : k < l.length) → k < n → l[k].x ≤ x) (h1 : ∀ k, (h : k < l.length) → n ≤ k → x < l[k].x) : upT l x = n := by
  induction l generalizing n with
  | nil => simp at hn; subst hn; rfl
  | cons p l ih =>
    rw [upT_cons]
    cases n with
    | zero =>
      have hp := h1 0 (by simp) (Nat.le_refl _)
      have := ih (n := 0) (Nat.zero_le _) (fun k _ hk => (Nat.not_lt_zero k hk).elim) (fun k h _ => by have := h1 (k + 1) (by simpa using h) (by omega); simpa using this)
      rw [this]
      simp only [List.getElem_cons_zero] at hp
      rw [if_neg (by omega)]
    | succ n =>
      have hp := h0 0 (by simp) (by omega)
      have := ih (n := n) (by simpa using hn) (fun k h hk => by have := h0 (k + 1) (by simpa using h) (by omega); simpa using this) (fun k h hk => by have := h1 (k + 1) (by simpa using h) (by omega); simpa using this)
      rw [this]
      simp only [List.getElem_cons_zero] at hp
      rw [if_pos hp]

set_option maxRecDepth 100000 in
set_option maxHeartbeats 1000000 in
theorem bsf_tuples (w : World) (ao : Option Addr) (cap : Nat) (l : List Tp) (x : Int) (hrs : ∀ j k, (hjk : j ≤ k) → (h : k < l.length) → (l[j]'(by omega)).x ≤ l[k].x) (hr : Rd w 3 (.slice ao l.length cap) l.length (tpCells l)) (hl : l.length ≤ 100000) :
    Calls Try.prog 82 #[.slice ao l.length cap, .int .i64 x, .func (.func 86) #[] #[]] w fun e w' => e = .returned (.tuple #[.int .i64 (upT l x), .bool false]) ∧ Chg [] w w' := by
  go_enter Try.func82, Try.ntmps82
  go_wp2
  go_loopw [9, 10] (fun a b wx => ∃ lo hi : Nat, lo ≤ hi ∧ hi ≤ l.length ∧ a = .int .i64 (lo : Nat) ∧ b = .int .i64 (hi : Nat) ∧ Hid (∀ k, (h : k < l.length) → k < lo → l[k].x ≤ x) ∧ Hid (∀ k, (h : k < l.length) → hi ≤ k → x < l[k].x) ∧ Chg [] w wx) (fun a b _ => (intOf b).toNat - (intOf a).toNat)
  case atStart => exact ⟨0, l.length, by omega, by omega, rfl, rfl, Lib.hid (fun k _ hk => (Nat.not_lt_zero k hk).elim), Lib.hid (fun k h hk => absurd h (by omega)), Chg.refl _ _⟩
  case round =>
    obtain ⟨lo, hi, hlh, hhl, rfl, rfl, H0, H1, hch⟩ := hrel
    have hr1 := hr.chg hch (by simp)
    by_cases hlt : lo < hi
    · obtain ⟨b, o, rfl, hc⟩ := hr1.addr (by omega)
      obtain ⟨m, hm⟩ : ∃ m, m = (lo + hi) / 2 := ⟨_, rfl⟩
      have hmi : ((lo : Int) + (hi : Int)) / 2 = (m : Int) := by omega
      have hml : m < l.length := by omega
      have hmlo : lo ≤ m := by omega
      have hmhi : m < hi := by omega
      have hmi2 : (m : Int) < (l.length : Int) := by omega
      have hmi3 : (0 : Int) ≤ (m : Int) := by omega
      obtain ⟨c0, c1, c2⟩ := tp_at hc hml
      have HBY := Lib.hid (after_cmp wr l[m] x)
      have hdl : decide ((lo : Int) < (hi : Int)) = true := decide_eq_true (by omega)
      have HR := Lib.hid hrs
      have HV := Lib.hid (afV_neg l[m].x x)
      clear hm hc hr1 hrs
      go_wp2_with fail
      refine HBY.out.mono ?_
      rintro e w2 ⟨rfl, hc2⟩
      have hc3 := hch.trans hc2
      clear hch hc2 HBY c0 c1 c2 hr
      by_cases hb : l[m].x ≤ x
      · have hv : afV l[m].x x < 0 := HV.out.2 hb
        have hd2 := decide_eq_true hv
        have HN := Lib.hid (show ∀ k, (h : k < l.length) → k < m + 1 → l[k].x ≤ x from fun k h hk => by
          have := HR.out k m (by omega) hml; omega)
        clear HV hb hv
        generalize afV l[m].x x = v at *
        go_wp2
        exact ⟨⟨m + 1, hi, by omega, by omega, by go_num, rfl, HN, H1, hc3⟩, by simp [intOf]; omega⟩
      · have hv : ¬ afV l[m].x x < 0 := fun h => hb (HV.out.1 h)
        have hd2 := decide_eq_false hv
        have HN := Lib.hid (show ∀ k, (h : k < l.length) → m ≤ k → x < l[k].x from fun k h hk => by
          have := HR.out m k hk h; omega)
        clear HV hb hv
        generalize afV l[m].x x = v at *
        go_wp2
        exact ⟨⟨lo, m, by omega, by omega, rfl, rfl, H0, HN, hc3⟩, by simp [intOf]; omega⟩
    · obtain rfl : lo = hi := by omega
      have HC := Lib.hid (upT_eq hhl H0.out H1.out)
      clear hrs
      by_cases hn : lo < l.length
      · obtain ⟨b, o, rfl, hc⟩ := hr1.addr (by omega)
        obtain ⟨c0, c1, c2⟩ := tp_at hc hn
        have hdn : decide ((lo : Int) < (l.length : Int)) = true := decide_eq_true (by omega)
        have hn0 : (0 : Int) ≤ (lo : Int) := by omega
        have HBY := Lib.hid (after_cmp wr l[lo] x)
        have HV := Lib.hid (afV_zero l[lo].x x)
        clear hc hr1
        go_wp2_with fail
        refine HBY.out.mono ?_
        rintro e w2 ⟨rfl, hc2⟩
        have hv := HV.out
        clear HV
        generalize afV l[lo].x x = v at *
        go_wp2
        go_ret2
        exact ⟨by rw [HC.out]; rfl, hch.trans hc2⟩
      · have hdn : decide ((lo : Int) < (l.length : Int)) = false := decide_eq_false (by omega)
        go_wp2
        go_ret2
        exact ⟨by rw [HC.out]; rfl, hch⟩

set_option maxRecDepth 100000 in
theorem tup_after (w : World) (ao : Option Addr) (cap : Nat) (l : List Tp) (x : Int) (hrs : ∀ j k, (hjk : j ≤ k) → (h : k < l.length) → (l[j]'(by omega)).x ≤ l[k].x) (hr : Rd w 3 (.slice ao l.length cap) l.length (tpCells l)) (hl : l.length ≤ 100000) :
    Calls Try.prog 69 #[.slice ao l.length cap, .int .i64 x] w fun e w' => e = .returned (.int .i64 (upT l x : Nat)) ∧ Chg [] w w' := by
  have HB := Lib.hid (bsf_tuples w ao cap l x hrs hr hl)
  clear hrs
  go_enter Try.func69, Try.ntmps69
  go_wp2_with fail
  refine HB.out.mono ?_
  rintro e w2 ⟨rfl, hc2⟩
  go_wp2
  go_ret
  exact ⟨rfl, hc2⟩
end Go.Proofs.Ytkcldhimjnehdaa
