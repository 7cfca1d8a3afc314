/-
  The walks of coins.Up and of the reference's Up. Conditions: the form's own reach.
-/
import Derived.Test.YtkggaojfeobmpaaCoinsHalve
namespace Go.Proofs.Ytkggaojfeobmpaa
open Go.RowKit

def upV (y x : Int) : Int := if x < y then 1 else -1
theorem upV_neg (y x : Int) : upV y x < 0 ↔ y ≤ x := by
  unfold upV
  by_cases h : x < y
  · rw [if_pos h]; omega
  · rw [if_neg h]; omega
theorem upV_zero (y x : Int) : (upV y x == 0) = false := by
  unfold upV
  by_cases h : x < y
  · rw [if_pos h]; rfl
  · rw [if_neg h]; rfl
set_option maxRecDepth 100000 in
theorem up_cmp (w : World) (y x : Int) :
    Calls Try.prog 18 #[.int .i64 y, .int .i64 x] w fun e w' => e = .returned (.int .i64 (upV y x)) ∧ w = w' := by
  go_enter Try.func18, Try.ntmps18
  by_cases h : x < y
  · have hd : decide (x < y) = true := decide_eq_true h
    have HV := Lib.hid (show upV y x = 1 from if_pos h)
    go_wp2
    go_ret
    exact ⟨by rw [HV.out]; rfl, rfl⟩
  · have hd : decide (x < y) = false := decide_eq_false h
    have HV := Lib.hid (show upV y x = -1 from if_neg h)
    go_wp2
    go_ret
    exact ⟨by rw [HV.out]; rfl, rfl⟩
theorem upL_eq {l : List Int} {x : Int} {n : Nat} (hn : n ≤ l.length) (h0 : ∀ k, (h : k < l.length) → k < n → l[k] ≤ x) (h1 : ∀ k, (h : k < l.length) → n ≤ k → x < l[k]) : upL l x = n := by
  induction l generalizing n with
  | nil => simp at hn; subst hn; rfl
  | cons p l ih =>
    rw [upL_cons]
    cases n with
    | zero =>
      have hp := h1 0 (by simp) (Nat.le_refl _)
      have := ih (n := 0) (Nat.zero_le _) (fun k _ hk => (Nat.not_lt_zero k hk).elim) (fun k h _ => by have := h1 (k + 1) (by simpa using h) (by omega); simpa using this)
      rw [this]
      simp only [List.getElem_cons_zero] at hp
      rw [if_neg (by omega)]
    | succ n =>
      have hp := h0 0 (by simp) (by omega)
      have := ih (n := n) (by simpa using hn) (fun k h hk => by have := h0 (k + 1) (by simpa using h) (by omega); simpa using this) (fun k h hk => by have := h1 (k + 1) (by simpa using h) (by omega); simpa using this)
      rw [this]
      simp only [List.getElem_cons_zero] at hp
      rw [if_pos hp]

set_option maxRecDepth 100000 in
set_option maxHeartbeats 1000000 in
theorem bsf_ints (w : World) (ao : Option Addr) (cap : Nat) (l : List Int) (x : Int) (hrs : up l) (hr : Rd w 1 (.slice ao l.length cap) l.length (ints l)) (hl : l.length ≤ 100000) :
    Calls Try.prog 17 #[.slice ao l.length cap, .int .i64 x, .func (.func 18) #[] #[]] w fun e w' => e = .returned (.tuple #[.int .i64 (upL l x), .bool false]) ∧ w = w' := by
  go_enter Try.func17, Try.ntmps17
  go_wp2
  go_loopw [9, 10] (fun a b wx => ∃ lo hi : Nat, lo ≤ hi ∧ hi ≤ l.length ∧ a = .int .i64 (lo : Nat) ∧ b = .int .i64 (hi : Nat) ∧ Hid (∀ k, (h : k < l.length) → k < lo → l[k] ≤ x) ∧ Hid (∀ k, (h : k < l.length) → hi ≤ k → x < l[k]) ∧ w = wx) (fun a b _ => (intOf b).toNat - (intOf a).toNat)
  case atStart => exact ⟨0, l.length, by omega, by omega, rfl, rfl, Lib.hid (fun k _ hk => (Nat.not_lt_zero k hk).elim), Lib.hid (fun k h hk => absurd h (by omega)), rfl⟩
  case round =>
    obtain ⟨lo, hi, hlh, hhl, rfl, rfl, H0, H1, rfl⟩ := hrel
    by_cases hlt : lo < hi
    · obtain ⟨b, o, rfl, hc⟩ := hr.addr (by omega)
      obtain ⟨m, hm⟩ : ∃ m, m = (lo + hi) / 2 := ⟨_, rfl⟩
      have hmi : ((lo : Int) + (hi : Int)) / 2 = (m : Int) := by omega
      have hml : m < l.length := by omega
      have hmlo : lo ≤ m := by omega
      have hmhi : m < hi := by omega
      have hmi2 : (m : Int) < (l.length : Int) := by omega
      have hmi3 : (0 : Int) ≤ (m : Int) := by omega
      have c0 := ints_at hc m hml
      have HBY := Lib.hid (up_cmp w l[m] x)
      have hdl : decide ((lo : Int) < (hi : Int)) = true := decide_eq_true (by omega)
      have HR := Lib.hid hrs
      have HV := Lib.hid (upV_neg l[m] x)
      clear hm hc hrs
      go_wp2_with fail
      refine HBY.out.mono ?_
      rintro e w2 ⟨rfl, rfl⟩
      clear HBY c0
      by_cases hb : l[m] ≤ x
      · have hv : upV l[m] x < 0 := HV.out.2 hb
        have hd2 := decide_eq_true hv
        have HN := Lib.hid (show ∀ k, (h : k < l.length) → k < m + 1 → l[k] ≤ x from fun k h hk => by
          rcases Nat.lt_or_ge k m with h1 | h1
          · have := HR.out k m h1 hml; omega
          · obtain rfl : k = m := by omega
            exact hb)
        clear HV hb hv
        generalize upV l[m] x = v at *
        go_wp2
        exact ⟨⟨m + 1, hi, by omega, by omega, by go_num, rfl, HN, H1, trivial⟩, by simp [intOf]; omega⟩
      · have hv : ¬ upV l[m] x < 0 := fun h => hb (HV.out.1 h)
        have hd2 := decide_eq_false hv
        have HN := Lib.hid (show ∀ k, (h : k < l.length) → m ≤ k → x < l[k] from fun k h hk => by
          rcases Nat.lt_or_ge m k with h1 | h1
          · have := HR.out m k h1 h; omega
          · obtain rfl : k = m := by omega
            omega)
        clear HV hb hv
        generalize upV l[m] x = v at *
        go_wp2
        exact ⟨⟨lo, m, by omega, by omega, rfl, rfl, H0, HN, trivial⟩, by simp [intOf]; omega⟩
    · obtain rfl : lo = hi := by omega
      have HC := Lib.hid (upL_eq hhl H0.out H1.out)
      clear hrs
      by_cases hn : lo < l.length
      · obtain ⟨b, o, rfl, hc⟩ := hr.addr (by omega)
        have c0 := ints_at hc lo hn
        have hdn : decide ((lo : Int) < (l.length : Int)) = true := decide_eq_true (by omega)
        have hn0 : (0 : Int) ≤ (lo : Int) := by omega
        have HBY := Lib.hid (up_cmp w l[lo] x)
        have HV := Lib.hid (upV_zero l[lo] x)
        clear hc
        go_wp2_with fail
        refine HBY.out.mono ?_
        rintro e w2 ⟨rfl, rfl⟩
        have hv := HV.out
        clear HV
        generalize upV l[lo] x = v at *
        go_wp2
        go_ret2
        exact ⟨by rw [HC.out]; rfl, rfl⟩
      · have hdn : decide ((lo : Int) < (l.length : Int)) = false := decide_eq_false (by omega)
        go_wp2
        go_ret2
        exact ⟨by rw [HC.out]; rfl, rfl⟩

set_option maxRecDepth 100000 in
theorem coins_up (w : World) (ao : Option Addr) (cap : Nat) (l : List Int) (x : Int) (hrs : up l) (hr : Rd w 1 (.slice ao l.length cap) l.length (ints l)) (hl : l.length ≤ 100000) :
    Calls Try.prog 14 #[.slice ao l.length cap, .int .i64 x] w fun e w' => e = .returned (.int .i64 (upL l x : Nat)) ∧ w = w' := by
  have HB := Lib.hid (bsf_ints w ao cap l x hrs hr hl)
  clear hrs
  go_enter Try.func14, Try.ntmps14
  go_wp2_with fail
  refine HB.out.mono ?_
  rintro e w2 ⟨rfl, rfl⟩
  go_wp2
  go_ret
  exact ⟨rfl, rfl⟩

theorem upL_step (l : List Int) (x : Int) (k : Nat) (h : k < l.length) : upL (l.take (k + 1)) x = upL (l.take k) x + if l[k] ≤ x then 1 else 0 := by
  rw [List.take_succ_eq_append_getElem h, upL, List.countP_append]
  simp [upL, List.countP_cons]
set_option maxRecDepth 100000 in
theorem ref20_up (w : World) (ao : Option Addr) (cap : Nat) (l : List Int) (x : Int) (hr : Rd w 1 (.slice ao l.length cap) l.length (ints l)) (hl : l.length ≤ 100000) :
    Calls Try.prog 16 #[.slice ao l.length cap, .int .i64 x] w fun e w' => e = .returned (.int .i64 (upL l x : Nat)) ∧ Chg [] w w' := by
  go_enter Try.func16, Try.ntmps16
  go_wp2
  go_loopw [5, 10] (fun n j wx => ∃ k : Nat, k ≤ l.length ∧ j = .int .i64 (k : Nat) ∧ n = .int .i64 (upL (l.take k) x : Nat) ∧ Chg [] w wx) (fun _ j _ => l.length - (intOf j).toNat)
  case atStart => exact ⟨0, Nat.zero_le _, rfl, rfl, Chg.refl _ _⟩
  case round =>
    obtain ⟨k, hk, rfl, rfl, hch⟩ := hrel
    by_cases hlt : k < l.length
    · have hr1 := hr.chg hch (by simp)
      obtain ⟨b, o, rfl, hc⟩ := hr1.addr (by omega)
      have c0 := ints_at hc k hlt
      have HS := Lib.hid (upL_step l x k hlt)
      have hnk : upL (l.take k) x ≤ k := by
        have := List.countP_le_length (p := fun y : Int => decide (y ≤ x)) (l := l.take k)
        rw [List.length_take] at this
        rw [upL]
        omega
      generalize l[k] = p at *
      generalize upL (l.take k) x = n at *
      clear hc hr1
      by_cases hi : p ≤ x
      · rw [if_pos hi] at HS
        have hib : decide (p ≤ x) = true := decide_eq_true hi
        clear hi
        go_wp2
        exact ⟨⟨k + 1, by omega, by go_num, by rw [HS.out]; go_num, hch⟩, by simp [intOf]; omega⟩
      · rw [if_neg hi] at HS
        have hib : decide (p ≤ x) = false := decide_eq_false hi
        clear hi
        go_wp2
        exact ⟨⟨k + 1, by omega, by go_num, by rw [HS.out]; rfl, hch⟩, by simp [intOf]; omega⟩
    · obtain rfl : k = l.length := by omega
      go_wp2
      go_ret
      exact ⟨by rw [List.take_length]; rfl, hch⟩
end Go.Proofs.Ytkggaojfeobmpaa
