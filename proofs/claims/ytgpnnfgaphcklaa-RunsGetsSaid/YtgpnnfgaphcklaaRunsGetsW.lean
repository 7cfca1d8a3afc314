/-
  The walk of the law RunsGets. Conditions: the form's own reach.
-/
import Derived.Test.YtgpnnfgaphcklaaRunsAlive
import Derived.Test.YtgpnnfgaphcklaaRunsGet
import Derived.Test.YtgpnnfgaphcklaaRefRuns
namespace Go.Proofs.Ytgpnnfgaphcklaa
open Go.RowKit

theorem putB_long (l : List Pr) : l.length ≤ (putB l).length := by
  have h : ∀ k, k ≤ l.length → k ≤ (bodyTo l k).length := by
    intro k
    induction k with
    | zero => simp
    | succ k ih =>
      intro h
      have h1 := ih (by omega)
      have h2 := natB_pos (l.getD k default).c
      rw [bodyTo_succ, List.length_append, pairB, List.length_append]
      omega
  have := h l.length (Nat.le_refl _)
  rw [putB, List.length_append]
  omega
theorem used_pos {l s : List UInt8} {v : Nat} (h : l = natB v ++ s) (hv : v < 2 ^ 64) : 0 < (takenP 18446744073709551615 l).2 := by
  have := leb_natB v 0 s (by omega) (by simpa using hv) (by omega)
  have hp := natB_pos v
  subst h
  rw [takenP, this]
  simp only
  rw [if_pos (by omega), List.length_append]
  simp only
  omega

theorem ref_taken_all (w : World) (l : List UInt8) (hlen : l.length ≤ 70368744177664) :
    Calls Try.prog 26 #[.string ⟨l.toArray⟩, .int .u64 18446744073709551615] w fun e w' => ∃ tv tu : Nat, e = .returned (.tuple #[.int .u64 tv, .int .i64 tu]) ∧ Hid (tu = (takenP 18446744073709551615 l).2) ∧ Chg [] w w' := by
  obtain ⟨m, hm⟩ : ∃ m : Nat, m = 18446744073709551615 := ⟨_, rfl⟩
  have h := ref_taken w l m (by omega) hlen
  rw [← hm, show (18446744073709551615 : Int) = (m : Int) from by rw [hm]; rfl]
  exact h.mono fun e w' ⟨h1, h2⟩ => ⟨_, _, h1, Lib.hid rfl, h2⟩

theorem ref06_bytes_e (w : World) (ao : Option Addr) (cap : Nat) (l : List Pr) (n : Nat) (hn : n = l.length) (P : List UInt8) (hP : putB l = P) (hok : ∀ p ∈ l, p.ok) (hr : Rd w 2 (.slice ao l.length cap) l.length (prCells l)) (hl : l.length ≤ 1000) :
    Calls Try.prog 51 #[.slice ao n cap] w fun e w' => e = .returned (.string ⟨P.toArray⟩) ∧ Chg [] w w' := by
  subst hn hP
  exact ref06_bytes w ao cap l hok hr hl

attribute [local go_sem] ByteArray.extract_mk

set_option maxRecDepth 100000 in
set_option maxHeartbeats 2000000 in
theorem law_RunsGets (w : World) (b : List UInt8) (_hb : b.length ≤ 140737488351232) (most : Int) (_h0 : -9223372036854775808 ≤ most) (h1 : most < 9223372036854775808) :
    Calls Try.prog 16 #[.string ⟨b.toArray⟩, .int .i64 most] w fun e w' => e = .returned (.bool true) ∧ Chg [] w w' := by
  go_enter Try.func16, Try.ntmps16
  go_wp2_with fail
  refine (law06_alive w).mono ?_
  rintro e w1 ⟨rfl, hc1⟩
  by_cases h300 : 300 < b.length
  · have hd : decide ((300 : Int) < (b.length : Int)) = true := decide_eq_true (by omega)
    go_wp2
    go_ret
    exact ⟨rfl, hc1⟩
  have hd : decide ((300 : Int) < (b.length : Int)) = false := decide_eq_false (by omega)
  go_wp2_with fail
  refine (eye_on w1 b).mono ?_
  rintro e w2 ⟨rfl, he2, hc2⟩
  have hs1 := hc1.size
  have hs2 := he2.lt
  have hc2 := hc1.trans hc2
  have HM := Lib.hid h1
  clear h1
  go_wp2_with fail
  refine (runs_get w2 w1.heap.size _ most HM.out he2 (by intro x hx; cases hx; omega)).mono ?_
  rintro e w3 ⟨ao, cap, rfl, ho3, he3, hc3, hab3⟩
  have hc3' := hc2.trans' hc3 (by simp; omega)
  generalize hG : getP most (some b) = G at *
  obtain ⟨L, st⟩ := G
  have HG := Lib.hid hG
  simp only at ho3 he3 ⊢
  clear hG
  go_wp2_with fail
  refine (eye_bad w3 w1.heap.size st he3).mono ?_
  rintro e w4 ⟨rfl, rfl⟩
  cases st with
  | none =>
    obtain rfl := getP_none HG.out
    simp only [Option.isNone_none]
    go_wp2
    go_ret
    exact ⟨rfl, hc3'⟩
  | some r =>
    simp only [Option.isNone_some]
    obtain ⟨e1, e2, e3, e4, v, s, e5, e6⟩ := getP_sound HG.out
    have HU := Lib.hid (used_pos e5 e6)
    have hb7 : b.length ≤ 70368744177664 := by omega
    have hlL : L.length ≤ 300 := by
      have := putB_long L
      have : b.length = (putB L).length + r.length := by rw [e1, List.length_append]
      omega
    have hpl : b.length = (putB L).length + r.length := by rw [e1, List.length_append]
    have htk : b.take (putB L).length = putB L := by rw [e1, List.take_left]
    have HH := Lib.hid e3
    clear e1 e3 e5 e6
    go_wp2_with fail
    refine (ref_taken_all w3 b hb7).mono ?_
    rintro e w4 ⟨vs, us, rfl, hus, hc4⟩
    have hu : 0 < us := by rw [hus.out]; exact HU.out
    clear hus HU
    have hr4 := ho3.rd.chg hc4 (by simp)
    have he4 := he3.chg hc4 (by simp)
    have hc4' := hc3'.trans hc4
    go_wp2_with fail
    refine (ref06_good w4 ao cap L e4 hr4 (by omega)).mono ?_
    rintro e w5 ⟨rfl, hc5⟩
    rw [e2]
    have hr5 := hr4.chg hc5 (by simp)
    have he5 := he4.chg hc5 (by simp)
    have hc5' := hc4'.trans hc5
    have hsub : (b.length : Int) - (r.length : Int) = ((putB L).length : Int) := by omega
    have hl1 : L.length ≤ 1000 := by omega
    generalize hP : putB L = P at *
    have HP := Lib.hid hP
    have HTK := Lib.hid htk
    clear hP htk
    have hmx : (L.length : Int) ≤ max most 0 := HH.out
    rcases Int.lt_or_le most 0 with hneg | hpos
    · obtain rfl : L = [] := List.eq_nil_of_length_eq_zero (by omega)
      clear hmx HM HH HG
      go_wp2_with fail
      refine (ref06_bytes_e w5 ao cap [] 0 rfl P HP.out e4 hr5 hl1).mono ?_
      rintro e w6 ⟨rfl, hc6⟩
      have he6 := he5.chg hc6 (by simp)
      have hc6' := hc5'.trans hc6
      go_wp2_with fail
      refine (eye_left w6 w1.heap.size _ he6).mono ?_
      rintro e w7 ⟨rfl, rfl⟩
      simp only [Option.getD_some]
      go_wp2
      go_ret
      exact ⟨by simp [HTK.out], hc6'⟩
    · have hdm : (L.length : Int) ≤ most := by omega
      clear hmx HM HH HG
      go_wp2_with fail
      refine (ref06_bytes_e w5 ao cap L L.length rfl P HP.out e4 hr5 hl1).mono ?_
      rintro e w6 ⟨rfl, hc6⟩
      have he6 := he5.chg hc6 (by simp)
      have hc6' := hc5'.trans hc6
      go_wp2_with fail
      refine (eye_left w6 w1.heap.size _ he6).mono ?_
      rintro e w7 ⟨rfl, rfl⟩
      simp only [Option.getD_some]
      go_wp2
      go_ret
      exact ⟨by simp [HTK.out], hc6'⟩
end Go.Proofs.Ytgpnnfgaphcklaa
