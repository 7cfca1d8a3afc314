/-
  The walks of the laws CoinsThrown and CoinsAgain. Conditions: the form's own reach.
-/
import Derived.Test.YtkggaojfeobmpaaCoinsHalve
namespace Go.Proofs.Ytkggaojfeobmpaa
open Go.RowKit

set_option maxRecDepth 100000 in
set_option maxHeartbeats 1000000 in
theorem law_CoinsAgain (w : World) (word : Nat) (hw : word < 18446744073709551616) (n : Int) (_h0 : -9223372036854775808 ≤ n) (_h1 : n < 9223372036854775808) (more : Int) (_h2 : -9223372036854775808 ≤ more) (_h3 : more < 9223372036854775808) :
    Calls Try.prog 4 #[.int .u64 word, .int .i64 n, .int .i64 more] w fun e w' => e = .returned (.bool true) ∧ Chg [] w w' := by
  clear _h0 _h1 _h2 _h3
  go_enter Try.func4, Try.ntmps4
  go_wp2_with fail
  refine (law20_alive w).mono ?_
  rintro e w1 ⟨rfl, hc1⟩
  by_cases hn0 : n < 0
  · have hd : decide (n < 0) = true := decide_eq_true hn0
    go_wp2
    go_ret
    exact ⟨rfl, hc1⟩
  have hd : decide (n < 0) = false := decide_eq_false hn0
  obtain ⟨n, rfl⟩ := Int.eq_ofNat_of_zero_le (show 0 ≤ n by omega)
  clear hn0 hd
  by_cases hn3 : 300 < n
  · have hd : decide ((300 : Int) < (n : Int)) = true := decide_eq_true (by omega)
    go_wp2
    go_ret
    exact ⟨rfl, hc1⟩
  have hd3 : decide ((300 : Int) < (n : Int)) = false := decide_eq_false (by omega)
  by_cases hm0 : more < 0
  · have hd : decide (more < 0) = true := decide_eq_true hm0
    go_wp2
    go_ret
    exact ⟨rfl, hc1⟩
  have hd : decide (more < 0) = false := decide_eq_false hm0
  obtain ⟨m, rfl⟩ := Int.eq_ofNat_of_zero_le (show 0 ≤ more by omega)
  clear hm0 hd
  by_cases hm3 : 300 < m
  · have hd : decide ((300 : Int) < (m : Int)) = true := decide_eq_true (by omega)
    go_wp2
    go_ret
    exact ⟨rfl, hc1⟩
  have hdm3 : decide ((300 : Int) < (m : Int)) = false := decide_eq_false (by omega)
  have hn300 : n ≤ 300 := by omega
  have hm300 : m ≤ 300 := by omega
  clear hn3 hm3
  go_wp2_with fail
  refine (coins_new w1 word).mono ?_
  rintro e w2 ⟨rfl, ha2, hc2⟩
  have hs1 := hc1.size
  have hs2 := ha2.lt
  go_wp2_with fail
  refine (coins_new w2 word).mono ?_
  rintro e w3 ⟨rfl, hb3, hc3⟩
  have ha3 := ha2.chg hc3 (by simp)
  have hc13 := (hc1.trans hc2).trans hc3
  have hs3 := hb3.lt
  clear ha2 hc2 hc3 hc1 hd3 hdm3
  go_wp2
  go_loopw [9] (fun i wx => ∃ k : Nat, k ≤ n ∧ i = .int .i64 (k : Nat) ∧ Tape wx w1.heap.size word k ∧ Tape wx w2.heap.size word 0 ∧ Chg [] w wx) (fun i _ => n - (intOf i).toNat)
  case atStart => exact ⟨0, Nat.zero_le _, rfl, ha3, hb3, hc13⟩
  case round =>
    obtain ⟨k, hk, rfl, ha, hb, hch⟩ := hrel
    by_cases hlt : k < n
    · go_wp2_with fail
      refine (coins_next wr w1.heap.size word k hw (by omega) ha).mono ?_
      rintro e w5 ⟨rfl, ha5, hc5⟩
      generalize coinB word k = q at *
      go_wp2
      exact ⟨⟨k + 1, by omega, by go_num, ha5, hb.chg hc5 (by simp; omega), hch.trans' hc5 (by simp; omega)⟩, by simp [intOf]; omega⟩
    · obtain rfl : k = n := by omega
      go_wp2_with fail
      refine (coins_skip wr w2.heap.size word 0 k hb).mono ?_
      rintro e w5 ⟨rfl, hb5, hc5⟩
      have ha5 := ha.chg hc5 (by simp; omega)
      have hch5 := hch.trans' hc5 (by simp; omega)
      go_wp2_with fail
      refine (coins_used w5 w2.heap.size word k hb5).mono ?_
      rintro e w6 ⟨rfl, rfl⟩
      go_wp2_with fail
      refine (coins_used w5 w1.heap.size word k ha5).mono ?_
      rintro e w6 ⟨rfl, rfl⟩
      clear ha hb hc5 hch ha3 hb3 hc13
      go_wp2
      go_loopw [10] (fun i wx => ∃ j : Nat, j ≤ m ∧ i = .int .i64 (j : Nat) ∧ Tape wx w1.heap.size word (k + j) ∧ Tape wx w2.heap.size word (k + j) ∧ Chg [] w wx) (fun i _ => m - (intOf i).toNat)
      case atStart => exact ⟨0, Nat.zero_le _, rfl, ha5, hb5, hch5⟩
      case round =>
        obtain ⟨j, hj, rfl, ha, hb, hch⟩ := hrel
        by_cases hlt : j < m
        · go_wp2_with fail
          refine (coins_next wr w1.heap.size word (k + j) hw (by omega) ha).mono ?_
          rintro e w7 ⟨rfl, ha7, hc7⟩
          have hb7 := hb.chg hc7 (by simp; omega)
          have hch7 := hch.trans' hc7 (by simp; omega)
          have hne : w1.heap.size ≠ w2.heap.size := by omega
          go_wp2_with fail
          refine (coins_next w7 w2.heap.size word (k + j) hw (by omega) hb7).mono ?_
          rintro e w8 ⟨rfl, hb8, hc8⟩
          have ha8 := ha7.chg hc8 (by simpa using hne)
          have hch8 := hch7.trans' hc8 (by simp; omega)
          generalize coinB word (k + j) = q at *
          clear ha hb ha7 hb7 hc7 hc8 hch hch7
          cases q
          · go_wp2
            exact ⟨⟨j + 1, by omega, by go_num, ha8, hb8, hch8⟩, by simp [intOf]; omega⟩
          · go_wp2
            exact ⟨⟨j + 1, by omega, by go_num, ha8, hb8, hch8⟩, by simp [intOf]; omega⟩
        · obtain rfl : j = m := by omega
          go_wp2_with fail
          refine (coins_used wr w1.heap.size word (k + j) ha).mono ?_
          rintro e w6 ⟨rfl, rfl⟩
          go_wp2_with fail
          refine (coins_used wr w2.heap.size word (k + j) hb).mono ?_
          rintro e w6 ⟨rfl, rfl⟩
          go_wp2
          go_ret
          exact ⟨by simp, hch⟩
end Go.Proofs.Ytkggaojfeobmpaa
