/-
  The walk of the law CoinsThrown. Conditions: the form's own reach.
-/
import Derived.Test.YtkggaojfeobmpaaCoinsHalve
namespace Go.Proofs.Ytkggaojfeobmpaa
open Go.RowKit

set_option maxRecDepth 100000 in
set_option maxHeartbeats 1000000 in
theorem law_CoinsThrown (w : World) (word : Nat) (hw : word < 18446744073709551616) (n : Int) (_h0 : -9223372036854775808 ≤ n) (_h1 : n < 9223372036854775808) (skip : Int) (_h2 : -9223372036854775808 ≤ skip) (_h3 : skip < 9223372036854775808) :
    Calls Try.prog 3 #[.int .u64 word, .int .i64 n, .int .i64 skip] w fun e w' => e = .returned (.bool true) ∧ Chg [] w w' := by
  clear _h0 _h1 _h2 _h3
  go_enter Try.func3, Try.ntmps3
  go_wp2_with fail
  refine (law20_alive w).mono ?_
  rintro e w1 ⟨rfl, hc1⟩
  by_cases hn0 : n < 0
  · have hd : decide (n < 0) = true := decide_eq_true hn0
    go_wp2
    go_ret
    exact ⟨rfl, hc1⟩
  have hd : decide (n < 0) = false := decide_eq_false hn0
  obtain ⟨n, rfl⟩ := Int.eq_ofNat_of_zero_le (show 0 ≤ n by omega)
  clear hn0 hd
  by_cases hn3 : 300 < n
  · have hd : decide ((300 : Int) < (n : Int)) = true := decide_eq_true (by omega)
    go_wp2
    go_ret
    exact ⟨rfl, hc1⟩
  have hd3 : decide ((300 : Int) < (n : Int)) = false := decide_eq_false (by omega)
  by_cases hm3 : 1099511627776 < skip
  · have hd : decide ((1099511627776 : Int) < skip) = true := decide_eq_true hm3
    go_wp2
    go_ret
    exact ⟨rfl, hc1⟩
  have hdm3 : decide ((1099511627776 : Int) < skip) = false := decide_eq_false hm3
  have hn300 : n ≤ 300 := by omega
  have HM3 := Lib.hid (show skip ≤ 1099511627776 by omega)
  clear hn3 hm3
  go_wp2_with fail
  refine (coins_new w1 word).mono ?_
  rintro e w2 ⟨rfl, ha2, hc2⟩
  have hs1 := hc1.size
  have hc12 := hc1.trans hc2
  clear hc2 hc1 hd3 hdm3
  go_wp2
  go_loopw [8] (fun i wx => ∃ k : Nat, k ≤ n ∧ i = .int .i64 (k : Nat) ∧ Tape wx w1.heap.size word k ∧ Chg [] w wx) (fun i _ => n - (intOf i).toNat)
  case atStart => exact ⟨0, Nat.zero_le _, rfl, ha2, hc12⟩
  case round =>
    obtain ⟨k, hk, rfl, ha, hch⟩ := hrel
    by_cases hlt : k < n
    · go_wp2_with fail
      refine (coins_used wr w1.heap.size word k ha).mono ?_
      rintro e w5 ⟨rfl, rfl⟩
      go_wp2_with fail
      refine (coins_next wr w1.heap.size word k hw (by omega) ha).mono ?_
      rintro e w5 ⟨rfl, ha5, hc5⟩
      have hch5 := hch.trans' hc5 (by simp; omega)
      go_wp2_with fail
      refine (ref_coin w5 word k hw).mono ?_
      rintro e w6 ⟨rfl, rfl⟩
      generalize coinB word k = q at *
      clear ha hc5 hch
      cases q
      · go_wp2
        exact ⟨⟨k + 1, by omega, by go_num, ha5, hch5⟩, by simp [intOf]; omega⟩
      · go_wp2
        exact ⟨⟨k + 1, by omega, by go_num, ha5, hch5⟩, by simp [intOf]; omega⟩
    · obtain rfl : k = n := by omega
      by_cases hs0 : skip < 0
      · have hge : decide (0 ≤ skip) = false := decide_eq_false (by omega)
        go_wp2_with fail
        refine (coins_skip_neg wr w1.heap.size word k skip hs0 ha).mono ?_
        rintro e w5 ⟨rfl, rfl⟩
        clear hs0
        go_wp2_with fail
        refine (coins_next_nil wr).mono ?_
        rintro e w5 ⟨rfl, rfl⟩
        go_wp2_with fail
        refine (coins_used_nil wr).mono ?_
        rintro e w5 ⟨rfl, rfl⟩
        go_wp2_with fail
        refine (coins_word_nil wr).mono ?_
        rintro e w5 ⟨rfl, rfl⟩
        go_wp2_with fail
        refine (coins_skip_nil wr 1).mono ?_
        rintro e w5 ⟨rfl, rfl⟩
        go_wp2_with fail
        refine (coins_word wr w1.heap.size word k ha).mono ?_
        rintro e w5 ⟨rfl, rfl⟩
        go_wp2_with fail
        refine (coins_used wr w1.heap.size word k ha).mono ?_
        rintro e w5 ⟨rfl, rfl⟩
        go_wp2
        go_ret
        exact ⟨by simp, hch⟩
      · have hge : decide (0 ≤ skip) = true := decide_eq_true (by omega)
        obtain ⟨m, rfl⟩ := Int.eq_ofNat_of_zero_le (show 0 ≤ skip by omega)
        have hm := HM3.out
        clear hs0 HM3
        go_wp2_with fail
        refine (coins_skip wr w1.heap.size word k m ha).mono ?_
        rintro e w5 ⟨rfl, ha5, hc5⟩
        have hch5 := hch.trans' hc5 (by simp; omega)
        clear ha hc5 hch
        go_wp2_with fail
        refine (coins_next_nil w5).mono ?_
        rintro e w6 ⟨rfl, rfl⟩
        go_wp2_with fail
        refine (coins_used_nil w5).mono ?_
        rintro e w6 ⟨rfl, rfl⟩
        go_wp2_with fail
        refine (coins_word_nil w5).mono ?_
        rintro e w6 ⟨rfl, rfl⟩
        go_wp2_with fail
        refine (coins_skip_nil w5 1).mono ?_
        rintro e w6 ⟨rfl, rfl⟩
        go_wp2_with fail
        refine (coins_word w5 w1.heap.size word m ha5).mono ?_
        rintro e w6 ⟨rfl, rfl⟩
        go_wp2_with fail
        refine (coins_used w5 w1.heap.size word m ha5).mono ?_
        rintro e w6 ⟨rfl, rfl⟩
        go_wp2_with fail
        refine (coins_next w5 w1.heap.size word m hw (by omega) ha5).mono ?_
        rintro e w7 ⟨rfl, ha7, hc7⟩
        have hch7 := hch5.trans' hc7 (by simp; omega)
        go_wp2_with fail
        refine (ref_coin w7 word m hw).mono ?_
        rintro e w8 ⟨rfl, rfl⟩
        generalize coinB word m = q at *
        clear ha5 hc7 hch5
        cases q
        · go_wp2_with fail
          refine (coins_used w7 w1.heap.size word (m + 1) ha7).mono ?_
          rintro e w8 ⟨rfl, rfl⟩
          go_wp2
          go_ret
          exact ⟨by simp, hch7⟩
        · go_wp2_with fail
          refine (coins_used w7 w1.heap.size word (m + 1) ha7).mono ?_
          rintro e w8 ⟨rfl, rfl⟩
          go_wp2
          go_ret
          exact ⟨by simp, hch7⟩
end Go.Proofs.Ytkggaojfeobmpaa
