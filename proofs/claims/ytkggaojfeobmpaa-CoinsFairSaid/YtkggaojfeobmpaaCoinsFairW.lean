/-
  The walk of the law CoinsFair. Conditions: the form's own reach.
-/
import Derived.Test.YtkggaojfeobmpaaCoinsSort
namespace Go.Proofs.Ytkggaojfeobmpaa
open Go.RowKit

set_option maxRecDepth 100000 in
set_option maxHeartbeats 1000000 in
theorem law_CoinsFair (w : World) (ao : Option Addr) (cap : Nat) (l : List Int) (hr : Rd w 1 (.slice ao l.length cap) l.length (ints l)) (hl : l.length ≤ 140737488351232) (x : Int) (_h0 : -9223372036854775808 ≤ x) (_h1 : x < 9223372036854775808) :
    Calls Try.prog 5 #[.slice ao l.length cap, .int .i64 x] w fun e w' => e = .returned (.bool true) ∧ Chg [] w w' := by
  clear _h0 _h1
  go_enter Try.func5, Try.ntmps5
  go_wp2_with fail
  refine (law20_alive w).mono ?_
  rintro e w1 ⟨rfl, hc1⟩
  by_cases h100 : 100 < l.length
  · have hd : decide ((100 : Int) < (l.length : Int)) = true := decide_eq_true (by omega)
    go_wp2
    go_ret
    exact ⟨rfl, hc1⟩
  have hd : decide ((100 : Int) < (l.length : Int)) = false := decide_eq_false (by omega)
  by_cases hodd : l.length % 2 = 1
  · have hob : ((l.length : Int) % 2 != 0) = true := by rw [bne_iff_ne]; omega
    clear hodd
    go_wp2
    go_ret
    exact ⟨rfl, hc1⟩
  have hob : ((l.length : Int) % 2 != 0) = false := by
    rw [← Bool.not_eq_true, bne_iff_ne]
    omega
  have hl1 : l.length ≤ 100 := by omega
  have HR := Lib.hid (hr.chg hc1 (by simp))
  clear hodd h100 hr
  obtain ⟨q1, q2, q3⟩ := sort_ok l
  have H1 := Lib.hid q1
  have H2 := Lib.hid (q2 x)
  have H3 := Lib.hid q3
  have HH := Lib.hid (halves q1 x)
  have HL0 := Lib.hid (halveL_len (sortL l) false)
  have HL1 := Lib.hid (halveL_len (sortL l) true)
  have HU0 := Lib.hid (halveL_up q1 false)
  have HU1 := Lib.hid (halveL_up q1 true)
  have HN := Lib.hid (show upL l x ≤ l.length from List.countP_le_length)
  clear q1 q2 q3
  go_wp2_with fail
  refine (ref20_sorted w1 ao cap l HR.out (by omega)).mono ?_
  rintro e w2 ⟨a3, c3, rfl, ho3, hc3, hf3⟩
  have hr2 := HR.out.chg hc3 (by simp)
  have hc3 := hc1.trans hc3
  generalize sortL l = S at *
  go_wp2_with fail
  refine (coins_up w2 a3 c3 S x H1.out ho3.rd (by have := H3.out; omega)).mono ?_
  rintro e w3 ⟨rfl, rfl⟩
  go_wp2_with fail
  refine (coins_halve w2 a3 c3 S false ho3.rd (by have := H3.out; omega)).mono ?_
  rintro e w3 ⟨a4, c4, rfl, ho4, hc4, _⟩
  have ho34 := ho3.chg hc4 (by simp)
  have hc4 := hc3.trans hc4
  have hr4 := hr2.chg (by assumption) (by simp)
  go_wp2_with fail
  refine (coins_up w3 a4 c4 (halveL S false) x HU0.out ho4.rd (by have := HL0.out; have := H3.out; omega)).mono ?_
  rintro e w4 ⟨rfl, rfl⟩
  go_wp2_with fail
  refine (coins_halve w3 a3 c3 S true ho34.rd (by have := H3.out; omega)).mono ?_
  rintro e w4 ⟨a5, c5, rfl, ho5, hc5, _⟩
  have hr5 := hr4.chg hc5 (by simp)
  have hc5 := hc4.trans hc5
  go_wp2_with fail
  refine (coins_up w4 a5 c5 (halveL S true) x HU1.out ho5.rd (by have := HL1.out; have := H3.out; omega)).mono ?_
  rintro e w5 ⟨rfl, rfl⟩
  go_wp2_with fail
  refine (ref20_up w4 ao cap l x hr5 (by omega)).mono ?_
  rintro e w5 ⟨rfl, hc6⟩
  have hc6 := hc5.trans hc6
  obtain ⟨hA, hB⟩ := HH.out
  rw [H2.out] at hA hB ⊢
  have hN := HN.out
  generalize upL l x = N at *
  generalize upL (halveL S false) x = A at *
  generalize upL (halveL S true) x = B at *
  have b1 : ((A : Int) + (B : Int) == (N : Int)) = true := by rw [beq_iff_eq]; omega
  have b2 : decide ((N : Int) ≤ 2 * (A : Int)) = true := decide_eq_true (by omega)
  have b3 : decide (2 * (A : Int) ≤ (N : Int) + 1) = true := decide_eq_true (by omega)
  have b4 : decide (2 * (B : Int) ≤ (N : Int)) = true := decide_eq_true (by omega)
  have b5 : decide ((N : Int) - 1 ≤ 2 * (B : Int)) = true := decide_eq_true (by omega)
  have hA2 : A ≤ 100 := by omega
  have hB2 : B ≤ 100 := by omega
  clear hA hB
  go_wp2
  go_ret
  exact ⟨rfl, hc6⟩
end Go.Proofs.Ytkggaojfeobmpaa
