/-
  The walk of the law QuillSmall. Conditions: the form's own reach.
-/
import Derived.Test.YtgpnnfgaphcklaaQuillNumbersW
namespace Go.Proofs.Ytgpnnfgaphcklaa
open Go.RowKit

set_option maxRecDepth 100000 in
set_option maxHeartbeats 1000000 in
theorem law_QuillSmall (w : World) (n : Nat) (hn : n < 18446744073709551616) (most : Int) (hm0 : -9223372036854775808 ≤ most) (hm1 : most < 9223372036854775808) (s : List UInt8) (_hs : s.length ≤ 140737488351232) :
    Calls Try.prog 7 #[.int .u64 n, .int .i64 most, .string ⟨s.toArray⟩] w fun e w' => e = .returned (.bool true) ∧ Chg [] w w' := by
  have hlen := natB_len10 (n := n) (by omega)
  go_enter Try.func7, Try.ntmps7
  go_wp2_with fail
  refine (law_alive w).mono ?_
  rintro e w1 ⟨rfl, hc1⟩
  by_cases h100 : 100 < s.length
  · go_wp2
    go_ret
    exact ⟨rfl, hc1⟩
  have HQ := Lib.hid (new_quill w1)
  go_wp2_with fail
  refine (quill_nat1 _ w1.heap.size [w1.heap.size] [] n hn HQ.out _ (by simp) (by simp)).mono ?_
  rintro e w2 ⟨rfl, F2, hq2, hm2⟩
  have hc2 := hm2.chg_own (hc1.alloc _) (by simp; exact hc1.size)
  have hF2 := hm2.own (hc1.alloc _) (by simp; exact hc1.size)
  have HQ2 := Lib.hid hq2
  clear hm2 HQ hq2
  go_wp2_with fail
  refine (quill_raw w2 w1.heap.size F2 _ s HQ2.out (by simp; omega)).mono ?_
  rintro e w3 ⟨rfl, F3, hq3, hm3⟩
  have hc3 := hm3.chg_own hc2 hF2
  have HQ3 := Lib.hid hq3
  clear hm3 HQ2 hq3 hF2 hc2
  go_wp2_with fail
  refine (quill_text w3 w1.heap.size F3 _ HQ3.out).mono ?_
  rintro e w4 ⟨rfl, rfl⟩
  go_wp2_with fail
  refine (eye_on w3 _).mono ?_
  rintro e w4 ⟨rfl, he4, hc4⟩
  have hs4 := hc3.size
  have hc4 := hc3.trans hc4
  obtain ⟨mt, hmt⟩ : ∃ mt, mt = most.toNat := ⟨_, rfl⟩
  have e1 := eNat_natB (n := n) (most := most.toNat) (by omega) s
  rw [← hmt] at e1
  have E1 := Lib.hid e1
  have HM := Lib.hid hmt
  clear e1 hmt
  go_wp2_with fail
  refine (eye_small w4 w3.heap.size _ most hm1 he4 (by intro l h; cases h; rw [List.length_append]; omega)).mono ?_
  rintro e w5 ⟨rfl, he5, hc5⟩
  have hc5 := hc4.trans' hc5 (by simp; omega)
  rw [← HM.out, E1.out] at he5 ⊢
  have hmt := HM.out
  clear HM E1
  by_cases hmo : most < 0
  · by_cases h0 : n = 0
    · subst h0
      rw [if_pos (by omega)] at he5 ⊢
      clear hmt
      go_wp2_with fail
      refine (eye_bad w5 w3.heap.size _ he5).mono ?_
      rintro e w6 ⟨rfl, rfl⟩
      go_wp2_with fail
      refine (eye_left w5 w3.heap.size _ he5).mono ?_
      rintro e w6 ⟨rfl, rfl⟩
      go_wp2
      go_ret
      exact ⟨by simp, hc5⟩
    · have hgt : 0 < n := by omega
      rw [if_neg (by omega)] at he5 ⊢
      clear hmt
      go_wp2_with fail
      refine (eye_bad w5 w3.heap.size none he5).mono ?_
      rintro e w6 ⟨rfl, rfl⟩
      go_wp2_with fail
      refine (eye_left w5 w3.heap.size none he5).mono ?_
      rintro e w6 ⟨rfl, rfl⟩
      go_wp2_with fail
      refine (eye_raw w5 w3.heap.size none 0 he5 (by simp)).mono ?_
      rintro e w6 ⟨rfl, he6, hc6⟩
      have hc6 := hc5.trans' hc6 (by simp; omega)
      rw [show eRaw 0 none = ([], none) from rfl] at he6 ⊢
      go_wp2_with fail
      refine (eye_over w6 w3.heap.size none he6).mono ?_
      rintro e w7 ⟨rfl, rfl⟩
      go_wp2
      go_ret
      exact ⟨rfl, hc6⟩
  · obtain ⟨m, rfl⟩ := Int.eq_ofNat_of_zero_le (show 0 ≤ most by omega)
    by_cases hgt : m < n
    · have hgt' := hgt
      rw [if_neg (by omega)] at he5 ⊢
      clear hmt
      go_wp2_with fail
      refine (eye_bad w5 w3.heap.size none he5).mono ?_
      rintro e w6 ⟨rfl, rfl⟩
      go_wp2_with fail
      refine (eye_left w5 w3.heap.size none he5).mono ?_
      rintro e w6 ⟨rfl, rfl⟩
      go_wp2_with fail
      refine (eye_raw w5 w3.heap.size none 0 he5 (by simp)).mono ?_
      rintro e w6 ⟨rfl, he6, hc6⟩
      have hc6 := hc5.trans' hc6 (by simp; omega)
      rw [show eRaw 0 none = ([], none) from rfl] at he6 ⊢
      go_wp2_with fail
      refine (eye_over w6 w3.heap.size none he6).mono ?_
      rintro e w7 ⟨rfl, rfl⟩
      go_wp2
      go_ret
      exact ⟨rfl, hc6⟩
    · have hn63 : (n : Int) < 9223372036854775808 := by omega
      rw [if_pos (by omega)] at he5 ⊢
      clear hmt
      go_wp2_with fail
      refine (eye_bad w5 w3.heap.size _ he5).mono ?_
      rintro e w6 ⟨rfl, rfl⟩
      go_wp2_with fail
      refine (eye_left w5 w3.heap.size _ he5).mono ?_
      rintro e w6 ⟨rfl, rfl⟩
      go_wp2
      go_ret
      exact ⟨by simp, hc5⟩
end Go.Proofs.Ytgpnnfgaphcklaa
