/-
  The walk of coins.Halve, and of the layer's alive. Conditions: the form's own reach.
-/
import Derived.Test.YtbaobiniianamaaCoins
import Derived.Test.YtbaobiniianamaaPlainReq
import Derived.Test.YtbaobiniianamaaSteps
namespace Go.Proofs.Ytbaobiniianamaa
open Go.RowKit

theorem halveL_step (l : List Int) (s : Bool) (k : Nat) (h : k < l.length) : halveL (l.take (k + 1)) s = halveL (l.take k) s ++ if decide (k % 2 = 1) == s then [l[k]] else [] := by
  induction l generalizing s k with
  | nil => simp at h
  | cons x l ih =>
    cases k with
    | zero => cases s <;> simp [halveL]
    | succ k =>
      have hk : k < l.length := by simpa using h
      have hpar : decide ((k + 1) % 2 = 1) = !decide (k % 2 = 1) := by
        rw [Bool.eq_iff_iff]
        simp
        omega
      cases s with
      | false =>
        have := ih true k hk
        simp only [List.take_succ_cons, halveL, List.getElem_cons_succ, List.cons_append] at this ⊢
        rw [this, hpar]
        cases decide (k % 2 = 1) <;> simp
      | true =>
        have := ih false k hk
        simp only [List.take_succ_cons, halveL, List.getElem_cons_succ] at this ⊢
        rw [this, hpar]
        cases decide (k % 2 = 1) <;> simp
theorem halveL_len (l : List Int) (s : Bool) : (halveL l s).length ≤ l.length := by
  induction l generalizing s with
  | nil => simp [halveL]
  | cons x l ih =>
    cases s with
    | false => have := ih true; simp [halveL]; omega
    | true => have := ih false; simp [halveL]; omega

set_option maxRecDepth 100000 in
set_option maxHeartbeats 1000000 in
theorem coins_halve (w : World) (ao : Option Addr) (cap : Nat) (l : List Int) (s : Bool) (hr : Rd w 1 (.slice ao l.length cap) l.length (ints l)) (hl : l.length ≤ 1000000) :
    Calls Try.prog 17 #[.slice ao l.length cap, .bool s] w fun e w' => ∃ a3 c3, e = .returned (.slice a3 (halveL l s).length c3) ∧
      Own w' 2 1 (.slice a3 (halveL l s).length c3) (halveL l s).length (ints (halveL l s)) ∧ Chg [] w w' ∧ ∀ b ∈ abl a3, w.heap.size ≤ b := by
  have HR := Lib.hid hr
  clear hr
  go_enter Try.func17, Try.ntmps17
  go_wp2
  go_loopw [5, 10] (fun out j wx => ∃ (k : Nat) (F : List Int) (a3 : Option Addr) (c3 : Nat), k ≤ l.length ∧ j = .int .i64 (k : Nat) ∧ out = .slice a3 F.length c3 ∧ Hid (F = halveL (l.take k) s) ∧ F.length ≤ k ∧
    Own wx 2 1 (.slice a3 F.length c3) F.length (ints F) ∧ Chg [] w wx ∧ ∀ b ∈ abl a3, w.heap.size ≤ b) (fun _ j _ => l.length - (intOf j).toNat)
  case atStart => exact ⟨0, [], none, 0, Nat.zero_le _, rfl, rfl, Lib.hid (by simp [halveL]), Nat.le_refl _, Own.nil _ _ _, Chg.refl _ _, by simp [abl]⟩
  case round =>
    obtain ⟨k, F, a3, c3, hk, rfl, rfl, HF, hFk, ho, hch, hab⟩ := hrel
    by_cases hlt : k < l.length
    · have hr1 := HR.out.chg hch (by simp)
      obtain ⟨b, o, rfl, hcs⟩ := hr1.addr (by omega)
      have c0 := ints_at hcs k hlt
      have HS := Lib.hid (halveL_step l s k hlt)
      have hsz := hch.size
      have hq : ((k : Int) % 2 == 1) = decide (k % 2 = 1) := by rw [Bool.eq_iff_iff, beq_iff_eq, decide_eq_true_eq]; omega
      generalize decide (k % 2 = 1) = q at *
      generalize l[k] = p at *
      clear hcs hr1
      by_cases hqs : (q == s) = true
      · rw [if_pos hqs, ← HF.out] at HS
        have hrd : Rd (wr.alloc (.cells #[.int .i64 p] 2)) 1 (.slice (some ⟨wr.heap.size, 0, none⟩) 1 1) 1 (ints [p]) := Rd.lit1 wr (.int .i64 p) 2 1
        go_wp2_with (at_builtin; go_must (refine wpList_append_src _ rfl (.tmp 20) (.tmp 22) 22 22 rfl 2 _ 1 8 under_ints info_i64 rfl (by decide) (.slice a3 F.length c3) F.length (ints F) rfl (ho.alloc _) (.slice (some ⟨wr.heap.size, 0, none⟩) 1 1) 1 (ints [p]) rfl (Src.of_rd under_ints hrd) (ints_oneCell _) (by unfold maxLen; omega) (by omega) ?_; intro a4 c4 w7 ho7 hg7 hf7))
        refine ⟨⟨k + 1, F ++ [p], a4, c4, by omega, by go_num, by simp, Lib.hid HS.out.symm, by simp; omega, by simpa [ints_append] using ho7, (hch.alloc _).trans' hg7 (fun b hb => .inr (hab b (by simpa using hb))), ?_⟩, by simp [intOf]; omega⟩
        intro b hb
        rcases hf7 b hb with h | h
        · exact hab b (by simpa using h)
        · simp at h; omega
      · rw [if_neg hqs, List.append_nil, ← HF.out] at HS
        have hqf : (q == s) = false := by simpa using hqs
        clear hqs
        go_wp2
        exact ⟨⟨k + 1, F, a3, c3, by omega, by go_num, rfl, Lib.hid HS.out.symm, by omega, ho, hch, hab⟩, by simp [intOf]; omega⟩
    · obtain rfl : k = l.length := by omega
      rw [List.take_length] at HF
      go_wp2
      go_ret
      rw [← HF.out]
      exact ⟨a3, c3, rfl, ho, hch, hab⟩

set_option maxRecDepth 100000 in
set_option maxHeartbeats 1000000 in
theorem law20_alive (w : World) : Calls Try.prog 13 #[] w fun e w' => e = .returned (.bool true) ∧ Chg [] w w' := by
  have HC0 := Lib.hid (show coinB 2 0 = false from by decide)
  have HC1 := Lib.hid (show coinB 2 1 = true from by decide)
  go_enter Try.func13, Try.ntmps13
  go_wp2_with fail
  refine (coins_new w 2).mono ?_
  rintro e w1 ⟨rfl, ht1, hc1⟩
  go_wp2_with fail
  refine (coins_next w1 w.heap.size 2 0 (by omega) (by omega) ht1).mono ?_
  rintro e w2 ⟨rfl, ht2, hc2⟩
  have hc2 := hc1.trans' hc2 (by simp)
  rw [HC0.out]
  go_wp2_with fail
  refine (coins_next w2 w.heap.size 2 1 (by omega) (by omega) ht2).mono ?_
  rintro e w3 ⟨rfl, ht3, hc3⟩
  have hc3 := hc2.trans' hc3 (by simp)
  rw [HC1.out]
  go_wp2_with fail
  refine (coins_used w3 w.heap.size 2 2 ht3).mono ?_
  rintro e w4 ⟨rfl, rfl⟩
  go_wp2_with fail
  refine (coins_word w3 w.heap.size 2 2 ht3).mono ?_
  rintro e w4 ⟨rfl, rfl⟩
  have hrd : Rd (w3.alloc (.cells #[.int .i64 1, .int .i64 2, .int .i64 3, .int .i64 4] 2)) 1 (.slice (some ⟨w3.heap.size, 0, none⟩) 4 4) 4 (ints [1, 2, 3, 4]) := Rd.lit w3 #[.int .i64 1, .int .i64 2, .int .i64 3, .int .i64 4] 2 1 4 4 rfl
  go_wp2_with fail
  refine (coins_halve _ (some ⟨w3.heap.size, 0, none⟩) 4 [1, 2, 3, 4] true hrd (by simp)).mono ?_
  rintro e w5 ⟨a3, c3, rfl, _, hc5, _⟩
  rw [show (halveL [1, 2, 3, 4] true).length = 2 from rfl]
  go_wp2
  go_ret
  exact ⟨rfl, (hc3.alloc _).trans hc5⟩
end Go.Proofs.Ytbaobiniianamaa
