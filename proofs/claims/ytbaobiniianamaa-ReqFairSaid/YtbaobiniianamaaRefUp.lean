/-
  The walk of the reference's Up. Conditions: the form's own reach.
-/
import Derived.Test.YtbaobiniianamaaReqRank
namespace Go.Proofs.Ytbaobiniianamaa
open Go.RowKit

set_option maxRecDepth 100000 in
theorem ref20_up (w : World) (ao : Option Addr) (cap : Nat) (l : List Int) (x : Int) (hr : Rd w 1 (.slice ao l.length cap) l.length (ints l)) (hl : l.length ≤ 100000) :
    Calls Try.prog 61 #[.slice ao l.length cap, .int .i64 x] w fun e w' => e = .returned (.int .i64 (upL l x : Nat)) ∧ Chg [] w w' := by
  go_enter Try.func61, Try.ntmps61
  go_wp2
  go_loopw [5, 10] (fun n j wx => ∃ k : Nat, k ≤ l.length ∧ j = .int .i64 (k : Nat) ∧ n = .int .i64 (upL (l.take k) x : Nat) ∧ Chg [] w wx) (fun _ j _ => l.length - (intOf j).toNat)
  case atStart => exact ⟨0, Nat.zero_le _, rfl, rfl, Chg.refl _ _⟩
  case round =>
    obtain ⟨k, hk, rfl, rfl, hch⟩ := hrel
    by_cases hlt : k < l.length
    · have hr1 := hr.chg hch (by simp)
      obtain ⟨b, o, rfl, hc⟩ := hr1.addr (by omega)
      have c0 := ints_at hc k hlt
      have HS := Lib.hid (upL_step x l k hlt)
      have hnk : upL (l.take k) x ≤ k := by
        have := List.countP_le_length (p := fun y : Int => decide (y ≤ x)) (l := l.take k)
        rw [List.length_take] at this
        rw [upL]
        omega
      generalize l[k] = p at *
      generalize upL (l.take k) x = n at *
      clear hc hr1
      by_cases hi : p ≤ x
      · rw [if_pos hi] at HS
        have hib : decide (p ≤ x) = true := decide_eq_true hi
        clear hi
        go_wp2
        exact ⟨⟨k + 1, by omega, by go_num, by rw [HS.out]; go_num, hch⟩, by simp [intOf]; omega⟩
      · rw [if_neg hi] at HS
        have hib : decide (p ≤ x) = false := decide_eq_false hi
        clear hi
        go_wp2
        exact ⟨⟨k + 1, by omega, by go_num, by rw [HS.out]; rfl, hch⟩, by simp [intOf]; omega⟩
    · obtain rfl : k = l.length := by omega
      go_wp2
      go_ret
      exact ⟨by rw [List.take_length]; rfl, hch⟩
end Go.Proofs.Ytbaobiniianamaa
