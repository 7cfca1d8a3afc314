/-
  The walk of the reference's Same, of rows that are. Conditions: the form's own reach.
-/
import Derived.Test.YtgnbabkafobeoaaPrBase
namespace Go.Proofs.Ytgnbabkafobeoaa
open Go.RowKit

set_option maxRecDepth 100000 in
set_option maxHeartbeats 1000000 in
theorem ref06_same (w : World) (ao : Option Addr) (cap : Nat) (bo : Option Addr) (cbp : Nat) (l : List Pr) (ha : Rd w 2 (.slice ao l.length cap) l.length (prCells l)) (hb : Rd w 2 (.slice bo l.length cbp) l.length (prCells l)) (hl : l.length ≤ 140737488351232) :
    Calls Try.prog 27 #[.slice ao l.length cap, .slice bo l.length cbp] w fun e w' => e = .returned (.bool true) ∧ Chg [] w w' := by
  go_enter Try.func27, Try.ntmps27
  go_wp2
  go_loopw [13] (fun i wx => ∃ k : Nat, k ≤ l.length ∧ i = .int .i64 (k : Nat) ∧ Chg [] w wx) (fun i _ => l.length - (intOf i).toNat)
  case atStart => exact ⟨0, Nat.zero_le _, rfl, Chg.refl _ _⟩
  case round =>
    obtain ⟨k, hk, rfl, hch⟩ := hrel
    by_cases hlt : k < l.length
    · obtain ⟨b, o, rfl, hc⟩ := (ha.chg hch (by simp)).addr (by omega)
      obtain ⟨c0, c1⟩ := pr_at hc hlt
      obtain ⟨b', o', rfl, hc'⟩ := (hb.chg hch (by simp)).addr (by omega)
      obtain ⟨d0, d1⟩ := pr_at hc' hlt
      have hk0 : (0 : Int) ≤ (k : Int) := by omega
      have hkl : (k : Int) < (l.length : Int) := by omega
      generalize l[k] = p at *
      clear hc hc' ha hb
      go_wp2
      go_quiet (fail)
      go_wp2
      exact ⟨⟨k + 1, by omega, by go_num, hch.drewN _⟩, by simp [intOf]; omega⟩
    · obtain rfl : k = l.length := by omega
      go_wp2
      go_ret
      exact ⟨rfl, hch⟩
end Go.Proofs.Ytgnbabkafobeoaa
