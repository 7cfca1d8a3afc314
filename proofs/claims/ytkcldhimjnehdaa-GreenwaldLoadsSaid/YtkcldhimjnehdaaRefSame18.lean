/-
  The walk of the reference's Same (layer 18). Conditions: the form's own reach.
-/
import Derived.Test.YtkcldhimjnehdaaTupBase
import Derived.Test.YtkcldhimjnehdaaSpBase
namespace Go.Proofs.Ytkcldhimjnehdaa
open Go.RowKit

set_option maxRecDepth 100000 in
set_option maxHeartbeats 1000000 in
theorem ref18_same (w : World) (ao : Option Addr) (cap : Nat) (bo : Option Addr) (cbp : Nat) (l : List Tp) (n : Nat) (hn : n = l.length) (ha : Rd w 3 (.slice ao n cap) n (tpCells l)) (hb : Rd w 3 (.slice bo n cbp) n (tpCells l)) (hl : n ≤ 140737488351232) :
    Calls Try.prog 58 #[.slice ao n cap, .slice bo n cbp] w fun e w' => e = .returned (.bool true) ∧ Chg [] w w' := by
  have HN := Lib.hid hn
  clear hn
  go_enter Try.func58, Try.ntmps58
  go_wp2
  go_loopw [13] (fun i wx => ∃ k : Nat, k ≤ n ∧ i = .int .i64 (k : Nat) ∧ Chg [] w wx) (fun i _ => n - (intOf i).toNat)
  case atStart => exact ⟨0, Nat.zero_le _, rfl, Chg.refl _ _⟩
  case round =>
    obtain ⟨k, hk, rfl, hch⟩ := hrel
    by_cases hlt : k < n
    · have hkl : k < l.length := by have := HN.out; omega
      obtain ⟨b, o, rfl, hc⟩ := (ha.chg hch (by simp)).addr (by omega)
      obtain ⟨c0, c1, c2⟩ := tp_at (l := l) (fun j hj => hc j (by rw [← HN.out] at hj; exact hj)) hkl
      obtain ⟨b', o', rfl, hc'⟩ := (hb.chg hch (by simp)).addr (by omega)
      obtain ⟨d0, d1, d2⟩ := tp_at (l := l) (fun j hj => hc' j (by rw [← HN.out] at hj; exact hj)) hkl
      have hk0 : (0 : Int) ≤ (k : Int) := by omega
      have hkl2 : (k : Int) < (n : Int) := by omega
      generalize l[k] = p at *
      clear hc hc' ha hb hkl
      go_wp2
      go_quiet (fail)
      go_wp2
      exact ⟨⟨k + 1, by omega, by go_num, hch.drewN _⟩, by simp [intOf]; omega⟩
    · obtain rfl : k = n := by omega
      go_wp2
      go_ret
      exact ⟨rfl, hch⟩
end Go.Proofs.Ytkcldhimjnehdaa
