/-
  The walk of wide.Plus. Conditions: the form's own reach.
-/
import Derived.Test.YtlcoibhbdgdfcaaGreatDoorProg
import Derived.Test.YtlcoibhbdgdfcaaGreatDoorCoreCoinsB1
namespace Go.Proofs.YtlcoibhbdgdfcaaGreatDoor
open Go.RowKit

def sumTo (l : List Nat) (k : Nat) : Nat := (l.take k).sum
theorem sumTo_succ (l : List Nat) (k : Nat) (h : k < l.length) : sumTo l (k + 1) = sumTo l k + l[k] := by
  rw [sumTo, List.take_add_one, List.getElem?_eq_getElem h, List.sum_append]
  simp only [Option.toList_some, List.sum_cons, List.sum_nil, Nat.add_zero, sumTo]
theorem sumTo_le (l : List Nat) (k : Nat) : sumTo l k ≤ l.sum := by
  have := List.sum_append (l₁ := l.take k) (l₂ := l.drop k)
  rw [List.take_append_drop] at this
  unfold sumTo
  omega
/-- A sum of counts, if it is one. -/
def plusV (l : List Nat) : Value := if l.sum ≤ 9223372036854775807 then .tuple #[.int .u64 (l.sum : Nat), .bool true] else .tuple #[.int .u64 0, .bool false]
theorem plusV_big {l : List Nat} (k : Nat) (h : 9223372036854775807 < sumTo l k) : plusV l = .tuple #[.int .u64 0, .bool false] := by
  have := sumTo_le l k
  exact if_neg (by omega)
theorem plusV_all {l : List Nat} (h : sumTo l l.length ≤ 9223372036854775807) : plusV l = .tuple #[.int .u64 (sumTo l l.length : Nat), .bool true] := by
  rw [sumTo, List.take_length] at *
  exact if_pos h

set_option maxRecDepth 100000 in
set_option maxHeartbeats 1000000 in
theorem wide_plus (w : World) (ao : Option Addr) (cap : Nat) (l : List Nat) (hok : ∀ u ∈ l, u < 18446744073709551616) (hr : Rd w 1 (.slice ao l.length cap) l.length (u64s l)) (hl : l.length ≤ 140737488351232) :
    Calls Tryz.prog 96 #[.slice ao l.length cap] w fun e w' => e = .returned (plusV l) ∧ w = w' := by
  go_enter Tryz.func96, Tryz.ntmps96
  go_wp2
  go_loopw [4, 9] (fun n i wx => ∃ k : Nat, k ≤ l.length ∧ i = .int .i64 (k : Nat) ∧ n = .int .u64 (sumTo l k : Nat) ∧ sumTo l k ≤ 9223372036854775807 ∧ w = wx) (fun _ i _ => l.length - (intOf i).toNat)
  case atStart => exact ⟨0, Nat.zero_le _, rfl, rfl, by simp [sumTo], rfl⟩
  case round =>
    obtain ⟨k, hk, rfl, rfl, hs, hw⟩ := hrel
    subst hw
    by_cases hlt : k < l.length
    · obtain ⟨b, o, rfl, hc⟩ := hr.addr (by omega)
      have c0 : w.cell? ⟨b, o + k, none⟩ = some (.int .u64 (l[k] : Nat)) := by rw [hc k (by omega)]; simp [u64s, hlt]
      have hok1 := hok l[k] (List.getElem_mem _)
      have hsucc := sumTo_succ l k hlt
      by_cases hbig : 9223372036854775807 < sumTo l k + l[k]
      · have HB := Lib.hid (plusV_big (l := l) (k + 1) (by rw [hsucc]; exact hbig))
        generalize l[k] = p at *
        generalize sumTo l k = s at *
        clear hsucc hc hok
        go_wp2
        go_ret2
        rw [HB.out]
        exact ⟨rfl, rfl⟩
      · have HS := Lib.hid hsucc
        have hs2 : sumTo l (k + 1) ≤ 9223372036854775807 := by omega
        have HS2 := Lib.hid hs2
        generalize l[k] = p at *
        generalize sumTo l k = s at *
        clear hsucc hc hok hs2
        go_wp2
        exact ⟨⟨k + 1, by omega, by go_num, by rw [HS.out]; go_num, HS2.out, trivial⟩, by simp [intOf]; omega⟩
    · obtain rfl : k = l.length := by omega
      have HG := Lib.hid (plusV_all hs)
      clear hs
      generalize sumTo l l.length = s at *
      go_wp2
      go_ret2
      rw [HG.out]
      exact ⟨rfl, rfl⟩

theorem wide_plus2 (w : World) (a c : Nat) (ha : a < 18446744073709551616) (hc : c < 18446744073709551616) (b0 : Nat) (hb0 : b0 = w.heap.size) :
    Calls Tryz.prog 96 #[.slice (some ⟨b0, 0, none⟩) 2 2] (w.alloc (.cells #[.int .u64 (a : Nat), .int .u64 (c : Nat)] 25)) fun e w' => e = .returned (plusV [a, c]) ∧ w.alloc (.cells #[.int .u64 (a : Nat), .int .u64 (c : Nat)] 25) = w' := by
  subst hb0
  refine wide_plus _ _ 2 [a, c] (by simp [ha, hc]) ?_ (by simp)
  exact Rd.lit w #[.int .u64 (a : Nat), .int .u64 (c : Nat)] 25 1 2 2 (by simp)

end Go.Proofs.YtlcoibhbdgdfcaaGreatDoor
