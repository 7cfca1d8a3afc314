/-
  The walks of tuples.Total and tuples.Good. Conditions: the form's own reach.
-/
import Derived.Test.YtkcldhimjnehdaaTupBase
import Derived.Test.YtkcldhimjnehdaaWidePlus
namespace Go.Proofs.Ytkcldhimjnehdaa
open Go.RowKit

def stps (l : List Tp) : List Nat := l.map Tp.st
set_option maxRecDepth 100000 in
set_option maxHeartbeats 1000000 in
theorem tup_total (w : World) (ao : Option Addr) (cap : Nat) (l : List Tp) (hok : ∀ p ∈ l, p.st < 18446744073709551616) (hr : Rd w 3 (.slice ao l.length cap) l.length (tpCells l)) (hl : l.length ≤ 140737488351232) :
    Calls Try.prog 11 #[.slice ao l.length cap] w fun e w' => e = .returned (plusV (stps l)) ∧ Chg [] w w' := by
  go_enter Try.func11, Try.ntmps11
  go_wp2
  have hcl : (stps l).length = l.length := by simp [stps]
  go_loopw [4, 10] (fun n i wx => ∃ k : Nat, k ≤ l.length ∧ i = .int .i64 (k : Nat) ∧ n = .int .u64 (sumTo (stps l) k : Nat) ∧ sumTo (stps l) k ≤ 9223372036854775807 ∧ Chg [] w wx) (fun _ i _ => l.length - (intOf i).toNat)
  case atStart => exact ⟨0, Nat.zero_le _, rfl, rfl, by simp [sumTo], Chg.refl _ _⟩
  case round =>
    obtain ⟨k, hk, rfl, rfl, hs, hch⟩ := hrel
    by_cases hlt : k < l.length
    · have hr1 := hr.chg hch (by simp)
      obtain ⟨b, o, rfl, hc⟩ := hr1.addr (by omega)
      obtain ⟨c0, c1, c2⟩ := tp_at hc hlt
      have hok1 := hok l[k] (List.getElem_mem _)
      have hsucc := sumTo_succ (stps l) k (by omega)
      rw [show (stps l)[k]'(by omega) = l[k].st from by simp [stps]] at hsucc
      have hs9 : sumTo (stps l) k < 18446744073709551616 := by omega
      by_cases hbig : 9223372036854775807 < sumTo (stps l) k + l[k].st
      · have HB := Lib.hid (plusV_big (l := stps l) (k + 1) (by rw [hsucc]; exact hbig))
        have hp : plusV [sumTo (stps l) k, l[k].st] = .tuple #[.int .u64 0, .bool false] := if_neg (by simp; omega)
        generalize l[k] = p at *
        generalize sumTo (stps l) k = s at *
        clear hsucc hc hok hr hr1 hcl
        go_wp2_with fail
        refine (wide_plus2 (wr.alloc (.cells #[.int .i64 p.x, .int .u64 p.st, .int .u64 p.sl] 28)) s p.st hs9 hok1 (wr.heap.size + 1) (by simp)).mono ?_
        rintro e w' ⟨rfl, rfl⟩
        rw [hp]
        go_wp2
        go_ret2
        rw [HB.out]
        exact ⟨rfl, (hch.alloc _).alloc _⟩
      · have HS := Lib.hid hsucc
        have hs2 : sumTo (stps l) (k + 1) ≤ 9223372036854775807 := by omega
        have HS2 := Lib.hid hs2
        have hp : plusV [sumTo (stps l) k, l[k].st] = .tuple #[.int .u64 (sumTo (stps l) (k + 1) : Nat), .bool true] := by
          rw [plusV, if_pos (by simp; omega), hsucc]; simp
        generalize l[k] = p at *
        generalize hs2e : sumTo (stps l) (k + 1) = s2 at *
        have HE := Lib.hid hs2e
        clear hs2e
        generalize sumTo (stps l) k = s at *
        clear hsucc hc hok hs2 hr hr1 hcl
        go_wp2_with fail
        refine (wide_plus2 (wr.alloc (.cells #[.int .i64 p.x, .int .u64 p.st, .int .u64 p.sl] 28)) s p.st hs9 hok1 (wr.heap.size + 1) (by simp)).mono ?_
        rintro e w' ⟨rfl, rfl⟩
        rw [hp]
        go_wp2
        exact ⟨⟨k + 1, by omega, by go_num, by rw [HE.out], by rw [HE.out]; exact HS2.out, (hch.alloc _).alloc _⟩, by simp [intOf]; omega⟩
    · obtain rfl : k = l.length := by omega
      have HG := Lib.hid (plusV_all (l := stps l) (by rw [hcl]; exact hs))
      rw [hcl] at HG
      clear hs hcl
      generalize sumTo (stps l) l.length = s at *
      go_wp2
      go_ret2
      rw [HG.out]
      exact ⟨rfl, hch⟩
end Go.Proofs.Ytkcldhimjnehdaa
