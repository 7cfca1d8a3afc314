/-
  The walk of the statements' plain (layer 19). Conditions: the form's own reach.
-/
import Derived.Test.YtkcldhimjnehdaaRefTup1
import Derived.Test.YtkcldhimjnehdaaTupShared
namespace Go.Proofs.Ytkcldhimjnehdaa
open Go.RowKit

set_option maxRecDepth 100000 in
set_option maxHeartbeats 1000000 in
theorem law19_plain (w : World) (ao : Option Addr) (cap : Nat) (l : List Tp) (n : Nat) (hn : n = l.length) (hr : Rd w 3 (.slice ao n cap) n (tpCells l)) (hl : n ≤ 100000) :
    Calls Try.prog 59 #[.slice ao n cap] w fun e w' => ∃ a3 c3, e = .returned (.slice a3 n c3) ∧
      Own w' 121 3 (.slice a3 n c3) n (tpCells l) ∧ Chg [] w w' ∧ ∀ b ∈ abl a3, w.heap.size ≤ b := by
  have HR := Lib.hid hr
  have HN := Lib.hid hn
  clear hr hn
  go_enter Try.func59, Try.ntmps59
  go_wp2
  go_loopw [3, 8] (fun out i wx => ∃ (k : Nat) (a3 : Option Addr) (c3 : Nat), k ≤ n ∧ i = .int .i64 (k : Nat) ∧ out = .slice a3 k c3 ∧
    Own wx 121 3 (.slice a3 k c3) k (tpCells (l.take k)) ∧ Chg [] w wx ∧ Hid (∀ b ∈ abl a3, w.heap.size ≤ b)) (fun _ i _ => n - (intOf i).toNat)
  case atStart => exact ⟨0, none, 0, Nat.zero_le _, rfl, rfl, Own.nil _ _ _, Chg.refl _ _, Lib.hid (by simp [abl])⟩
  case round =>
    obtain ⟨k, a3, c3, hk, rfl, rfl, ho, hch, HA⟩ := hrel
    by_cases hlt : k < n
    · have hr1 := HR.out.chg hch (by simp)
      obtain ⟨b, o, rfl, hc⟩ := hr1.addr (by omega)
      have hkl : k < l.length := by have := HN.out; omega
      obtain ⟨c0, c1, c2⟩ := tp_at (l := l) (fun j hj => hc j (by rw [← HN.out] at hj; exact hj)) hkl
      have HSS := Lib.hid (List.take_succ_eq_append_getElem hkl)
      generalize l[k] = p at *
      have HCX := Lib.hid ((hch.alloc (.cells #[.int .i64 p.x, .int .u64 p.st, .int .u64 p.sl] 28)).alloc (.cells #[.int .i64 p.x, .int .u64 p.st, .int .u64 p.sl] 121))
      have hsz := hch.size
      have hrd : Rd ((wr.alloc (.cells #[.int .i64 p.x, .int .u64 p.st, .int .u64 p.sl] 28)).alloc (.cells #[.int .i64 p.x, .int .u64 p.st, .int .u64 p.sl] 121)) 3 (.slice (some ⟨wr.heap.size + 1, 0, none⟩) 1 1) 1 (tpCells [p]) := by
        have := Rd.lit (wr.alloc (.cells #[.int .i64 p.x, .int .u64 p.st, .int .u64 p.sl] 28)) #[.int .i64 p.x, .int .u64 p.st, .int .u64 p.sl] 121 3 1 1 rfl
        rw [World.size_alloc] at this
        exact this
      clear hc hr1
      go_wp2_with (at_builtin; go_must (refine wpList_append_src _ rfl (.tmp 12) (.tmp 14) 104 104 rfl 121 _ 3 24 under_tuples2 info_tuple2 rfl (by decide) (.slice a3 k c3) k (tpCells (l.take k)) rfl ((ho.alloc _).alloc _) (.slice (some ⟨wr.heap.size + 1, 0, none⟩) 1 1) 1 (tpCells [p]) rfl (Src.of_rd under_tuples2 hrd) (tpCells_oneCell _) (by unfold maxLen; omega) (by omega) ?_; intro a7 c7 w7 ho7 hg7 hf7))
      refine ⟨⟨k + 1, a7, c7, by omega, by go_num, rfl, by rw [HSS.out, tpCells_append]; exact ho7, HCX.out.trans' hg7 (fun b hb => .inr (HA.out b (by simpa using hb))), Lib.hid (fun b hb => ?_)⟩, by simp [intOf]; omega⟩
      rcases hf7 b hb with h | h
      · exact HA.out b (by simpa using h)
      · simp at h; omega
    · obtain rfl : k = n := by omega
      rw [HN.out, List.take_length, ← HN.out] at ho
      go_wp2
      go_ret
      exact ⟨a3, c3, rfl, ho, hch, HA.out⟩
end Go.Proofs.Ytkcldhimjnehdaa
