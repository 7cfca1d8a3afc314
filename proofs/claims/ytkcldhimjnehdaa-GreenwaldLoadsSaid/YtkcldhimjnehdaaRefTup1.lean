/-
  The walks of the reference's Spots, Row, Total, of rows of tuples. Conditions: the form's own reach.
-/
import Derived.Test.YtkcldhimjnehdaaSpBase
import Derived.Test.YtkcldhimjnehdaaTupAsk
namespace Go.Proofs.Ytkcldhimjnehdaa
open Go.RowKit

theorem spF_step (l : List Tp) (k : Nat) (h : k < l.length) : spF 0 (l.take (k + 1)) = spF 0 (l.take k) ++ [⟨l[k].x, tot (l.take k) + l[k].st, tot (l.take k) + l[k].st + l[k].sl⟩] := by
  rw [List.take_succ_eq_append_getElem h, spF_app]
  simp [spF]

set_option maxRecDepth 100000 in
set_option maxHeartbeats 1000000 in
theorem ref18_row (w : World) (ao : Option Addr) (cap : Nat) (l : List Tp) (n : Nat) (hn : n = l.length) (hr : Rd w 3 (.slice ao n cap) n (spCells (spF 0 l))) (hl : n ≤ 100000) (hh : ∀ s ∈ spF 0 l, s.hi ≤ 9223372036854775807) :
    Calls Try.prog 60 #[.slice ao n cap] w fun e w' => ∃ a3 c3, e = .returned (.slice a3 n c3) ∧
      Own w' 121 3 (.slice a3 n c3) n (tpCells l) ∧ Chg [] w w' ∧ ∀ b ∈ abl a3, w.heap.size ≤ b := by
  have HR := Lib.hid hr
  have HH := Lib.hid hh
  have HN := Lib.hid hn
  clear hr hh hn
  go_enter Try.func60, Try.ntmps60
  go_wp2
  go_loopw [3, 4, 9] (fun out a i wx => ∃ (k at_ : Nat) (a3 : Option Addr) (c3 : Nat), k ≤ n ∧ i = .int .i64 (k : Nat) ∧ a = .int .u64 (at_ : Nat) ∧ out = .slice a3 k c3 ∧ Hid (at_ = tot (l.take k)) ∧
    Own wx 121 3 (.slice a3 k c3) k (tpCells (l.take k)) ∧ Chg [] w wx ∧ Hid (∀ b ∈ abl a3, w.heap.size ≤ b)) (fun _ _ i _ => n - (intOf i).toNat)
  case atStart => exact ⟨0, 0, none, 0, Nat.zero_le _, rfl, rfl, rfl, Lib.hid rfl, Own.nil _ _ _, Chg.refl _ _, Lib.hid (by simp [abl])⟩
  case round =>
    obtain ⟨k, at_, a3, c3, hk, rfl, rfl, rfl, HG, ho, hch, HA⟩ := hrel
    by_cases hlt : k < n
    · have hr1 := HR.out.chg hch (by simp)
      obtain ⟨b, o, rfl, hc⟩ := hr1.addr (by omega)
      have hkl : k < l.length := by have := HN.out; omega
      have hks : k < (spF 0 l).length := by rw [spF_len]; exact hkl
      have hget : (spF 0 l)[k] = ⟨l[k].x, tot (l.take k) + l[k].st, tot (l.take k) + l[k].st + l[k].sl⟩ := by
        have e : spF 0 l = spF 0 (l.take k) ++ spF (tot (l.take k)) (l.drop k) := by
          have := spF_app 0 (l.take k) (l.drop k)
          rw [List.take_append_drop, Nat.zero_add] at this
          exact this
        have hlk : (spF 0 (l.take k)).length = k := by rw [spF_len, List.length_take]; omega
        rw [List.getElem_of_eq e, List.getElem_append_right (by omega)]
        simp only [hlk, Nat.sub_self, List.drop_eq_getElem_cons hkl, spF, List.getElem_cons_zero]
      have hc' : ∀ j, j < (spF 0 l).length * 3 → wr.cell? ⟨b, o + j, none⟩ = (spCells (spF 0 l))[j]? := fun j hj => hc j (by rw [spF_len, ← HN.out] at hj; exact hj)
      obtain ⟨c0, c1, c2⟩ := sp_at hc' hks
      rw [hget] at c0 c1 c2
      have hs := HH.out _ (spot_at l k hkl)
      have HTS := Lib.hid (tot_step l k hkl)
      have HSS := Lib.hid (List.take_succ_eq_append_getElem hkl)
      simp only at hs c0 c1 c2
      rw [← HG.out] at hs HTS c1 c2
      generalize l[k] = p at *
      have hw1 : ((at_ + p.st : Nat) : Int) - (at_ : Int) = (p.st : Int) := by omega
      have hw3 : ((at_ + p.st + p.sl : Nat) : Int) - ((at_ + p.st : Nat) : Int) = (p.sl : Int) := by omega
      have hcX := (hch.alloc (.cells #[.int .i64 p.x, .int .u64 (at_ + p.st : Nat), .int .u64 (at_ + p.st + p.sl : Nat)] 108)).alloc (.cells #[.int .i64 p.x, .int .u64 p.st, .int .u64 p.sl] 121)
      have hx1 : p.st < 18446744073709551616 := by omega
      have hx2 : p.sl < 18446744073709551616 := by omega
      generalize at_ + p.st = a2 at *
      generalize a2 + p.sl = a4 at *
      have hsz := hch.size
      have HCX := Lib.hid hcX
      have hrd : Rd ((wr.alloc (.cells #[.int .i64 p.x, .int .u64 a2, .int .u64 a4] 108)).alloc (.cells #[.int .i64 p.x, .int .u64 p.st, .int .u64 p.sl] 121)) 3 (.slice (some ⟨wr.heap.size + 1, 0, none⟩) 1 1) 1 (tpCells [p]) := by
        have := Rd.lit (wr.alloc (.cells #[.int .i64 p.x, .int .u64 a2, .int .u64 a4] 108)) #[.int .i64 p.x, .int .u64 p.st, .int .u64 p.sl] 121 3 1 1 rfl
        rw [World.size_alloc] at this
        exact this
      have hbx := (Blk.alloc_new wr #[.int .i64 p.x, .int .u64 a2, .int .u64 a4] 108).alloc (.cells #[.int .i64 p.x, .int .u64 p.st, .int .u64 p.sl] 121)
      have hlt3 := ho.lt
      have HB7 := Lib.hid (fun w7 (h : Chg (blkOf (.slice a3 k c3)) ((wr.alloc (.cells #[.int .i64 p.x, .int .u64 a2, .int .u64 a4] 108)).alloc (.cells #[.int .i64 p.x, .int .u64 p.st, .int .u64 p.sl] 121)) w7) => ((hbx.chg h (fun hb => by have := hlt3 _ hb; omega)).cell 1 : w7.cell? ⟨wr.heap.size, 1, none⟩ = some (.int .u64 a2)))
      clear hc hc' hr1 hcX HG hget hks hkl hbx hlt3
      go_wp2_with (at_builtin; go_must (refine wpList_append_src _ rfl (.tmp 13) (.tmp 26) 104 104 rfl 121 _ 3 24 under_tuples2 info_tuple2 rfl (by decide) (.slice a3 k c3) k (tpCells (l.take k)) rfl ((ho.alloc _).alloc _) (.slice (some ⟨wr.heap.size + 1, 0, none⟩) 1 1) 1 (tpCells [p]) rfl (Src.of_rd under_tuples2 hrd) (tpCells_oneCell _) (by unfold maxLen; omega) (by omega) ?_; intro a7 c7 w7 ho7 hg7 hf7; have e7 := HB7.out w7 hg7))
      refine ⟨⟨k + 1, a2, a7, c7, by omega, by go_num, rfl, rfl, Lib.hid HTS.out.symm, by rw [HSS.out, tpCells_append]; exact ho7, HCX.out.trans' hg7 (fun b hb => .inr (HA.out b (by simpa using hb))), Lib.hid (fun b hb => ?_)⟩, by simp [intOf]; omega⟩
      rcases hf7 b hb with h | h
      · exact HA.out b (by simpa using h)
      · simp at h; omega
    · obtain rfl : k = n := by omega
      rw [HN.out, List.take_length, ← HN.out] at ho
      go_wp2
      go_ret
      exact ⟨a3, c3, rfl, ho, hch, HA.out⟩

set_option maxRecDepth 100000 in
theorem ref18_total (w : World) (ao : Option Addr) (cap : Nat) (l : List Sp) (hr : Rd w 3 (.slice ao l.length cap) l.length (spCells l)) (hl : l.length ≤ 100000) :
    Calls Try.prog 68 #[.slice ao l.length cap] w fun e w' => e = .returned (.int .u64 (totS l : Nat)) ∧ w = w' := by
  go_enter Try.func68, Try.ntmps68
  by_cases h0 : l.length = 0
  · have hb : ((l.length : Int) == 0) = true := by rw [beq_iff_eq]; omega
    have HT := Lib.hid (show totS l = 0 from by rw [List.eq_nil_of_length_eq_zero h0]; rfl)
    clear h0
    go_wp2
    go_ret
    rw [HT.out]
    exact ⟨rfl, rfl⟩
  · have hb : ((l.length : Int) == 0) = false := by rw [beq_eq_false_iff_ne]; omega
    obtain ⟨b, o, rfl, hc⟩ := hr.addr (by omega)
    obtain ⟨c0, c1, c2⟩ := sp_at hc (show l.length - 1 < l.length by omega)
    have HT := Lib.hid (show totS l = (l[l.length - 1]'(by omega)).lo from by
      rw [totS, List.getLast?_eq_getElem?, List.getElem?_eq_getElem (by omega)])
    have hw : (l.length : Int) - 1 = ((l.length - 1 : Nat) : Int) := by omega
    have h1 : (0 : Int) ≤ ((l.length - 1 : Nat) : Int) := by omega
    have h2 : ((l.length - 1 : Nat) : Int) < (l.length : Int) := by omega
    have h3 : l.length - 1 < l.length := by omega
    generalize l[l.length - 1] = s at *
    clear hc hr
    generalize hm : l.length - 1 = m at *
    clear hm h0
    go_wp2
    go_ret
    rw [HT.out]
    exact ⟨rfl, rfl⟩
end Go.Proofs.Ytkcldhimjnehdaa
