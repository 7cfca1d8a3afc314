/-
  The walk of tuples.part: the tuples of a row, as they are in a merged one. Conditions: the form's own reach.
-/
import Derived.Test.YtmbalpkeaobfgaaTupFind
import Derived.StillTailTactics
namespace Go.Proofs.Ytmbalpkeaobfgaa
open Go.RowKit

/-- How much slack comes from the other row, if the next of it is at a place. -/
def nxt (r : List Tp) (k : Nat) : Nat := if k < r.length then (r.getD k default).st + (r.getD k default).sl - 1 else 0
def partG (l r : List Tp) (pos : Int → Nat) : List Tp := l.map fun p => ⟨p.x, p.st, p.sl + nxt r (pos p.x)⟩
theorem partG_step (l r : List Tp) (pos : Int → Nat) (k : Nat) (h : k < l.length) : partG (l.take (k + 1)) r pos = partG (l.take k) r pos ++ [⟨l[k].x, l[k].st, l[k].sl + nxt r (pos l[k].x)⟩] := by
  rw [List.take_succ_eq_append_getElem h, partG, List.map_append]
  rfl
theorem partG_len (l r : List Tp) (pos : Int → Nat) : (partG l r pos).length = l.length := by simp [partG]

set_option maxRecDepth 100000 in
set_option maxHeartbeats 2000000 in
theorem tup_part (w : World) (ao : Option Addr) (cap : Nat) (l : List Tp) (bo : Option Addr) (bcap : Nat) (r : List Tp) (fn bx : Nat) (pos : Int → Nat) (he : ∀ args w, (callFunc fn args).run Try.prog w = .ok (.enter fn args) w)
    (hcall : ∀ w' x, Chg [] w w' → Calls Try.prog fn #[.int .i64 x, .pointer (some ⟨bx, 0, none⟩)] w' fun e w'' => e = .returned (.int .i64 (pos x : Nat)) ∧ Chg [] w' w'')
    (hr : Rd w 3 (.slice ao l.length cap) l.length (tpCells l)) (hr2 : Rd w 3 (.slice bo r.length bcap) r.length (tpCells r)) (hl : l.length ≤ 100000) (hl2 : r.length ≤ 100000)
    (hb : ∀ p ∈ l, ∀ q ∈ r, 1 ≤ q.st ∧ p.sl + q.st + q.sl ≤ 9223372036854775807) :
    Calls Try.prog 33 #[.slice ao l.length cap, .slice bo r.length bcap, .func (.func fn) #[] #[.pointer (some ⟨bx, 0, none⟩)]] w fun e w' => ∃ a3 c3, e = .returned (.slice a3 l.length c3) ∧
      Own w' 54 3 (.slice a3 l.length c3) l.length (tpCells (partG l r pos)) ∧ Chg [] w w' ∧ ∀ b ∈ abl a3, w.heap.size ≤ b := by
  have HCALL := Lib.hid hcall
  have HBD := Lib.hid hb
  have HR := Lib.hid hr
  have HR2 := Lib.hid hr2
  have HP := Lib.hid (partG_step l r pos)
  clear hcall hb hr hr2
  go_enter Try.func33, Try.ntmps33
  go_wp2
  go_loopw [7, 13] (fun out i wx => ∃ (k : Nat) (a3 : Option Addr) (c3 : Nat), k ≤ l.length ∧ i = .int .i64 (k : Nat) ∧ out = .slice a3 k c3 ∧
    Own wx 54 3 (.slice a3 k c3) k (tpCells (partG (l.take k) r pos)) ∧ Chg [] w wx ∧ Hid (∀ b ∈ abl a3, w.heap.size ≤ b)) (fun _ i _ => l.length - (intOf i).toNat)
  case atStart => exact ⟨0, none, 0, Nat.zero_le _, rfl, rfl, Own.nil _ _ _, Chg.refl _ _, Lib.hid (by simp [abl])⟩
  case round =>
    obtain ⟨k, a3, c3, hk, rfl, rfl, ho, hch, HA⟩ := hrel
    by_cases hlt : k < l.length
    · have hr1 := HR.out.chg hch (by simp)
      obtain ⟨b, o, rfl, hcs⟩ := hr1.addr (by omega)
      obtain ⟨c0, c1, c2⟩ := tp_at hcs hlt
      have HS := Lib.hid (HP.out k hlt)
      have HM := Lib.hid (HBD.out l[k] (List.getElem_mem _))
      have hbx := Blk.alloc_new wr #[.int .i64 l[k].x, .int .u64 l[k].st, .int .u64 l[k].sl] 54
      have HC := Lib.hid (HCALL.out (wr.alloc (.cells #[.int .i64 l[k].x, .int .u64 l[k].st, .int .u64 l[k].sl] 54)) l[k].x (hch.alloc _))
      have e0 := hbx.cell 0
      have e1 := hbx.cell 1
      have e2 := hbx.cell 2
      have HX := Lib.hid hbx
      have HCH := Lib.hid (hch.alloc (.cells #[.int .i64 l[k].x, .int .u64 l[k].st, .int .u64 l[k].sl] 54))
      have HO := Lib.hid (ho.alloc (.cells #[.int .i64 l[k].x, .int .u64 l[k].st, .int .u64 l[k].sl] 54))
      have hsz := hch.size
      have hlt3 := ho.lt
      simp only [blkOf_slice] at hlt3
      generalize l[k] = p at *
      clear hcs hr1 ho hbx
      go_wp2_with fail
      refine HC.out.mono ?_
      rintro e w2 ⟨rfl, hc2⟩
      have HCH2 := Lib.hid (HCH.out.trans hc2)
      have hx2 := HX.out.chg hc2 (by simp)
      have HO2 := Lib.hid (HO.out.chg hc2 (by simp))
      have hsz2 := hc2.size
      simp only [World.size_alloc] at hsz2
      have d0 := hx2.cell 0
      have d1 := hx2.cell 1
      have d2 := hx2.cell 2
      have f2 := hx2.free 2
      generalize hB : wr.heap.size = B at *
      clear HX HO HC HCH hc2 e0 e1 e2 c0 c1 c2 hch hB
      generalize pos p.x = n at *
      by_cases hnl : n < r.length
      · have hr3 := HR2.out.chg HCH2.out (by simp)
        obtain ⟨b', o', rfl, hcs'⟩ := hr3.addr (by omega)
        obtain ⟨c0, c1, c2⟩ := tp_at hcs' hnl
        have hm := HM.out r[n] (List.getElem_mem _)
        have HZ := Lib.hid (show nxt r n = r[n].st + r[n].sl - 1 from by rw [nxt, if_pos hnl]; simp [List.getD, hnl])
        have hd : decide (n < r.length) = true := decide_eq_true hnl
        have hn0 : (0 : Int) ≤ (n : Int) := by omega
        have hn1 : (n : Int) < (r.length : Int) := by omega
        generalize r[n] = q at *
        have hw1 : IntKind.u64.wrap ((q.st : Int) + (q.sl : Int)) = (q.st : Int) + (q.sl : Int) := IntWalk.u64_in _ (by omega)
        have hw2 : IntKind.u64.wrap ((q.st : Int) + (q.sl : Int) - 1) = (q.st : Int) + (q.sl : Int) - 1 := IntWalk.u64_in _ (by omega)
        have hw3 : IntKind.u64.wrap ((p.sl : Int) + ((q.st : Int) + (q.sl : Int) - 1)) = (p.sl : Int) + ((q.st : Int) + (q.sl : Int) - 1) := IntWalk.u64_in _ (by omega)
        have HV := Lib.hid (show (p.sl : Int) + ((q.st : Int) + (q.sl : Int) - 1) = ((p.sl + nxt r n : Nat) : Int) from by rw [HZ.out]; omega)
        have hBb : b' < w2.heap.size := World.block_lt_of_cell? w2 _ c0
        clear hcs' hr3 hnl c0
        go_wp2
        go_still_tail 16, (by kernel_rfl)
        change wpList _ _ _ _ _ (World.drew _)
        clear hw1 hw2 hw3 c1 c2
        have hcS : Chg [B] w2 (w2.setCell ⟨B, 2, none⟩ (.int .u64 ((p.sl : Int) + (nxt r n : Int)))) := (Chg.refl [B] w2).setCell (.inl (by simp)) _
        rw [HV.out]
        have hrd : Rd (((w2.setCell ⟨B, 2, none⟩ (.int .u64 ((p.sl : Int) + (nxt r n : Int)))).alloc (.cells #[.int .i64 p.x, .int .u64 p.st, .int .u64 ((p.sl : Int) + (nxt r n : Int))] 54)).drew) 3 (.slice (some ⟨w2.heap.size, 0, none⟩) 1 1) 1 (tpCells [⟨p.x, p.st, p.sl + nxt r n⟩]) := by
          have := Rd.lit (w2.setCell ⟨B, 2, none⟩ (.int .u64 ((p.sl : Int) + (nxt r n : Int)))) #[.int .i64 p.x, .int .u64 p.st, .int .u64 ((p.sl : Int) + (nxt r n : Int))] 54 3 1 1 rfl
          simp only [World.setCell, Array.size_modify] at this
          exact this
        have HOW : Own (((w2.setCell ⟨B, 2, none⟩ (.int .u64 ((p.sl : Int) + (nxt r n : Int)))).alloc (.cells #[.int .i64 p.x, .int .u64 p.st, .int .u64 ((p.sl : Int) + (nxt r n : Int))] 54)).drew) 54 3 (.slice a3 k c3) k (tpCells (partG (l.take k) r pos)) := (((HO2.out.chg hcS (fun b hb => by have := hlt3 b (by simpa using hb); simp; omega)).alloc _).drew)
        have HCW := Lib.hid (show Chg [] w (((w2.setCell ⟨B, 2, none⟩ (.int .u64 ((p.sl : Int) + (nxt r n : Int)))).alloc (.cells #[.int .i64 p.x, .int .u64 p.st, .int .u64 ((p.sl : Int) + (nxt r n : Int))] 54)).drew) from (((HCH2.out.trans' hcS (by simp; omega)).alloc _).drew))
        go_wp2_with (at_builtin; go_must (refine wpList_append_src _ rfl (.tmp 41) (.tmp 43) 24 24 rfl 54 _ 3 24 under_tuples info_tuple rfl (by decide) (.slice a3 k c3) k (tpCells (partG (l.take k) r pos)) rfl HOW (.slice (some ⟨w2.heap.size, 0, none⟩) 1 1) 1 (tpCells [⟨p.x, p.st, p.sl + nxt r n⟩]) rfl (Src.of_rd under_tuples hrd) (tpCells_oneCell _) (by unfold maxLen; omega) (by omega) ?_; intro a4 c4 w7 ho7 hg7 hf7))
        refine ⟨⟨k + 1, a4, c4, by omega, by go_num, rfl, by rw [HS.out, tpCells_append]; exact ho7, HCW.out.trans' hg7 (fun b hb => .inr (HA.out b (by simpa using hb))), Lib.hid (fun b hb => ?_)⟩, by simp [intOf]; omega⟩
        rcases hf7 b hb with h | h
        · exact HA.out b (by simpa using h)
        · simp [World.setCell] at h; omega
      · have HZ := Lib.hid (show nxt r n = 0 from if_neg hnl)
        have hd : decide (n < r.length) = false := decide_eq_false hnl
        rw [HZ.out, Nat.add_zero] at HS
        have hrd : Rd (w2.alloc (.cells #[.int .i64 p.x, .int .u64 p.st, .int .u64 p.sl] 54)) 3 (.slice (some ⟨w2.heap.size, 0, none⟩) 1 1) 1 (tpCells [p]) := by
          have := Rd.lit w2 #[.int .i64 p.x, .int .u64 p.st, .int .u64 p.sl] 54 3 1 1 rfl
          simpa [tpCells, Tp.cells] using this
        have HOW := HO2.out.alloc (.cells #[.int .i64 p.x, .int .u64 p.st, .int .u64 p.sl] 54)
        have HCW := Lib.hid (HCH2.out.alloc (.cells #[.int .i64 p.x, .int .u64 p.st, .int .u64 p.sl] 54))
        clear hnl
        go_wp2_with (at_builtin; go_must (refine wpList_append_src _ rfl (.tmp 41) (.tmp 43) 24 24 rfl 54 _ 3 24 under_tuples info_tuple rfl (by decide) (.slice a3 k c3) k (tpCells (partG (l.take k) r pos)) rfl HOW (.slice (some ⟨w2.heap.size, 0, none⟩) 1 1) 1 (tpCells [p]) rfl (Src.of_rd under_tuples hrd) (tpCells_oneCell _) (by unfold maxLen; omega) (by omega) ?_; intro a4 c4 w7 ho7 hg7 hf7))
        refine ⟨⟨k + 1, a4, c4, by omega, by go_num, rfl, by rw [HS.out, tpCells_append]; exact ho7, HCW.out.trans' hg7 (fun b hb => .inr (HA.out b (by simpa using hb))), Lib.hid (fun b hb => ?_)⟩, by simp [intOf]; omega⟩
        rcases hf7 b hb with h | h
        · exact HA.out b (by simpa using h)
        · simp at h; omega
    · obtain rfl : k = l.length := by omega
      rw [List.take_length] at ho
      go_wp2
      go_ret
      exact ⟨a3, c3, rfl, ho, hch, HA.out⟩
end Go.Proofs.Ytmbalpkeaobfgaa
