/-
  The walk of tuples.Insert. Conditions: the form's own reach.
-/
import Derived.Test.YtkcldhimjnehdaaTupInsert
import Derived.Test.YtkcldhimjnehdaaTupFind
namespace Go.Proofs.Ytkcldhimjnehdaa
open Go.RowKit

theorem insT_len (l : List Tp) (x : Int) (k : Nat) (hk : k ≤ l.length) : (insT l x k).length = l.length + 1 := by
  simp [insT]; omega
theorem upT_le (l : List Tp) (x : Int) : upT l x ≤ l.length := List.countP_le_length
set_option maxRecDepth 100000 in
set_option maxHeartbeats 1000000 in
theorem tup_insert (w : World) (ao : Option Addr) (cap : Nat) (l : List Tp) (x : Int) (hrs : ∀ j k, (hjk : j ≤ k) → (h : k < l.length) → (l[j]'(by omega)).x ≤ l[k].x) (ho : Own w 28 3 (.slice ao l.length cap) l.length (tpCells l)) (hl : l.length ≤ 100000)
    (hst : ∀ p ∈ l, 1 ≤ p.st ∧ p.st + p.sl ≤ 4611686018427387904) :
    Calls Try.prog 40 #[.slice ao l.length cap, .int .i64 x] w fun e w' => ∃ a3 c3, e = .returned (.slice a3 (l.length + 1) c3) ∧
      Own w' 28 3 (.slice a3 (l.length + 1) c3) (l.length + 1) (tpCells (insT l x (upT l x))) ∧ Chg (abl ao) w w' ∧ ∀ b ∈ abl a3, b ∈ abl ao ∨ w.heap.size ≤ b := by
  have HA := Lib.hid (tup_after w ao cap l x hrs ho.rd hl)
  have hle := upT_le l x
  have HST := Lib.hid hst
  clear hrs hst
  generalize upT l x = n at *
  go_enter Try.func40, Try.ntmps40
  go_wp2_with fail
  refine HA.out.mono ?_
  rintro e w1 ⟨rfl, hc1⟩
  clear HA
  have ho1 := ho.chg hc1 (by simp)
  have hsz := hc1.size
  have hbl := ho1.lt
  by_cases hin : 0 < n ∧ n < l.length
  · obtain ⟨hn0, hnl⟩ := hin
    obtain ⟨b, o, rfl, hc⟩ := ho1.rd.addr (by omega)
    obtain ⟨c0, c1, c2⟩ := tp_at hc hnl
    have hs := HST.out l[n] (List.getElem_mem _)
    have HE := Lib.hid (show insT l x n = l.take n ++ [⟨x, 1, l[n].st + l[n].sl - 1⟩] ++ l.drop n from by
      rw [insT, if_pos ⟨hn0, hnl⟩, show l.getD n default = l[n] from by simp [List.getD, hnl]])
    generalize l[n] = p at *
    have hd1 : decide ((0 : Int) < (n : Int)) = true := decide_eq_true (by omega)
    have hd2 : decide ((n : Int) < (l.length : Int)) = true := decide_eq_true (by omega)
    have hn1 : (0 : Int) ≤ (n : Int) := by omega
    have hnl2 : (n : Int) < (l.length : Int) := by omega
    have hw : (p.st : Int) + (p.sl : Int) - 1 = ((p.st + p.sl - 1 : Nat) : Int) := by omega
    clear hc ho
    have hw1 : IntKind.u64.wrap ((p.st : Int) + (p.sl : Int)) = (p.st : Int) + (p.sl : Int) := IntWalk.u64_in _ (by omega)
    have hw2 : IntKind.u64.wrap ((p.st : Int) + (p.sl : Int) - 1) = ((p.st + p.sl - 1 : Nat) : Int) := by rw [hw]; exact IntWalk.u64_in _ (by omega)
    clear hw
    go_wp2
    have hcW := (Chg.refl [] w1).alloc (.cells #[.int .i64 x, .int .u64 1, .int .u64 0] 28)
    have d1 := hcW.cell c1 (by simp)
    have d2 := hcW.cell c2 (by simp)
    have hbx := Blk.alloc_new w1 #[.int .i64 x, .int .u64 1, .int .u64 0] 28
    have hoW := ho1.chg hcW (by simp)
    have hsW : (w1.alloc (.cells #[.int .i64 x, .int .u64 1, .int .u64 0] 28)).heap.size = w1.heap.size + 1 := by simp
    have hblW := fun k (hk : k ∈ abl (some ⟨b, o, none⟩)) => hbl k hk
    generalize w1.alloc (.cells #[.int .i64 x, .int .u64 1, .int .u64 0] 28) = W at *
    generalize w1.heap.size = B at *
    have e0 := hbx.cell 0
    have e1 := hbx.cell 1
    have e2 := hbx.cell 2
    have f2 := hbx.free 2
    have HB := Lib.hid hbx
    have HS := Lib.hid hsW
    clear c0 c1 c2 hbx hsW hbl
    go_still_tail 13, (by kernel_rfl)
    change wpList _ _ _ _ _ (World.drew _)
    have hcS : Chg [B] W (W.drew.setCell ⟨B, 2, none⟩ (.int .u64 (p.st + p.sl - 1 : Nat))) := ((Chg.refl [B] W).drew).setCell (.inl (by simp)) _
    have hoS := hoW.chg hcS (fun k hk => by have := hblW k (by simpa using hk); simp; omega)
    have HC := Lib.hid ((((hc1.trans hcW).nil (F := [b])).trans' hcS (by simp; omega)).alloc (.cells #[.int .i64 x, .int .u64 1, .int .u64 (p.st + p.sl - 1 : Nat)] 28))
    clear hcS hblW hcW
    go_wp2_with fail
    refine (insert_tuple _ (some ⟨b, o, none⟩) cap l n hle ⟨x, 1, p.st + p.sl - 1⟩ W.heap.size hl (hoS.alloc _) (by have := Blk.alloc_new (W.drew.setCell ⟨B, 2, none⟩ (.int .u64 (p.st + p.sl - 1 : Nat))) #[.int .i64 x, .int .u64 1, .int .u64 (p.st + p.sl - 1 : Nat)] 28; simpa [World.setCell] using this) (by have := HS.out; have := hoW.lt b (by simp); simp; omega)).mono ?_
    rintro e w7 ⟨a3, c3, rfl, ho7, hg7, hf7⟩
    go_wp2
    go_ret
    refine ⟨a3, c3, rfl, by rw [HE.out]; exact ho7, HC.out.trans hg7, fun k hk => ?_⟩
    rcases hf7 k hk with h | h
    · exact .inl h
    · right
      have := HS.out
      simp [World.setCell] at h
      omega
  · have HE := Lib.hid (show insT l x n = l.take n ++ [⟨x, 1, 0⟩] ++ l.drop n from by rw [insT, if_neg hin])
    have hne : n = 0 ∨ n = l.length := by omega
    clear hin
    have fin : ∀ w7 a3 c3, Own w7 28 3 (.slice a3 (l.length + 1) c3) (l.length + 1) (tpCells (l.take n ++ [⟨x, 1, 0⟩] ++ l.drop n)) →
        Chg (abl ao) ((w1.alloc (.cells #[.int .i64 x, .int .u64 1, .int .u64 0] 28)).alloc (.cells #[.int .i64 x, .int .u64 1, .int .u64 0] 28)) w7 →
        (∀ b ∈ abl a3, b ∈ abl ao ∨ ((w1.alloc (.cells #[.int .i64 x, .int .u64 1, .int .u64 0] 28)).alloc (.cells #[.int .i64 x, .int .u64 1, .int .u64 0] 28)).heap.size ≤ b) →
        Own w7 28 3 (.slice a3 (l.length + 1) c3) (l.length + 1) (tpCells (insT l x n)) ∧ Chg (abl ao) w w7 ∧ ∀ b ∈ abl a3, b ∈ abl ao ∨ w.heap.size ≤ b := fun w7 a3 c3 h1 h2 h3 => by
      refine ⟨by rw [HE.out]; exact h1, (((hc1.alloc _).alloc _).nil).trans h2, fun k hk => ?_⟩
      rcases h3 k hk with h | h
      · exact .inl h
      · right
        simp at h
        omega
    have FIN := Lib.hid fin
    have hbx := Blk.alloc_new w1 #[.int .i64 x, .int .u64 1, .int .u64 0] 28
    have HV := Lib.hid (show Blk ((w1.alloc (.cells #[.int .i64 x, .int .u64 1, .int .u64 0] 28)).alloc (.cells #[.int .i64 x, .int .u64 1, .int .u64 0] 28)) (w1.heap.size + 1) #[.int .i64 x, .int .u64 1, .int .u64 0] 28 from by
      have := Blk.alloc_new (w1.alloc (.cells #[.int .i64 x, .int .u64 1, .int .u64 0] 28)) #[.int .i64 x, .int .u64 1, .int .u64 0] 28
      simpa using this)
    have e0 := hbx.cell 0
    have e1 := hbx.cell 1
    have e2 := hbx.cell 2
    have HB := Lib.hid (show w1.heap.size + 1 ∉ abl ao from fun hb => by have := hbl _ (by simpa using hb); omega)
    clear fin hbx HE hbl ho
    rcases hne with h0 | h0
    · subst h0
      go_wp2_with fail
      refine (insert_tuple _ ao cap l 0 hle ⟨x, 1, 0⟩ (w1.heap.size + 1) hl ((ho1.alloc _).alloc _) HV.out HB.out).mono ?_
      rintro e w7 ⟨a3, c3, rfl, ho7, hg7, hf7⟩
      have HF := Lib.hid (FIN.out w7 a3 c3 ho7 hg7 hf7)
      clear ho7 hg7 hf7
      go_wp2
      go_ret
      exact ⟨a3, c3, rfl, HF.out.1, HF.out.2.1, HF.out.2.2⟩
    · have hd2 : decide (n < l.length) = false := decide_eq_false (by omega)
      by_cases hz : 0 < n
      all_goals
        clear h0
        go_wp2_with fail
        refine (insert_tuple _ ao cap l n hle ⟨x, 1, 0⟩ (w1.heap.size + 1) hl ((ho1.alloc _).alloc _) HV.out HB.out).mono ?_
        rintro e w7 ⟨a3, c3, rfl, ho7, hg7, hf7⟩
        have HF := Lib.hid (FIN.out w7 a3 c3 ho7 hg7 hf7)
        clear ho7 hg7 hf7
        go_wp2
        go_ret
        exact ⟨a3, c3, rfl, HF.out.1, HF.out.2.1, HF.out.2.2⟩
end Go.Proofs.Ytkcldhimjnehdaa
