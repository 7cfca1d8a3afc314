/-
  The walk of the reference's moved. Conditions: the form's own reach.
  The walk of the reference's Merge. Conditions: the form's own reach.
-/
import Derived.Test.YtkcldhimjnehdaaRefTup1
import Derived.StillTailTactics
import Derived.Test.YtkcldhimjnehdaaPlainMerge
namespace Go.Proofs.Ytkcldhimjnehdaa
open Go.RowKit

/-- A spot among those of another list, of which so many stand ahead. -/
def loM (o : List Sp) (s : Sp) (k : Nat) : Nat := if k = 0 then s.lo else s.lo + (o.getD (k - 1) default).lo
def hiM (o : List Sp) (s : Sp) (k : Nat) : Nat := if k < o.length then s.hi + (o.getD k default).hi - 1 else s.hi + totS o
def movedS (o : List Sp) (s : Sp) (k : Nat) : Sp := ⟨s.x, loM o s k, hiM o s k⟩

theorem ref18_total' (w : World) (ao : Option Addr) (cap : Nat) (l : List Sp) (n : Nat) (hn : n = l.length) (hr : Rd w 3 (.slice ao n cap) n (spCells l)) (hl : n ≤ 40000) :
    Calls Try.prog 68 #[.slice ao n cap] w fun e w' => e = .returned (.int .u64 (totS l : Nat)) ∧ w = w' := by
  subst hn
  exact ref18_total w ao cap l hr (by omega)
theorem rd_eq {w w' : World} {size n : Nat} {v : Value} {xs : List Value} (h : Rd w size v n xs) (he : ∀ a, w'.cell? a = w.cell? a) : Rd w' size v n xs := by
  obtain ⟨h1, ao, cap, rfl, h2⟩ := h
  refine ⟨h1, ao, cap, rfl, ?_⟩
  rcases h2 with h2 | ⟨b, o, rfl, hc⟩
  · exact .inl h2
  · exact .inr ⟨b, o, rfl, fun j hj => by rw [he]; exact hc j hj⟩
theorem Rd.blk_lt {w : World} {size b o n c : Nat} {xs : List Value} (h : Rd w size (.slice (some ⟨b, o, none⟩) n c) n xs) (hn : 0 < n) (hs : 0 < size) : b < w.heap.size := by
  obtain ⟨b', o', hb, hc⟩ := h.addr hn
  simp only [Option.some.injEq, Addr.mk.injEq, and_true] at hb
  obtain ⟨rfl, rfl⟩ := hb
  have h0 := hc 0 (Nat.mul_pos hn hs)
  have h1 : 0 < xs.length := by rw [h.1]; exact Nat.mul_pos hn hs
  rw [List.getElem?_eq_getElem h1] at h0
  exact World.block_lt_of_cell? w _ h0

set_option maxRecDepth 100000 in
set_option maxHeartbeats 2000000 in
theorem ref18_moved (w : World) (ao : Option Addr) (cap : Nat) (l : List Sp) (s : Sp) (k n : Nat) (hn : n = l.length) (hk : k ≤ n) (hr : Rd w 3 (.slice ao n cap) n (spCells l)) (hl : n ≤ 40000)
    (hbd : ∀ t ∈ l, t.lo ≤ 4611686018427387904 ∧ t.hi ≤ 4611686018427387904) (hs : s.lo ≤ 4611686018427387904 ∧ s.hi ≤ 4611686018427387904 ∧ 1 ≤ s.hi) :
    Calls Try.prog 85 #[.agg #[.int .i64 s.x, .int .u64 s.lo, .int .u64 s.hi], .slice ao n cap, .int .i64 k] w fun e w' =>
      e = .returned (.agg #[.int .i64 s.x, .int .u64 (loM l s k), .int .u64 (hiM l s k)]) ∧ Chg [] w w' := by
  have HBD := Lib.hid hbd
  have HN := Lib.hid hn
  have hW0 := (Chg.refl [] w).alloc (.cells #[.int .i64 s.x, .int .u64 s.lo, .int .u64 s.hi] 108) |>.alloc (.cells #[.int .i64 0, .int .u64 0, .int .u64 0] 108)
  have hb0 := (Blk.alloc_new w #[.int .i64 s.x, .int .u64 s.lo, .int .u64 s.hi] 108).alloc (.cells #[.int .i64 0, .int .u64 0, .int .u64 0] 108)
  have hb1 := Blk.alloc_new (w.alloc (.cells #[.int .i64 s.x, .int .u64 s.lo, .int .u64 s.hi] 108)) #[.int .i64 0, .int .u64 0, .int .u64 0] 108
  rw [World.size_alloc] at hb1
  have hr0 := hr.chg hW0 (by simp)
  have hTB : totS l ≤ 4611686018427387904 := by
    cases hll : l.getLast? with
    | none => rw [totS, hll]; exact Nat.zero_le _
    | some s => rw [totS, hll]; exact (hbd s (List.mem_of_getLast? hll)).1
  have HTB := Lib.hid hTB
  have HW0 := Lib.hid hW0
  have HOLD := Lib.hid (fun b o (h : ao = some ⟨b, o, none⟩) (h0 : 0 < n) => (show Rd w 3 (.slice (some ⟨b, o, none⟩) n cap) n (spCells l) from h ▸ hr).blk_lt h0 (by omega))
  clear hbd hn hr hTB
  obtain ⟨B, hB⟩ : ∃ B, B = w.heap.size := ⟨_, rfl⟩
  have HB := Lib.hid hB
  rw [← hB] at hb0 hb1
  clear hB
  have hne : B ≠ B + 1 := by omega
  have hk0i : (0 : Int) ≤ (k : Int) := by omega
  go_enter Try.func85, Try.ntmps85
  by_cases hk0 : 0 < k
  · have hd1 : decide ((0 : Int) < (k : Int)) = true := decide_eq_true (by omega)
    have HR0 := Lib.hid hr0
    obtain ⟨b, o, rfl, hc⟩ := hr0.addr (by omega)
    have hc' := fun j (hj : j < l.length * 3) => hc j (by rw [← HN.out] at hj; exact hj)
    obtain ⟨q0, q1, q2⟩ := sp_at (l := l) hc' (show k - 1 < l.length by rw [← HN.out]; omega)
    have hq := HBD.out _ (List.getElem_mem (show k - 1 < l.length by rw [← HN.out]; omega))
    have HLO := Lib.hid (show loM l s k = s.lo + (l[k - 1]'(by rw [← HN.out]; omega)).lo from by
      have : k - 1 < l.length := by rw [← HN.out]; omega
      rw [loM, if_neg (by omega)]
      simp [List.getD, this])
    generalize l[k - 1]'(by rw [← HN.out]; omega) = q at *
    have e1 : IntKind.i64.wrap ((k - 1 : Nat) : Int) = ((k - 1 : Nat) : Int) := IntWalk.i64_in _ (by omega)
    have e2 : (0 : Int) ≤ ((k - 1 : Nat) : Int) := by omega
    have e3 : ((k - 1 : Nat) : Int) < (n : Int) := by omega
    have e4 : (k : Int) - 1 = ((k - 1 : Nat) : Int) := by omega
    generalize k - 1 = m1 at *
    obtain ⟨v, hv⟩ : ∃ v, v = s.lo + q.lo := ⟨_, rfl⟩
    have e5 : IntKind.u64.wrap ((s.lo : Int) + (q.lo : Int)) = (v : Int) := by rw [show (s.lo : Int) + (q.lo : Int) = (v : Int) from by omega]; exact IntWalk.u64_in _ (by omega)
    rw [← hv] at HLO
    go_wp2
    rw [← HB.out]
    generalize ((w.alloc (.cells #[.int .i64 s.x, .int .u64 s.lo, .int .u64 s.hi] 108)).alloc (.cells #[.int .i64 0, .int .u64 0, .int .u64 0] 108)) = W at *
    have hd0 := hb0.cell 1
    have hf0 := hb0.free 1
    have HB0 := Lib.hid (show Blk (W.setCell ⟨B, 1, none⟩ (.int .u64 v)).drew B #[.int .i64 s.x, .int .u64 v, .int .u64 s.hi] 108 from hb0.setCell 1 (.int .u64 v))
    have HB1 := Lib.hid (show Blk (W.setCell ⟨B, 1, none⟩ (.int .u64 v)).drew (B + 1) _ _ from hb1.setCell_other (a := ⟨B, 1, none⟩) (by simp) (.int .u64 v))
    have HCW := Lib.hid (show Chg [] w (W.setCell ⟨B, 1, none⟩ (.int .u64 v)).drew from (hW0.setCell (a := ⟨B, 1, none⟩) (.inr (by simp only; rw [HB.out]; exact Nat.le_refl _)) (.int .u64 v)).drew)
    have hbB : b ≠ B := fun h => by
      have h1 := HOLD.out b o rfl (by omega)
      have h2 := HB.out
      omega
    have HRC := Lib.hid (show ∀ (j : Nat) (x : Value), W.cell? ⟨b, j, none⟩ = some x → (W.setCell ⟨B, 1, none⟩ (.int .u64 v)).drew.cell? ⟨b, j, none⟩ = some x from fun j x hx => ((Chg.refl [B] W).setCell (a := ⟨B, 1, none⟩) (.inl (by simp)) (.int .u64 v)).cell hx (by simpa using hbB))
    have HRR := Lib.hid (HR0.out.chg (show Chg [B] W (W.setCell ⟨B, 1, none⟩ (.int .u64 v)).drew from ((Chg.refl [B] W).setCell (a := ⟨B, 1, none⟩) (.inl (by simp)) (.int .u64 v)).drew) (by simpa using hbB))
    clear hc hc' q0 q2 hv hb0 hb1 hr0 hbB hW0
    go_still_tail 10, (by kernel_rfl)
    change wpList _ _ _ _ _ (World.drew _)
    by_cases hkn : k < n
    · have hd2 : decide (k < n) = true := decide_eq_true hkn
      obtain ⟨b', o', hbo, hc⟩ := HR0.out.addr (by omega)
      have hc' := fun j (hj : j < l.length * 3) => hc j (by rw [← HN.out] at hj; exact hj)
      have hkl : k < l.length := by rw [← HN.out]; exact hkn
      obtain ⟨r0, r1, r2⟩ := sp_at (l := l) hc' hkl
      have hr := HBD.out _ (List.getElem_mem hkl)
      have HHI := Lib.hid (show hiM l s k = s.hi + l[k].hi - 1 from by
        rw [hiM, if_pos hkl]
        simp [List.getD, hkl])
      generalize l[k] = r at *
      simp only [Option.some.injEq, Addr.mk.injEq, and_true] at hbo
      obtain ⟨rfl, rfl⟩ := hbo
      have g1 : (k : Int) < (n : Int) := by omega
      obtain ⟨u, hu⟩ : ∃ u, u = s.hi + r.hi - 1 := ⟨_, rfl⟩
      have g5 : IntKind.u64.wrap ((s.hi : Int) + (r.hi : Int)) = (s.hi : Int) + (r.hi : Int) := IntWalk.u64_in _ (by omega)
      have g6 : IntKind.u64.wrap ((s.hi : Int) + (r.hi : Int) - 1) = (u : Int) := by rw [show (s.hi : Int) + (r.hi : Int) - 1 = (u : Int) from by omega]; exact IntWalk.u64_in _ (by omega)
      rw [← hu] at HHI
      clear r0 r1 hc hc' hu
      clear e1 e2 e3 e4 e5 q1
      go_wp2
      generalize (W.setCell ⟨B, 1, none⟩ (.int .u64 v)).drew = W1 at *
      have hd0 := HB0.out.cell 2
      have hf0 := HB0.out.free 2
      have b0 := HB0.out.cell 0
      have b1 := HB0.out.cell 1
      have z0 := HB1.out.cell 0
      have z1 := HB1.out.cell 1
      have z2 := HB1.out.cell 2
      have zf0 := HB1.out.free 0
      have zf1 := HB1.out.free 1
      have zf2 := HB1.out.free 2
      have HC0 := Lib.hid (show Blk (W1.setCell ⟨B, 2, none⟩ (.int .u64 u)).drew B #[.int .i64 s.x, .int .u64 v, .int .u64 u] 108 from (HB0.out).setCell 2 (.int .u64 u))
      have HC1 := Lib.hid (show Blk (W1.setCell ⟨B, 2, none⟩ (.int .u64 u)).drew (B + 1) _ _ from (HB1.out).setCell_other (a := ⟨B, 2, none⟩) (by simp) (.int .u64 u))
      have HCC := Lib.hid (show Chg [] w (W1.setCell ⟨B, 2, none⟩ (.int .u64 u)).drew from (HCW.out.setCell (a := ⟨B, 2, none⟩) (.inr (by simp only; rw [HB.out]; exact Nat.le_refl _)) (.int .u64 u)).drew)
      have r2' : W1.cell? ⟨b, o + k * 3 + 2, none⟩ = some (.int .u64 r.hi) := HRC.out _ _ r2
      have HCX := Lib.hid (show Chg [] w W1 from HCW.out)
      clear HB0 HB1 HCW r2
      go_still_tail 10, (by kernel_rfl)
      change wpList _ _ _ _ _ (World.drew _)
      go_wp2
      refine bodyPost_ret (v := .agg #[.int .i64 s.x, .int .u64 v, .int .u64 u]) (by simp [results, Try.results85, go_sem, z0, z1, z2]) rfl ⟨by rw [HLO.out, HHI.out], ?_⟩
      have hB0 : w.heap.size ≤ B := by rw [HB.out]; exact Nat.le_refl _
      have hB1 : w.heap.size ≤ B + 1 := by omega
      repeat (first | exact HCX.out | apply Chg.drew | (refine Chg.setCell ?_ (.inr (by simp only; first | exact hB0 | exact hB1)) _))
    · have hd2 : decide (k < n) = false := decide_eq_false hkn
      have HHI := Lib.hid (show hiM l s k = s.hi + totS l from by
        rw [hiM, if_neg (by rw [← HN.out]; exact hkn)])
      have ht := HTB.out
      obtain ⟨u, hu⟩ : ∃ u, u = s.hi + totS l := ⟨_, rfl⟩
      have g6 : IntKind.u64.wrap ((s.hi : Int) + (totS l : Int)) = (u : Int) := by rw [show (s.hi : Int) + (totS l : Int) = (u : Int) from by omega]; exact IntWalk.u64_in _ (by omega)
      rw [← hu] at HHI
      clear hu
      clear e1 e2 e3 e4 e5 q1
      go_wp2
      generalize (W.setCell ⟨B, 1, none⟩ (.int .u64 v)).drew = W1 at *
      have hd0 := HB0.out.cell 2
      have hf0 := HB0.out.free 2
      have b0 := HB0.out.cell 0
      have b1 := HB0.out.cell 1
      have z0 := HB1.out.cell 0
      have z1 := HB1.out.cell 1
      have z2 := HB1.out.cell 2
      have zf0 := HB1.out.free 0
      have zf1 := HB1.out.free 1
      have zf2 := HB1.out.free 2
      have HRW := Lib.hid (show Rd W1 3 (.slice (some ⟨b, o, none⟩) n cap) n (spCells l) from HRR.out)
      have HCX := Lib.hid (show Chg [] w W1 from HCW.out)
      have HTT := Lib.hid (fun W' (h : ∀ a, W'.cell? a = W1.cell? a) => ref18_total' W' (some ⟨b, o, none⟩) cap l n HN.out (rd_eq HRW.out h) hl)
      clear HB0 HB1 HCW
      generalize totS l = tl at *
      go_region_with (first | (go_at_call 68; refine (HTT.out _ (fun a => by simp)).mono ?_; rintro e w' ⟨rfl, rfl⟩))
      all_goals
        go_wp2
        refine bodyPost_ret (v := .agg #[.int .i64 s.x, .int .u64 v, .int .u64 u]) (by simp [results, Try.results85, go_sem, z0, z1, z2]) rfl ⟨by rw [HLO.out, HHI.out], ?_⟩
        have hB0 : w.heap.size ≤ B := by rw [HB.out]; exact Nat.le_refl _
        have hB1 : w.heap.size ≤ B + 1 := by omega
        repeat (first | exact HCX.out | apply Chg.drew | (refine Chg.setCell ?_ (.inr (by simp only; first | exact hB0 | exact hB1)) _))
  · have hd1 : decide ((0 : Int) < (k : Int)) = false := decide_eq_false (by omega)
    have HLO := Lib.hid (show loM l s k = s.lo from if_pos (by omega))
    have HR0 := Lib.hid hr0
    have HRR := Lib.hid hr0
    have HRC := Lib.hid (show ∀ (b j : Nat) (x : Value), ((w.alloc (.cells #[.int .i64 s.x, .int .u64 s.lo, .int .u64 s.hi] 108)).alloc (.cells #[.int .i64 0, .int .u64 0, .int .u64 0] 108)).cell? ⟨b, j, none⟩ = some x → ((w.alloc (.cells #[.int .i64 s.x, .int .u64 s.lo, .int .u64 s.hi] 108)).alloc (.cells #[.int .i64 0, .int .u64 0, .int .u64 0] 108)).cell? ⟨b, j, none⟩ = some x from fun b j x hx => hx)
    have HB0 := Lib.hid hb0
    have HB1 := Lib.hid hb1
    have HCW := Lib.hid hW0
    clear hb0 hb1 hr0 hW0
    by_cases hkn : k < n
    · have hd2 : decide (k < n) = true := decide_eq_true hkn
      obtain ⟨b', o', hbo, hc⟩ := HR0.out.addr (by omega)
      have hc' := fun j (hj : j < l.length * 3) => hc j (by rw [← HN.out] at hj; exact hj)
      have hkl : k < l.length := by rw [← HN.out]; exact hkn
      obtain ⟨r0, r1, r2⟩ := sp_at (l := l) hc' hkl
      have hr := HBD.out _ (List.getElem_mem hkl)
      have HHI := Lib.hid (show hiM l s k = s.hi + l[k].hi - 1 from by
        rw [hiM, if_pos hkl]
        simp [List.getD, hkl])
      generalize l[k] = r at *
      subst hbo
      have g1 : (k : Int) < (n : Int) := by omega
      obtain ⟨u, hu⟩ : ∃ u, u = s.hi + r.hi - 1 := ⟨_, rfl⟩
      have g5 : IntKind.u64.wrap ((s.hi : Int) + (r.hi : Int)) = (s.hi : Int) + (r.hi : Int) := IntWalk.u64_in _ (by omega)
      have g6 : IntKind.u64.wrap ((s.hi : Int) + (r.hi : Int) - 1) = (u : Int) := by rw [show (s.hi : Int) + (r.hi : Int) - 1 = (u : Int) from by omega]; exact IntWalk.u64_in _ (by omega)
      rw [← hu] at HHI
      clear r0 r1 hc hc' hu
      go_wp2
      rw [← HB.out]
      generalize ((w.alloc (.cells #[.int .i64 s.x, .int .u64 s.lo, .int .u64 s.hi] 108)).alloc (.cells #[.int .i64 0, .int .u64 0, .int .u64 0] 108)) = W1 at *
      have hd0 := HB0.out.cell 2
      have hf0 := HB0.out.free 2
      have b0 := HB0.out.cell 0
      have b1 := HB0.out.cell 1
      have z0 := HB1.out.cell 0
      have z1 := HB1.out.cell 1
      have z2 := HB1.out.cell 2
      have zf0 := HB1.out.free 0
      have zf1 := HB1.out.free 1
      have zf2 := HB1.out.free 2
      have HC0 := Lib.hid (show Blk (W1.setCell ⟨B, 2, none⟩ (.int .u64 u)).drew B #[.int .i64 s.x, .int .u64 s.lo, .int .u64 u] 108 from (HB0.out).setCell 2 (.int .u64 u))
      have HC1 := Lib.hid (show Blk (W1.setCell ⟨B, 2, none⟩ (.int .u64 u)).drew (B + 1) _ _ from (HB1.out).setCell_other (a := ⟨B, 2, none⟩) (by simp) (.int .u64 u))
      have HCC := Lib.hid (show Chg [] w (W1.setCell ⟨B, 2, none⟩ (.int .u64 u)).drew from (HCW.out.setCell (a := ⟨B, 2, none⟩) (.inr (by simp only; rw [HB.out]; exact Nat.le_refl _)) (.int .u64 u)).drew)
      have r2' : W1.cell? ⟨b', o' + k * 3 + 2, none⟩ = some (.int .u64 r.hi) := HRC.out _ _ _ r2
      have HCX := Lib.hid (show Chg [] w W1 from HCW.out)
      clear HB0 HB1 HCW r2
      go_still_tail 10, (by kernel_rfl)
      change wpList _ _ _ _ _ (World.drew _)
      go_wp2
      refine bodyPost_ret (v := .agg #[.int .i64 s.x, .int .u64 s.lo, .int .u64 u]) (by simp [results, Try.results85, go_sem, z0, z1, z2]) rfl ⟨by rw [HLO.out, HHI.out], ?_⟩
      have hB0 : w.heap.size ≤ B := by rw [HB.out]; exact Nat.le_refl _
      have hB1 : w.heap.size ≤ B + 1 := by omega
      repeat (first | exact HCX.out | apply Chg.drew | (refine Chg.setCell ?_ (.inr (by simp only; first | exact hB0 | exact hB1)) _))
    · have hd2 : decide (k < n) = false := decide_eq_false hkn
      have HHI := Lib.hid (show hiM l s k = s.hi + totS l from by
        rw [hiM, if_neg (by rw [← HN.out]; exact hkn)])
      have ht := HTB.out
      obtain ⟨u, hu⟩ : ∃ u, u = s.hi + totS l := ⟨_, rfl⟩
      have g6 : IntKind.u64.wrap ((s.hi : Int) + (totS l : Int)) = (u : Int) := by rw [show (s.hi : Int) + (totS l : Int) = (u : Int) from by omega]; exact IntWalk.u64_in _ (by omega)
      rw [← hu] at HHI
      clear hu
      go_wp2
      rw [← HB.out]
      generalize ((w.alloc (.cells #[.int .i64 s.x, .int .u64 s.lo, .int .u64 s.hi] 108)).alloc (.cells #[.int .i64 0, .int .u64 0, .int .u64 0] 108)) = W1 at *
      have hd0 := HB0.out.cell 2
      have hf0 := HB0.out.free 2
      have b0 := HB0.out.cell 0
      have b1 := HB0.out.cell 1
      have z0 := HB1.out.cell 0
      have z1 := HB1.out.cell 1
      have z2 := HB1.out.cell 2
      have zf0 := HB1.out.free 0
      have zf1 := HB1.out.free 1
      have zf2 := HB1.out.free 2
      have HRW := Lib.hid (show Rd W1 3 (.slice ao n cap) n (spCells l) from HRR.out)
      have HCX := Lib.hid (show Chg [] w W1 from HCW.out)
      have HTT := Lib.hid (fun W' (h : ∀ a, W'.cell? a = W1.cell? a) => ref18_total' W' ao cap l n HN.out (rd_eq HRW.out h) hl)
      clear HB0 HB1 HCW
      generalize totS l = tl at *
      go_region_with (first | (go_at_call 68; refine (HTT.out _ (fun a => by simp)).mono ?_; rintro e w' ⟨rfl, rfl⟩))
      all_goals
        go_wp2
        refine bodyPost_ret (v := .agg #[.int .i64 s.x, .int .u64 s.lo, .int .u64 u]) (by simp [results, Try.results85, go_sem, z0, z1, z2]) rfl ⟨by rw [HLO.out, HHI.out], ?_⟩
        have hB0 : w.heap.size ≤ B := by rw [HB.out]; exact Nat.le_refl _
        have hB1 : w.heap.size ≤ B + 1 := by omega
        repeat (first | exact HCX.out | apply Chg.drew | (refine Chg.setCell ?_ (.inr (by simp only; first | exact hB0 | exact hB1)) _))
end Go.Proofs.Ytkcldhimjnehdaa

namespace Go.Proofs.Ytkcldhimjnehdaa
open Go.RowKit

def lastLo (l : List Sp) (k : Nat) : Nat := if k = 0 then 0 else (l.getD (k - 1) default).lo
theorem lastLo_all (l : List Sp) : lastLo l l.length = totS l := by
  cases l with
  | nil => rfl
  | cons s l =>
    rw [lastLo, if_neg (by simp), totS, List.getLast?_eq_getElem?]
    simp [List.getD]
theorem lastLo_succ (l : List Sp) (k : Nat) (h : k < l.length) : lastLo l (k + 1) = l[k].lo := by
  rw [lastLo, if_neg (by omega)]
  simp [List.getD, h]
theorem loM_last (l : List Sp) (s : Sp) (k : Nat) : loM l s k = s.lo + lastLo l k := by
  rw [loM, lastLo]
  split <;> rfl
theorem mrg_head_a {a b : List Sp} {i k : Nat} (hi : i < a.length) (hk : k ≤ b.length) (h : k = b.length ∨ ∃ hk : k < b.length, a[i].x ≤ b[k].x) :
    mrgS (lastLo a i) (lastLo b k) (a.drop i) (b.drop k) = movedS b a[i] k :: mrgS (lastLo a (i + 1)) (lastLo b k) (a.drop (i + 1)) (b.drop k) := by
  rw [List.drop_eq_getElem_cons hi, lastLo_succ a i hi]
  rcases h with rfl | ⟨hk', hle⟩
  · rw [List.drop_length, mrgS, movedS, loM_last, hiM, if_neg (by omega), lastLo_all]
  · rw [List.drop_eq_getElem_cons hk', mrgS, if_pos hle, movedS, loM_last, hiM, if_pos hk']
    simp [List.getD, hk']
theorem mrg_head_b {a b : List Sp} {i k : Nat} (hi : i ≤ a.length) (hk : k < b.length) (h : i = a.length ∨ ∃ hi : i < a.length, ¬ a[i].x ≤ b[k].x) :
    mrgS (lastLo a i) (lastLo b k) (a.drop i) (b.drop k) = movedS a b[k] i :: mrgS (lastLo a i) (lastLo b (k + 1)) (a.drop i) (b.drop (k + 1)) := by
  rw [List.drop_eq_getElem_cons hk, lastLo_succ b k hk]
  rcases h with rfl | ⟨hi', hle⟩
  · rw [List.drop_length, mrgS, movedS, loM_last, hiM, if_neg (by omega), lastLo_all]
  · rw [List.drop_eq_getElem_cons hi', mrgS, if_neg hle, movedS, loM_last, hiM, if_pos hi']
    simp [List.getD, hi']

set_option maxRecDepth 100000 in
set_option maxHeartbeats 4000000 in
theorem ref18_merge (w : World) (ao : Option Addr) (cap : Nat) (a : List Sp) (bo : Option Addr) (bcap : Nat) (b : List Sp) (n m : Nat) (hn : n = a.length) (hm : m = b.length)
    (hra : Rd w 3 (.slice ao n cap) n (spCells a)) (hrb : Rd w 3 (.slice bo m bcap) m (spCells b)) (hla : n ≤ 40000) (hlb : m ≤ 40000)
    (hba : ∀ s ∈ a, s.lo ≤ 4611686018427387904 ∧ s.hi ≤ 4611686018427387904 ∧ 1 ≤ s.hi) (hbb : ∀ s ∈ b, s.lo ≤ 4611686018427387904 ∧ s.hi ≤ 4611686018427387904 ∧ 1 ≤ s.hi) :
    Calls Try.prog 66 #[.slice ao n cap, .slice bo m bcap] w fun e w' => ∃ a3 c3, e = .returned (.slice a3 (n + m) c3) ∧
      Own w' 108 3 (.slice a3 (n + m) c3) (n + m) (spCells (mrgS 0 0 a b)) ∧ Chg [] w w' ∧ ∀ b ∈ abl a3, w.heap.size ≤ b := by
  have HN := Lib.hid hn
  have HM := Lib.hid hm
  have HRA := Lib.hid hra
  have HRB := Lib.hid hrb
  have HBA := Lib.hid hba
  have HBB := Lib.hid hbb
  clear hn hm hra hrb hba hbb
  go_enter Try.func66, Try.ntmps66
  go_wp2
  go_loopw [5, 6, 7] (fun out i k wx => ∃ (x y q : Nat) (O : List Sp) (a3 : Option Addr) (c3 : Nat), out = .slice a3 q c3 ∧ i = .int .i64 (x : Nat) ∧ k = .int .i64 (y : Nat) ∧ x ≤ n ∧ y ≤ m ∧ q = x + y ∧
    Hid (O ++ mrgS (lastLo a x) (lastLo b y) (a.drop x) (b.drop y) = mrgS 0 0 a b) ∧ Own wx 108 3 (.slice a3 q c3) q (spCells O) ∧ Chg [] w wx ∧ Hid (∀ b ∈ abl a3, w.heap.size ≤ b)) (fun _ i k _ => n + m - (intOf i).toNat - (intOf k).toNat)
  case atStart => exact ⟨0, 0, 0, [], none, 0, rfl, rfl, rfl, Nat.zero_le _, Nat.zero_le _, rfl, Lib.hid rfl, Own.nil _ _ _, Chg.refl _ _, Lib.hid (by simp [abl])⟩
  case round =>
    obtain ⟨x, y, q, O, a3, c3, rfl, rfl, rfl, hx, hy, hq, HX, ho, hch, HA⟩ := hrel
    have HQ := Lib.hid hq
    have hq8 : q ≤ 80000 := by omega
    clear hq
    have hxi : (0 : Int) ≤ (x : Int) := by omega
    have hyi : (0 : Int) ≤ (y : Int) := by omega
    by_cases hxn : x < n
    · have hdx : decide (x < n) = true := decide_eq_true hxn
      have hxni : (x : Int) < (n : Int) := by omega
      have hra1 := HRA.out.chg hch (by simp)
      obtain ⟨g, o, rfl, hc⟩ := hra1.addr (by omega)
      have hxl : x < a.length := by have := HN.out; omega
      obtain ⟨c0, c1, c2⟩ := sp_at (l := a) (fun j hj => hc j (by rw [← HN.out] at hj; exact hj)) hxl
      have hba := HBA.out _ (List.getElem_mem hxl)
      by_cases hym : y < m
      · have hdy : decide (y < m) = true := decide_eq_true hym
        have hymi : (y : Int) < (m : Int) := by omega
        have heq : ((y : Int) == (m : Int)) = false := by rw [beq_eq_false_iff_ne]; omega
        have hrb1 := HRB.out.chg hch (by simp)
        obtain ⟨g', o', rfl, hc'⟩ := hrb1.addr (by omega)
        have hyl : y < b.length := by have := HM.out; omega
        obtain ⟨d0, d1, d2⟩ := sp_at (l := b) (fun j hj => hc' j (by rw [← HM.out] at hj; exact hj)) hyl
        have hbb := HBB.out _ (List.getElem_mem hyl)
        by_cases hle : a[x].x ≤ b[y].x
        · have HH := Lib.hid (mrg_head_a hxl (show y ≤ b.length by omega) (.inr ⟨hyl, hle⟩))
          have hdl : decide (a[x].x ≤ b[y].x) = true := decide_eq_true hle
          generalize a[x] = s at *
          generalize b[y] = t at *
          clear hc hc' hra1 hrb1 hle hxl hyl
          have HMV := Lib.hid (fun W (h : Chg [] w W) => ref18_moved W (some ⟨g', o', none⟩) bcap b s y m HM.out (by omega) (HRB.out.chg h (by simp)) (by omega) (fun t ht => ⟨(HBB.out t ht).1, (HBB.out t ht).2.1⟩) hba)
          obtain ⟨ql, hql⟩ : ∃ ql, ql = loM b s y := ⟨_, rfl⟩
          obtain ⟨qh, hqh⟩ : ∃ qh, qh = hiM b s y := ⟨_, rfl⟩
          rw [movedS, ← hql, ← hqh] at HH
          rw [← hql, ← hqh] at HMV
          clear hql hqh
          go_wp2
          go_quiet (fail)
          go_wp2_with fail
          refine (HMV.out _ (hch.drewN nq)).mono ?_
          rintro e w2 ⟨rfl, hc2⟩
          have hch2 := (hch.drewN nq).trans hc2
          have ho2 : Own w2 108 3 _ _ _ := (show Own (wr.drewN nq) 108 3 (.slice a3 q c3) q (spCells O) from ho.chg ((Chg.refl [] wr).drewN nq) (by simp)).chg hc2 (by simp)
          have hsz := hch2.size
          have hrd : Rd (w2.alloc (.cells #[.int .i64 s.x, .int .u64 ql, .int .u64 qh] 108)) 3 (.slice (some ⟨w2.heap.size, 0, none⟩) 1 1) 1 (spCells [⟨s.x, ql, qh⟩]) := Rd.lit w2 #[.int .i64 s.x, .int .u64 ql, .int .u64 qh] 108 3 1 1 rfl
          have HC2 := Lib.hid (hch2.alloc (.cells #[.int .i64 s.x, .int .u64 ql, .int .u64 qh] 108))
          clear ho hch hc2 HMV hch2 c0 c1 c2 d0 d1 d2
          go_wp2_with (at_builtin; go_must (refine wpList_append_src _ rfl (.tmp 41) (.tmp 49) 88 88 rfl 108 _ 3 24 under_spots info_spot rfl (by decide) (.slice a3 q c3) q (spCells O) rfl (ho2.alloc _) (.slice (some ⟨w2.heap.size, 0, none⟩) 1 1) 1 (spCells [⟨s.x, ql, qh⟩]) rfl (Src.of_rd under_spots hrd) (spCells_oneCell _) (by unfold maxLen; omega) (by omega) ?_; intro a7 c7 w7 ho7 hg7 hf7))
          refine ⟨⟨x + 1, y, q + 1, O ++ [⟨s.x, ql, qh⟩], a7, c7, rfl, by go_num, rfl, by omega, by omega, by have := HQ.out; omega, Lib.hid (by rw [List.append_assoc, List.singleton_append, ← HH.out]; exact HX.out), by rw [spCells_append]; exact ho7, HC2.out.trans' hg7 (fun b hb => .inr (HA.out b (by simpa using hb))), Lib.hid (fun b hb => ?_)⟩, by simp [intOf]; omega⟩
          rcases hf7 b hb with h | h
          · exact HA.out b (by simpa using h)
          · simp at h; omega
        · have HH := Lib.hid (mrg_head_b (show x ≤ a.length by omega) hyl (.inr ⟨hxl, hle⟩))
          have hdl : decide (a[x].x ≤ b[y].x) = false := decide_eq_false hle
          generalize a[x] = s at *
          generalize b[y] = t at *
          clear hc hc' hra1 hrb1 hle hxl hyl
          have HMV := Lib.hid (fun W (h : Chg [] w W) => ref18_moved W (some ⟨g, o, none⟩) cap a t x n HN.out (by omega) (HRA.out.chg h (by simp)) (by omega) (fun t ht => ⟨(HBA.out t ht).1, (HBA.out t ht).2.1⟩) hbb)
          obtain ⟨ql, hql⟩ : ∃ ql, ql = loM a t x := ⟨_, rfl⟩
          obtain ⟨qh, hqh⟩ : ∃ qh, qh = hiM a t x := ⟨_, rfl⟩
          rw [movedS, ← hql, ← hqh] at HH
          rw [← hql, ← hqh] at HMV
          clear hql hqh
          go_wp2
          go_quiet (fail)
          go_wp2_with fail
          refine (HMV.out _ (hch.drewN nq)).mono ?_
          rintro e w2 ⟨rfl, hc2⟩
          have hch2 := (hch.drewN nq).trans hc2
          have ho2 : Own w2 108 3 _ _ _ := (show Own (wr.drewN nq) 108 3 (.slice a3 q c3) q (spCells O) from ho.chg ((Chg.refl [] wr).drewN nq) (by simp)).chg hc2 (by simp)
          have hsz := hch2.size
          have hrd : Rd (w2.alloc (.cells #[.int .i64 t.x, .int .u64 ql, .int .u64 qh] 108)) 3 (.slice (some ⟨w2.heap.size, 0, none⟩) 1 1) 1 (spCells [⟨t.x, ql, qh⟩]) := Rd.lit w2 #[.int .i64 t.x, .int .u64 ql, .int .u64 qh] 108 3 1 1 rfl
          have HC2 := Lib.hid (hch2.alloc (.cells #[.int .i64 t.x, .int .u64 ql, .int .u64 qh] 108))
          clear ho hch hc2 HMV hch2 c0 c1 c2 d0 d1 d2
          go_wp2_with (at_builtin; go_must (refine wpList_append_src _ rfl (.tmp 53) (.tmp 61) 88 88 rfl 108 _ 3 24 under_spots info_spot rfl (by decide) (.slice a3 q c3) q (spCells O) rfl (ho2.alloc _) (.slice (some ⟨w2.heap.size, 0, none⟩) 1 1) 1 (spCells [⟨t.x, ql, qh⟩]) rfl (Src.of_rd under_spots hrd) (spCells_oneCell _) (by unfold maxLen; omega) (by omega) ?_; intro a7 c7 w7 ho7 hg7 hf7))
          refine ⟨⟨x, y + 1, q + 1, O ++ [⟨t.x, ql, qh⟩], a7, c7, rfl, rfl, by go_num, by omega, by omega, by have := HQ.out; omega, Lib.hid (by rw [List.append_assoc, List.singleton_append, ← HH.out]; exact HX.out), by rw [spCells_append]; exact ho7, HC2.out.trans' hg7 (fun b hb => .inr (HA.out b (by simpa using hb))), Lib.hid (fun b hb => ?_)⟩, by simp [intOf]; omega⟩
          rcases hf7 b hb with h | h
          · exact HA.out b (by simpa using h)
          · simp at h; omega
      · have hdy : decide (y < m) = false := decide_eq_false hym
        have heq : ((y : Int) == (m : Int)) = true := by rw [beq_iff_eq]; omega
        have HH := Lib.hid (mrg_head_a hxl (show y ≤ b.length by have := HM.out; omega) (.inl (by have := HM.out; omega)))
        generalize a[x] = s at *
        clear hc hra1 hxl
        have HMV := Lib.hid (fun W (h : Chg [] w W) => ref18_moved W bo bcap b s y m HM.out (by omega) (HRB.out.chg h (by simp)) (by omega) (fun t ht => ⟨(HBB.out t ht).1, (HBB.out t ht).2.1⟩) hba)
        obtain ⟨ql, hql⟩ : ∃ ql, ql = loM b s y := ⟨_, rfl⟩
        obtain ⟨qh, hqh⟩ : ∃ qh, qh = hiM b s y := ⟨_, rfl⟩
        rw [movedS, ← hql, ← hqh] at HH
        rw [← hql, ← hqh] at HMV
        clear hql hqh
        go_wp2
        go_quiet (fail)
        go_wp2_with fail
        refine (HMV.out _ (hch.drewN nq)).mono ?_
        rintro e w2 ⟨rfl, hc2⟩
        have hch2 := (hch.drewN nq).trans hc2
        have ho2 : Own w2 108 3 _ _ _ := (show Own (wr.drewN nq) 108 3 (.slice a3 q c3) q (spCells O) from ho.chg ((Chg.refl [] wr).drewN nq) (by simp)).chg hc2 (by simp)
        have hsz := hch2.size
        have hrd : Rd (w2.alloc (.cells #[.int .i64 s.x, .int .u64 ql, .int .u64 qh] 108)) 3 (.slice (some ⟨w2.heap.size, 0, none⟩) 1 1) 1 (spCells [⟨s.x, ql, qh⟩]) := Rd.lit w2 #[.int .i64 s.x, .int .u64 ql, .int .u64 qh] 108 3 1 1 rfl
        have HC2 := Lib.hid (hch2.alloc (.cells #[.int .i64 s.x, .int .u64 ql, .int .u64 qh] 108))
        clear ho hch hc2 HMV hch2 c0 c1 c2
        go_wp2_with (at_builtin; go_must (refine wpList_append_src _ rfl (.tmp 41) (.tmp 49) 88 88 rfl 108 _ 3 24 under_spots info_spot rfl (by decide) (.slice a3 q c3) q (spCells O) rfl (ho2.alloc _) (.slice (some ⟨w2.heap.size, 0, none⟩) 1 1) 1 (spCells [⟨s.x, ql, qh⟩]) rfl (Src.of_rd under_spots hrd) (spCells_oneCell _) (by unfold maxLen; omega) (by omega) ?_; intro a7 c7 w7 ho7 hg7 hf7))
        refine ⟨⟨x + 1, y, q + 1, O ++ [⟨s.x, ql, qh⟩], a7, c7, rfl, by go_num, rfl, by omega, by omega, by have := HQ.out; omega, Lib.hid (by rw [List.append_assoc, List.singleton_append, ← HH.out]; exact HX.out), by rw [spCells_append]; exact ho7, HC2.out.trans' hg7 (fun b hb => .inr (HA.out b (by simpa using hb))), Lib.hid (fun b hb => ?_)⟩, by simp [intOf]; omega⟩
        rcases hf7 b hb with h | h
        · exact HA.out b (by simpa using h)
        · simp at h; omega
    · have hdx : decide (x < n) = false := decide_eq_false hxn
      by_cases hym : y < m
      · have hdy : decide (y < m) = true := decide_eq_true hym
        have hymi : (y : Int) < (m : Int) := by omega
        have heq : ((y : Int) == (m : Int)) = false := by rw [beq_eq_false_iff_ne]; omega
        have hrb1 := HRB.out.chg hch (by simp)
        obtain ⟨g', o', rfl, hc'⟩ := hrb1.addr (by omega)
        have hyl : y < b.length := by have := HM.out; omega
        obtain ⟨d0, d1, d2⟩ := sp_at (l := b) (fun j hj => hc' j (by rw [← HM.out] at hj; exact hj)) hyl
        have hbb := HBB.out _ (List.getElem_mem hyl)
        have HH := Lib.hid (mrg_head_b (show x ≤ a.length by have := HN.out; omega) hyl (.inl (by have := HN.out; omega)))
        generalize b[y] = t at *
        clear hc' hrb1 hyl
        have HMV := Lib.hid (fun W (h : Chg [] w W) => ref18_moved W ao cap a t x n HN.out (by omega) (HRA.out.chg h (by simp)) (by omega) (fun t ht => ⟨(HBA.out t ht).1, (HBA.out t ht).2.1⟩) hbb)
        obtain ⟨ql, hql⟩ : ∃ ql, ql = loM a t x := ⟨_, rfl⟩
        obtain ⟨qh, hqh⟩ : ∃ qh, qh = hiM a t x := ⟨_, rfl⟩
        rw [movedS, ← hql, ← hqh] at HH
        rw [← hql, ← hqh] at HMV
        clear hql hqh
        go_wp2
        go_quiet (fail)
        go_wp2_with fail
        refine (HMV.out _ (hch.drewN nq)).mono ?_
        rintro e w2 ⟨rfl, hc2⟩
        have hch2 := (hch.drewN nq).trans hc2
        have ho2 : Own w2 108 3 _ _ _ := (show Own (wr.drewN nq) 108 3 (.slice a3 q c3) q (spCells O) from ho.chg ((Chg.refl [] wr).drewN nq) (by simp)).chg hc2 (by simp)
        have hsz := hch2.size
        have hrd : Rd (w2.alloc (.cells #[.int .i64 t.x, .int .u64 ql, .int .u64 qh] 108)) 3 (.slice (some ⟨w2.heap.size, 0, none⟩) 1 1) 1 (spCells [⟨t.x, ql, qh⟩]) := Rd.lit w2 #[.int .i64 t.x, .int .u64 ql, .int .u64 qh] 108 3 1 1 rfl
        have HC2 := Lib.hid (hch2.alloc (.cells #[.int .i64 t.x, .int .u64 ql, .int .u64 qh] 108))
        clear ho hch hc2 HMV hch2 d0 d1 d2
        go_wp2_with (at_builtin; go_must (refine wpList_append_src _ rfl (.tmp 53) (.tmp 61) 88 88 rfl 108 _ 3 24 under_spots info_spot rfl (by decide) (.slice a3 q c3) q (spCells O) rfl (ho2.alloc _) (.slice (some ⟨w2.heap.size, 0, none⟩) 1 1) 1 (spCells [⟨t.x, ql, qh⟩]) rfl (Src.of_rd under_spots hrd) (spCells_oneCell _) (by unfold maxLen; omega) (by omega) ?_; intro a7 c7 w7 ho7 hg7 hf7))
        refine ⟨⟨x, y + 1, q + 1, O ++ [⟨t.x, ql, qh⟩], a7, c7, rfl, rfl, by go_num, by omega, by omega, by have := HQ.out; omega, Lib.hid (by rw [List.append_assoc, List.singleton_append, ← HH.out]; exact HX.out), by rw [spCells_append]; exact ho7, HC2.out.trans' hg7 (fun b hb => .inr (HA.out b (by simpa using hb))), Lib.hid (fun b hb => ?_)⟩, by simp [intOf]; omega⟩
        rcases hf7 b hb with h | h
        · exact HA.out b (by simpa using h)
        · simp at h; omega
      · obtain rfl : x = n := by omega
        obtain rfl : y = m := by omega
        have hdy : decide (y < y) = false := decide_eq_false hym
        have hqe : q = x + y := HQ.out
        have hxe := HX.out
        rw [HN.out, HM.out, List.drop_length, List.drop_length, mrgS, List.append_nil] at hxe
        have HE := Lib.hid hxe
        subst hqe
        clear hxe HX
        go_wp2
        go_ret
        rw [← HE.out]
        exact ⟨a3, c3, rfl, ho, hch, HA.out⟩
end Go.Proofs.Ytkcldhimjnehdaa
