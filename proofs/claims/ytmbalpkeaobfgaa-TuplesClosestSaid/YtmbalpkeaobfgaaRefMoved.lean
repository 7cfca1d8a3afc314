/-
  The walk of the reference's moved. Conditions: the form's own reach.
-/
import Derived.Test.YtmbalpkeaobfgaaRefTup1
import Derived.StillTailTactics
namespace Go.Proofs.Ytmbalpkeaobfgaa
open Go.RowKit

/-- A spot among those of another list, of which so many stand ahead. -/
def loM (o : List Sp) (s : Sp) (k : Nat) : Nat := if k = 0 then s.lo else s.lo + (o.getD (k - 1) default).lo
def hiM (o : List Sp) (s : Sp) (k : Nat) : Nat := if k < o.length then s.hi + (o.getD k default).hi - 1 else s.hi + totS o
def movedS (o : List Sp) (s : Sp) (k : Nat) : Sp := ⟨s.x, loM o s k, hiM o s k⟩

theorem ref18_total' (w : World) (ao : Option Addr) (cap : Nat) (l : List Sp) (n : Nat) (hn : n = l.length) (hr : Rd w 3 (.slice ao n cap) n (spCells l)) (hl : n ≤ 40000) :
    Calls Try.prog 16 #[.slice ao n cap] w fun e w' => e = .returned (.int .u64 (totS l : Nat)) ∧ w = w' := by
  subst hn
  exact ref18_total w ao cap l hr (by omega)
theorem rd_eq {w w' : World} {size n : Nat} {v : Value} {xs : List Value} (h : Rd w size v n xs) (he : ∀ a, w'.cell? a = w.cell? a) : Rd w' size v n xs := by
  obtain ⟨h1, ao, cap, rfl, h2⟩ := h
  refine ⟨h1, ao, cap, rfl, ?_⟩
  rcases h2 with h2 | ⟨b, o, rfl, hc⟩
  · exact .inl h2
  · exact .inr ⟨b, o, rfl, fun j hj => by rw [he]; exact hc j hj⟩
theorem Rd.blk_lt {w : World} {size b o n c : Nat} {xs : List Value} (h : Rd w size (.slice (some ⟨b, o, none⟩) n c) n xs) (hn : 0 < n) (hs : 0 < size) : b < w.heap.size := by
  obtain ⟨b', o', hb, hc⟩ := h.addr hn
  simp only [Option.some.injEq, Addr.mk.injEq, and_true] at hb
  obtain ⟨rfl, rfl⟩ := hb
  have h0 := hc 0 (Nat.mul_pos hn hs)
  have h1 : 0 < xs.length := by rw [h.1]; exact Nat.mul_pos hn hs
  rw [List.getElem?_eq_getElem h1] at h0
  exact World.block_lt_of_cell? w _ h0

set_option maxRecDepth 100000 in
set_option maxHeartbeats 2000000 in
theorem ref18_moved (w : World) (ao : Option Addr) (cap : Nat) (l : List Sp) (s : Sp) (k n : Nat) (hn : n = l.length) (hk : k ≤ n) (hr : Rd w 3 (.slice ao n cap) n (spCells l)) (hl : n ≤ 40000)
    (hbd : ∀ t ∈ l, t.lo ≤ 4611686018427387904 ∧ t.hi ≤ 4611686018427387904) (hs : s.lo ≤ 4611686018427387904 ∧ s.hi ≤ 4611686018427387904 ∧ 1 ≤ s.hi) :
    Calls Try.prog 39 #[.agg #[.int .i64 s.x, .int .u64 s.lo, .int .u64 s.hi], .slice ao n cap, .int .i64 k] w fun e w' =>
      e = .returned (.agg #[.int .i64 s.x, .int .u64 (loM l s k), .int .u64 (hiM l s k)]) ∧ Chg [] w w' := by
  have HBD := Lib.hid hbd
  have HN := Lib.hid hn
  have hW0 := (Chg.refl [] w).alloc (.cells #[.int .i64 s.x, .int .u64 s.lo, .int .u64 s.hi] 41) |>.alloc (.cells #[.int .i64 0, .int .u64 0, .int .u64 0] 41)
  have hb0 := (Blk.alloc_new w #[.int .i64 s.x, .int .u64 s.lo, .int .u64 s.hi] 41).alloc (.cells #[.int .i64 0, .int .u64 0, .int .u64 0] 41)
  have hb1 := Blk.alloc_new (w.alloc (.cells #[.int .i64 s.x, .int .u64 s.lo, .int .u64 s.hi] 41)) #[.int .i64 0, .int .u64 0, .int .u64 0] 41
  rw [World.size_alloc] at hb1
  have hr0 := hr.chg hW0 (by simp)
  have hTB : totS l ≤ 4611686018427387904 := by
    cases hll : l.getLast? with
    | none => rw [totS, hll]; exact Nat.zero_le _
    | some s => rw [totS, hll]; exact (hbd s (List.mem_of_getLast? hll)).1
  have HTB := Lib.hid hTB
  have HW0 := Lib.hid hW0
  have HOLD := Lib.hid (fun b o (h : ao = some ⟨b, o, none⟩) (h0 : 0 < n) => (show Rd w 3 (.slice (some ⟨b, o, none⟩) n cap) n (spCells l) from h ▸ hr).blk_lt h0 (by omega))
  clear hbd hn hr hTB
  obtain ⟨B, hB⟩ : ∃ B, B = w.heap.size := ⟨_, rfl⟩
  have HB := Lib.hid hB
  rw [← hB] at hb0 hb1
  clear hB
  have hne : B ≠ B + 1 := by omega
  have hk0i : (0 : Int) ≤ (k : Int) := by omega
  go_enter Try.func39, Try.ntmps39
  by_cases hk0 : 0 < k
  · have hd1 : decide ((0 : Int) < (k : Int)) = true := decide_eq_true (by omega)
    have HR0 := Lib.hid hr0
    obtain ⟨b, o, rfl, hc⟩ := hr0.addr (by omega)
    have hc' := fun j (hj : j < l.length * 3) => hc j (by rw [← HN.out] at hj; exact hj)
    obtain ⟨q0, q1, q2⟩ := sp_at (l := l) hc' (show k - 1 < l.length by rw [← HN.out]; omega)
    have hq := HBD.out _ (List.getElem_mem (show k - 1 < l.length by rw [← HN.out]; omega))
    have HLO := Lib.hid (show loM l s k = s.lo + (l[k - 1]'(by rw [← HN.out]; omega)).lo from by
      have : k - 1 < l.length := by rw [← HN.out]; omega
      rw [loM, if_neg (by omega)]
      simp [List.getD, this])
    generalize l[k - 1]'(by rw [← HN.out]; omega) = q at *
    have e1 : IntKind.i64.wrap ((k - 1 : Nat) : Int) = ((k - 1 : Nat) : Int) := IntWalk.i64_in _ (by omega)
    have e2 : (0 : Int) ≤ ((k - 1 : Nat) : Int) := by omega
    have e3 : ((k - 1 : Nat) : Int) < (n : Int) := by omega
    have e4 : (k : Int) - 1 = ((k - 1 : Nat) : Int) := by omega
    generalize k - 1 = m1 at *
    obtain ⟨v, hv⟩ : ∃ v, v = s.lo + q.lo := ⟨_, rfl⟩
    have e5 : IntKind.u64.wrap ((s.lo : Int) + (q.lo : Int)) = (v : Int) := by rw [show (s.lo : Int) + (q.lo : Int) = (v : Int) from by omega]; exact IntWalk.u64_in _ (by omega)
    rw [← hv] at HLO
    go_wp2
    rw [← HB.out]
    generalize ((w.alloc (.cells #[.int .i64 s.x, .int .u64 s.lo, .int .u64 s.hi] 41)).alloc (.cells #[.int .i64 0, .int .u64 0, .int .u64 0] 41)) = W at *
    have hd0 := hb0.cell 1
    have hf0 := hb0.free 1
    have HB0 := Lib.hid (show Blk (W.setCell ⟨B, 1, none⟩ (.int .u64 v)).drew B #[.int .i64 s.x, .int .u64 v, .int .u64 s.hi] 41 from hb0.setCell 1 (.int .u64 v))
    have HB1 := Lib.hid (show Blk (W.setCell ⟨B, 1, none⟩ (.int .u64 v)).drew (B + 1) _ _ from hb1.setCell_other (a := ⟨B, 1, none⟩) (by simp) (.int .u64 v))
    have HCW := Lib.hid (show Chg [] w (W.setCell ⟨B, 1, none⟩ (.int .u64 v)).drew from (hW0.setCell (a := ⟨B, 1, none⟩) (.inr (by simp only; rw [HB.out]; exact Nat.le_refl _)) (.int .u64 v)).drew)
    have hbB : b ≠ B := fun h => by
      have h1 := HOLD.out b o rfl (by omega)
      have h2 := HB.out
      omega
    have HRC := Lib.hid (show ∀ (j : Nat) (x : Value), W.cell? ⟨b, j, none⟩ = some x → (W.setCell ⟨B, 1, none⟩ (.int .u64 v)).drew.cell? ⟨b, j, none⟩ = some x from fun j x hx => ((Chg.refl [B] W).setCell (a := ⟨B, 1, none⟩) (.inl (by simp)) (.int .u64 v)).cell hx (by simpa using hbB))
    have HRR := Lib.hid (HR0.out.chg (show Chg [B] W (W.setCell ⟨B, 1, none⟩ (.int .u64 v)).drew from ((Chg.refl [B] W).setCell (a := ⟨B, 1, none⟩) (.inl (by simp)) (.int .u64 v)).drew) (by simpa using hbB))
    clear hc hc' q0 q2 hv hb0 hb1 hr0 hbB hW0
    go_still_tail 10, (by kernel_rfl)
    change wpList _ _ _ _ _ (World.drew _)
    by_cases hkn : k < n
    · have hd2 : decide (k < n) = true := decide_eq_true hkn
      obtain ⟨b', o', hbo, hc⟩ := HR0.out.addr (by omega)
      have hc' := fun j (hj : j < l.length * 3) => hc j (by rw [← HN.out] at hj; exact hj)
      have hkl : k < l.length := by rw [← HN.out]; exact hkn
      obtain ⟨r0, r1, r2⟩ := sp_at (l := l) hc' hkl
      have hr := HBD.out _ (List.getElem_mem hkl)
      have HHI := Lib.hid (show hiM l s k = s.hi + l[k].hi - 1 from by
        rw [hiM, if_pos hkl]
        simp [List.getD, hkl])
      generalize l[k] = r at *
      simp only [Option.some.injEq, Addr.mk.injEq, and_true] at hbo
      obtain ⟨rfl, rfl⟩ := hbo
      have g1 : (k : Int) < (n : Int) := by omega
      obtain ⟨u, hu⟩ : ∃ u, u = s.hi + r.hi - 1 := ⟨_, rfl⟩
      have g5 : IntKind.u64.wrap ((s.hi : Int) + (r.hi : Int)) = (s.hi : Int) + (r.hi : Int) := IntWalk.u64_in _ (by omega)
      have g6 : IntKind.u64.wrap ((s.hi : Int) + (r.hi : Int) - 1) = (u : Int) := by rw [show (s.hi : Int) + (r.hi : Int) - 1 = (u : Int) from by omega]; exact IntWalk.u64_in _ (by omega)
      rw [← hu] at HHI
      clear r0 r1 hc hc' hu
      clear e1 e2 e3 e4 e5 q1
      go_wp2
      generalize (W.setCell ⟨B, 1, none⟩ (.int .u64 v)).drew = W1 at *
      have hd0 := HB0.out.cell 2
      have hf0 := HB0.out.free 2
      have b0 := HB0.out.cell 0
      have b1 := HB0.out.cell 1
      have z0 := HB1.out.cell 0
      have z1 := HB1.out.cell 1
      have z2 := HB1.out.cell 2
      have zf0 := HB1.out.free 0
      have zf1 := HB1.out.free 1
      have zf2 := HB1.out.free 2
      have HC0 := Lib.hid (show Blk (W1.setCell ⟨B, 2, none⟩ (.int .u64 u)).drew B #[.int .i64 s.x, .int .u64 v, .int .u64 u] 41 from (HB0.out).setCell 2 (.int .u64 u))
      have HC1 := Lib.hid (show Blk (W1.setCell ⟨B, 2, none⟩ (.int .u64 u)).drew (B + 1) _ _ from (HB1.out).setCell_other (a := ⟨B, 2, none⟩) (by simp) (.int .u64 u))
      have HCC := Lib.hid (show Chg [] w (W1.setCell ⟨B, 2, none⟩ (.int .u64 u)).drew from (HCW.out.setCell (a := ⟨B, 2, none⟩) (.inr (by simp only; rw [HB.out]; exact Nat.le_refl _)) (.int .u64 u)).drew)
      have r2' : W1.cell? ⟨b, o + k * 3 + 2, none⟩ = some (.int .u64 r.hi) := HRC.out _ _ r2
      have HCX := Lib.hid (show Chg [] w W1 from HCW.out)
      clear HB0 HB1 HCW r2
      go_still_tail 10, (by kernel_rfl)
      change wpList _ _ _ _ _ (World.drew _)
      go_wp2
      refine bodyPost_ret (v := .agg #[.int .i64 s.x, .int .u64 v, .int .u64 u]) (by simp [results, Try.results39, go_sem, z0, z1, z2]) rfl ⟨by rw [HLO.out, HHI.out], ?_⟩
      have hB0 : w.heap.size ≤ B := by rw [HB.out]; exact Nat.le_refl _
      have hB1 : w.heap.size ≤ B + 1 := by omega
      repeat (first | exact HCX.out | apply Chg.drew | (refine Chg.setCell ?_ (.inr (by simp only; first | exact hB0 | exact hB1)) _))
    · have hd2 : decide (k < n) = false := decide_eq_false hkn
      have HHI := Lib.hid (show hiM l s k = s.hi + totS l from by
        rw [hiM, if_neg (by rw [← HN.out]; exact hkn)])
      have ht := HTB.out
      obtain ⟨u, hu⟩ : ∃ u, u = s.hi + totS l := ⟨_, rfl⟩
      have g6 : IntKind.u64.wrap ((s.hi : Int) + (totS l : Int)) = (u : Int) := by rw [show (s.hi : Int) + (totS l : Int) = (u : Int) from by omega]; exact IntWalk.u64_in _ (by omega)
      rw [← hu] at HHI
      clear hu
      clear e1 e2 e3 e4 e5 q1
      go_wp2
      generalize (W.setCell ⟨B, 1, none⟩ (.int .u64 v)).drew = W1 at *
      have hd0 := HB0.out.cell 2
      have hf0 := HB0.out.free 2
      have b0 := HB0.out.cell 0
      have b1 := HB0.out.cell 1
      have z0 := HB1.out.cell 0
      have z1 := HB1.out.cell 1
      have z2 := HB1.out.cell 2
      have zf0 := HB1.out.free 0
      have zf1 := HB1.out.free 1
      have zf2 := HB1.out.free 2
      have HRW := Lib.hid (show Rd W1 3 (.slice (some ⟨b, o, none⟩) n cap) n (spCells l) from HRR.out)
      have HCX := Lib.hid (show Chg [] w W1 from HCW.out)
      have HTT := Lib.hid (fun W' (h : ∀ a, W'.cell? a = W1.cell? a) => ref18_total' W' (some ⟨b, o, none⟩) cap l n HN.out (rd_eq HRW.out h) hl)
      clear HB0 HB1 HCW
      generalize totS l = tl at *
      go_region_with (first | (go_at_call 16; refine (HTT.out _ (fun a => by simp)).mono ?_; rintro e w' ⟨rfl, rfl⟩))
      all_goals
        go_wp2
        refine bodyPost_ret (v := .agg #[.int .i64 s.x, .int .u64 v, .int .u64 u]) (by simp [results, Try.results39, go_sem, z0, z1, z2]) rfl ⟨by rw [HLO.out, HHI.out], ?_⟩
        have hB0 : w.heap.size ≤ B := by rw [HB.out]; exact Nat.le_refl _
        have hB1 : w.heap.size ≤ B + 1 := by omega
        repeat (first | exact HCX.out | apply Chg.drew | (refine Chg.setCell ?_ (.inr (by simp only; first | exact hB0 | exact hB1)) _))
  · have hd1 : decide ((0 : Int) < (k : Int)) = false := decide_eq_false (by omega)
    have HLO := Lib.hid (show loM l s k = s.lo from if_pos (by omega))
    have HR0 := Lib.hid hr0
    have HRR := Lib.hid hr0
    have HRC := Lib.hid (show ∀ (b j : Nat) (x : Value), ((w.alloc (.cells #[.int .i64 s.x, .int .u64 s.lo, .int .u64 s.hi] 41)).alloc (.cells #[.int .i64 0, .int .u64 0, .int .u64 0] 41)).cell? ⟨b, j, none⟩ = some x → ((w.alloc (.cells #[.int .i64 s.x, .int .u64 s.lo, .int .u64 s.hi] 41)).alloc (.cells #[.int .i64 0, .int .u64 0, .int .u64 0] 41)).cell? ⟨b, j, none⟩ = some x from fun b j x hx => hx)
    have HB0 := Lib.hid hb0
    have HB1 := Lib.hid hb1
    have HCW := Lib.hid hW0
    clear hb0 hb1 hr0 hW0
    by_cases hkn : k < n
    · have hd2 : decide (k < n) = true := decide_eq_true hkn
      obtain ⟨b', o', hbo, hc⟩ := HR0.out.addr (by omega)
      have hc' := fun j (hj : j < l.length * 3) => hc j (by rw [← HN.out] at hj; exact hj)
      have hkl : k < l.length := by rw [← HN.out]; exact hkn
      obtain ⟨r0, r1, r2⟩ := sp_at (l := l) hc' hkl
      have hr := HBD.out _ (List.getElem_mem hkl)
      have HHI := Lib.hid (show hiM l s k = s.hi + l[k].hi - 1 from by
        rw [hiM, if_pos hkl]
        simp [List.getD, hkl])
      generalize l[k] = r at *
      subst hbo
      have g1 : (k : Int) < (n : Int) := by omega
      obtain ⟨u, hu⟩ : ∃ u, u = s.hi + r.hi - 1 := ⟨_, rfl⟩
      have g5 : IntKind.u64.wrap ((s.hi : Int) + (r.hi : Int)) = (s.hi : Int) + (r.hi : Int) := IntWalk.u64_in _ (by omega)
      have g6 : IntKind.u64.wrap ((s.hi : Int) + (r.hi : Int) - 1) = (u : Int) := by rw [show (s.hi : Int) + (r.hi : Int) - 1 = (u : Int) from by omega]; exact IntWalk.u64_in _ (by omega)
      rw [← hu] at HHI
      clear r0 r1 hc hc' hu
      go_wp2
      rw [← HB.out]
      generalize ((w.alloc (.cells #[.int .i64 s.x, .int .u64 s.lo, .int .u64 s.hi] 41)).alloc (.cells #[.int .i64 0, .int .u64 0, .int .u64 0] 41)) = W1 at *
      have hd0 := HB0.out.cell 2
      have hf0 := HB0.out.free 2
      have b0 := HB0.out.cell 0
      have b1 := HB0.out.cell 1
      have z0 := HB1.out.cell 0
      have z1 := HB1.out.cell 1
      have z2 := HB1.out.cell 2
      have zf0 := HB1.out.free 0
      have zf1 := HB1.out.free 1
      have zf2 := HB1.out.free 2
      have HC0 := Lib.hid (show Blk (W1.setCell ⟨B, 2, none⟩ (.int .u64 u)).drew B #[.int .i64 s.x, .int .u64 s.lo, .int .u64 u] 41 from (HB0.out).setCell 2 (.int .u64 u))
      have HC1 := Lib.hid (show Blk (W1.setCell ⟨B, 2, none⟩ (.int .u64 u)).drew (B + 1) _ _ from (HB1.out).setCell_other (a := ⟨B, 2, none⟩) (by simp) (.int .u64 u))
      have HCC := Lib.hid (show Chg [] w (W1.setCell ⟨B, 2, none⟩ (.int .u64 u)).drew from (HCW.out.setCell (a := ⟨B, 2, none⟩) (.inr (by simp only; rw [HB.out]; exact Nat.le_refl _)) (.int .u64 u)).drew)
      have r2' : W1.cell? ⟨b', o' + k * 3 + 2, none⟩ = some (.int .u64 r.hi) := HRC.out _ _ _ r2
      have HCX := Lib.hid (show Chg [] w W1 from HCW.out)
      clear HB0 HB1 HCW r2
      go_still_tail 10, (by kernel_rfl)
      change wpList _ _ _ _ _ (World.drew _)
      go_wp2
      refine bodyPost_ret (v := .agg #[.int .i64 s.x, .int .u64 s.lo, .int .u64 u]) (by simp [results, Try.results39, go_sem, z0, z1, z2]) rfl ⟨by rw [HLO.out, HHI.out], ?_⟩
      have hB0 : w.heap.size ≤ B := by rw [HB.out]; exact Nat.le_refl _
      have hB1 : w.heap.size ≤ B + 1 := by omega
      repeat (first | exact HCX.out | apply Chg.drew | (refine Chg.setCell ?_ (.inr (by simp only; first | exact hB0 | exact hB1)) _))
    · have hd2 : decide (k < n) = false := decide_eq_false hkn
      have HHI := Lib.hid (show hiM l s k = s.hi + totS l from by
        rw [hiM, if_neg (by rw [← HN.out]; exact hkn)])
      have ht := HTB.out
      obtain ⟨u, hu⟩ : ∃ u, u = s.hi + totS l := ⟨_, rfl⟩
      have g6 : IntKind.u64.wrap ((s.hi : Int) + (totS l : Int)) = (u : Int) := by rw [show (s.hi : Int) + (totS l : Int) = (u : Int) from by omega]; exact IntWalk.u64_in _ (by omega)
      rw [← hu] at HHI
      clear hu
      go_wp2
      rw [← HB.out]
      generalize ((w.alloc (.cells #[.int .i64 s.x, .int .u64 s.lo, .int .u64 s.hi] 41)).alloc (.cells #[.int .i64 0, .int .u64 0, .int .u64 0] 41)) = W1 at *
      have hd0 := HB0.out.cell 2
      have hf0 := HB0.out.free 2
      have b0 := HB0.out.cell 0
      have b1 := HB0.out.cell 1
      have z0 := HB1.out.cell 0
      have z1 := HB1.out.cell 1
      have z2 := HB1.out.cell 2
      have zf0 := HB1.out.free 0
      have zf1 := HB1.out.free 1
      have zf2 := HB1.out.free 2
      have HRW := Lib.hid (show Rd W1 3 (.slice ao n cap) n (spCells l) from HRR.out)
      have HCX := Lib.hid (show Chg [] w W1 from HCW.out)
      have HTT := Lib.hid (fun W' (h : ∀ a, W'.cell? a = W1.cell? a) => ref18_total' W' ao cap l n HN.out (rd_eq HRW.out h) hl)
      clear HB0 HB1 HCW
      generalize totS l = tl at *
      go_region_with (first | (go_at_call 16; refine (HTT.out _ (fun a => by simp)).mono ?_; rintro e w' ⟨rfl, rfl⟩))
      all_goals
        go_wp2
        refine bodyPost_ret (v := .agg #[.int .i64 s.x, .int .u64 s.lo, .int .u64 u]) (by simp [results, Try.results39, go_sem, z0, z1, z2]) rfl ⟨by rw [HLO.out, HHI.out], ?_⟩
        have hB0 : w.heap.size ≤ B := by rw [HB.out]; exact Nat.le_refl _
        have hB1 : w.heap.size ≤ B + 1 := by omega
        repeat (first | exact HCX.out | apply Chg.drew | (refine Chg.setCell ?_ (.inr (by simp only; first | exact hB0 | exact hB1)) _))
end Go.Proofs.Ytmbalpkeaobfgaa
