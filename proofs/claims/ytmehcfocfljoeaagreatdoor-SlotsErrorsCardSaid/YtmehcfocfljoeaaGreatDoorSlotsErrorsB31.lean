/-
  The walk of slices.Insert at rows of tuples, one tuple put in. Conditions: the form's own reach.
  The walk of slices.Delete at rows of tuples, one tuple taken away. Conditions: the form's own reach.
-/
import Derived.Test.YtmehcfocfljoeaaGreatDoorSlotsErrorsB5
import Derived.Test.YtmehcfocfljoeaaGreatDoorSlotsErrorsB29
import Derived.Deep.RegionLaw
import Derived.Lib.Overlaps
import Derived.Lib.AppendZerosOnto
import Derived.Test.YtmehcfocfljoeaaGreatDoorSlotsErrorsB22
namespace Go.Proofs.YtmehcfocfljoeaaGreatDoor
open Go.RowKit

theorem size_lump : (Tryz.prog.info? 256).map (·.size) = some 3 := by kernel_rfl
theorem sizeOf_lump (w : World) : (Go.sizeOf 256).run Tryz.prog w = .ok 3 w := by
  obtain ⟨i0, hi0, _, hzs, _⟩ := info_parts info_lump
  simp [sizeOf, typeInfo, hi0, hzs]

/-- 'copy' into a block of the program's own: its cells, and nothing else. -/
theorem copy_blkL (w : World) (g o dLen dCap : Nat) (ROW : Array Value) (hb : Blk w g ROW 256) (ad : Addr) (sLen sCap m : Nat) (cs : List Value) (hm : m = Nat.min sLen dLen) (hn : cs.length = m * 3)
    (hsrc : ∀ j v, cs[j]? = some v → w.cell? (ad.add j) = some v) (hfit : o + cs.length ≤ ROW.size) (h1 : ∀ v ∈ cs, v.oneCell' = true) :
    ∃ w', (∀ ty, (Builtin.copy_ #[235, 235] ty #[.slice (some ⟨g, o, none⟩) dLen dCap, .slice (some ad) sLen sCap]).run Tryz.prog w = .ok (goInt m) w') ∧
      Blk w' g (ROW.toList.take o ++ cs ++ ROW.toList.drop (o + cs.length)).toArray 256 ∧ Chg [g] w w' := by
  subst hm
  refine ⟨_, fun ty => run_copy_rowK w 235 235 ty 256 3 g o dLen dCap ad sLen sCap ROW 256 cs under_lumps size_lump hb hn hsrc hfit h1, ?_, ?_⟩
  · exact setRow_heap w g ROW _ _ _ hb
  · exact (Chg.refl [g] w).setRow (.inl (by simp)) _

/-- 'append(s[:i], make(..)...)' where there is no room: a new block. -/
theorem app_zerosL (w : World) (g o cap n k at_ : Nat) (l : List Lp) (hn : n = l.length) (hat : at_ ≤ n) (hr : ∀ j, j < n * 3 → w.cell? ⟨g, o + j, none⟩ = (lpCells l)[j]?) (hk : at_ + k = n + 1) (hnc : n ≤ cap) (hc : cap < n + 1) (hl : n ≤ 100000) :
    ∃ (G : Nat) (ROW : Array Value) (w' : World), (∀ ty x, x = (k : Int) → (Builtin.append_ #[235, 3] ty #[.slice (some ⟨g, o, none⟩) at_ cap, .int .i64 x]).run Tryz.prog w = .ok (.slice (some ⟨w.heap.size, 0, none⟩) (n + 1) G) w') ∧
      Blk w' w.heap.size ROW 256 ∧ ROW.toList.take (at_ * 3) = lpCells (l.take at_) ∧ ROW.size = G * 3 ∧ n + 1 ≤ G ∧ G ≤ maxLen ∧ Chg [] w w' := by
  obtain ⟨i0, hi0, hz0, hzs, hzb⟩ := info_parts info_lump
  have htl : lpCells (l.take at_) = (lpCells l).take (at_ * 3) := by
    have e : lpCells l = lpCells (l.take at_) ++ lpCells (l.drop at_) := by rw [← lpCells_append, List.take_append_drop]
    have hlen : (lpCells (l.take at_)).length = at_ * 3 := by rw [lpCells_len, List.length_take, ← hn, Nat.min_eq_left hat]
    rw [e, ← hlen, List.take_left]
  have hold : (Builtin.firstCells i0.size at_ (.slice (some ⟨g, o, none⟩) at_ cap)).run Tryz.prog w.drew = .ok (lpCells (l.take at_)).toArray w.drew := by
    rw [hzs]
    exact run_firstCells_some w.drew 3 at_ ⟨g, o, none⟩ at_ cap _ (by rw [lpCells_len, List.length_take, ← hn, Nat.min_eq_left hat]) (fun j v hj => by
      rw [htl, List.getElem?_take] at hj
      split at hj
      · next hjl =>
        have h2 : at_ * 3 ≤ n * 3 := Nat.mul_le_mul_right 3 hat
        have := hr j (by omega)
        rw [Addr.add_lit]
        exact this.trans hj
      · simp at hj)
  have hu3 : Tryz.prog.underlying 3 = some (.int .i64) := by kernel_rfl
  have hrz := fun ty => Lib.run_append_grow_zeros w 235 3 ty 256 i0 _ .i64 .i64 under_lumps hu3 hi0 hz0 (some ⟨g, o, none⟩) at_ cap _ hold k (by omega) (by omega) (by omega) (by omega) (by rw [hzb]; omega) (by rw [hzb, hk]; exact growslice_fits hc (by omega))
  rw [hk] at hrz
  have hG1 := grownCap_ge w (n + 1) cap 256
  have hG2 := grownCap_le_maxLen w (n + 1) cap 256 (by unfold maxLen; omega)
  refine ⟨grownCap w (n + 1) cap 256, _, _, fun ty x hx => by subst hx; exact hrz ty, Blk.alloc_new w.drew _ _, ?_, ?_, hG1, hG2, (Chg.drew (Chg.refl [] w)).alloc _⟩
  · have hlen : (lpCells (l.take at_)).length = at_ * 3 := by rw [lpCells_len, List.length_take, ← hn, Nat.min_eq_left hat]
    simp only [Array.toList_append, List.append_assoc]
    rw [← hlen]
    exact List.take_left
  · have hlen : (lpCells (l.take at_)).length = at_ * 3 := by rw [lpCells_len, List.length_take, ← hn, Nat.min_eq_left hat]
    have hz : (Value.agg #[.int .u64 0, .int .i64 0, .int .i64 0]).cells.size = 3 := rfl
    simp only [Array.size_append, List.size_toArray, size_zeroCells, hz, hlen]
    omega

set_option maxRecDepth 100000 in
set_option maxHeartbeats 1000000 in
theorem insert_lump (w : World) (ao : Option Addr) (cap : Nat) (l : List Lp) (at_ : Nat) (hat : at_ ≤ l.length) (p : Lp) (vb : Nat) (hl : l.length ≤ 100000)
    (ho : Own w 256 3 (.slice ao l.length cap) l.length (lpCells l)) (hv : Blk w vb #[.int .u64 p.n, .int .i64 p.lo, .int .i64 p.hi] 256) (hvb : vb ∉ abl ao) :
    Calls Tryz.prog 442 #[.slice ao l.length cap, .int .i64 at_, .slice (some ⟨vb, 0, none⟩) 1 1] w fun e w' => ∃ a3 c3, e = .returned (.slice a3 (l.length + 1) c3) ∧
      Own w' 256 3 (.slice a3 (l.length + 1) c3) (l.length + 1) (lpCells (l.take at_ ++ [p] ++ l.drop at_)) ∧ Chg (abl ao) w w' ∧ ∀ b ∈ abl a3, b ∈ abl ao ∨ w.heap.size ≤ b := by
  have hvr : Rd w 3 (.slice (some ⟨vb, 0, none⟩) 1 1) 1 (lpCells [p]) := ⟨rfl, _, _, rfl, .inr ⟨_, _, rfl, fun j hj => by
    rw [Nat.zero_add, hv.cell j]
    simp [lpCells, Lp.cells]⟩⟩
  go_enter Tryz.func442, Tryz.ntmps442
  have hb1 : ((at_ : Nat) : Int) ≤ (l.length : Int) := by omega
  have hb0 : (0 : Int) ≤ ((at_ : Nat) : Int) := by omega
  obtain ⟨hlen, ⟨hv0, h0⟩ | ⟨g, o, cp, cur, hv1, hg, hnc, hm, hsz, hxs⟩⟩ := id ho
  · obtain rfl : l = [] := List.eq_nil_of_length_eq_zero h0
    obtain rfl : at_ = 0 := by simpa using hat
    simp only [Value.slice.injEq] at hv0
    obtain ⟨rfl, _, rfl⟩ := hv0
    have ho' : Own w 256 3 (.slice none 0 0) 0 (lpCells []) := ho
    clear ho hlen
    go_wp2_with (at_builtin; go_must (refine wpList_append_src _ rfl (.tmp 23) (.tmp 24) 235 235 rfl 256 _ 3 24 under_lumps info_lump rfl (by decide) (.slice none 0 0) 0 (lpCells []) rfl ho' (.slice (some ⟨vb, 0, none⟩) 1 1) 1 (lpCells [p]) rfl (Src.of_rd under_lumps hvr) (lpCells_oneCell _) (by decide) (by decide) ?_; intro a3 c3 w7 ho7 hg7 hf7))
    go_ret
    exact ⟨a3, c3, rfl, by simpa [lpCells] using ho7, by simpa using hg7, by simpa using hf7⟩
  · simp only [Value.slice.injEq, true_and] at hv1
    obtain ⟨rfl, rfl⟩ := hv1
    by_cases hend : at_ = l.length
    · subst hend
      have hsame : lpCells (l.take l.length ++ [p] ++ l.drop l.length) = lpCells l ++ lpCells [p] := by rw [List.take_length, List.drop_length, List.append_nil, lpCells_append]
      rw [hsame]
      clear hsame
      have HH := Lib.hid (And.intro hg (And.intro hxs hsz))
      clear hg hxs hsz hlen
      by_cases hcl : cap = l.length
      · have hcl2 := hcl
        go_wp2_with (at_builtin; go_must (refine wpList_append_src _ rfl (.tmp 23) (.tmp 24) 235 235 rfl 256 _ 3 24 under_lumps info_lump rfl (by decide) (.slice (some ⟨g, o, none⟩) l.length cap) l.length (lpCells l) rfl ho (.slice (some ⟨vb, 0, none⟩) 1 1) 1 (lpCells [p]) rfl (Src.of_rd under_lumps hvr) (lpCells_oneCell _) (by unfold maxLen; omega) (by omega) ?_; intro a3 c3 w7 ho7 hg7 hf7))
        go_ret
        exact ⟨a3, c3, rfl, ho7, by simpa using hg7, by simpa using hf7⟩
      · go_wp2_with (at_builtin; go_must (refine wpList_append_src _ rfl (.tmp 23) (.tmp 24) 235 235 rfl 256 _ 3 24 under_lumps info_lump rfl (by decide) (.slice (some ⟨g, o, none⟩) l.length cap) l.length (lpCells l) rfl ho (.slice (some ⟨vb, 0, none⟩) 1 1) 1 (lpCells [p]) rfl (Src.of_rd under_lumps hvr) (lpCells_oneCell _) (by unfold maxLen; omega) (by omega) ?_; intro a3 c3 w7 ho7 hg7 hf7))
        go_ret
        exact ⟨a3, c3, rfl, ho7, by simpa using hg7, by simpa using hf7⟩
    · have hlt : at_ < l.length := by omega
      have hvs : w.shape? vb = some (256, 3) := by
        have h := hv
        simp only [Blk] at h
        simp [World.shape?, h]
      have hgs : w.shape? g = some (256, cur.size) := by simp [World.shape?, hg]
      have hvg : vb ≠ g := fun h => hvb (by simp [h])
      have hov : ∀ off lb cb, (callFunc 444 #[.slice (some ⟨vb, 0, none⟩) 1 1, .slice (some ⟨g, off, none⟩) lb cb]).run Tryz.prog w = .ok (.value (.bool false)) w := fun off lb cb => by
        rw [run_callFunc_extern Tryz.func444 (by kernel_rfl) (by kernel_rfl) (by kernel_rfl) (e := Extern.SlicesOverlaps.overlaps #[235, 235] #[4]) (by kernel_rfl),
          Lib.run_overlaps_apart w 235 4 256 under_lumps 3 sizeOf_lump ⟨vb, 0, none⟩ ⟨g, off, none⟩ 1 1 lb cb hvg 256 256 3 cur.size hvs hgs (by omega) (hv.free 0) (hv.free 3)]
        rfl
      have hne : (at_ : Int) ≠ (l.length : Int) := by omega
      have hsplit : lpCells l = lpCells (l.take at_) ++ lpCells (l.drop at_) := by rw [← lpCells_append, List.take_append_drop]
      have hA : (lpCells (l.take at_)).length = at_ * 3 := by rw [lpCells_len, List.length_take, Nat.min_eq_left hat]
      have hB : (lpCells (l.drop at_)).length = (l.length - at_) * 3 := by rw [lpCells_len, List.length_drop]
      have hw1 : IntKind.i64.wrap ((at_ : Int) + 1) = (at_ : Int) + 1 := by rw [IntKind.wrap_i64]; omega
      have htn : ((at_ : Int) + 1).toNat = at_ + 1 := by omega
      have hp1 : (0 : Int) ≤ (at_ : Int) + 1 := by omega
      have hp2 : (at_ : Int) ≤ (l.length : Int) + 1 := by omega
      have hbk : Blk w g cur 256 := hg
      have hcell0 : ∀ j, j < l.length * 3 → w.cell? ⟨g, o + j, none⟩ = (lpCells l)[j]? := fun j hj => by
        rw [hbk.cell (o + j), ← hxs, List.getElem?_take, if_pos hj, List.getElem?_drop, Array.getElem?_toList]
      by_cases hroom : cap < l.length + 1
      · have hd : decide ((cap : Int) < (l.length : Int) + 1) = true := decide_eq_true (by omega)
        obtain ⟨G, ROW, w1, hrz, hb1', hR1, hR2, hG1, hG2, hch1⟩ := app_zerosL w g o cap l.length (l.length + 1 - at_) at_ l rfl hat hcell0 (by omega) hnc hroom hl
        have hsub : (l.length : Int) + 1 - (at_ : Int) = ((l.length + 1 - at_ : Nat) : Int) := by omega
        have hc1 : ¬ (cap = at_) := by omega
        have hc2 : ¬ (G = at_) := by omega
        have hc3 : ¬ (G = at_ + 1) := by omega
        clear hov hvs hgs
        have hgl := hbk.lt
        have hvl := hv.lt
        have hv1 := Blk.chg hv hch1 (by simp)
        have hpv : ∀ j v, (lpCells [p])[j]? = some v → w1.cell? ((⟨vb, 0, none⟩ : Addr).add j) = some v := fun j v hj => by
          rw [Addr.add_lit, Nat.zero_add, hv1.cell j, ← hj]
          simp [lpCells, Lp.cells]
        have hRl : ROW.toList.length = G * 3 := by simpa using hR2
        have hR := grow_rows 3 ROW.toList (lpCells (l.take at_)) (lpCells (l.drop at_)) (lpCells [p]) (at_ * 3) ((l.length - at_) * 3) hA hB rfl hR1 (by omega)
        obtain ⟨w2, hcp1, hb2, hch2⟩ := copy_blkL w1 w.heap.size (at_ * 3) (l.length + 1 - at_) (G - at_) ROW hb1' ⟨vb, 0, none⟩ 1 1 1 (lpCells [p]) (by show _ = min _ _; omega) rfl hpv (by show _ + 3 ≤ _; omega) (lpCells_oneCell _)
        obtain ⟨hRa, hRb, hRc⟩ := hR
        rw [show (lpCells [p]).length = 3 from rfl] at hb2
        generalize (ROW.toList.take (at_ * 3) ++ lpCells [p] ++ ROW.toList.drop (at_ * 3 + 3)) = R2 at *
        have hch02 : Chg [] w w2 := hch1.trans' hch2 (by simp)
        have hbk2 := Blk.chg hbk hch02 (by simp)
        have hcell : ∀ j v, (lpCells (l.drop at_))[j]? = some v → w2.drew.cell? ((⟨g, o + at_ * 3, none⟩ : Addr).add j) = some v := fun j v hj => by
          have hjl : j < (lpCells (l.drop at_)).length := (List.getElem?_eq_some_iff.1 hj).1
          have h1 : (lpCells l)[at_ * 3 + j]? = some v := by
            rw [hsplit, List.getElem?_append_right (by omega), hA, Nat.add_sub_cancel_left]
            exact hj
          rw [← hxs, List.getElem?_take, if_pos (by omega), List.getElem?_drop] at h1
          rw [Addr.add_lit]
          have h3 := hbk2.cell (o + at_ * 3 + j)
          rw [← Array.getElem?_toList, Nat.add_assoc] at h3
          show w2.cell? _ = _
          rw [Nat.add_assoc, h3]
          exact h1
        obtain ⟨w3, hcp2, hb3, hch3⟩ := copy_blkL w2.drew w.heap.size ((at_ + 1) * 3) (l.length - at_) (G - (at_ + 1)) R2.toArray hb2 ⟨g, o + at_ * 3, none⟩ (l.length - at_) (cap - at_) (l.length - at_) (lpCells (l.drop at_)) (by show _ = min _ _; omega) hB hcell (by have h9 : R2.toArray.size = R2.length := List.size_toArray; omega) (lpCells_oneCell _)
        have hch : Chg [] w w3 := hch02.drew.trans' hch3 (by simp)
        rw [show (at_ + 1) * 3 = at_ * 3 + 3 from by omega, hB] at hb3
        have hfin : Own w3 256 3 (.slice (some ⟨w.heap.size, 0, none⟩) (l.length + 1) G) (l.length + 1) (lpCells (l.take at_ ++ [p] ++ l.drop at_)) := by
          refine ⟨by rw [lpCells_len]; simp; omega, .inr ⟨w.heap.size, 0, G, _, rfl, hb3, by omega, hG2, ?_, ?_⟩⟩
          · simp only [List.size_toArray]
            rw [hRb, hRl]
            omega
          · simp only [List.drop_zero]
            rw [lpCells_append, lpCells_append, ← hRc]
            congr 1
            omega
        have HF := Lib.hid (And.intro hfin hch)
        have HZ := Lib.hid hrz
        clear hfin hch hb3 hRa hRb hRc hb2 hsplit hA hB hcell hpv hxs hg hcell0 hR1 hR2 hb1' hbk2 hbk hrz
        go_wp2_with (first
          | (at_builtin; go_must (refine wpList_append_runK rfl _ _ 235 3 rfl _ _ rfl rfl (HZ.out _ _ rfl) ?_))
          | (at_builtin; go_must (refine wpList_copy_rowK rfl _ _ 235 235 rfl _ _ rfl rfl (hcp1 _) ?_)))
        go_region_law (refine step_copy_rowK rfl _ _ 235 235 rfl _ _ (by simp [Act.eval, Act.put]) (by simp [Act.eval, Act.put]) (hcp2 _) ?_)
        go_wp2
        go_ret
        exact ⟨_, _, rfl, HF.out.1, by simpa using HF.out.2.nil, fun b hb => .inr (by simp at hb; omega)⟩
      · have hd : decide ((cap : Int) < (l.length : Int) + 1) = false := decide_eq_false (by omega)
        have hc1 : ¬ (cap = at_) := by omega
        have hc2 : ¬ (cap = at_ + 1) := by omega
        go_wp2_with (simp only [hov])
        have hcell : ∀ j v, (lpCells (l.drop at_))[j]? = some v → w.drew.cell? ((⟨g, o + at_ * 3, none⟩ : Addr).add j) = some v := fun j v hj => by
          have hjl : j < (lpCells (l.drop at_)).length := (List.getElem?_eq_some_iff.1 hj).1
          have h1 : (lpCells l)[at_ * 3 + j]? = some v := by
            rw [hsplit, List.getElem?_append_right (by omega), hA, Nat.add_sub_cancel_left]
            exact hj
          rw [← hxs, List.getElem?_take, if_pos (by omega), List.getElem?_drop] at h1
          rw [Addr.add_lit]
          have h2 : Blk w g cur 256 := hg
          have h3 := h2.cell (o + at_ * 3 + j)
          rw [← Array.getElem?_toList, Nat.add_assoc] at h3
          show w.cell? _ = _
          rw [Nat.add_assoc, h3]
          exact h1
        obtain ⟨w2, hcp1, hb2, hch2⟩ := copy_blkL w.drew g (o + (at_ + 1) * 3) (l.length - at_) (cap - (at_ + 1)) cur hg ⟨g, o + at_ * 3, none⟩ (l.length + 1 - at_) (cap - at_) (l.length - at_) (lpCells (l.drop at_)) (by show _ = min _ _; omega) hB hcell (by omega) (lpCells_oneCell _)
        go_region_law (refine step_copy_rowK rfl _ _ 235 235 rfl _ _ (by simp [Act.eval, Act.put]) (by simp [Act.eval, Act.put]) (hcp1 _) ?_)
        have hR := shift_rows 3 cur.toList (lpCells (l.take at_)) (lpCells (l.drop at_)) (lpCells [p]) o (at_ * 3) ((l.length - at_) * 3) (cap * 3) hA hB rfl (by rw [← hsplit, ← hxs]; congr 1; omega) (by rw [Array.length_toList]; exact hsz) (by omega)
        rw [show (at_ + 1) * 3 = at_ * 3 + 3 from by omega, hB] at hb2
        obtain ⟨hR2, hR3, hRX⟩ := hR
        generalize (cur.toList.take (o + (at_ * 3 + 3)) ++ lpCells (l.drop at_) ++ cur.toList.drop (o + (at_ * 3 + 3) + (l.length - at_) * 3)) = R2 at *
        have hv2 := Blk.chg (Blk.drew hv) hch2 (by simpa using hvg)
        have hpv : ∀ j v, (lpCells [p])[j]? = some v → w2.cell? ((⟨vb, 0, none⟩ : Addr).add j) = some v := fun j v hj => by
          rw [Addr.add_lit, Nat.zero_add, hv2.cell j, ← hj]
          simp [lpCells, Lp.cells]
        obtain ⟨w3, hcp2, hb3, hch3⟩ := copy_blkL w2 g (o + at_ * 3) (l.length + 1 - at_) (cap - at_) R2.toArray hb2 ⟨vb, 0, none⟩ 1 1 1 (lpCells [p]) (by show _ = min _ _; omega) rfl hpv (by simp only [List.size_toArray, hR2, Array.length_toList]; show _ + 3 ≤ _; omega) (lpCells_oneCell _)
        have hch : Chg [g] w w3 := ((Chg.drew (Chg.refl [g] w)).trans hch2).trans hch3
        have hfin : Own w3 256 3 (.slice (some ⟨g, o, none⟩) (l.length + 1) cap) (l.length + 1) (lpCells (l.take at_ ++ [p] ++ l.drop at_)) := by
          refine ⟨by rw [lpCells_len]; simp; omega, .inr ⟨g, o, cap, _, rfl, hb3, by omega, hm, ?_, ?_⟩⟩
          · simp only [List.size_toArray]
            show _ ≤ (R2.take (o + at_ * 3) ++ lpCells [p] ++ R2.drop (o + at_ * 3 + 3)).length
            rw [hR3, Array.length_toList]
            exact hsz
          · show (List.drop o (R2.take (o + at_ * 3) ++ lpCells [p] ++ R2.drop (o + at_ * 3 + 3))).take _ = _
            rw [lpCells_append, lpCells_append, ← hRX]
            congr 1
            omega
        have HF := Lib.hid (And.intro hfin hch)
        clear hfin hch hb3 hcp1 hR3 hRX hR2 hb2 hsplit hA hB hcell hpv hxs hg hgs hvs hov
        go_wp2_with (at_builtin; go_must (refine wpList_copy_rowK rfl _ _ 235 235 rfl _ _ rfl rfl (hcp2 _) ?_))
        go_ret
        exact ⟨_, _, rfl, HF.out.1, by simpa using HF.out.2, fun b hb => .inl hb⟩
end Go.Proofs.YtmehcfocfljoeaaGreatDoor

namespace Go.Proofs.YtmehcfocfljoeaaGreatDoor
open Go.RowKit

def z6 : List Value := [Value.int .u64 0, Value.int .i64 0, Value.int .i64 0, Value.int .u64 0, Value.int .i64 0, Value.int .i64 0]
theorem run_clear_lumps (w : World) (ty : TypeId) (g o c : Nat) (cur : Array Value) (hg : w.heap[g]? = some (.cells cur 256 (0, 0))) (hs : o + 6 ≤ cur.size) :
    (Builtin.clear_ #[235] ty #[.slice (some ⟨g, o, none⟩) 2 c]).run Tryz.prog w =
      .ok (.tuple #[]) (w.setRow g (cur.toList.take o ++ z6 ++ cur.toList.drop (o + 6)).toArray) := by
  obtain ⟨i0, hi0, hz0, hzs, hzb⟩ := info_parts info_lump
  have hst := run_storeCells_at Tryz.prog g o 256 z6 0 cur w hg (by simpa [z6] using hs) (by simp [z6, Value.oneCell'])
  have hzc : (Builtin.zeroCells (Value.agg #[.int .u64 0, .int .i64 0, .int .i64 0]).cells 2).toList = z6 := by first | rfl | kernel_rfl | (simp [Builtin.zeroCells, z6, Value.cells]; rfl)
  simp only [Nat.add_zero] at hst
  have hz6 : z6.length = 6 := rfl
  rw [hz6] at hst
  simp [Builtin.clear_, run_underlying under_lumps, zeroValue, typeInfo, hi0, hz0, hzc, hst]

set_option maxRecDepth 100000 in
set_option maxHeartbeats 1000000 in
theorem delete_lumps (w : World) (g o cap : Nat) (l : List Lp) (k : Nat) (hk : k + 1 < l.length) (hl : l.length ≤ 100000) (ho : Own w 256 3 (.slice (some ⟨g, o, none⟩) l.length cap) l.length (lpCells l)) :
    Calls Tryz.prog 440 #[.slice (some ⟨g, o, none⟩) l.length cap, .int .i64 (k : Nat), .int .i64 ((k : Int) + 2)] w fun e w' =>
      e = .returned (.slice (some ⟨g, o, none⟩) (l.length - 2) cap) ∧
      Own w' 256 3 (.slice (some ⟨g, o, none⟩) (l.length - 2) cap) (l.length - 2) (lpCells (l.take k ++ l.drop (k + 2))) ∧ Chg [g] w w' := by
  obtain ⟨hlen, ⟨hv0, _⟩ | ⟨g', o', cp, cur, hv1, hg, hnc, hm, hsz, hxs⟩⟩ := id ho
  · simp at hv0
  simp only [Value.slice.injEq, Option.some.injEq, Addr.mk.injEq, true_and, and_true] at hv1
  obtain ⟨⟨rfl, rfl⟩, rfl⟩ := hv1
  obtain ⟨oa, hoa⟩ : ∃ oa, oa = if k + 2 = cap then o else o + (k + 2) * 3 := ⟨_, rfl⟩
  have hrest0 : Rd w 3 (.slice (some ⟨g, o + (k + 2) * 3, none⟩) (l.length - (k + 2)) (cap - (k + 2))) (l.length - (k + 2)) (lpCells (l.drop (k + 2))) := by
    refine ⟨by rw [lpCells_len, List.length_drop], _, _, rfl, .inr ⟨g, o + (k + 2) * 3, rfl, fun j hj => ?_⟩⟩
    have hb : Blk w g cur 256 := hg
    rw [hb.cell, Nat.add_assoc]
    have e : lpCells l = lpCells (l.take (k + 2)) ++ lpCells (l.drop (k + 2)) := by rw [← lpCells_append, List.take_append_drop]
    have hlk : (lpCells (l.take (k + 2))).length = (k + 2) * 3 := by rw [lpCells_len, List.length_take, Nat.min_eq_left (by omega)]
    have h1 : (lpCells l)[(k + 2) * 3 + j]? = (lpCells (l.drop (k + 2)))[j]? := by
      rw [e, List.getElem?_append_right (by omega), hlk, Nat.add_sub_cancel_left]
    rw [← h1, ← hxs, List.getElem?_take, if_pos (by omega), List.getElem?_drop, Array.getElem?_toList]
  have hrest : Rd w 3 (.slice (some ⟨g, oa, none⟩) (l.length - (k + 2)) (cap - (k + 2))) (l.length - (k + 2)) (lpCells (l.drop (k + 2))) := by
    by_cases hkc : k + 2 = cap
    · refine ⟨by rw [lpCells_len, List.length_drop], _, _, rfl, .inl (by omega)⟩
    · rw [hoa, if_neg hkc]
      exact hrest0
  have hsplit : lpCells l = lpCells (l.take k) ++ lpCells [l[k], l[k + 1]] ++ lpCells (l.drop (k + 2)) := by
    rw [← lpCells_append, ← lpCells_append]
    congr 1
    rw [List.append_assoc, List.cons_append, List.singleton_append, ← List.drop_eq_getElem_cons hk, ← List.drop_eq_getElem_cons (show k < l.length by omega), List.take_append_drop]
  have hA : (lpCells (l.take k)).length = k * 3 := by rw [lpCells_len, List.length_take, Nat.min_eq_left (by omega)]
  have hB : (lpCells (l.drop (k + 2))).length = (l.length - (k + 2)) * 3 := by rw [lpCells_len, List.length_drop]
  obtain ⟨i0, hi0, _, hzs, _⟩ := info_parts info_lump
  have happ : ∀ ty, (Builtin.append_ #[235, 235] ty #[.slice (some ⟨g, o, none⟩) k cap, .slice (some ⟨g, oa, none⟩) (l.length - (k + 2)) (cap - (k + 2))]).run Tryz.prog w.drew = _ := fun ty =>
    run_append_fit w.drew 235 235 ty 256 i0 3 under_lumps hi0 hzs g o k cap cur hg _ _ _ (Src.of_rd under_lumps (show Rd w.drew 3 _ _ _ from hrest)) (lpCells_oneCell _) (by omega) hsz
  obtain ⟨C, hC⟩ : ∃ C, C = cur.toList := ⟨_, rfl⟩
  have hCl : C.length = cur.size := by rw [hC, Array.length_toList]
  have hcut := cut_rows C (lpCells (l.take k)) (lpCells [l[k], l[k + 1]]) (lpCells (l.drop (k + 2))) o (k * 3) 6 ((l.length - (k + 2)) * 3) hA hB rfl (by rw [← hsplit, ← hxs, hC]; congr 1; omega) (by omega)
  rw [hB, ← hC] at happ
  obtain ⟨hR1, hR2⟩ := hcut
  have hbR := setRow_heap w.drew g cur (C.take (o + k * 3) ++ lpCells (l.drop (k + 2)) ++ C.drop (o + k * 3 + (l.length - (k + 2)) * 3)).toArray 256 (0, 0) hg
  have hcR : Chg [g] w (w.drew.setRow g (C.take (o + k * 3) ++ lpCells (l.drop (k + 2)) ++ C.drop (o + k * 3 + (l.length - (k + 2)) * 3)).toArray) := (Chg.drew (Chg.refl [g] w)).setRow (.inl (by simp)) _
  generalize hRR : (C.take (o + k * 3) ++ lpCells (l.drop (k + 2)) ++ C.drop (o + k * 3 + (l.length - (k + 2)) * 3)) = R at *
  generalize w.drew.setRow g R.toArray = w1 at *
  have hpad := pad_rows R _ z6 o (k * 3 + (l.length - (k + 2)) * 3) 6 rfl hR2 (by have : z6.length = 6 := rfl; omega)
  obtain ⟨hP1, hP2⟩ := hpad
  have hclr := fun ty c => run_clear_lumps w1 ty g (o + (k * 3 + (l.length - (k + 2)) * 3)) c R.toArray hbR (by simp only [List.size_toArray]; omega)
  have hbP := setRow_heap w1 g R.toArray (R.take (o + (k * 3 + (l.length - (k + 2)) * 3)) ++ z6 ++ R.drop (o + (k * 3 + (l.length - (k + 2)) * 3) + 6)).toArray 256 (0, 0) hbR
  have hcP : Chg [g] w (w1.setRow g (R.take (o + (k * 3 + (l.length - (k + 2)) * 3)) ++ z6 ++ R.drop (o + (k * 3 + (l.length - (k + 2)) * 3) + 6)).toArray) := hcR.setRow (.inl (by simp)) _
  generalize hPP : (R.take (o + (k * 3 + (l.length - (k + 2)) * 3)) ++ z6 ++ R.drop (o + (k * 3 + (l.length - (k + 2)) * 3) + 6)) = PP at *
  have hfin : Own (w1.setRow g PP.toArray) 256 3 (.slice (some ⟨g, o, none⟩) (l.length - 2) cap) (l.length - 2) (lpCells (l.take k ++ l.drop (k + 2))) := by
    refine ⟨by rw [lpCells_len]; simp; omega, .inr ⟨g, o, cap, _, rfl, hbP, by omega, hm, by simp only [List.size_toArray]; omega, ?_⟩⟩
    rw [lpCells_append, ← hP2]
    congr 1
    omega
  generalize w1.setRow g PP.toArray = w2 at *
  have HF := Lib.hid (And.intro hfin hcP)
  have HA := Lib.hid happ
  have HC := Lib.hid hclr
  have hk0 : (0 : Int) ≤ (k : Int) := by omega
  have hk1 : (0 : Int) ≤ (k : Int) + 2 := by omega
  have hk2 : (k : Int) + 2 ≤ (l.length : Int) := by omega
  have hk3 : (k : Int) ≤ (l.length : Int) := by omega
  have hk4 : (k : Int) ≤ (k : Int) + 2 := by omega
  have hkne : ((k : Int) == (k : Int) + 2) = false := by simp; omega
  have htn : ((k : Int) + 2).toNat = k + 2 := by omega
  have hln : ((k + (l.length - (k + 2)) : Nat) : Int) = ((l.length - 2 : Nat) : Int) := by omega
  clear hfin hcP happ hclr hsplit hA hB hR1 hR2 hbR hcR hRR hP1 hP2 hbP hPP hxs hCl hrest hrest0 hg hm hlen hi0 hzs
  go_enter Tryz.func440, Tryz.ntmps440
  by_cases hkc : k + 2 = cap
  · rw [if_pos hkc] at hoa
    subst hkc
    subst hoa
    have hll : l.length = k + 2 := by omega
    have HA1 := Lib.hid (show ∀ ty, (Builtin.append_ #[235, 235] ty #[.slice (some ⟨g, oa, none⟩) k (k + 2), .slice (some ⟨g, oa, none⟩) 0 0]).run Tryz.prog w.drew = .ok (.slice (some ⟨g, oa, none⟩) k (k + 2)) w1 from fun ty => by
      have h := HA.out ty
      rw [show l.length - (k + 2) = 0 from by omega, show k + 2 - (k + 2) = 0 from by omega, Nat.add_zero] at h
      exact h)
    have HC1 := Lib.hid (show ∀ ty c, (Builtin.clear_ #[235] ty #[.slice (some ⟨g, oa + k * 3, none⟩) (l.length - k) c]).run Tryz.prog w1 = .ok (.tuple #[]) w2 from fun ty c => by
      have h := HC.out ty c
      rw [show l.length - (k + 2) = 0 from by omega, Nat.zero_mul, Nat.add_zero] at h
      rw [show l.length - k = 2 from by omega]
      exact h)
    rw [show l.length - 2 = k from by omega] at HF ⊢
    clear HA HC hll
    have hz : ¬ (k + 2 = k) := by omega
    have hz0 : k + 2 - (k + 2) = 0 := by omega
    have hz1 : l.length - (k + 2) = 0 := by omega
    have hkl2 : k ≤ l.length := by omega
    go_wp2
    go_region_law (refine step_append_runK rfl _ _ 235 235 rfl _ _ (by simp [Act.eval, Act.put]) (by simp [Act.eval, Act.put]) (HA1.out _) ?_)
    go_wp2_with (with_reducible refine wpList_clear_runK rfl (.tmp 31) 235 rfl _ rfl (HC1.out _ _) ?_)
    go_ret
    exact ⟨rfl, HF.out.1, HF.out.2⟩
  · rw [if_neg hkc] at hoa
    subst hoa
    have hkc2 : ¬ (cap = k + 2) := fun h => hkc h.symm
    have hkc3 : k ≤ cap := by omega
    have HA1 := Lib.hid (show ∀ ty, (Builtin.append_ #[235, 235] ty #[.slice (some ⟨g, o, none⟩) k cap, .slice (some ⟨g, o + (k + 2) * 3, none⟩) (l.length - (k + 2)) (cap - (k + 2))]).run Tryz.prog w.drew = .ok (.slice (some ⟨g, o, none⟩) (l.length - 2) cap) w1 from fun ty => by
      have h := HA.out ty
      rw [show k + (l.length - (k + 2)) = l.length - 2 from by omega] at h
      exact h)
    have HC1 := Lib.hid (show ∀ ty c, (Builtin.clear_ #[235] ty #[.slice (some ⟨g, o + (l.length - 2) * 3, none⟩) (l.length - (l.length - 2)) c]).run Tryz.prog w1 = .ok (.tuple #[]) w2 from fun ty c => by
      have h := HC.out ty c
      rw [show k * 3 + (l.length - (k + 2)) * 3 = (l.length - 2) * 3 from by omega] at h
      rw [show l.length - (l.length - 2) = 2 from by omega]
      exact h)
    clear HA HC
    have hm1 : ¬ (cap = l.length - 2) := by omega
    have hm2 : l.length - 2 ≤ l.length := by omega
    have hm3 : l.length - 2 ≤ cap := by omega
    go_wp2
    go_region_law (refine step_append_runK rfl _ _ 235 235 rfl _ _ (by simp [Act.eval, Act.put]) (by simp [Act.eval, Act.put]) (HA1.out _) ?_)
    go_wp2_with (with_reducible refine wpList_clear_runK rfl (.tmp 31) 235 rfl _ rfl (HC1.out _ _) ?_)
    go_ret
    exact ⟨rfl, HF.out.1, HF.out.2⟩
end Go.Proofs.YtmehcfocfljoeaaGreatDoor
