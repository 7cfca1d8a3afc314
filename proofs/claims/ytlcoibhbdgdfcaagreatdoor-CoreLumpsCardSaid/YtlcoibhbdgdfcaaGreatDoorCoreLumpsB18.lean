/-
  The walk of slices.Insert at rows of tuples, one tuple put in. Conditions: the form's own reach.
-/
import Derived.Test.YtlcoibhbdgdfcaaGreatDoorCoreLumpsB17
import Derived.Test.YtlcoibhbdgdfcaaGreatDoorCoreLumpsB15
import Derived.Deep.RegionLaw
import Derived.Lib.Overlaps
import Derived.Lib.AppendZerosOnto
namespace Go.Proofs.YtlcoibhbdgdfcaaGreatDoor
open Go.RowKit

theorem size_lump : (Tryz.prog.info? 194).map (·.size) = some 3 := by kernel_rfl
theorem sizeOf_lump (w : World) : (Go.sizeOf 194).run Tryz.prog w = .ok 3 w := by
  obtain ⟨i0, hi0, _, hzs, _⟩ := info_parts info_lump
  simp [sizeOf, typeInfo, hi0, hzs]

/-- 'copy' into a block of the program's own: its cells, and nothing else. -/
theorem copy_blkL (w : World) (g o dLen dCap : Nat) (ROW : Array Value) (hb : Blk w g ROW 194) (ad : Addr) (sLen sCap m : Nat) (cs : List Value) (hm : m = Nat.min sLen dLen) (hn : cs.length = m * 3)
    (hsrc : ∀ j v, cs[j]? = some v → w.cell? (ad.add j) = some v) (hfit : o + cs.length ≤ ROW.size) (h1 : ∀ v ∈ cs, v.oneCell' = true) :
    ∃ w', (∀ ty, (Builtin.copy_ #[101, 101] ty #[.slice (some ⟨g, o, none⟩) dLen dCap, .slice (some ad) sLen sCap]).run Tryz.prog w = .ok (goInt m) w') ∧
      Blk w' g (ROW.toList.take o ++ cs ++ ROW.toList.drop (o + cs.length)).toArray 194 ∧ Chg [g] w w' := by
  subst hm
  refine ⟨_, fun ty => run_copy_rowK w 101 101 ty 194 3 g o dLen dCap ad sLen sCap ROW 194 cs under_lumps size_lump hb hn hsrc hfit h1, ?_, ?_⟩
  · exact setRow_heap w g ROW _ _ _ hb
  · exact (Chg.refl [g] w).setRow (.inl (by simp)) _

/-- 'append(s[:i], make(..)...)' where there is no room: a new block. -/
theorem app_zerosL (w : World) (g o cap n k at_ : Nat) (l : List Lp) (hn : n = l.length) (hat : at_ ≤ n) (hr : ∀ j, j < n * 3 → w.cell? ⟨g, o + j, none⟩ = (lpCells l)[j]?) (hk : at_ + k = n + 1) (hnc : n ≤ cap) (hc : cap < n + 1) (hl : n ≤ 100000) :
    ∃ (G : Nat) (ROW : Array Value) (w' : World), (∀ ty x, x = (k : Int) → (Builtin.append_ #[101, 3] ty #[.slice (some ⟨g, o, none⟩) at_ cap, .int .i64 x]).run Tryz.prog w = .ok (.slice (some ⟨w.heap.size, 0, none⟩) (n + 1) G) w') ∧
      Blk w' w.heap.size ROW 194 ∧ ROW.toList.take (at_ * 3) = lpCells (l.take at_) ∧ ROW.size = G * 3 ∧ n + 1 ≤ G ∧ G ≤ maxLen ∧ Chg [] w w' := by
  obtain ⟨i0, hi0, hz0, hzs, hzb⟩ := info_parts info_lump
  have htl : lpCells (l.take at_) = (lpCells l).take (at_ * 3) := by
    have e : lpCells l = lpCells (l.take at_) ++ lpCells (l.drop at_) := by rw [← lpCells_append, List.take_append_drop]
    have hlen : (lpCells (l.take at_)).length = at_ * 3 := by rw [lpCells_len, List.length_take, ← hn, Nat.min_eq_left hat]
    rw [e, ← hlen, List.take_left]
  have hold : (Builtin.firstCells i0.size at_ (.slice (some ⟨g, o, none⟩) at_ cap)).run Tryz.prog w.drew = .ok (lpCells (l.take at_)).toArray w.drew := by
    rw [hzs]
    exact run_firstCells_some w.drew 3 at_ ⟨g, o, none⟩ at_ cap _ (by rw [lpCells_len, List.length_take, ← hn, Nat.min_eq_left hat]) (fun j v hj => by
      rw [htl, List.getElem?_take] at hj
      split at hj
      · next hjl =>
        have h2 : at_ * 3 ≤ n * 3 := Nat.mul_le_mul_right 3 hat
        have := hr j (by omega)
        rw [Addr.add_lit]
        exact this.trans hj
      · simp at hj)
  have hu3 : Tryz.prog.underlying 3 = some (.int .i64) := by kernel_rfl
  have hrz := fun ty => Lib.run_append_grow_zeros w 101 3 ty 194 i0 _ .i64 .i64 under_lumps hu3 hi0 hz0 (some ⟨g, o, none⟩) at_ cap _ hold k (by omega) (by omega) (by omega) (by omega) (by rw [hzb]; omega) (by rw [hzb, hk]; exact growslice_fits hc (by omega))
  rw [hk] at hrz
  have hG1 := grownCap_ge w (n + 1) cap 194
  have hG2 := grownCap_le_maxLen w (n + 1) cap 194 (by unfold maxLen; omega)
  refine ⟨grownCap w (n + 1) cap 194, _, _, fun ty x hx => by subst hx; exact hrz ty, Blk.alloc_new w.drew _ _, ?_, ?_, hG1, hG2, (Chg.drew (Chg.refl [] w)).alloc _⟩
  · have hlen : (lpCells (l.take at_)).length = at_ * 3 := by rw [lpCells_len, List.length_take, ← hn, Nat.min_eq_left hat]
    simp only [Array.toList_append, List.append_assoc]
    rw [← hlen]
    exact List.take_left
  · have hlen : (lpCells (l.take at_)).length = at_ * 3 := by rw [lpCells_len, List.length_take, ← hn, Nat.min_eq_left hat]
    have hz : (Value.agg #[.int .u64 0, .int .i64 0, .int .i64 0]).cells.size = 3 := rfl
    simp only [Array.size_append, List.size_toArray, size_zeroCells, hz, hlen]
    omega

set_option maxRecDepth 100000 in
set_option maxHeartbeats 1000000 in
theorem insert_lump (w : World) (ao : Option Addr) (cap : Nat) (l : List Lp) (at_ : Nat) (hat : at_ ≤ l.length) (p : Lp) (vb : Nat) (hl : l.length ≤ 100000)
    (ho : Own w 194 3 (.slice ao l.length cap) l.length (lpCells l)) (hv : Blk w vb #[.int .u64 p.n, .int .i64 p.lo, .int .i64 p.hi] 194) (hvb : vb ∉ abl ao) :
    Calls Tryz.prog 189 #[.slice ao l.length cap, .int .i64 at_, .slice (some ⟨vb, 0, none⟩) 1 1] w fun e w' => ∃ a3 c3, e = .returned (.slice a3 (l.length + 1) c3) ∧
      Own w' 194 3 (.slice a3 (l.length + 1) c3) (l.length + 1) (lpCells (l.take at_ ++ [p] ++ l.drop at_)) ∧ Chg (abl ao) w w' ∧ ∀ b ∈ abl a3, b ∈ abl ao ∨ w.heap.size ≤ b := by
  have hvr : Rd w 3 (.slice (some ⟨vb, 0, none⟩) 1 1) 1 (lpCells [p]) := ⟨rfl, _, _, rfl, .inr ⟨_, _, rfl, fun j hj => by
    rw [Nat.zero_add, hv.cell j]
    simp [lpCells, Lp.cells]⟩⟩
  go_enter Tryz.func189, Tryz.ntmps189
  have hb1 : ((at_ : Nat) : Int) ≤ (l.length : Int) := by omega
  have hb0 : (0 : Int) ≤ ((at_ : Nat) : Int) := by omega
  obtain ⟨hlen, ⟨hv0, h0⟩ | ⟨g, o, cp, cur, hv1, hg, hnc, hm, hsz, hxs⟩⟩ := id ho
  · obtain rfl : l = [] := List.eq_nil_of_length_eq_zero h0
    obtain rfl : at_ = 0 := by simpa using hat
    simp only [Value.slice.injEq] at hv0
    obtain ⟨rfl, _, rfl⟩ := hv0
    have ho' : Own w 194 3 (.slice none 0 0) 0 (lpCells []) := ho
    clear ho hlen
    go_wp2_with (at_builtin; go_must (refine wpList_append_src _ rfl (.tmp 23) (.tmp 24) 101 101 rfl 194 _ 3 24 under_lumps info_lump rfl (by decide) (.slice none 0 0) 0 (lpCells []) rfl ho' (.slice (some ⟨vb, 0, none⟩) 1 1) 1 (lpCells [p]) rfl (Src.of_rd under_lumps hvr) (lpCells_oneCell _) (by decide) (by decide) ?_; intro a3 c3 w7 ho7 hg7 hf7))
    go_ret
    exact ⟨a3, c3, rfl, by simpa [lpCells] using ho7, by simpa using hg7, by simpa using hf7⟩
  · simp only [Value.slice.injEq, true_and] at hv1
    obtain ⟨rfl, rfl⟩ := hv1
    by_cases hend : at_ = l.length
    · subst hend
      have hsame : lpCells (l.take l.length ++ [p] ++ l.drop l.length) = lpCells l ++ lpCells [p] := by rw [List.take_length, List.drop_length, List.append_nil, lpCells_append]
      rw [hsame]
      clear hsame
      have HH := Lib.hid (And.intro hg (And.intro hxs hsz))
      clear hg hxs hsz hlen
      by_cases hcl : cap = l.length
      · have hcl2 := hcl
        go_wp2_with (at_builtin; go_must (refine wpList_append_src _ rfl (.tmp 23) (.tmp 24) 101 101 rfl 194 _ 3 24 under_lumps info_lump rfl (by decide) (.slice (some ⟨g, o, none⟩) l.length cap) l.length (lpCells l) rfl ho (.slice (some ⟨vb, 0, none⟩) 1 1) 1 (lpCells [p]) rfl (Src.of_rd under_lumps hvr) (lpCells_oneCell _) (by unfold maxLen; omega) (by omega) ?_; intro a3 c3 w7 ho7 hg7 hf7))
        go_ret
        exact ⟨a3, c3, rfl, ho7, by simpa using hg7, by simpa using hf7⟩
      · go_wp2_with (at_builtin; go_must (refine wpList_append_src _ rfl (.tmp 23) (.tmp 24) 101 101 rfl 194 _ 3 24 under_lumps info_lump rfl (by decide) (.slice (some ⟨g, o, none⟩) l.length cap) l.length (lpCells l) rfl ho (.slice (some ⟨vb, 0, none⟩) 1 1) 1 (lpCells [p]) rfl (Src.of_rd under_lumps hvr) (lpCells_oneCell _) (by unfold maxLen; omega) (by omega) ?_; intro a3 c3 w7 ho7 hg7 hf7))
        go_ret
        exact ⟨a3, c3, rfl, ho7, by simpa using hg7, by simpa using hf7⟩
    · have hlt : at_ < l.length := by omega
      have hvs : w.shape? vb = some (194, 3) := by
        have h := hv
        simp only [Blk] at h
        simp [World.shape?, h]
      have hgs : w.shape? g = some (194, cur.size) := by simp [World.shape?, hg]
      have hvg : vb ≠ g := fun h => hvb (by simp [h])
      have hov : ∀ off lb cb, (callFunc 193 #[.slice (some ⟨vb, 0, none⟩) 1 1, .slice (some ⟨g, off, none⟩) lb cb]).run Tryz.prog w = .ok (.value (.bool false)) w := fun off lb cb => by
        rw [run_callFunc_extern Tryz.func193 (by kernel_rfl) (by kernel_rfl) (by kernel_rfl) (e := Extern.SlicesOverlaps.overlaps #[101, 101] #[4]) (by kernel_rfl),
          Lib.run_overlaps_apart w 101 4 194 under_lumps 3 sizeOf_lump ⟨vb, 0, none⟩ ⟨g, off, none⟩ 1 1 lb cb hvg 194 194 3 cur.size hvs hgs (by omega) (hv.free 0) (hv.free 3)]
        rfl
      have hne : (at_ : Int) ≠ (l.length : Int) := by omega
      have hsplit : lpCells l = lpCells (l.take at_) ++ lpCells (l.drop at_) := by rw [← lpCells_append, List.take_append_drop]
      have hA : (lpCells (l.take at_)).length = at_ * 3 := by rw [lpCells_len, List.length_take, Nat.min_eq_left hat]
      have hB : (lpCells (l.drop at_)).length = (l.length - at_) * 3 := by rw [lpCells_len, List.length_drop]
      have hw1 : IntKind.i64.wrap ((at_ : Int) + 1) = (at_ : Int) + 1 := by rw [IntKind.wrap_i64]; omega
      have htn : ((at_ : Int) + 1).toNat = at_ + 1 := by omega
      have hp1 : (0 : Int) ≤ (at_ : Int) + 1 := by omega
      have hp2 : (at_ : Int) ≤ (l.length : Int) + 1 := by omega
      have hbk : Blk w g cur 194 := hg
      have hcell0 : ∀ j, j < l.length * 3 → w.cell? ⟨g, o + j, none⟩ = (lpCells l)[j]? := fun j hj => by
        rw [hbk.cell (o + j), ← hxs, List.getElem?_take, if_pos hj, List.getElem?_drop, Array.getElem?_toList]
      by_cases hroom : cap < l.length + 1
      · have hd : decide ((cap : Int) < (l.length : Int) + 1) = true := decide_eq_true (by omega)
        obtain ⟨G, ROW, w1, hrz, hb1', hR1, hR2, hG1, hG2, hch1⟩ := app_zerosL w g o cap l.length (l.length + 1 - at_) at_ l rfl hat hcell0 (by omega) hnc hroom hl
        have hsub : (l.length : Int) + 1 - (at_ : Int) = ((l.length + 1 - at_ : Nat) : Int) := by omega
        have hc1 : ¬ (cap = at_) := by omega
        have hc2 : ¬ (G = at_) := by omega
        have hc3 : ¬ (G = at_ + 1) := by omega
        clear hov hvs hgs
        have hgl := hbk.lt
        have hvl := hv.lt
        have hv1 := Blk.chg hv hch1 (by simp)
        have hpv : ∀ j v, (lpCells [p])[j]? = some v → w1.cell? ((⟨vb, 0, none⟩ : Addr).add j) = some v := fun j v hj => by
          rw [Addr.add_lit, Nat.zero_add, hv1.cell j, ← hj]
          simp [lpCells, Lp.cells]
        have hRl : ROW.toList.length = G * 3 := by simpa using hR2
        have hR := grow_rows 3 ROW.toList (lpCells (l.take at_)) (lpCells (l.drop at_)) (lpCells [p]) (at_ * 3) ((l.length - at_) * 3) hA hB rfl hR1 (by omega)
        obtain ⟨w2, hcp1, hb2, hch2⟩ := copy_blkL w1 w.heap.size (at_ * 3) (l.length + 1 - at_) (G - at_) ROW hb1' ⟨vb, 0, none⟩ 1 1 1 (lpCells [p]) (by show _ = min _ _; omega) rfl hpv (by show _ + 3 ≤ _; omega) (lpCells_oneCell _)
        obtain ⟨hRa, hRb, hRc⟩ := hR
        rw [show (lpCells [p]).length = 3 from rfl] at hb2
        generalize (ROW.toList.take (at_ * 3) ++ lpCells [p] ++ ROW.toList.drop (at_ * 3 + 3)) = R2 at *
        have hch02 : Chg [] w w2 := hch1.trans' hch2 (by simp)
        have hbk2 := Blk.chg hbk hch02 (by simp)
        have hcell : ∀ j v, (lpCells (l.drop at_))[j]? = some v → w2.drew.cell? ((⟨g, o + at_ * 3, none⟩ : Addr).add j) = some v := fun j v hj => by
          have hjl : j < (lpCells (l.drop at_)).length := (List.getElem?_eq_some_iff.1 hj).1
          have h1 : (lpCells l)[at_ * 3 + j]? = some v := by
            rw [hsplit, List.getElem?_append_right (by omega), hA, Nat.add_sub_cancel_left]
            exact hj
          rw [← hxs, List.getElem?_take, if_pos (by omega), List.getElem?_drop] at h1
          rw [Addr.add_lit]
          have h3 := hbk2.cell (o + at_ * 3 + j)
          rw [← Array.getElem?_toList, Nat.add_assoc] at h3
          show w2.cell? _ = _
          rw [Nat.add_assoc, h3]
          exact h1
        obtain ⟨w3, hcp2, hb3, hch3⟩ := copy_blkL w2.drew w.heap.size ((at_ + 1) * 3) (l.length - at_) (G - (at_ + 1)) R2.toArray hb2 ⟨g, o + at_ * 3, none⟩ (l.length - at_) (cap - at_) (l.length - at_) (lpCells (l.drop at_)) (by show _ = min _ _; omega) hB hcell (by have h9 : R2.toArray.size = R2.length := List.size_toArray; omega) (lpCells_oneCell _)
        have hch : Chg [] w w3 := hch02.drew.trans' hch3 (by simp)
        rw [show (at_ + 1) * 3 = at_ * 3 + 3 from by omega, hB] at hb3
        have hfin : Own w3 194 3 (.slice (some ⟨w.heap.size, 0, none⟩) (l.length + 1) G) (l.length + 1) (lpCells (l.take at_ ++ [p] ++ l.drop at_)) := by
          refine ⟨by rw [lpCells_len]; simp; omega, .inr ⟨w.heap.size, 0, G, _, rfl, hb3, by omega, hG2, ?_, ?_⟩⟩
          · simp only [List.size_toArray]
            rw [hRb, hRl]
            omega
          · simp only [List.drop_zero]
            rw [lpCells_append, lpCells_append, ← hRc]
            congr 1
            omega
        have HF := Lib.hid (And.intro hfin hch)
        have HZ := Lib.hid hrz
        clear hfin hch hb3 hRa hRb hRc hb2 hsplit hA hB hcell hpv hxs hg hcell0 hR1 hR2 hb1' hbk2 hbk hrz
        go_wp2_with (first
          | (at_builtin; go_must (refine wpList_append_runK rfl _ _ 101 3 rfl _ _ rfl rfl (HZ.out _ _ rfl) ?_))
          | (at_builtin; go_must (refine wpList_copy_rowK rfl _ _ 101 101 rfl _ _ rfl rfl (hcp1 _) ?_)))
        go_region_law (refine step_copy_rowK rfl _ _ 101 101 rfl _ _ (by simp [Act.eval, Act.put]) (by simp [Act.eval, Act.put]) (hcp2 _) ?_)
        go_wp2
        go_ret
        exact ⟨_, _, rfl, HF.out.1, by simpa using HF.out.2.nil, fun b hb => .inr (by simp at hb; omega)⟩
      · have hd : decide ((cap : Int) < (l.length : Int) + 1) = false := decide_eq_false (by omega)
        have hc1 : ¬ (cap = at_) := by omega
        have hc2 : ¬ (cap = at_ + 1) := by omega
        go_wp2_with (simp only [hov])
        have hcell : ∀ j v, (lpCells (l.drop at_))[j]? = some v → w.drew.cell? ((⟨g, o + at_ * 3, none⟩ : Addr).add j) = some v := fun j v hj => by
          have hjl : j < (lpCells (l.drop at_)).length := (List.getElem?_eq_some_iff.1 hj).1
          have h1 : (lpCells l)[at_ * 3 + j]? = some v := by
            rw [hsplit, List.getElem?_append_right (by omega), hA, Nat.add_sub_cancel_left]
            exact hj
          rw [← hxs, List.getElem?_take, if_pos (by omega), List.getElem?_drop] at h1
          rw [Addr.add_lit]
          have h2 : Blk w g cur 194 := hg
          have h3 := h2.cell (o + at_ * 3 + j)
          rw [← Array.getElem?_toList, Nat.add_assoc] at h3
          show w.cell? _ = _
          rw [Nat.add_assoc, h3]
          exact h1
        obtain ⟨w2, hcp1, hb2, hch2⟩ := copy_blkL w.drew g (o + (at_ + 1) * 3) (l.length - at_) (cap - (at_ + 1)) cur hg ⟨g, o + at_ * 3, none⟩ (l.length + 1 - at_) (cap - at_) (l.length - at_) (lpCells (l.drop at_)) (by show _ = min _ _; omega) hB hcell (by omega) (lpCells_oneCell _)
        go_region_law (refine step_copy_rowK rfl _ _ 101 101 rfl _ _ (by simp [Act.eval, Act.put]) (by simp [Act.eval, Act.put]) (hcp1 _) ?_)
        have hR := shift_rows 3 cur.toList (lpCells (l.take at_)) (lpCells (l.drop at_)) (lpCells [p]) o (at_ * 3) ((l.length - at_) * 3) (cap * 3) hA hB rfl (by rw [← hsplit, ← hxs]; congr 1; omega) (by rw [Array.length_toList]; exact hsz) (by omega)
        rw [show (at_ + 1) * 3 = at_ * 3 + 3 from by omega, hB] at hb2
        obtain ⟨hR2, hR3, hRX⟩ := hR
        generalize (cur.toList.take (o + (at_ * 3 + 3)) ++ lpCells (l.drop at_) ++ cur.toList.drop (o + (at_ * 3 + 3) + (l.length - at_) * 3)) = R2 at *
        have hv2 := Blk.chg (Blk.drew hv) hch2 (by simpa using hvg)
        have hpv : ∀ j v, (lpCells [p])[j]? = some v → w2.cell? ((⟨vb, 0, none⟩ : Addr).add j) = some v := fun j v hj => by
          rw [Addr.add_lit, Nat.zero_add, hv2.cell j, ← hj]
          simp [lpCells, Lp.cells]
        obtain ⟨w3, hcp2, hb3, hch3⟩ := copy_blkL w2 g (o + at_ * 3) (l.length + 1 - at_) (cap - at_) R2.toArray hb2 ⟨vb, 0, none⟩ 1 1 1 (lpCells [p]) (by show _ = min _ _; omega) rfl hpv (by simp only [List.size_toArray, hR2, Array.length_toList]; show _ + 3 ≤ _; omega) (lpCells_oneCell _)
        have hch : Chg [g] w w3 := ((Chg.drew (Chg.refl [g] w)).trans hch2).trans hch3
        have hfin : Own w3 194 3 (.slice (some ⟨g, o, none⟩) (l.length + 1) cap) (l.length + 1) (lpCells (l.take at_ ++ [p] ++ l.drop at_)) := by
          refine ⟨by rw [lpCells_len]; simp; omega, .inr ⟨g, o, cap, _, rfl, hb3, by omega, hm, ?_, ?_⟩⟩
          · simp only [List.size_toArray]
            show _ ≤ (R2.take (o + at_ * 3) ++ lpCells [p] ++ R2.drop (o + at_ * 3 + 3)).length
            rw [hR3, Array.length_toList]
            exact hsz
          · show (List.drop o (R2.take (o + at_ * 3) ++ lpCells [p] ++ R2.drop (o + at_ * 3 + 3))).take _ = _
            rw [lpCells_append, lpCells_append, ← hRX]
            congr 1
            omega
        have HF := Lib.hid (And.intro hfin hch)
        clear hfin hch hb3 hcp1 hR3 hRX hR2 hb2 hsplit hA hB hcell hpv hxs hg hgs hvs hov
        go_wp2_with (at_builtin; go_must (refine wpList_copy_rowK rfl _ _ 101 101 rfl _ _ rfl rfl (hcp2 _) ?_))
        go_ret
        exact ⟨_, _, rfl, HF.out.1, by simpa using HF.out.2, fun b hb => .inl hb⟩
end Go.Proofs.YtlcoibhbdgdfcaaGreatDoor
