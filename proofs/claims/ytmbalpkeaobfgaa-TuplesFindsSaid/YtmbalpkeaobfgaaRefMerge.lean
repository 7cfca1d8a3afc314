/-
  The walk of the reference's Merge. Conditions: the form's own reach.
-/
import Derived.Test.YtmbalpkeaobfgaaRefMoved
import Derived.Test.YtmbalpkeaobfgaaPlainMerge
namespace Go.Proofs.Ytmbalpkeaobfgaa
open Go.RowKit

def lastLo (l : List Sp) (k : Nat) : Nat := if k = 0 then 0 else (l.getD (k - 1) default).lo
theorem lastLo_all (l : List Sp) : lastLo l l.length = totS l := by
  cases l with
  | nil => rfl
  | cons s l =>
    rw [lastLo, if_neg (by simp), totS, List.getLast?_eq_getElem?]
    simp [List.getD]
theorem lastLo_succ (l : List Sp) (k : Nat) (h : k < l.length) : lastLo l (k + 1) = l[k].lo := by
  rw [lastLo, if_neg (by omega)]
  simp [List.getD, h]
theorem loM_last (l : List Sp) (s : Sp) (k : Nat) : loM l s k = s.lo + lastLo l k := by
  rw [loM, lastLo]
  split <;> rfl
theorem mrg_head_a {a b : List Sp} {i k : Nat} (hi : i < a.length) (hk : k ≤ b.length) (h : k = b.length ∨ ∃ hk : k < b.length, a[i].x ≤ b[k].x) :
    mrgS (lastLo a i) (lastLo b k) (a.drop i) (b.drop k) = movedS b a[i] k :: mrgS (lastLo a (i + 1)) (lastLo b k) (a.drop (i + 1)) (b.drop k) := by
  rw [List.drop_eq_getElem_cons hi, lastLo_succ a i hi]
  rcases h with rfl | ⟨hk', hle⟩
  · rw [List.drop_length, mrgS, movedS, loM_last, hiM, if_neg (by omega), lastLo_all]
  · rw [List.drop_eq_getElem_cons hk', mrgS, if_pos hle, movedS, loM_last, hiM, if_pos hk']
    simp [List.getD, hk']
theorem mrg_head_b {a b : List Sp} {i k : Nat} (hi : i ≤ a.length) (hk : k < b.length) (h : i = a.length ∨ ∃ hi : i < a.length, ¬ a[i].x ≤ b[k].x) :
    mrgS (lastLo a i) (lastLo b k) (a.drop i) (b.drop k) = movedS a b[k] i :: mrgS (lastLo a i) (lastLo b (k + 1)) (a.drop i) (b.drop (k + 1)) := by
  rw [List.drop_eq_getElem_cons hk, lastLo_succ b k hk]
  rcases h with rfl | ⟨hi', hle⟩
  · rw [List.drop_length, mrgS, movedS, loM_last, hiM, if_neg (by omega), lastLo_all]
  · rw [List.drop_eq_getElem_cons hi', mrgS, if_neg hle, movedS, loM_last, hiM, if_pos hi']
    simp [List.getD, hi']

set_option maxRecDepth 100000 in
set_option maxHeartbeats 4000000 in
theorem ref18_merge (w : World) (ao : Option Addr) (cap : Nat) (a : List Sp) (bo : Option Addr) (bcap : Nat) (b : List Sp) (n m : Nat) (hn : n = a.length) (hm : m = b.length)
    (hra : Rd w 3 (.slice ao n cap) n (spCells a)) (hrb : Rd w 3 (.slice bo m bcap) m (spCells b)) (hla : n ≤ 40000) (hlb : m ≤ 40000)
    (hba : ∀ s ∈ a, s.lo ≤ 4611686018427387904 ∧ s.hi ≤ 4611686018427387904 ∧ 1 ≤ s.hi) (hbb : ∀ s ∈ b, s.lo ≤ 4611686018427387904 ∧ s.hi ≤ 4611686018427387904 ∧ 1 ≤ s.hi) :
    Calls Try.prog 21 #[.slice ao n cap, .slice bo m bcap] w fun e w' => ∃ a3 c3, e = .returned (.slice a3 (n + m) c3) ∧
      Own w' 41 3 (.slice a3 (n + m) c3) (n + m) (spCells (mrgS 0 0 a b)) ∧ Chg [] w w' ∧ ∀ b ∈ abl a3, w.heap.size ≤ b := by
  have HN := Lib.hid hn
  have HM := Lib.hid hm
  have HRA := Lib.hid hra
  have HRB := Lib.hid hrb
  have HBA := Lib.hid hba
  have HBB := Lib.hid hbb
  clear hn hm hra hrb hba hbb
  go_enter Try.func21, Try.ntmps21
  go_wp2
  go_loopw [5, 6, 7] (fun out i k wx => ∃ (x y q : Nat) (O : List Sp) (a3 : Option Addr) (c3 : Nat), out = .slice a3 q c3 ∧ i = .int .i64 (x : Nat) ∧ k = .int .i64 (y : Nat) ∧ x ≤ n ∧ y ≤ m ∧ q = x + y ∧
    Hid (O ++ mrgS (lastLo a x) (lastLo b y) (a.drop x) (b.drop y) = mrgS 0 0 a b) ∧ Own wx 41 3 (.slice a3 q c3) q (spCells O) ∧ Chg [] w wx ∧ Hid (∀ b ∈ abl a3, w.heap.size ≤ b)) (fun _ i k _ => n + m - (intOf i).toNat - (intOf k).toNat)
  case atStart => exact ⟨0, 0, 0, [], none, 0, rfl, rfl, rfl, Nat.zero_le _, Nat.zero_le _, rfl, Lib.hid rfl, Own.nil _ _ _, Chg.refl _ _, Lib.hid (by simp [abl])⟩
  case round =>
    obtain ⟨x, y, q, O, a3, c3, rfl, rfl, rfl, hx, hy, hq, HX, ho, hch, HA⟩ := hrel
    have HQ := Lib.hid hq
    have hq8 : q ≤ 80000 := by omega
    clear hq
    have hxi : (0 : Int) ≤ (x : Int) := by omega
    have hyi : (0 : Int) ≤ (y : Int) := by omega
    by_cases hxn : x < n
    · have hdx : decide (x < n) = true := decide_eq_true hxn
      have hxni : (x : Int) < (n : Int) := by omega
      have hra1 := HRA.out.chg hch (by simp)
      obtain ⟨g, o, rfl, hc⟩ := hra1.addr (by omega)
      have hxl : x < a.length := by have := HN.out; omega
      obtain ⟨c0, c1, c2⟩ := sp_at (l := a) (fun j hj => hc j (by rw [← HN.out] at hj; exact hj)) hxl
      have hba := HBA.out _ (List.getElem_mem hxl)
      by_cases hym : y < m
      · have hdy : decide (y < m) = true := decide_eq_true hym
        have hymi : (y : Int) < (m : Int) := by omega
        have heq : ((y : Int) == (m : Int)) = false := by rw [beq_eq_false_iff_ne]; omega
        have hrb1 := HRB.out.chg hch (by simp)
        obtain ⟨g', o', rfl, hc'⟩ := hrb1.addr (by omega)
        have hyl : y < b.length := by have := HM.out; omega
        obtain ⟨d0, d1, d2⟩ := sp_at (l := b) (fun j hj => hc' j (by rw [← HM.out] at hj; exact hj)) hyl
        have hbb := HBB.out _ (List.getElem_mem hyl)
        by_cases hle : a[x].x ≤ b[y].x
        · have HH := Lib.hid (mrg_head_a hxl (show y ≤ b.length by omega) (.inr ⟨hyl, hle⟩))
          have hdl : decide (a[x].x ≤ b[y].x) = true := decide_eq_true hle
          generalize a[x] = s at *
          generalize b[y] = t at *
          clear hc hc' hra1 hrb1 hle hxl hyl
          have HMV := Lib.hid (fun W (h : Chg [] w W) => ref18_moved W (some ⟨g', o', none⟩) bcap b s y m HM.out (by omega) (HRB.out.chg h (by simp)) (by omega) (fun t ht => ⟨(HBB.out t ht).1, (HBB.out t ht).2.1⟩) hba)
          obtain ⟨ql, hql⟩ : ∃ ql, ql = loM b s y := ⟨_, rfl⟩
          obtain ⟨qh, hqh⟩ : ∃ qh, qh = hiM b s y := ⟨_, rfl⟩
          rw [movedS, ← hql, ← hqh] at HH
          rw [← hql, ← hqh] at HMV
          clear hql hqh
          go_wp2
          go_quiet (fail)
          go_wp2_with fail
          refine (HMV.out _ (hch.drewN nq)).mono ?_
          rintro e w2 ⟨rfl, hc2⟩
          have hch2 := (hch.drewN nq).trans hc2
          have ho2 : Own w2 41 3 _ _ _ := (show Own (wr.drewN nq) 41 3 (.slice a3 q c3) q (spCells O) from ho.chg ((Chg.refl [] wr).drewN nq) (by simp)).chg hc2 (by simp)
          have hsz := hch2.size
          have hrd : Rd (w2.alloc (.cells #[.int .i64 s.x, .int .u64 ql, .int .u64 qh] 41)) 3 (.slice (some ⟨w2.heap.size, 0, none⟩) 1 1) 1 (spCells [⟨s.x, ql, qh⟩]) := Rd.lit w2 #[.int .i64 s.x, .int .u64 ql, .int .u64 qh] 41 3 1 1 rfl
          have HC2 := Lib.hid (hch2.alloc (.cells #[.int .i64 s.x, .int .u64 ql, .int .u64 qh] 41))
          clear ho hch hc2 HMV hch2 c0 c1 c2 d0 d1 d2
          go_wp2_with (at_builtin; go_must (refine wpList_append_src _ rfl (.tmp 41) (.tmp 49) 25 25 rfl 41 _ 3 24 under_spots info_spot rfl (by decide) (.slice a3 q c3) q (spCells O) rfl (ho2.alloc _) (.slice (some ⟨w2.heap.size, 0, none⟩) 1 1) 1 (spCells [⟨s.x, ql, qh⟩]) rfl (Src.of_rd under_spots hrd) (spCells_oneCell _) (by unfold maxLen; omega) (by omega) ?_; intro a7 c7 w7 ho7 hg7 hf7))
          refine ⟨⟨x + 1, y, q + 1, O ++ [⟨s.x, ql, qh⟩], a7, c7, rfl, by go_num, rfl, by omega, by omega, by have := HQ.out; omega, Lib.hid (by rw [List.append_assoc, List.singleton_append, ← HH.out]; exact HX.out), by rw [spCells_append]; exact ho7, HC2.out.trans' hg7 (fun b hb => .inr (HA.out b (by simpa using hb))), Lib.hid (fun b hb => ?_)⟩, by simp [intOf]; omega⟩
          rcases hf7 b hb with h | h
          · exact HA.out b (by simpa using h)
          · simp at h; omega
        · have HH := Lib.hid (mrg_head_b (show x ≤ a.length by omega) hyl (.inr ⟨hxl, hle⟩))
          have hdl : decide (a[x].x ≤ b[y].x) = false := decide_eq_false hle
          generalize a[x] = s at *
          generalize b[y] = t at *
          clear hc hc' hra1 hrb1 hle hxl hyl
          have HMV := Lib.hid (fun W (h : Chg [] w W) => ref18_moved W (some ⟨g, o, none⟩) cap a t x n HN.out (by omega) (HRA.out.chg h (by simp)) (by omega) (fun t ht => ⟨(HBA.out t ht).1, (HBA.out t ht).2.1⟩) hbb)
          obtain ⟨ql, hql⟩ : ∃ ql, ql = loM a t x := ⟨_, rfl⟩
          obtain ⟨qh, hqh⟩ : ∃ qh, qh = hiM a t x := ⟨_, rfl⟩
          rw [movedS, ← hql, ← hqh] at HH
          rw [← hql, ← hqh] at HMV
          clear hql hqh
          go_wp2
          go_quiet (fail)
          go_wp2_with fail
          refine (HMV.out _ (hch.drewN nq)).mono ?_
          rintro e w2 ⟨rfl, hc2⟩
          have hch2 := (hch.drewN nq).trans hc2
          have ho2 : Own w2 41 3 _ _ _ := (show Own (wr.drewN nq) 41 3 (.slice a3 q c3) q (spCells O) from ho.chg ((Chg.refl [] wr).drewN nq) (by simp)).chg hc2 (by simp)
          have hsz := hch2.size
          have hrd : Rd (w2.alloc (.cells #[.int .i64 t.x, .int .u64 ql, .int .u64 qh] 41)) 3 (.slice (some ⟨w2.heap.size, 0, none⟩) 1 1) 1 (spCells [⟨t.x, ql, qh⟩]) := Rd.lit w2 #[.int .i64 t.x, .int .u64 ql, .int .u64 qh] 41 3 1 1 rfl
          have HC2 := Lib.hid (hch2.alloc (.cells #[.int .i64 t.x, .int .u64 ql, .int .u64 qh] 41))
          clear ho hch hc2 HMV hch2 c0 c1 c2 d0 d1 d2
          go_wp2_with (at_builtin; go_must (refine wpList_append_src _ rfl (.tmp 53) (.tmp 61) 25 25 rfl 41 _ 3 24 under_spots info_spot rfl (by decide) (.slice a3 q c3) q (spCells O) rfl (ho2.alloc _) (.slice (some ⟨w2.heap.size, 0, none⟩) 1 1) 1 (spCells [⟨t.x, ql, qh⟩]) rfl (Src.of_rd under_spots hrd) (spCells_oneCell _) (by unfold maxLen; omega) (by omega) ?_; intro a7 c7 w7 ho7 hg7 hf7))
          refine ⟨⟨x, y + 1, q + 1, O ++ [⟨t.x, ql, qh⟩], a7, c7, rfl, rfl, by go_num, by omega, by omega, by have := HQ.out; omega, Lib.hid (by rw [List.append_assoc, List.singleton_append, ← HH.out]; exact HX.out), by rw [spCells_append]; exact ho7, HC2.out.trans' hg7 (fun b hb => .inr (HA.out b (by simpa using hb))), Lib.hid (fun b hb => ?_)⟩, by simp [intOf]; omega⟩
          rcases hf7 b hb with h | h
          · exact HA.out b (by simpa using h)
          · simp at h; omega
      · have hdy : decide (y < m) = false := decide_eq_false hym
        have heq : ((y : Int) == (m : Int)) = true := by rw [beq_iff_eq]; omega
        have HH := Lib.hid (mrg_head_a hxl (show y ≤ b.length by have := HM.out; omega) (.inl (by have := HM.out; omega)))
        generalize a[x] = s at *
        clear hc hra1 hxl
        have HMV := Lib.hid (fun W (h : Chg [] w W) => ref18_moved W bo bcap b s y m HM.out (by omega) (HRB.out.chg h (by simp)) (by omega) (fun t ht => ⟨(HBB.out t ht).1, (HBB.out t ht).2.1⟩) hba)
        obtain ⟨ql, hql⟩ : ∃ ql, ql = loM b s y := ⟨_, rfl⟩
        obtain ⟨qh, hqh⟩ : ∃ qh, qh = hiM b s y := ⟨_, rfl⟩
        rw [movedS, ← hql, ← hqh] at HH
        rw [← hql, ← hqh] at HMV
        clear hql hqh
        go_wp2
        go_quiet (fail)
        go_wp2_with fail
        refine (HMV.out _ (hch.drewN nq)).mono ?_
        rintro e w2 ⟨rfl, hc2⟩
        have hch2 := (hch.drewN nq).trans hc2
        have ho2 : Own w2 41 3 _ _ _ := (show Own (wr.drewN nq) 41 3 (.slice a3 q c3) q (spCells O) from ho.chg ((Chg.refl [] wr).drewN nq) (by simp)).chg hc2 (by simp)
        have hsz := hch2.size
        have hrd : Rd (w2.alloc (.cells #[.int .i64 s.x, .int .u64 ql, .int .u64 qh] 41)) 3 (.slice (some ⟨w2.heap.size, 0, none⟩) 1 1) 1 (spCells [⟨s.x, ql, qh⟩]) := Rd.lit w2 #[.int .i64 s.x, .int .u64 ql, .int .u64 qh] 41 3 1 1 rfl
        have HC2 := Lib.hid (hch2.alloc (.cells #[.int .i64 s.x, .int .u64 ql, .int .u64 qh] 41))
        clear ho hch hc2 HMV hch2 c0 c1 c2
        go_wp2_with (at_builtin; go_must (refine wpList_append_src _ rfl (.tmp 41) (.tmp 49) 25 25 rfl 41 _ 3 24 under_spots info_spot rfl (by decide) (.slice a3 q c3) q (spCells O) rfl (ho2.alloc _) (.slice (some ⟨w2.heap.size, 0, none⟩) 1 1) 1 (spCells [⟨s.x, ql, qh⟩]) rfl (Src.of_rd under_spots hrd) (spCells_oneCell _) (by unfold maxLen; omega) (by omega) ?_; intro a7 c7 w7 ho7 hg7 hf7))
        refine ⟨⟨x + 1, y, q + 1, O ++ [⟨s.x, ql, qh⟩], a7, c7, rfl, by go_num, rfl, by omega, by omega, by have := HQ.out; omega, Lib.hid (by rw [List.append_assoc, List.singleton_append, ← HH.out]; exact HX.out), by rw [spCells_append]; exact ho7, HC2.out.trans' hg7 (fun b hb => .inr (HA.out b (by simpa using hb))), Lib.hid (fun b hb => ?_)⟩, by simp [intOf]; omega⟩
        rcases hf7 b hb with h | h
        · exact HA.out b (by simpa using h)
        · simp at h; omega
    · have hdx : decide (x < n) = false := decide_eq_false hxn
      by_cases hym : y < m
      · have hdy : decide (y < m) = true := decide_eq_true hym
        have hymi : (y : Int) < (m : Int) := by omega
        have heq : ((y : Int) == (m : Int)) = false := by rw [beq_eq_false_iff_ne]; omega
        have hrb1 := HRB.out.chg hch (by simp)
        obtain ⟨g', o', rfl, hc'⟩ := hrb1.addr (by omega)
        have hyl : y < b.length := by have := HM.out; omega
        obtain ⟨d0, d1, d2⟩ := sp_at (l := b) (fun j hj => hc' j (by rw [← HM.out] at hj; exact hj)) hyl
        have hbb := HBB.out _ (List.getElem_mem hyl)
        have HH := Lib.hid (mrg_head_b (show x ≤ a.length by have := HN.out; omega) hyl (.inl (by have := HN.out; omega)))
        generalize b[y] = t at *
        clear hc' hrb1 hyl
        have HMV := Lib.hid (fun W (h : Chg [] w W) => ref18_moved W ao cap a t x n HN.out (by omega) (HRA.out.chg h (by simp)) (by omega) (fun t ht => ⟨(HBA.out t ht).1, (HBA.out t ht).2.1⟩) hbb)
        obtain ⟨ql, hql⟩ : ∃ ql, ql = loM a t x := ⟨_, rfl⟩
        obtain ⟨qh, hqh⟩ : ∃ qh, qh = hiM a t x := ⟨_, rfl⟩
        rw [movedS, ← hql, ← hqh] at HH
        rw [← hql, ← hqh] at HMV
        clear hql hqh
        go_wp2
        go_quiet (fail)
        go_wp2_with fail
        refine (HMV.out _ (hch.drewN nq)).mono ?_
        rintro e w2 ⟨rfl, hc2⟩
        have hch2 := (hch.drewN nq).trans hc2
        have ho2 : Own w2 41 3 _ _ _ := (show Own (wr.drewN nq) 41 3 (.slice a3 q c3) q (spCells O) from ho.chg ((Chg.refl [] wr).drewN nq) (by simp)).chg hc2 (by simp)
        have hsz := hch2.size
        have hrd : Rd (w2.alloc (.cells #[.int .i64 t.x, .int .u64 ql, .int .u64 qh] 41)) 3 (.slice (some ⟨w2.heap.size, 0, none⟩) 1 1) 1 (spCells [⟨t.x, ql, qh⟩]) := Rd.lit w2 #[.int .i64 t.x, .int .u64 ql, .int .u64 qh] 41 3 1 1 rfl
        have HC2 := Lib.hid (hch2.alloc (.cells #[.int .i64 t.x, .int .u64 ql, .int .u64 qh] 41))
        clear ho hch hc2 HMV hch2 d0 d1 d2
        go_wp2_with (at_builtin; go_must (refine wpList_append_src _ rfl (.tmp 53) (.tmp 61) 25 25 rfl 41 _ 3 24 under_spots info_spot rfl (by decide) (.slice a3 q c3) q (spCells O) rfl (ho2.alloc _) (.slice (some ⟨w2.heap.size, 0, none⟩) 1 1) 1 (spCells [⟨t.x, ql, qh⟩]) rfl (Src.of_rd under_spots hrd) (spCells_oneCell _) (by unfold maxLen; omega) (by omega) ?_; intro a7 c7 w7 ho7 hg7 hf7))
        refine ⟨⟨x, y + 1, q + 1, O ++ [⟨t.x, ql, qh⟩], a7, c7, rfl, rfl, by go_num, by omega, by omega, by have := HQ.out; omega, Lib.hid (by rw [List.append_assoc, List.singleton_append, ← HH.out]; exact HX.out), by rw [spCells_append]; exact ho7, HC2.out.trans' hg7 (fun b hb => .inr (HA.out b (by simpa using hb))), Lib.hid (fun b hb => ?_)⟩, by simp [intOf]; omega⟩
        rcases hf7 b hb with h | h
        · exact HA.out b (by simpa using h)
        · simp at h; omega
      · obtain rfl : x = n := by omega
        obtain rfl : y = m := by omega
        have hdy : decide (y < y) = false := decide_eq_false hym
        have hqe : q = x + y := HQ.out
        have hxe := HX.out
        rw [HN.out, HM.out, List.drop_length, List.drop_length, mrgS, List.append_nil] at hxe
        have HE := Lib.hid hxe
        subst hqe
        clear hxe HX
        go_wp2
        go_ret
        rw [← HE.out]
        exact ⟨a3, c3, rfl, ho, hch, HA.out⟩
end Go.Proofs.Ytmbalpkeaobfgaa
