/-
  The walk of the reference's Insert. Conditions: the form's own reach.
-/
import Derived.Test.YtkcldhimjnehdaaRefTup1
import Derived.Test.YtkcldhimjnehdaaPlainPlay
namespace Go.Proofs.Ytkcldhimjnehdaa
open Go.RowKit

theorem filter_stepS (l : List Sp) (f : Sp → Bool) (k : Nat) (h : k < l.length) : (l.take (k + 1)).filter f = (l.take k).filter f ++ if f l[k] then [l[k]] else [] := by
  rw [List.take_succ_eq_append_getElem h, List.filter_append]
  congr 1
  simp [List.filter_cons]
theorem filter_upSp (x : Int) : ∀ (l : List Sp), (l.Pairwise fun p q => p.x ≤ q.x) → l.filter (fun s => decide (s.x ≤ x)) = l.take (upSp l x) := by
  intro l
  induction l with
  | nil => intro _; rfl
  | cons s l ih =>
    intro h
    obtain ⟨h1, h2⟩ := List.pairwise_cons.1 h
    by_cases hs : s.x ≤ x
    · rw [List.filter_cons_of_pos (by simpa using hs), ih h2]
      rw [show upSp (s :: l) x = upSp l x + 1 from by simp [upSp, hs], List.take_succ_cons]
    · have hz : ∀ t ∈ s :: l, ¬ t.x ≤ x := fun t ht => by
        rcases List.mem_cons.1 ht with rfl | ht
        · exact hs
        · have := h1 t ht; omega
      rw [List.filter_eq_nil_iff.2 (fun t ht => by simpa using hz t ht), show upSp (s :: l) x = 0 from List.countP_eq_zero.2 (fun t ht => by simpa using hz t ht)]
      rfl
theorem moveUp_step (l : List Sp) (j : Nat) (h : j < l.length) : moveUp (l.take (j + 1)) = moveUp (l.take j) ++ [⟨l[j].x, l[j].lo + 1, l[j].hi + 1⟩] := by
  rw [List.take_succ_eq_append_getElem h, moveUp, List.map_append]
  rfl
theorem insS_len (l : List Sp) (x : Int) (k : Nat) (hk : k ≤ l.length) : (insS l x k).length = l.length + 1 := by
  simp [insS, moveUp]; omega

theorem rd_dropS {w : World} {b o cap : Nat} {l : List Sp} (h : Rd w 3 (.slice (some ⟨b, o, none⟩) l.length cap) l.length (spCells l)) (k : Nat) (hk : k ≤ l.length) :
    Rd w 3 (.slice (some ⟨b, o + k * 3, none⟩) (l.length - k) (cap - k)) (l.length - k) (spCells (l.drop k)) := by
  refine ⟨by rw [spCells_len, List.length_drop], _, _, rfl, ?_⟩
  by_cases h0 : l.length = 0
  · exact .inl (by omega)
  obtain ⟨b', o', hb, hc⟩ := h.addr (by omega)
  simp only [Option.some.injEq, Addr.mk.injEq, and_true] at hb
  obtain ⟨rfl, rfl⟩ := hb
  refine .inr ⟨b, o + k * 3, rfl, fun j hj => ?_⟩
  rw [Nat.add_assoc, hc (k * 3 + j) (by omega)]
  have e : spCells l = spCells (l.take k) ++ spCells (l.drop k) := by rw [← spCells_append, List.take_append_drop]
  have hlk : (spCells (l.take k)).length = k * 3 := by rw [spCells_len, List.length_take]; omega
  rw [e, List.getElem?_append_right (by omega), hlk, Nat.add_sub_cancel_left]

set_option maxRecDepth 100000 in
set_option maxHeartbeats 4000000 in
theorem ref18_insert (w : World) (ao : Option Addr) (cap : Nat) (l : List Sp) (x : Int) (hs : l.Pairwise fun p q => p.x ≤ q.x) (hr : Rd w 3 (.slice ao l.length cap) l.length (spCells l)) (hcap : l.length ≤ cap) (hl : l.length ≤ 40000)
    (hbd : ∀ s ∈ l, s.lo ≤ 4611686018427387904 ∧ s.hi ≤ 4611686018427387904) :
    Calls Try.prog 79 #[.slice ao l.length cap, .int .i64 x] w fun e w' => ∃ a3 c3, e = .returned (.slice a3 (l.length + 1) c3) ∧
      Own w' 108 3 (.slice a3 (l.length + 1) c3) (l.length + 1) (spCells (insS l x (upSp l x))) ∧ Chg [] w w' ∧ ∀ b ∈ abl a3, w.heap.size ≤ b := by
  have HF := Lib.hid (filter_upSp x l hs)
  have HST := Lib.hid (filter_stepS l (fun s => decide (s.x ≤ x)))
  have HBD := Lib.hid hbd
  have HR := Lib.hid hr
  have HTT := Lib.hid (ref18_total w ao cap l hr (by omega))
  have hkl : upSp l x ≤ l.length := List.countP_le_length
  clear hs hbd hr
  generalize upSp l x = k at *
  go_enter Try.func79, Try.ntmps79
  go_wp2_with fail
  refine HTT.out.mono ?_
  rintro e w2 ⟨rfl, rfl⟩
  clear HTT
  go_wp2
  go_loopw [5, 17] (fun out i wx => ∃ (j : Nat) (a3 : Option Addr) (c3 : Nat) (F : List Sp), j ≤ l.length ∧ i = .int .i64 (j : Nat) ∧ out = .slice a3 F.length c3 ∧ Hid (F = (l.take j).filter (fun s => decide (s.x ≤ x))) ∧ F.length ≤ j ∧
    Own wx 108 3 (.slice a3 F.length c3) F.length (spCells F) ∧ Chg [] w wx ∧ Hid (∀ b ∈ abl a3, w.heap.size ≤ b)) (fun _ i _ => l.length - (intOf i).toNat)
  case atStart => exact ⟨0, none, 0, [], Nat.zero_le _, rfl, rfl, Lib.hid rfl, Nat.le_refl _, Own.nil _ _ _, Chg.refl _ _, Lib.hid (by simp [abl])⟩
  case round =>
    obtain ⟨j, a3, c3, F, hj, rfl, rfl, HFF, hFj, ho, hch, HA⟩ := hrel
    by_cases hlt : j < l.length
    · have hr1 := HR.out.chg hch (by simp)
      obtain ⟨b, o, rfl, hc⟩ := hr1.addr (by omega)
      obtain ⟨c0, c1, c2⟩ := sp_at hc hlt
      have HS := Lib.hid (HST.out j hlt)
      have hbx := Blk.alloc_new wr #[.int .i64 l[j].x, .int .u64 l[j].lo, .int .u64 l[j].hi] 108
      have e0 := hbx.cell 0
      have e1 := hbx.cell 1
      have e2 := hbx.cell 2
      have hsz := hch.size
      generalize l[j] = p at *
      have HCX := Lib.hid (hch.alloc (.cells #[.int .i64 p.x, .int .u64 p.lo, .int .u64 p.hi] 108))
      clear hc hr1 hbx
      by_cases hi : p.x ≤ x
      · have hib : decide (p.x ≤ x) = true := decide_eq_true hi
        rw [hib, if_pos rfl, ← HFF.out] at HS
        have hrd : Rd ((wr.alloc (.cells #[.int .i64 p.x, .int .u64 p.lo, .int .u64 p.hi] 108)).alloc (.cells #[.int .i64 p.x, .int .u64 p.lo, .int .u64 p.hi] 108)) 3 (.slice (some ⟨wr.heap.size + 1, 0, none⟩) 1 1) 1 (spCells [p]) := by
          have := Rd.lit (wr.alloc (.cells #[.int .i64 p.x, .int .u64 p.lo, .int .u64 p.hi] 108)) #[.int .i64 p.x, .int .u64 p.lo, .int .u64 p.hi] 108 3 1 1 rfl
          rw [World.size_alloc] at this
          exact this
        clear hi
        go_wp2_with (at_builtin; go_must (refine wpList_append_src _ rfl (.tmp 25) (.tmp 27) 88 88 rfl 108 _ 3 24 under_spots info_spot rfl (by decide) (.slice a3 F.length c3) F.length (spCells F) rfl ((ho.alloc _).alloc _) (.slice (some ⟨wr.heap.size + 1, 0, none⟩) 1 1) 1 (spCells [p]) rfl (Src.of_rd under_spots hrd) (spCells_oneCell _) (by unfold maxLen; omega) (by omega) ?_; intro a7 c7 w7 ho7 hg7 hf7))
        refine ⟨⟨j + 1, a7, c7, F ++ [p], by omega, by go_num, by simp, HS.out.symm |> Lib.hid, by simp; omega, by rw [List.length_append, spCells_append]; exact ho7, (HCX.out.alloc _).trans' hg7 (fun b hb => .inr (HA.out b (by simpa using hb))), Lib.hid (fun b hb => ?_)⟩, by simp [intOf]; omega⟩
        rcases hf7 b hb with h | h
        · exact HA.out b (by simpa using h)
        · simp at h; omega
      · have hib : decide (p.x ≤ x) = false := decide_eq_false hi
        rw [hib, if_neg (by simp), List.append_nil, ← HFF.out] at HS
        clear hi
        go_wp2
        exact ⟨⟨j + 1, a3, c3, F, by omega, by go_num, rfl, Lib.hid HS.out.symm, by omega, ho.alloc _, HCX.out, HA⟩, by simp [intOf]; omega⟩
    · obtain rfl : j = l.length := by omega
      rw [List.take_length, HF.out] at HFF
      have hFl : F.length = k := by rw [HFF.out, List.length_take]; omega
      rw [hFl] at ho ⊢
      have HFL := Lib.hid hFl
      clear hFl
      have HFK := Lib.hid (show F = l.take k from HFF.out)
      have HBD2 := Lib.hid (show totS l ≤ 4611686018427387904 from by
        cases hll : l.getLast? with
        | none => rw [totS, hll]; exact Nat.zero_le _
        | some s => rw [totS, hll]; exact (HBD.out s (List.mem_of_getLast? hll)).1)
      clear HF HST hlt hj HFF hFj
      have hsz := hch.size
      have hlt3 := ho.lt
      simp only [blkOf_slice] at hlt3
      have hr1 := HR.out.chg hch (by simp)
      have hbt := HBD2.out
      have HSE := Lib.hid (show k = l.length → insS l x k = l.take k ++ [⟨x, totS l + 1, totS l + 1⟩] ++ moveUp (l.drop k) from fun h => by
        rw [insS, if_pos h, if_pos h])
      generalize totS l = n at *
      have hnw : (n : Int) + 1 = ((n + 1 : Nat) : Int) := by omega
      have hn1 : n + 1 ≤ 4611686018427387905 := by omega
      generalize n + 1 = n1 at *
      clear hbt HBD2
      have hne : wr.heap.size ∉ blkOf (.slice a3 k c3) := fun hb => by have := hlt3 _ (by simpa using hb); omega
      have HO := Lib.hid ho
      have HCH := Lib.hid hch
      have HR1 := Lib.hid hr1
      have hbx := Blk.alloc_new wr #[.int .i64 x, .int .u64 1, .int .u64 1] 108
      have HBX := Lib.hid hbx
      have e0 := hbx.cell 0
      have e1 := hbx.cell 1
      have e2 := hbx.cell 2
      have f1 := hbx.free 1
      have f2 := hbx.free 2
      clear hbx hch
      by_cases h0 : l.length = 0
      · have hk0 : k = 0 := by omega
        subst hk0
        have HS := Lib.hid (HSE.out h0.symm)
        obtain rfl : l = [] := List.eq_nil_of_length_eq_zero h0
        have HKL := Lib.hid (show 0 = ([] : List Sp).length from rfl)
        have HMU := Lib.hid (show moveUp (List.drop 0 ([] : List Sp)) = [] from rfl)
        clear HSE h0 hr1 ho
        have hcz : 0 ≤ cap := Nat.zero_le _
        have hcS : Chg [wr.heap.size] wr (wr.alloc (.cells #[.int .i64 x, .int .u64 n1, .int .u64 n1] 108)) := (Chg.refl _ wr).alloc _
        have hox : Own ((wr.alloc (.cells #[.int .i64 x, .int .u64 n1, .int .u64 n1] 108)).alloc (.cells #[.int .i64 x, .int .u64 n1, .int .u64 n1] 108)) 108 3 (.slice a3 0 c3) 0 (spCells F) := (HO.out.chg hcS (fun b hb hb2 => hne (by simp at hb2; subst hb2; exact hb))).alloc _
        have hcx : Chg [] w ((wr.alloc (.cells #[.int .i64 x, .int .u64 n1, .int .u64 n1] 108)).alloc (.cells #[.int .i64 x, .int .u64 n1, .int .u64 n1] 108)) := (HCH.out.trans' hcS (by simp; omega)).alloc _
        have hrd : Rd ((wr.alloc (.cells #[.int .i64 x, .int .u64 n1, .int .u64 n1] 108)).alloc (.cells #[.int .i64 x, .int .u64 n1, .int .u64 n1] 108)) 3 (.slice (some ⟨wr.heap.size + 1, 0, none⟩) 1 1) 1 (spCells [⟨x, n1, n1⟩]) := by
          have := Rd.lit (wr.alloc (.cells #[.int .i64 x, .int .u64 n1, .int .u64 n1] 108)) #[.int .i64 x, .int .u64 n1, .int .u64 n1] 108 3 1 1 rfl
          simp only [World.size_alloc] at this
          exact this
        have HCX := Lib.hid hcx
        clear hcS hcx
        cases ao with
        | none =>
          go_wp2_with (at_builtin; go_must (refine wpList_append_src _ rfl (.tmp 71) (.tmp 73) 88 88 rfl 108 _ 3 24 under_spots info_spot rfl (by decide) (.slice a3 0 c3) 0 (spCells F) rfl hox (.slice (some ⟨wr.heap.size + 1, 0, none⟩) 1 1) 1 (spCells [⟨x, n1, n1⟩]) rfl (Src.of_rd under_spots hrd) (spCells_oneCell _) (by unfold maxLen; omega) (by omega) ?_; intro a7 c7 w7 ho7 hg7 hf7))
          have HC7 := Lib.hid (HCX.out.trans' hg7 (fun b hb => .inr (HA.out b (by simpa using hb))))
          have HA7 : Hid (∀ b ∈ abl a7, w.heap.size ≤ b) := Lib.hid (fun b hb => by
            rcases hf7 b hb with h | h
            · exact HA.out b (by simpa using h)
            · simp at h; omega)
          have HO7 := Lib.hid ho7
          clear hg7 hf7 ho7 hox hrd e0 e1 e2 f1 f2
          go_loopw [5, 79] (fun out i wx => out = .slice a7 (0 + 1) c7 ∧ i = .int .i64 0 ∧ w7 = wx) (fun _ _ _ => 0)
          case atStart => exact ⟨rfl, rfl, rfl⟩
          case round =>
            obtain ⟨rfl, rfl, rfl⟩ := hrel
            go_wp2
            go_ret
            rw [← HKL.out, HS.out, ← HFK.out, HMU.out, List.append_nil, spCells_append]
            exact ⟨a7, c7, rfl, HO7.out, HC7.out, HA7.out⟩
        | some ad =>
          by_cases hc0 : cap = 0
          · subst hc0
            go_wp2_with (at_builtin; go_must (refine wpList_append_src _ rfl (.tmp 71) (.tmp 73) 88 88 rfl 108 _ 3 24 under_spots info_spot rfl (by decide) (.slice a3 0 c3) 0 (spCells F) rfl hox (.slice (some ⟨wr.heap.size + 1, 0, none⟩) 1 1) 1 (spCells [⟨x, n1, n1⟩]) rfl (Src.of_rd under_spots hrd) (spCells_oneCell _) (by unfold maxLen; omega) (by omega) ?_; intro a7 c7 w7 ho7 hg7 hf7))
            have HC7 := Lib.hid (HCX.out.trans' hg7 (fun b hb => .inr (HA.out b (by simpa using hb))))
            have HA7 : Hid (∀ b ∈ abl a7, w.heap.size ≤ b) := Lib.hid (fun b hb => by
              rcases hf7 b hb with h | h
              · exact HA.out b (by simpa using h)
              · simp at h; omega)
            have HO7 := Lib.hid ho7
            clear hg7 hf7 ho7 hox hrd e0 e1 e2 f1 f2
            go_loopw [5, 79] (fun out i wx => out = .slice a7 (0 + 1) c7 ∧ i = .int .i64 0 ∧ w7 = wx) (fun _ _ _ => 0)
            case atStart => exact ⟨rfl, rfl, rfl⟩
            case round =>
              obtain ⟨rfl, rfl, rfl⟩ := hrel
              go_wp2
              go_ret
              rw [← HKL.out, HS.out, ← HFK.out, HMU.out, List.append_nil, spCells_append]
              exact ⟨a7, c7, rfl, HO7.out, HC7.out, HA7.out⟩
          · have hc0' : ¬ (0 = cap) := fun h => hc0 h.symm
            go_wp2_with (at_builtin; go_must (refine wpList_append_src _ rfl (.tmp 71) (.tmp 73) 88 88 rfl 108 _ 3 24 under_spots info_spot rfl (by decide) (.slice a3 0 c3) 0 (spCells F) rfl hox (.slice (some ⟨wr.heap.size + 1, 0, none⟩) 1 1) 1 (spCells [⟨x, n1, n1⟩]) rfl (Src.of_rd under_spots hrd) (spCells_oneCell _) (by unfold maxLen; omega) (by omega) ?_; intro a7 c7 w7 ho7 hg7 hf7))
            have HC7 := Lib.hid (HCX.out.trans' hg7 (fun b hb => .inr (HA.out b (by simpa using hb))))
            have HA7 : Hid (∀ b ∈ abl a7, w.heap.size ≤ b) := Lib.hid (fun b hb => by
              rcases hf7 b hb with h | h
              · exact HA.out b (by simpa using h)
              · simp at h; omega)
            have HO7 := Lib.hid ho7
            clear hg7 hf7 ho7 hox hrd e0 e1 e2 f1 f2
            go_loopw [5, 79] (fun out i wx => out = .slice a7 (0 + 1) c7 ∧ i = .int .i64 0 ∧ w7 = wx) (fun _ _ _ => 0)
            case atStart => exact ⟨rfl, rfl, rfl⟩
            case round =>
              obtain ⟨rfl, rfl, rfl⟩ := hrel
              go_wp2
              go_ret
              rw [← HKL.out, HS.out, ← HFK.out, HMU.out, List.append_nil, spCells_append]
              exact ⟨a7, c7, rfl, HO7.out, HC7.out, HA7.out⟩
      · obtain ⟨b, o, rfl, hcl⟩ := hr1.addr (by omega)
        by_cases hk0 : k = 0
        · subst hk0
          have HS := Lib.hid (show insS l x 0 = l.take 0 ++ [⟨x, 1, 1⟩] ++ moveUp (l.drop 0) from by
            rw [insS, if_neg (fun h => h0 h.symm), if_neg (by omega), if_neg (fun h => h0 h.symm), if_neg (by omega)])
          have hz : ¬ (0 = l.length) := fun h => h0 h.symm
          have hzb : ((0 : Int) == (l.length : Int)) = false := by rw [beq_eq_false_iff_ne]; omega
          have HD := Lib.hid (show Rd w 3 (.slice (some ⟨b, o, none⟩) l.length cap) (l.length - 0) (spCells (l.drop 0)) from HR.out)
          have hcz : 0 ≤ cap := Nat.zero_le _
          have hcS : Chg [wr.heap.size] wr (wr.alloc (.cells #[.int .i64 x, .int .u64 1, .int .u64 1] 108)) := (Chg.refl _ wr).alloc _
          have hox : Own ((wr.alloc (.cells #[.int .i64 x, .int .u64 1, .int .u64 1] 108)).alloc (.cells #[.int .i64 x, .int .u64 1, .int .u64 1] 108)) 108 3 (.slice a3 0 c3) 0 (spCells F) := (HO.out.chg hcS (fun b hb hb2 => hne (by simp at hb2; subst hb2; exact hb))).alloc _
          have hcx : Chg [] w ((wr.alloc (.cells #[.int .i64 x, .int .u64 1, .int .u64 1] 108)).alloc (.cells #[.int .i64 x, .int .u64 1, .int .u64 1] 108)) := (HCH.out.trans' hcS (by simp; omega)).alloc _
          have hrd : Rd ((wr.alloc (.cells #[.int .i64 x, .int .u64 1, .int .u64 1] 108)).alloc (.cells #[.int .i64 x, .int .u64 1, .int .u64 1] 108)) 3 (.slice (some ⟨wr.heap.size + 1, 0, none⟩) 1 1) 1 (spCells [⟨x, 1, 1⟩]) := by
            have := Rd.lit (wr.alloc (.cells #[.int .i64 x, .int .u64 1, .int .u64 1] 108)) #[.int .i64 x, .int .u64 1, .int .u64 1] 108 3 1 1 rfl
            simp only [World.size_alloc] at this
            exact this
          have HCX := Lib.hid hcx
          clear hcS hcx
          go_wp2_with (at_builtin; go_must (refine wpList_append_src _ rfl (.tmp 71) (.tmp 73) 88 88 rfl 108 _ 3 24 under_spots info_spot rfl (by decide) (.slice a3 0 c3) 0 (spCells F) rfl hox (.slice (some ⟨wr.heap.size + 1, 0, none⟩) 1 1) 1 (spCells [⟨x, 1, 1⟩]) rfl (Src.of_rd under_spots hrd) (spCells_oneCell _) (by unfold maxLen; omega) (by omega) ?_; intro a7 c7 w7 ho7 hg7 hf7))
          have HC7 := Lib.hid (HCX.out.trans' hg7 (fun b hb => .inr (HA.out b (by simpa using hb))))
          have HA7 : Hid (∀ b ∈ abl a7, w.heap.size ≤ b) := Lib.hid (fun b hb => by
            rcases hf7 b hb with h | h
            · exact HA.out b (by simpa using h)
            · simp at h; omega)
          have HO7 := Lib.hid ho7
          clear hg7 hf7 ho7 hox hrd e0 e1 e2 f1 f2
          go_loopw [5, 79] (fun out i wx => ∃ (j : Nat) (a3 : Option Addr) (c3 : Nat), j ≤ l.length - 0 ∧ i = .int .i64 (j : Nat) ∧ out = .slice a3 (0 + 1 + j) c3 ∧
            Own wx 108 3 (.slice a3 (0 + 1 + j) c3) (0 + 1 + j) (spCells (F ++ [⟨x, 1, 1⟩] ++ moveUp ((l.drop 0).take j))) ∧ Chg [] w wx ∧ Hid (∀ b ∈ abl a3, w.heap.size ≤ b)) (fun _ i _ => l.length - 0 - (intOf i).toNat)
          case atStart => exact ⟨0, a7, c7, Nat.zero_le _, rfl, rfl, by simp only [List.take_zero, moveUp, List.map_nil, List.append_nil]; rw [spCells_append]; exact HO7.out, HC7.out, HA7⟩
          case round =>
            obtain ⟨j, a3, c3, hj, rfl, rfl, ho, hch, HA⟩ := hrel
            clear HO HR1 HBX hne hlt3
            by_cases hlt : j < l.length - 0
            · have hdl : (l.drop 0).length = l.length - 0 := List.length_drop
              have hr2 := HD.out.chg hch (by simp)
              obtain ⟨b', o', hbo, hc⟩ := hr2.addr (by omega)
              simp only [Option.some.injEq, Addr.mk.injEq, and_true] at hbo
              obtain ⟨rfl, rfl⟩ := hbo
              obtain ⟨c0, c1, c2⟩ := sp_at (l := l.drop 0) (fun j hj => hc j (by rw [hdl] at hj; exact hj)) (show j < (l.drop 0).length by omega)
              have HMS := Lib.hid (moveUp_step (l.drop 0) j (by omega))
              have hb2 := HBD.out ((l.drop 0)[j]'(by omega)) (List.mem_of_mem_drop (List.getElem_mem _))
              generalize (l.drop 0)[j]'(by omega) = p at *
              have hw1 : (p.lo : Int) + 1 = ((p.lo + 1 : Nat) : Int) := by omega
              have hw2 : (p.hi : Int) + 1 = ((p.hi + 1 : Nat) : Int) := by omega
              have hcX := (hch.alloc (.cells #[.int .i64 p.x, .int .u64 p.lo, .int .u64 p.hi] 108)).alloc (.cells #[.int .i64 p.x, .int .u64 (p.lo + 1 : Nat), .int .u64 (p.hi + 1 : Nat)] 108)
              have h64a : p.lo + 1 ≤ 4611686018427387905 := by omega
              have h64b : p.hi + 1 ≤ 4611686018427387905 := by omega
              generalize p.lo + 1 = pl at *
              generalize p.hi + 1 = ph at *
              have hsz := hch.size
              have HCX := Lib.hid hcX
              have hrd : Rd ((wr.alloc (.cells #[.int .i64 p.x, .int .u64 p.lo, .int .u64 p.hi] 108)).alloc (.cells #[.int .i64 p.x, .int .u64 pl, .int .u64 ph] 108)) 3 (.slice (some ⟨wr.heap.size + 1, 0, none⟩) 1 1) 1 (spCells [⟨p.x, pl, ph⟩]) := by
                have := Rd.lit (wr.alloc (.cells #[.int .i64 p.x, .int .u64 p.lo, .int .u64 p.hi] 108)) #[.int .i64 p.x, .int .u64 pl, .int .u64 ph] 108 3 1 1 rfl
                rw [World.size_alloc] at this
                exact this
              clear hc hr2 hcX hdl
              go_wp2_with (at_builtin; go_must (refine wpList_append_src _ rfl (.tmp 83) (.tmp 93) 88 88 rfl 108 _ 3 24 under_spots info_spot rfl (by decide) (.slice a3 (0 + 1 + j) c3) (0 + 1 + j) (spCells (F ++ [⟨x, 1, 1⟩] ++ moveUp ((l.drop 0).take j))) rfl ((ho.alloc _).alloc _) (.slice (some ⟨wr.heap.size + 1, 0, none⟩) 1 1) 1 (spCells [⟨p.x, pl, ph⟩]) rfl (Src.of_rd under_spots hrd) (spCells_oneCell _) (by unfold maxLen; omega) (by omega) ?_; intro a8 c8 w8 ho8 hg8 hf8))
              refine ⟨⟨j + 1, a8, c8, by omega, by go_num, rfl, by rw [HMS.out, ← List.append_assoc, spCells_append]; exact ho8, HCX.out.trans' hg8 (fun b hb => .inr (HA.out b (by simpa using hb))), Lib.hid (fun b hb => ?_)⟩, by simp [intOf]; omega⟩
              rcases hf8 b hb with h | h
              · exact HA.out b (by simpa using h)
              · simp at h; omega
            · obtain rfl : j = l.length - 0 := by omega
              rw [List.take_of_length_le (by rw [List.length_drop]; exact Nat.le_refl _)] at ho
              have HLL := Lib.hid (show 0 + 1 + (l.length - 0) = l.length + 1 by omega)
              rw [HLL.out] at ho
              have HOO := Lib.hid ho
              clear ho
              go_wp2
              go_ret
              exact ⟨a3, c3, by rw [HLL.out]; rfl, by rw [HS.out, ← HFK.out]; exact HOO.out, hch, HA.out⟩
        · have hkp : 0 < k := by omega
          have hrF := ho.rd
          obtain ⟨g3, o3, rfl, hcF⟩ := hrF.addr hkp
          obtain ⟨q0, q1, q2⟩ := sp_at (l := F) (fun j hj => hcF j (by rw [HFL.out] at hj; exact hj)) (show k - 1 < F.length by rw [HFL.out]; omega)
          have hqm : F[k - 1]'(by rw [HFL.out]; omega) ∈ l := List.mem_of_mem_take (by rw [← HFK.out]; exact List.getElem_mem _)
          have hq := HBD.out _ hqm
          have HQ := Lib.hid (show l.getD (k - 1) default = F[k - 1]'(by rw [HFL.out]; omega) from by
            have : k - 1 < l.length := by omega
            simp [List.getD, this, HFK.out])
          generalize F[k - 1]'(by rw [HFL.out]; omega) = q at *
          have hkw : (k : Int) - 1 = ((k - 1 : Nat) : Int) := by omega
          have hk1 : k - 1 < k := by omega
          have hk2 : (0 : Int) ≤ ((k - 1 : Nat) : Int) := by omega
          have hk3 : ((k - 1 : Nat) : Int) < (k : Int) := by omega
          have HKM := Lib.hid (rfl : k - 1 = k - 1)
          obtain ⟨m1, hm1⟩ : ∃ m1, m1 = k - 1 := ⟨_, rfl⟩
          rw [← hm1] at q0 q1 q2 hkw hk1 hk2 hk3 HQ
          have HM1 := Lib.hid hm1
          clear hm1 hqm hcF hrF HKM
          have q1a : ∀ o, (wr.alloc o).cell? ⟨g3, o3 + m1 * 3 + 1, none⟩ = some (.int .u64 q.lo) := fun o => ((Chg.refl [] wr).alloc o).cell q1 (by simp)
          clear q0 q1 q2
          have hqw : (q.lo : Int) + 1 = ((q.lo + 1 : Nat) : Int) := by omega
          have HQL := Lib.hid (rfl : q.lo + 1 = q.lo + 1)
          obtain ⟨ql, hql⟩ : ∃ ql, ql = q.lo + 1 := ⟨_, rfl⟩
          rw [← hql] at hqw
          have hql64 : ql ≤ 4611686018427387905 := by omega
          have HQL2 := Lib.hid hql
          clear hql HQL
          have hgt : decide ((0 : Int) < (k : Int)) = true := decide_eq_true (by omega)
          have hkp0 : (0 : Int) ≤ (k : Int) := by omega
          by_cases hkl2 : k = l.length
          · have HS := Lib.hid (HSE.out hkl2)
            have heq : ((k : Int) == (l.length : Int)) = true := by rw [beq_iff_eq]; omega
            have hlt2 : decide (k < l.length) = false := decide_eq_false (by omega)
            have hml : l.length - k = 0 := by omega
            have hkc : k ≤ cap := by omega
            have HKL := Lib.hid hkl2
            have HMU := Lib.hid (show moveUp (l.drop k) = [] from by rw [List.drop_of_length_le (by omega)]; rfl)
            clear HSE hkl2 hcl h0 hk0 hr1 ho
            have hcS : Chg [wr.heap.size] wr (wr.alloc (.cells #[.int .i64 x, .int .u64 n1, .int .u64 n1] 108)) := (Chg.refl _ wr).alloc _
            have hox : Own ((wr.alloc (.cells #[.int .i64 x, .int .u64 n1, .int .u64 n1] 108)).alloc (.cells #[.int .i64 x, .int .u64 n1, .int .u64 n1] 108)) 108 3 (.slice (some ⟨g3, o3, none⟩) k c3) k (spCells F) := (HO.out.chg hcS (fun b hb hb2 => hne (by simp at hb2; subst hb2; exact hb))).alloc _
            have hcx : Chg [] w ((wr.alloc (.cells #[.int .i64 x, .int .u64 n1, .int .u64 n1] 108)).alloc (.cells #[.int .i64 x, .int .u64 n1, .int .u64 n1] 108)) := (HCH.out.trans' hcS (by simp; omega)).alloc _
            have hrd : Rd ((wr.alloc (.cells #[.int .i64 x, .int .u64 n1, .int .u64 n1] 108)).alloc (.cells #[.int .i64 x, .int .u64 n1, .int .u64 n1] 108)) 3 (.slice (some ⟨wr.heap.size + 1, 0, none⟩) 1 1) 1 (spCells [⟨x, n1, n1⟩]) := by
              have := Rd.lit (wr.alloc (.cells #[.int .i64 x, .int .u64 n1, .int .u64 n1] 108)) #[.int .i64 x, .int .u64 n1, .int .u64 n1] 108 3 1 1 rfl
              simp only [World.size_alloc] at this
              exact this
            have HCX := Lib.hid hcx
            clear hcS hcx
            by_cases hck : cap = k
            · have HCK := Lib.hid hck
              subst hck
              go_wp2_with (at_builtin; go_must (refine wpList_append_src _ rfl (.tmp 71) (.tmp 73) 88 88 rfl 108 _ 3 24 under_spots info_spot rfl (by decide) (.slice (some ⟨g3, o3, none⟩) cap c3) cap (spCells F) rfl hox (.slice (some ⟨wr.heap.size + 1, 0, none⟩) 1 1) 1 (spCells [⟨x, n1, n1⟩]) rfl (Src.of_rd under_spots hrd) (spCells_oneCell _) (by unfold maxLen; omega) (by omega) ?_; intro a7 c7 w7 ho7 hg7 hf7))
              have HC7 := Lib.hid (HCX.out.trans' hg7 (fun b hb => .inr (HA.out b (by simpa using hb))))
              have HA7 : Hid (∀ b ∈ abl a7, w.heap.size ≤ b) := Lib.hid (fun b hb => by
                rcases hf7 b hb with h | h
                · exact HA.out b (by simpa using h)
                · simp at h; omega)
              have HO7 := Lib.hid ho7
              clear hg7 hf7 ho7 hox hrd e0 e1 e2 f1 f2
              go_loopw [5, 79] (fun out i wx => out = .slice a7 (cap + 1) c7 ∧ i = .int .i64 0 ∧ w7 = wx) (fun _ _ _ => 0)
              case atStart => exact ⟨rfl, rfl, rfl⟩
              case round =>
                obtain ⟨rfl, rfl, rfl⟩ := hrel
                go_wp2
                go_ret
                rw [← HKL.out, HS.out, ← HFK.out, HMU.out, List.append_nil, spCells_append]
                exact ⟨a7, c7, rfl, HO7.out, HC7.out, HA7.out⟩
            · skip
              go_wp2_with (at_builtin; go_must (refine wpList_append_src _ rfl (.tmp 71) (.tmp 73) 88 88 rfl 108 _ 3 24 under_spots info_spot rfl (by decide) (.slice (some ⟨g3, o3, none⟩) k c3) k (spCells F) rfl hox (.slice (some ⟨wr.heap.size + 1, 0, none⟩) 1 1) 1 (spCells [⟨x, n1, n1⟩]) rfl (Src.of_rd under_spots hrd) (spCells_oneCell _) (by unfold maxLen; omega) (by omega) ?_; intro a7 c7 w7 ho7 hg7 hf7))
              have HC7 := Lib.hid (HCX.out.trans' hg7 (fun b hb => .inr (HA.out b (by simpa using hb))))
              have HA7 : Hid (∀ b ∈ abl a7, w.heap.size ≤ b) := Lib.hid (fun b hb => by
                rcases hf7 b hb with h | h
                · exact HA.out b (by simpa using h)
                · simp at h; omega)
              have HO7 := Lib.hid ho7
              clear hg7 hf7 ho7 hox hrd e0 e1 e2 f1 f2
              go_loopw [5, 79] (fun out i wx => out = .slice a7 (k + 1) c7 ∧ i = .int .i64 0 ∧ w7 = wx) (fun _ _ _ => 0)
              case atStart => exact ⟨rfl, rfl, rfl⟩
              case round =>
                obtain ⟨rfl, rfl, rfl⟩ := hrel
                go_wp2
                go_ret
                rw [← HKL.out, HS.out, ← HFK.out, HMU.out, List.append_nil, spCells_append]
                exact ⟨a7, c7, rfl, HO7.out, HC7.out, HA7.out⟩
          · have hkl3 : k < l.length := by omega
            obtain ⟨c0, c1, c2⟩ := sp_at hcl hkl3
            have hrb := HBD.out _ (List.getElem_mem hkl3)
            have HS := Lib.hid (show insS l x k = l.take k ++ [⟨x, ql, l[k].hi⟩] ++ moveUp (l.drop k) from by
              rw [insS, if_neg hkl2, if_pos hkp, if_neg hkl2, if_pos hkp, ← HM1.out, HQ.out, HQL2.out]
              simp [List.getD, hkl3])
            generalize l[k] = rr at *
            obtain ⟨rh, hrh⟩ : ∃ rh, rh = rr.hi := ⟨_, rfl⟩
            rw [← hrh] at c2 HS hrb
            have c2a : ∀ o', (wr.alloc o').cell? ⟨b, o + k * 3 + 2, none⟩ = some (.int .u64 rh) := fun o' => ((Chg.refl [] wr).alloc o').cell c2 (by simp)
            clear c0 c1 c2
            have heq : ((k : Int) == (l.length : Int)) = false := by rw [beq_eq_false_iff_ne]; omega
            have hlt2 : decide (k < l.length) = true := decide_eq_true hkl3
            have hkli : (k : Int) < (l.length : Int) := by omega
            have hck : ¬ (cap = k) := by omega
            have hkc : k ≤ cap := by omega
            have HD := Lib.hid (show Rd w 3 (.slice (some ⟨b, o + k * 3, none⟩) (l.length - k) (cap - k)) (l.length - k) (spCells (l.drop k)) from rd_dropS HR.out k (by omega))
            clear HSE hkl2 hcl h0 hk0 hr1 ho hrh
            have hcS : Chg [wr.heap.size] wr (wr.alloc (.cells #[.int .i64 x, .int .u64 ql, .int .u64 rh] 108)) := (Chg.refl _ wr).alloc _
            have hox : Own ((wr.alloc (.cells #[.int .i64 x, .int .u64 ql, .int .u64 rh] 108)).alloc (.cells #[.int .i64 x, .int .u64 ql, .int .u64 rh] 108)) 108 3 (.slice (some ⟨g3, o3, none⟩) k c3) k (spCells F) := (HO.out.chg hcS (fun b hb hb2 => hne (by simp at hb2; subst hb2; exact hb))).alloc _
            have hcx : Chg [] w ((wr.alloc (.cells #[.int .i64 x, .int .u64 ql, .int .u64 rh] 108)).alloc (.cells #[.int .i64 x, .int .u64 ql, .int .u64 rh] 108)) := (HCH.out.trans' hcS (by simp; omega)).alloc _
            have hrd : Rd ((wr.alloc (.cells #[.int .i64 x, .int .u64 ql, .int .u64 rh] 108)).alloc (.cells #[.int .i64 x, .int .u64 ql, .int .u64 rh] 108)) 3 (.slice (some ⟨wr.heap.size + 1, 0, none⟩) 1 1) 1 (spCells [⟨x, ql, rh⟩]) := by
              have := Rd.lit (wr.alloc (.cells #[.int .i64 x, .int .u64 ql, .int .u64 rh] 108)) #[.int .i64 x, .int .u64 ql, .int .u64 rh] 108 3 1 1 rfl
              simp only [World.size_alloc] at this
              exact this
            have HCX := Lib.hid hcx
            clear hcS hcx
            go_wp2_with (at_builtin; go_must (refine wpList_append_src _ rfl (.tmp 71) (.tmp 73) 88 88 rfl 108 _ 3 24 under_spots info_spot rfl (by decide) (.slice (some ⟨g3, o3, none⟩) k c3) k (spCells F) rfl hox (.slice (some ⟨wr.heap.size + 1, 0, none⟩) 1 1) 1 (spCells [⟨x, ql, rh⟩]) rfl (Src.of_rd under_spots hrd) (spCells_oneCell _) (by unfold maxLen; omega) (by omega) ?_; intro a7 c7 w7 ho7 hg7 hf7))
            have HC7 := Lib.hid (HCX.out.trans' hg7 (fun b hb => .inr (HA.out b (by simpa using hb))))
            have HA7 : Hid (∀ b ∈ abl a7, w.heap.size ≤ b) := Lib.hid (fun b hb => by
              rcases hf7 b hb with h | h
              · exact HA.out b (by simpa using h)
              · simp at h; omega)
            have HO7 := Lib.hid ho7
            clear hg7 hf7 ho7 hox hrd e0 e1 e2 f1 f2
            go_loopw [5, 79] (fun out i wx => ∃ (j : Nat) (a3 : Option Addr) (c3 : Nat), j ≤ l.length - k ∧ i = .int .i64 (j : Nat) ∧ out = .slice a3 (k + 1 + j) c3 ∧
              Own wx 108 3 (.slice a3 (k + 1 + j) c3) (k + 1 + j) (spCells (F ++ [⟨x, ql, rh⟩] ++ moveUp ((l.drop k).take j))) ∧ Chg [] w wx ∧ Hid (∀ b ∈ abl a3, w.heap.size ≤ b)) (fun _ i _ => l.length - k - (intOf i).toNat)
            case atStart => exact ⟨0, a7, c7, Nat.zero_le _, rfl, rfl, by simp only [List.take_zero, moveUp, List.map_nil, List.append_nil]; rw [spCells_append]; exact HO7.out, HC7.out, HA7⟩
            case round =>
              obtain ⟨j, a3, c3, hj, rfl, rfl, ho, hch, HA⟩ := hrel
              clear HO HR1 HBX hne hlt3 c2a q1a
              by_cases hlt : j < l.length - k
              · have hdl : (l.drop k).length = l.length - k := List.length_drop
                have hr2 := HD.out.chg hch (by simp)
                obtain ⟨b', o', hbo, hc⟩ := hr2.addr (by omega)
                simp only [Option.some.injEq, Addr.mk.injEq, and_true] at hbo
                obtain ⟨rfl, rfl⟩ := hbo
                obtain ⟨c0, c1, c2⟩ := sp_at (l := l.drop k) (fun j hj => hc j (by rw [hdl] at hj; exact hj)) (show j < (l.drop k).length by omega)
                have HMS := Lib.hid (moveUp_step (l.drop k) j (by omega))
                have hb2 := HBD.out ((l.drop k)[j]'(by omega)) (List.mem_of_mem_drop (List.getElem_mem _))
                generalize (l.drop k)[j]'(by omega) = p at *
                have hw1 : (p.lo : Int) + 1 = ((p.lo + 1 : Nat) : Int) := by omega
                have hw2 : (p.hi : Int) + 1 = ((p.hi + 1 : Nat) : Int) := by omega
                have hcX := (hch.alloc (.cells #[.int .i64 p.x, .int .u64 p.lo, .int .u64 p.hi] 108)).alloc (.cells #[.int .i64 p.x, .int .u64 (p.lo + 1 : Nat), .int .u64 (p.hi + 1 : Nat)] 108)
                have h64a : p.lo + 1 ≤ 4611686018427387905 := by omega
                have h64b : p.hi + 1 ≤ 4611686018427387905 := by omega
                generalize p.lo + 1 = pl at *
                generalize p.hi + 1 = ph at *
                have hsz := hch.size
                have HCX := Lib.hid hcX
                have hrd : Rd ((wr.alloc (.cells #[.int .i64 p.x, .int .u64 p.lo, .int .u64 p.hi] 108)).alloc (.cells #[.int .i64 p.x, .int .u64 pl, .int .u64 ph] 108)) 3 (.slice (some ⟨wr.heap.size + 1, 0, none⟩) 1 1) 1 (spCells [⟨p.x, pl, ph⟩]) := by
                  have := Rd.lit (wr.alloc (.cells #[.int .i64 p.x, .int .u64 p.lo, .int .u64 p.hi] 108)) #[.int .i64 p.x, .int .u64 pl, .int .u64 ph] 108 3 1 1 rfl
                  rw [World.size_alloc] at this
                  exact this
                clear hc hr2 hcX hdl
                go_wp2_with (at_builtin; go_must (refine wpList_append_src _ rfl (.tmp 83) (.tmp 93) 88 88 rfl 108 _ 3 24 under_spots info_spot rfl (by decide) (.slice a3 (k + 1 + j) c3) (k + 1 + j) (spCells (F ++ [⟨x, ql, rh⟩] ++ moveUp ((l.drop k).take j))) rfl ((ho.alloc _).alloc _) (.slice (some ⟨wr.heap.size + 1, 0, none⟩) 1 1) 1 (spCells [⟨p.x, pl, ph⟩]) rfl (Src.of_rd under_spots hrd) (spCells_oneCell _) (by unfold maxLen; omega) (by omega) ?_; intro a8 c8 w8 ho8 hg8 hf8))
                refine ⟨⟨j + 1, a8, c8, by omega, by go_num, rfl, by rw [HMS.out, ← List.append_assoc, spCells_append]; exact ho8, HCX.out.trans' hg8 (fun b hb => .inr (HA.out b (by simpa using hb))), Lib.hid (fun b hb => ?_)⟩, by simp [intOf]; omega⟩
                rcases hf8 b hb with h | h
                · exact HA.out b (by simpa using h)
                · simp at h; omega
              · obtain rfl : j = l.length - k := by omega
                rw [List.take_of_length_le (by rw [List.length_drop]; exact Nat.le_refl _)] at ho
                have HLL := Lib.hid (show k + 1 + (l.length - k) = l.length + 1 by omega)
                rw [HLL.out] at ho
                have HOO := Lib.hid ho
                clear ho
                go_wp2
                go_ret
                exact ⟨a3, c3, by rw [HLL.out]; rfl, by rw [HS.out, ← HFK.out]; exact HOO.out, hch, HA.out⟩
end Go.Proofs.Ytkcldhimjnehdaa
