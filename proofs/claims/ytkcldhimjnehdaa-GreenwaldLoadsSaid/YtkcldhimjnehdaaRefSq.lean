/-
  The walk of the reference's Squeeze. Conditions: the form's own reach.
-/
import Derived.Test.YtkcldhimjnehdaaRefIns
import Derived.Test.YtkcldhimjnehdaaSteps
import Derived.Test.YtkcldhimjnehdaaPlainPlaces
namespace Go.Proofs.Ytkcldhimjnehdaa
open Go.RowKit

theorem Own.le_cap' {w : World} {e : TypeId} {size n c : Nat} {ao : Option Addr} {xs : List Value} (h : Own w e size (.slice ao n c) n xs) : n ≤ c := by
  obtain ⟨_, ⟨h1, h2⟩ | ⟨g, o, cp, cur, h1, _, h2, _⟩⟩ := h
  · omega
  · simp only [Value.slice.injEq, true_and] at h1
    omega
theorem spF_ge (n : Nat) (r : List Tp) : ∀ s ∈ spF n r, n ≤ s.lo ∧ s.lo ≤ s.hi := by
  induction r generalizing n with
  | nil => intro s hs; simp [spF] at hs
  | cons p r ih =>
    intro s hs
    rw [spF] at hs
    rcases List.mem_cons.1 hs with rfl | hs
    · simp only; omega
    · have := ih (n + p.st) s hs
      omega
theorem spF_pw (n : Nat) (r : List Tp) : (spF n r).Pairwise fun s t => s.lo ≤ t.hi := by
  induction r generalizing n with
  | nil => exact List.Pairwise.nil
  | cons p r ih =>
    rw [spF]
    refine List.pairwise_cons.2 ⟨fun t ht => ?_, ih _⟩
    have := spF_ge (n + p.st) r t ht
    simp only
    omega
theorem sqStepS_yes {m i : Nat} {l : List Sp} (hi : i + 1 < l.length) (h : (l[i + 1]'hi).hi - (l[i - 1]'(by omega)).lo ≤ m) : sqStepS m i l = l.take i ++ l.drop (i + 1) := by
  rw [sqStepS]
  have g1 : l.getD (i + 1) default = l[i + 1] := by simp [List.getD, hi]
  have g2 : l.getD (i - 1) default = l[i - 1]'(by omega) := by
    have : i - 1 < l.length := by omega
    simp [List.getD, this]
  rw [g1, g2, if_pos h]
theorem sqStepS_no {m i : Nat} {l : List Sp} (hi : i + 1 < l.length) (h : ¬ (l[i + 1]'hi).hi - (l[i - 1]'(by omega)).lo ≤ m) : sqStepS m i l = l := by
  rw [sqStepS]
  have g1 : l.getD (i + 1) default = l[i + 1] := by simp [List.getD, hi]
  have g2 : l.getD (i - 1) default = l[i - 1]'(by omega) := by
    have : i - 1 < l.length := by omega
    simp [List.getD, this]
  rw [g1, g2, if_neg h]
theorem sqToS_down (m k : Nat) (r : List Sp) (hk : 0 < k) : sqToS m k r = sqToS m (k - 1) (sqStepS m k r) := by
  obtain ⟨j, rfl⟩ : ∃ j, k = j + 1 := ⟨k - 1, by omega⟩
  rfl
theorem sqStepS_pw {m i : Nat} {l : List Sp} (h : l.Pairwise fun s t => s.lo ≤ t.hi) : (sqStepS m i l).Pairwise fun s t => s.lo ≤ t.hi := by
  rw [sqStepS]
  split
  · exact h.sublist (by
      conv => rhs; rw [← List.take_append_drop i l]
      exact List.Sublist.append (List.Sublist.refl _) (List.drop_sublist_drop_left l (by omega)))
  · exact h

set_option maxRecDepth 100000 in
set_option maxHeartbeats 4000000 in
theorem ref18_squeeze (w : World) (ao : Option Addr) (cap : Nat) (l : List Sp) (n m : Nat) (hn : n = l.length) (hpw : l.Pairwise fun s t => s.lo ≤ t.hi) (hr : Rd w 3 (.slice ao n cap) n (spCells l)) (hl : n ≤ 40000)
    (hbd : ∀ s ∈ l, s.hi ≤ 9223372036854775807) :
    Calls Try.prog 65 #[.slice ao n cap, .int .u64 m] w fun e w' => ∃ a3 c3, e = .returned (.slice a3 (sqS m l).length c3) ∧
      Own w' 108 3 (.slice a3 (sqS m l).length c3) (sqS m l).length (spCells (sqS m l)) ∧ Chg [] w w' ∧ ∀ b ∈ abl a3, w.heap.size ≤ b := by
  have HN := Lib.hid hn
  have HPW := Lib.hid hpw
  have HBD := Lib.hid hbd
  have hra := hr.alloc (.cells #[] 108)
  have HCA := Lib.hid ((Chg.refl [] w).alloc (.cells #[] 108))
  clear hn hpw hbd
  go_enter Try.func65, Try.ntmps65
  go_wp2_with (at_builtin; go_must (refine wpList_append_src _ rfl (.tmp 7) (.tmp 8) 88 88 rfl 108 _ 3 24 under_spots info_spot rfl (by decide) (.slice (some ⟨w.heap.size, 0, none⟩) 0 0) 0 [] rfl (Own.lit w 108 3 0 #[] rfl (by decide)) (.slice ao n cap) n (spCells l) rfl (Src.of_rd under_spots hra) (spCells_oneCell _) (by unfold maxLen; omega) (by omega) ?_; intro a7 c7 w7 ho7 hg7 hf7))
  have HO7 := Lib.hid (show Own w7 108 3 (.slice a7 n c7) n (spCells l) from by simpa using ho7)
  have HC7 := Lib.hid (show Chg [] w w7 from HCA.out.trans' hg7 (fun b hb => by simp at hb; omega))
  have HF7 := Lib.hid (show ∀ b ∈ abl a7, w.heap.size ≤ b from fun b hb => by
    rcases hf7 b hb with h | h
    · simp at h; omega
    · simp at h; omega)
  clear ho7 hg7 hf7 hra hr
  go_loopw [5, 6] (fun out iv wx => ∃ (i : Int) (L : List Sp) (k : Nat) (a3 : Option Addr) (c3 : Nat), out = .slice a3 k c3 ∧ iv = .int .i64 i ∧ -2 ≤ i ∧ (1 ≤ i → i + 1 < k) ∧ k ≤ 40000 ∧ i ≤ 40000 ∧ Hid (k = L.length ∧ sqToS m i.toNat L = sqS m l ∧ (L.Pairwise fun s t => s.lo ≤ t.hi) ∧ (∀ s ∈ L, s ∈ l)) ∧
    Own wx 108 3 (.slice a3 k c3) k (spCells L) ∧ Chg [] w wx ∧ Hid (∀ b ∈ abl a3, w.heap.size ≤ b)) (fun _ iv _ => (intOf iv + 2).toNat)
  case atStart => exact ⟨(n : Int) - 2, l, n, a7, c7, rfl, rfl, by omega, by omega, hl, by omega, Lib.hid ⟨HN.out, by rw [sqS]; congr 1; have := HN.out; omega, HPW.out, fun s hs => hs⟩, HO7.out, HC7.out, HF7⟩
  case round =>
    obtain ⟨i, L, k, a3, c3, rfl, rfl, hi2, hi1, hk4, hi4, HL, ho, hch, HA⟩ := hrel
    clear HO7 HC7 HF7
    by_cases hge : 1 ≤ i
    · obtain ⟨j, rfl⟩ : ∃ j : Nat, i = (j : Int) + 1 := ⟨(i - 1).toNat, by omega⟩
      have hjk : j + 2 < k := by have := hi1 hge; omega
      obtain ⟨hkL, hsq, hpw, hml⟩ := HL.out
      rw [show ((j : Int) + 1).toNat = j + 1 from by omega] at hsq
      obtain ⟨g, o, rfl, hc⟩ := ho.rd.addr (by omega)
      obtain ⟨c0, c1, c2⟩ := sp_at (l := L) (fun j hj => hc j (by rw [← hkL] at hj; exact hj)) (show j + 1 + 1 < L.length by omega)
      obtain ⟨d0, d1, d2⟩ := sp_at (l := L) (fun j hj => hc j (by rw [← hkL] at hj; exact hj)) (show j < L.length by omega)
      have hle := List.pairwise_iff_getElem.1 hpw j (j + 1 + 1) (by omega) (by omega) (by omega)
      have hbh := HBD.out _ (hml _ (List.getElem_mem (show j + 1 + 1 < L.length by omega)))
      have hcap := ho.le_cap'
      have HY := Lib.hid (fun (h : (L[j + 1 + 1]'(by omega)).hi - (L[j]'(by omega)).lo ≤ m) => sqStepS_yes (m := m) (i := j + 1) (l := L) (by omega) h)
      have HNo := Lib.hid (fun (h : ¬ (L[j + 1 + 1]'(by omega)).hi - (L[j]'(by omega)).lo ≤ m) => sqStepS_no (m := m) (i := j + 1) (l := L) (by omega) h)
      have HSQ := Lib.hid ((sqToS_down m (j + 1) L (by omega)).symm.trans hsq)
      have HPW2 := Lib.hid (sqStepS_pw (m := m) (i := j + 1) hpw)
      have HML := Lib.hid hml
      have HKL := Lib.hid hkL
      have HO := Lib.hid ho
      have HCH := Lib.hid hch
      simp only [Nat.add_sub_cancel] at HSQ
      have hge1 : decide ((1 : Int) ≤ (j : Int) + 1) = true := decide_eq_true hge
      have e1 : IntKind.i64.wrap ((j : Int) + 1 + 1) = (j : Int) + 1 + 1 := IntWalk.i64_in _ (by omega)
      have e2 : IntKind.i64.wrap (j : Int) = (j : Int) := IntWalk.i64_in _ (by omega)
      have e3 : (0 : Int) ≤ (j : Int) + 1 + 1 := by omega
      have e4 : (j : Int) + 1 + 1 < (k : Int) := by omega
      have e5 : (0 : Int) ≤ (j : Int) := by omega
      have e6 : (j : Int) < (k : Int) := by omega
      have e7 : ((j : Int) + 1 + 1).toNat = j + 1 + 1 := by omega
      have rd1 : Rd wr 3 (.slice (some ⟨g, o, none⟩) (j + 1) c3) (j + 1) (spCells (L.take (j + 1))) := by
        refine ⟨by rw [spCells_len, List.length_take]; omega, _, _, rfl, .inr ⟨g, o, rfl, fun i hi => ?_⟩⟩
        rw [hc i (by omega)]
        have e : spCells L = spCells (L.take (j + 1)) ++ spCells (L.drop (j + 1)) := by rw [← spCells_append, List.take_append_drop]
        rw [e, List.getElem?_append_left (by rw [spCells_len, List.length_take]; omega)]
      have rd2 : Rd wr 3 (.slice (some ⟨g, o + (j + 1 + 1) * 3, none⟩) (k - (j + 1 + 1)) (c3 - (j + 1 + 1))) (k - (j + 1 + 1)) (spCells (L.drop (j + 1 + 1))) := by
        have h0 := ho.rd
        have h1 := rd_dropS (l := L) (by rw [← hkL]; exact h0) (j + 1 + 1) (by omega)
        rw [← hkL] at h1
        exact h1
      generalize L[j + 1 + 1] = t at *
      generalize L[j] = s at *
      have e8 : IntKind.u64.wrap ((t.hi : Int) - (s.lo : Int)) = (t.hi : Int) - (s.lo : Int) := IntWalk.u64_in _ (by omega)
      clear hc hkL hsq hpw hml HL hi1 hi2 hge ho hch c0 c1 d0 d2
      by_cases hm : t.hi - s.lo ≤ m
      · have hd : decide ((t.hi : Int) - (s.lo : Int) ≤ (m : Int)) = true := decide_eq_true (by omega)
        have HS := Lib.hid (HY.out hm)
        clear HY HNo hm
        go_wp2
        go_quiet (fail)
        have rd1' : Rd (wr.drewN nq) 3 _ _ _ := rd1.chg ((Chg.refl [] wr).drewN nq) (by simp)
        have rd2' : Rd (wr.drewN nq) 3 _ _ _ := rd2.chg ((Chg.refl [] wr).drewN nq) (by simp)
        have HCH2 := Lib.hid (HCH.out.drewN nq)
        generalize wr.drewN nq = W at *
        clear e1 e2 e8 c2 d1 rd1 rd2 HO HCH
        have hsz := HCH2.out.size
        have hck : ¬ (c3 = j + 1 + 1) := by omega
        have f1 : j + 1 ≤ c3 := by omega
        have f2 : (0 : Int) ≤ (j : Int) + 1 := by omega
        have f3 : ((j : Int) + 1).toNat = j + 1 := by omega
        have f4 : (j : Int) + 1 + 1 ≤ (k : Int) := by omega
        have f5 : (j : Int) + 1 ≤ (c3 : Int) := by omega
        have e9 : IntKind.i64.wrap ((j : Int) + 1 + 1) = (j : Int) + 1 + 1 := IntWalk.i64_in _ (by omega)
        have hlen : (sqStepS m (j + 1) L).length = k - 1 := by rw [HS.out, List.length_append, List.length_take, List.length_drop, ← HKL.out]; omega
        have HLEN := Lib.hid hlen
        have HCELLS := Lib.hid (show spCells (sqStepS m (j + 1) L) = spCells (L.take (j + 1)) ++ spCells (L.drop (j + 1 + 1)) from by rw [HS.out, spCells_append])
        have HLE := Lib.hid (show j + 1 + (k - (j + 1 + 1)) = k - 1 from by omega)
        clear hlen
        go_wp2
        go_region_law (first
          | (refine step_append_src rfl (.tmp 32) (.tmp 35) 88 88 rfl 108 _ 3 24 under_spots info_spot rfl (by decide) (.slice (some ⟨W.heap.size, 0, none⟩) 0 0) 0 [] rfl (by first | exact (Own.lit W 108 3 0 #[] rfl (by decide)).drew | exact (Own.lit W 108 3 0 #[] rfl (by decide))) _ (j + 1) (spCells (L.take (j + 1))) rfl (Src.of_rd under_spots (rd1'.chg (F := []) (by with_reducible (repeat (first | exact Chg.refl _ _ | assumption | apply Chg.drew | apply Chg.alloc))) (by simp))) (spCells_oneCell _) (by unfold maxLen; omega) (by omega) ?_; intro a5 c5 w5 ho5 hg5 hf5
             have ho5' : Own w5 108 3 (.slice a5 (j + 1) c5) (j + 1) (spCells (L.take (j + 1))) := by simpa using ho5
             have hk5 : Chg [] W w5 := Chg.trans' (by with_reducible (repeat (first | exact Chg.refl _ _ | assumption | apply Chg.drew | apply Chg.alloc))) hg5 (fun b hb => .inr (by simp at hb; omega))
             have hb5 : ∀ b ∈ abl a5, W.heap.size ≤ b := fun b hb => by rcases hf5 b hb with h | h <;> (simp at h; omega))
          | (refine step_append_src rfl (.tmp 36) (.tmp 40) 88 88 rfl 108 _ 3 24 under_spots info_spot rfl (by decide) (.slice a5 (j + 1) c5) (j + 1) (spCells (L.take (j + 1))) rfl ho5' _ (k - (j + 1 + 1)) (spCells (L.drop (j + 1 + 1))) rfl (Src.of_rd under_spots (rd2'.chg hk5 (by simp))) (spCells_oneCell _) (by unfold maxLen; omega) (by omega) ?_; intro a6 c6 w6 ho6 hg6 hf6
             have HK6 := Lib.hid (show Chg [] W w6 from Chg.trans' hk5 hg6 (fun b hb => .inr (hb5 b (by simpa using hb))))
             have HB6 := Lib.hid (show ∀ b ∈ abl a6, W.heap.size ≤ b from fun b hb => by
               have := hk5.size
               rcases hf6 b hb with h | h
               · exact hb5 b (by simpa using h)
               · omega)
             rw [HLE.out, ← HCELLS.out] at ho6
             have HO6 := Lib.hid ho6))
        all_goals
          simp only [Act.put, List.setIfInBounds_toArray, List.set_cons_succ, List.set_cons_zero, List.getElem_toArray, List.getElem_cons_succ, List.getElem_cons_zero]
          rw [HLE.out]
          go_wp2
          refine ⟨⟨(j : Int), sqStepS m (j + 1) L, k - 1, a6, c6, rfl, rfl, by omega, by omega, by omega, by omega, Lib.hid ⟨HLEN.out.symm, by rw [← HSQ.out, Int.toNat_natCast], HPW2.out, fun s hs => ?_⟩, HO6.out, HCH2.out.trans HK6.out, Lib.hid (fun b hb => by have := HB6.out b hb; omega)⟩, by simp [intOf]; omega⟩
          rw [HS.out] at hs
          rcases List.mem_append.1 hs with hs | hs
          · exact HML.out s (List.mem_of_mem_take hs)
          · exact HML.out s (List.mem_of_mem_drop hs)
      · have hd : decide ((t.hi : Int) - (s.lo : Int) ≤ (m : Int)) = false := decide_eq_false (by omega)
        have HS := Lib.hid (HNo.out hm)
        clear HY HNo hm
        go_wp2
        go_quiet (fail)
        go_wp2
        refine ⟨⟨(j : Int), L, k, some ⟨g, o, none⟩, c3, rfl, rfl, by omega, by omega, hk4, by omega, Lib.hid ⟨HKL.out, by rw [← HSQ.out, HS.out, Int.toNat_natCast], ?_, HML.out⟩, HO.out.chg ((Chg.refl [] wr).drewN nq) (by simp), HCH.out.drewN nq, HA⟩, by simp [intOf]; omega⟩
        rw [← HS.out]; exact HPW2.out
    · have hd : decide (1 ≤ i) = false := decide_eq_false hge
      obtain ⟨hkL, hsq, _, _⟩ := HL.out
      rw [show i.toNat = 0 from by omega] at hsq
      have HE := Lib.hid (show sqS m l = L from hsq.symm)
      have HKL := Lib.hid hkL
      clear hkL hsq HL
      go_wp2
      go_ret
      rw [HE.out, ← HKL.out]
      exact ⟨a3, c3, rfl, ho, hch, HA.out⟩
end Go.Proofs.Ytkcldhimjnehdaa
