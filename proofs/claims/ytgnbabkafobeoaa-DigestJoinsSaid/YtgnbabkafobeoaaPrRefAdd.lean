/-
  The walks of the reference's Count and Add. Conditions: the form's own reach.
-/
import Derived.Test.YtgnbabkafobeoaaPrPlain
import Derived.Test.YtgnbabkafobeoaaPrBase
namespace Go.Proofs.Ytgnbabkafobeoaa
open Go.RowKit

theorem cntI_step (l : List Pr) (i : Int) (k : Nat) (h : k < l.length) : cntI (l.take (k + 1)) i = cntI (l.take k) i + if l[k].i = i then l[k].c else 0 := by
  rw [List.take_succ_eq_append_getElem h, cntI_app]
  simp [cntI]
theorem cntI_bound (l : List Pr) (i : Int) {m : Nat} (hm : ∀ p ∈ l, p.c ≤ m) : cntI l i ≤ l.length * m := by
  induction l with
  | nil => simp [cntI]
  | cons p l ih =>
    have h1 := ih (fun q hq => hm q (by simp [hq]))
    have h2 := hm p (by simp)
    have e : cntI (p :: l) i = (if p.i = i then p.c else 0) + cntI l i := by simp [cntI]
    rw [e, List.length_cons, Nat.add_mul]
    split <;> omega

set_option maxRecDepth 100000 in
set_option maxHeartbeats 1000000 in
theorem ref06_count (w : World) (ao : Option Addr) (cap : Nat) (l : List Pr) (i : Int) (hr : Rd w 2 (.slice ao l.length cap) l.length (prCells l)) (hl : l.length ≤ 1000) (hm : totP l ≤ 9223372036854775807) :
    Calls Try.prog 68 #[.slice ao l.length cap, .int .i64 i] w fun e w' => e = .returned (.int .u64 (cntI l i : Nat)) ∧ Chg [] w w' := by
  have HB := Lib.hid (fun k => Nat.le_trans (cntI_tot (l.take k) i) (Nat.le_trans (take_tot l k) hm))
  have HM := Lib.hid (fun (p : Pr) (hp : p ∈ l) => Nat.le_trans (mem_tot hp) hm)
  clear hm
  go_enter Try.func68, Try.ntmps68
  go_wp2
  go_loopw [5, 10] (fun n j wx => ∃ k : Nat, k ≤ l.length ∧ j = .int .i64 (k : Nat) ∧ n = .int .u64 (cntI (l.take k) i : Nat) ∧ Chg [] w wx) (fun _ j _ => l.length - (intOf j).toNat)
  case atStart => exact ⟨0, Nat.zero_le _, rfl, rfl, Chg.refl _ _⟩
  case round =>
    obtain ⟨k, hk, rfl, rfl, hch⟩ := hrel
    by_cases hlt : k < l.length
    · have hr1 := hr.chg hch (by simp)
      obtain ⟨b, o, rfl, hc⟩ := hr1.addr (by omega)
      obtain ⟨c0, c1⟩ := pr_at hc hlt
      have HS := Lib.hid (cntI_step l i k hlt)
      have hcm := HM.out l[k] (List.getElem_mem _)
      have hn := HB.out k
      have hch2 := hch.alloc (.cells #[.int .i64 l[k].i, .int .u64 l[k].c] 53)
      generalize l[k] = p at *
      generalize cntI (l.take k) i = n at *
      clear hc hr1
      by_cases hi : p.i = i
      · rw [if_pos hi] at HS
        have hib : (p.i == i) = true := by simp [hi]
        clear hi
        go_wp2
        exact ⟨⟨k + 1, by omega, by go_num, by rw [HS.out]; go_num, hch2⟩, by simp [intOf]; omega⟩
      · rw [if_neg hi] at HS
        have hib : (p.i == i) = false := by simpa using hi
        clear hi
        go_wp2
        exact ⟨⟨k + 1, by omega, by go_num, by rw [HS.out]; rfl, hch2⟩, by simp [intOf]; omega⟩
    · obtain rfl : k = l.length := by omega
      go_wp2
      go_ret
      exact ⟨by rw [List.take_length]; rfl, hch⟩

theorem filter_step (l : List Pr) (f : Pr → Bool) (k : Nat) (h : k < l.length) : (l.take (k + 1)).filter f = (l.take k).filter f ++ if f l[k] then [l[k]] else [] := by
  rw [List.take_succ_eq_append_getElem h, List.filter_append]
  congr 1
  simp [List.filter_cons]

set_option maxRecDepth 100000 in
set_option maxHeartbeats 2000000 in
theorem ref06_add (w : World) (ao : Option Addr) (cap : Nat) (l : List Pr) (i : Int) (c : Nat) (hr : Rd w 2 (.slice ao l.length cap) l.length (prCells l)) (hl : l.length ≤ 1000) (hm : totP l ≤ 9223372036854775807) (hc : c ≤ 9223372036854775807) :
    Calls Try.prog 47 #[.slice ao l.length cap, .int .i64 i, .int .u64 c] w fun e w' => ∃ a3 c3, e = .returned (.slice a3 (refAdd l i c).length c3) ∧
      Own w' 53 2 (.slice a3 (refAdd l i c).length c3) (refAdd l i c).length (prCells (refAdd l i c)) ∧ Chg [] w w' ∧ ∀ b ∈ abl a3, w.heap.size ≤ b := by
  have HB := Lib.hid (Nat.le_trans (cntI_tot l i) hm)
  have HM := Lib.hid hm
  have HR := Lib.hid hr
  clear hm hr
  go_enter Try.func47, Try.ntmps47
  go_wp2
  go_loopw [7, 15] (fun out j wx => ∃ (k : Nat) (F : List Pr) (a3 : Option Addr) (c3 : Nat), k ≤ l.length ∧ j = .int .i64 (k : Nat) ∧ out = .slice a3 F.length c3 ∧ Hid (F = (l.take k).filter (fun p => decide (p.i < i))) ∧ F.length ≤ k ∧
    Own wx 53 2 (.slice a3 F.length c3) F.length (prCells F) ∧ Chg [] w wx ∧ ∀ b ∈ abl a3, w.heap.size ≤ b) (fun _ j _ => l.length - (intOf j).toNat)
  case atStart => exact ⟨0, [], none, 0, Nat.zero_le _, rfl, rfl, Lib.hid rfl, Nat.le_refl _, Own.nil _ _ _, Chg.refl _ _, by simp [abl]⟩
  case round =>
    obtain ⟨k, F, a3, c3, hk, rfl, rfl, HF, hFk, ho, hch, hab⟩ := hrel
    by_cases hlt : k < l.length
    · have hr1 := HR.out.chg hch (by simp)
      obtain ⟨b, o, rfl, hcs⟩ := hr1.addr (by omega)
      obtain ⟨c0, c1⟩ := pr_at hcs hlt
      have HS := Lib.hid (filter_step l (fun p => decide (p.i < i)) k hlt)
      have hbx := Blk.alloc_new wr #[.int .i64 l[k].i, .int .u64 l[k].c] 53
      have hch2 := hch.alloc (.cells #[.int .i64 l[k].i, .int .u64 l[k].c] 53)
      have e0 := hbx.cell 0
      have e1 := hbx.cell 1
      have hsz := hch.size
      generalize l[k] = p at *
      clear hcs hr1
      by_cases hi : p.i < i
      · have hib : decide (p.i < i) = true := decide_eq_true hi
        rw [hib, if_pos rfl, ← HF.out] at HS
        clear hi
        have hrd : Rd ((wr.alloc (.cells #[.int .i64 p.i, .int .u64 p.c] 53)).alloc (.cells #[.int .i64 p.i, .int .u64 p.c] 53)) 2 (.slice (some ⟨wr.heap.size + 1, 0, none⟩) 1 1) 1 (prCells [p]) := by
          have := Rd.lit (wr.alloc (.cells #[.int .i64 p.i, .int .u64 p.c] 53)) #[.int .i64 p.i, .int .u64 p.c] 53 2 1 1 rfl
          simpa [prCells, Pr.cells] using this
        go_wp2_with (at_builtin; go_must (refine wpList_append_src _ rfl (.tmp 23) (.tmp 25) 48 48 rfl 53 _ 2 16 under_pairs info_pair rfl (by decide) (.slice a3 F.length c3) F.length (prCells F) rfl ((ho.alloc _).alloc _) (.slice (some ⟨wr.heap.size + 1, 0, none⟩) 1 1) 1 (prCells [p]) rfl (Src.of_rd under_pairs hrd) (prCells_oneCell _) (by unfold maxLen; omega) (by omega) ?_; intro a4 c4 w7 ho7 hg7 hf7))
        refine ⟨⟨k + 1, F ++ [p], a4, c4, by omega, by go_num, by simp, HS.out.symm |> Lib.hid, by simp; omega, by simpa [prCells_append] using ho7, (hch2.alloc _).trans' hg7 (fun b hb => .inr (hab b (by simpa using hb))), ?_⟩, by simp [intOf]; omega⟩
        intro b hb
        rcases hf7 b hb with h | h
        · exact hab b (by simpa using h)
        · simp at h; omega
      · have hib : decide (p.i < i) = false := decide_eq_false hi
        rw [hib, if_neg (by simp), List.append_nil, ← HF.out] at HS
        clear hi
        go_wp2
        exact ⟨⟨k + 1, F, a3, c3, by omega, by go_num, rfl, Lib.hid HS.out.symm, by omega, ho.alloc _, hch2, hab⟩, by simp [intOf]; omega⟩
    · obtain rfl : k = l.length := by omega
      rw [List.take_length] at HF
      have hb := HB.out
      go_wp2_with fail
      refine (ref06_count wr ao cap l i (HR.out.chg hch (by simp)) hl HM.out).mono ?_
      rintro e w1 ⟨rfl, hc1⟩
      have ho1 := ho.chg hc1 (by simp)
      have hch1 := hch.trans hc1
      have hsz := hch1.size
      obtain ⟨n, hn⟩ : ∃ n, n = cntI l i + c := ⟨_, rfl⟩
      have HN := Lib.hid hn.symm
      have hnw : (cntI l i : Int) + (c : Int) = (n : Int) := by omega
      have hn64 : n < 18446744073709551616 := by omega
      clear hb hn ho hch
      by_cases hn0 : 0 < n
      · have hnd : decide ((0 : Int) < (n : Int)) = true := decide_eq_true (by omega)
        have hrd : Rd (w1.alloc (.cells #[.int .i64 i, .int .u64 n] 53)) 2 (.slice (some ⟨w1.heap.size, 0, none⟩) 1 1) 1 (prCells [⟨i, n⟩]) := by
          have := Rd.lit w1 #[.int .i64 i, .int .u64 n] 53 2 1 1 rfl
          simpa [prCells, Pr.cells] using this
        have hn1 := hn0
        go_wp2_with (at_builtin; go_must (refine wpList_append_src _ rfl (.tmp 35) (.tmp 39) 48 48 rfl 53 _ 2 16 under_pairs info_pair rfl (by decide) (.slice a3 F.length c3) F.length (prCells F) rfl (ho1.alloc _) (.slice (some ⟨w1.heap.size, 0, none⟩) 1 1) 1 (prCells [⟨i, n⟩]) rfl (Src.of_rd under_pairs hrd) (prCells_oneCell _) (by unfold maxLen; omega) (by omega) ?_; intro a4 c4 w7 ho7 hg7 hf7))
        have HC7 : Hid (Chg [] w w7) := Lib.hid ((hch1.alloc _).trans' hg7 (fun b hb => .inr (hab b (by simpa using hb))))
        have HA7 : Hid (∀ b ∈ abl a4, w.heap.size ≤ b) := Lib.hid (fun b hb => by
          rcases hf7 b hb with h | h
          · exact hab b (by simpa using h)
          · simp at h; omega)
        go_loopw [7, 43] (fun out j wx => ∃ (k : Nat) (F2 : List Pr) (a3 : Option Addr) (c3 : Nat), k ≤ l.length ∧ j = .int .i64 (k : Nat) ∧ out = .slice a3 F2.length c3 ∧ Hid (F2 = (F ++ [Pr.mk i n]) ++ (l.take k).filter (fun p => decide (i < p.i))) ∧ F2.length ≤ F.length + 1 + k ∧
          Own wx 53 2 (.slice a3 F2.length c3) F2.length (prCells F2) ∧ Chg [] w wx ∧ ∀ b ∈ abl a3, w.heap.size ≤ b) (fun _ j _ => l.length - (intOf j).toNat)
        case atStart => exact ⟨0, (F ++ [Pr.mk i n]), a4, c4, Nat.zero_le _, rfl, by simp, Lib.hid (by simp), by simp, (by simpa [prCells_append] using ho7), HC7.out, HA7.out⟩
        case round =>
          obtain ⟨k, F2, a3, c3, hk, rfl, rfl, HF2, hFk2, ho, hch, hab⟩ := hrel
          by_cases hlt : k < l.length
          · have hr1 := HR.out.chg hch (by simp)
            obtain ⟨b, o, rfl, hcs⟩ := hr1.addr (by omega)
            obtain ⟨c0, c1⟩ := pr_at hcs hlt
            have HS := Lib.hid (filter_step l (fun p => decide (i < p.i)) k hlt)
            have hbx := Blk.alloc_new wr #[.int .i64 l[k].i, .int .u64 l[k].c] 53
            have hch2 := hch.alloc (.cells #[.int .i64 l[k].i, .int .u64 l[k].c] 53)
            have e0 := hbx.cell 0
            have e1 := hbx.cell 1
            have hsz := hch.size
            generalize l[k] = p at *
            clear hcs hr1
            by_cases hi : i < p.i
            · have hib : decide (i < p.i) = true := decide_eq_true hi
              rw [hib, if_pos rfl] at HS
              clear hi
              have hrd : Rd ((wr.alloc (.cells #[.int .i64 p.i, .int .u64 p.c] 53)).alloc (.cells #[.int .i64 p.i, .int .u64 p.c] 53)) 2 (.slice (some ⟨wr.heap.size + 1, 0, none⟩) 1 1) 1 (prCells [p]) := by
                have := Rd.lit (wr.alloc (.cells #[.int .i64 p.i, .int .u64 p.c] 53)) #[.int .i64 p.i, .int .u64 p.c] 53 2 1 1 rfl
                simpa [prCells, Pr.cells] using this
              go_wp2_with (at_builtin; go_must (refine wpList_append_src _ rfl (.tmp 51) (.tmp 53) 48 48 rfl 53 _ 2 16 under_pairs info_pair rfl (by decide) (.slice a3 F2.length c3) F2.length (prCells F2) rfl ((ho.alloc _).alloc _) (.slice (some ⟨wr.heap.size + 1, 0, none⟩) 1 1) 1 (prCells [p]) rfl (Src.of_rd under_pairs hrd) (prCells_oneCell _) (by unfold maxLen; omega) (by omega) ?_; intro a4 c4 w7 ho7 hg7 hf7))
              refine ⟨⟨k + 1, F2 ++ [p], a4, c4, by omega, by go_num, by simp, Lib.hid (by rw [HS.out, ← List.append_assoc, ← HF2.out]), by simp; omega, by simpa [prCells_append] using ho7, (hch2.alloc _).trans' hg7 (fun b hb => .inr (hab b (by simpa using hb))), ?_⟩, by simp [intOf]; omega⟩
              intro b hb
              rcases hf7 b hb with h | h
              · exact hab b (by simpa using h)
              · simp at h; omega
            · have hib : decide (i < p.i) = false := decide_eq_false hi
              rw [hib, if_neg (by simp), List.append_nil] at HS
              clear hi
              go_wp2
              exact ⟨⟨k + 1, F2, a3, c3, by omega, by go_num, rfl, Lib.hid (by rw [HS.out]; exact HF2.out), by omega, ho.alloc _, hch2, hab⟩, by simp [intOf]; omega⟩
          · obtain rfl : k = l.length := by omega
            rw [List.take_length] at HF2
            have HE := Lib.hid (show refAdd l i c = F2 from by rw [refAdd, ← HF.out, HN.out, if_pos hn0, HF2.out])
            go_wp2
            go_ret
            rw [HE.out]
            exact ⟨a3, c3, rfl, ho, hch, hab⟩
      · have hnd : decide ((0 : Int) < (n : Int)) = false := decide_eq_false (by omega)
        go_wp2
        go_loopw [7, 43] (fun out j wx => ∃ (k : Nat) (F2 : List Pr) (a3 : Option Addr) (c3 : Nat), k ≤ l.length ∧ j = .int .i64 (k : Nat) ∧ out = .slice a3 F2.length c3 ∧ Hid (F2 = F ++ (l.take k).filter (fun p => decide (i < p.i))) ∧ F2.length ≤ F.length + 1 + k ∧
          Own wx 53 2 (.slice a3 F2.length c3) F2.length (prCells F2) ∧ Chg [] w wx ∧ ∀ b ∈ abl a3, w.heap.size ≤ b) (fun _ j _ => l.length - (intOf j).toNat)
        case atStart => exact ⟨0, F, a3, c3, Nat.zero_le _, rfl, rfl, Lib.hid (by simp), by omega, ho1, hch1, hab⟩
        case round =>
          obtain ⟨k, F2, a3, c3, hk, rfl, rfl, HF2, hFk2, ho, hch, hab⟩ := hrel
          by_cases hlt : k < l.length
          · have hr1 := HR.out.chg hch (by simp)
            obtain ⟨b, o, rfl, hcs⟩ := hr1.addr (by omega)
            obtain ⟨c0, c1⟩ := pr_at hcs hlt
            have HS := Lib.hid (filter_step l (fun p => decide (i < p.i)) k hlt)
            have hbx := Blk.alloc_new wr #[.int .i64 l[k].i, .int .u64 l[k].c] 53
            have hch2 := hch.alloc (.cells #[.int .i64 l[k].i, .int .u64 l[k].c] 53)
            have e0 := hbx.cell 0
            have e1 := hbx.cell 1
            have hsz := hch.size
            generalize l[k] = p at *
            clear hcs hr1
            by_cases hi : i < p.i
            · have hib : decide (i < p.i) = true := decide_eq_true hi
              rw [hib, if_pos rfl] at HS
              clear hi
              have hrd : Rd ((wr.alloc (.cells #[.int .i64 p.i, .int .u64 p.c] 53)).alloc (.cells #[.int .i64 p.i, .int .u64 p.c] 53)) 2 (.slice (some ⟨wr.heap.size + 1, 0, none⟩) 1 1) 1 (prCells [p]) := by
                have := Rd.lit (wr.alloc (.cells #[.int .i64 p.i, .int .u64 p.c] 53)) #[.int .i64 p.i, .int .u64 p.c] 53 2 1 1 rfl
                simpa [prCells, Pr.cells] using this
              go_wp2_with (at_builtin; go_must (refine wpList_append_src _ rfl (.tmp 51) (.tmp 53) 48 48 rfl 53 _ 2 16 under_pairs info_pair rfl (by decide) (.slice a3 F2.length c3) F2.length (prCells F2) rfl ((ho.alloc _).alloc _) (.slice (some ⟨wr.heap.size + 1, 0, none⟩) 1 1) 1 (prCells [p]) rfl (Src.of_rd under_pairs hrd) (prCells_oneCell _) (by unfold maxLen; omega) (by omega) ?_; intro a4 c4 w7 ho7 hg7 hf7))
              refine ⟨⟨k + 1, F2 ++ [p], a4, c4, by omega, by go_num, by simp, Lib.hid (by rw [HS.out, ← List.append_assoc, ← HF2.out]), by simp; omega, by simpa [prCells_append] using ho7, (hch2.alloc _).trans' hg7 (fun b hb => .inr (hab b (by simpa using hb))), ?_⟩, by simp [intOf]; omega⟩
              intro b hb
              rcases hf7 b hb with h | h
              · exact hab b (by simpa using h)
              · simp at h; omega
            · have hib : decide (i < p.i) = false := decide_eq_false hi
              rw [hib, if_neg (by simp), List.append_nil] at HS
              clear hi
              go_wp2
              exact ⟨⟨k + 1, F2, a3, c3, by omega, by go_num, rfl, Lib.hid (by rw [HS.out]; exact HF2.out), by omega, ho.alloc _, hch2, hab⟩, by simp [intOf]; omega⟩
          · obtain rfl : k = l.length := by omega
            rw [List.take_length] at HF2
            have HE := Lib.hid (show refAdd l i c = F2 from by rw [refAdd, ← HF.out, HN.out, if_neg hn0, List.append_nil, HF2.out])
            go_wp2
            go_ret
            rw [HE.out]
            exact ⟨a3, c3, rfl, ho, hch, hab⟩
end Go.Proofs.Ytgnbabkafobeoaa
