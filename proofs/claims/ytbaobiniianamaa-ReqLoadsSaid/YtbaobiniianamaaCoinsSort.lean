/-
  The walk of the reference's Sorted. Conditions: the form's own reach.
-/
import Derived.Test.YtbaobiniianamaaCoinsHalve
import Derived.Test.YtbaobiniianamaaSteps
namespace Go.Proofs.Ytbaobiniianamaa
open Go.RowKit

theorem up_lt {l : List Int} (h : up l) (x : Int) (k : Nat) (hk : k < l.length) : l[k] ≤ x ↔ k < upL l x := by
  obtain ⟨h1, h2, h3⟩ := up_parted h x
  constructor
  · intro hx
    rcases Nat.lt_or_ge k (upL l x) with h4 | h4
    · exact h4
    · have hm : l[k] ∈ l.drop (upL l x) := by
        rw [List.mem_iff_getElem]
        refine ⟨k - upL l x, by rw [List.length_drop]; omega, ?_⟩
        rw [List.getElem_drop]
        congr 1
        omega
      have := h2 _ hm
      omega
  · intro hx
    refine h1 _ ?_
    rw [List.mem_iff_getElem]
    exact ⟨k, by rw [List.length_take]; omega, by rw [List.getElem_take]⟩

set_option maxRecDepth 100000 in
set_option maxHeartbeats 2000000 in
theorem ref20_sorted (w : World) (ao : Option Addr) (cap : Nat) (l : List Int) (hr : Rd w 1 (.slice ao l.length cap) l.length (ints l)) (hl : l.length ≤ 1000) :
    Calls Try.prog 49 #[.slice ao l.length cap] w fun e w' => ∃ a3 c3, e = .returned (.slice a3 (sortL l).length c3) ∧
      Own w' 2 1 (.slice a3 (sortL l).length c3) (sortL l).length (ints (sortL l)) ∧ Chg [] w w' ∧ ∀ b ∈ abl a3, w.heap.size ≤ b := by
  have HR := Lib.hid hr
  clear hr
  go_enter Try.func49, Try.ntmps49
  go_wp2
  go_loopw [3, 9] (fun out j wx => ∃ (k : Nat) (F : List Int) (a3 : Option Addr) (c3 : Nat), k ≤ l.length ∧ j = .int .i64 (k : Nat) ∧ out = .slice a3 F.length c3 ∧ Hid (F = sortL (l.take k)) ∧ Hid (F.length = k) ∧ Hid (up F) ∧
    Own wx 2 1 (.slice a3 F.length c3) F.length (ints F) ∧ Chg [] w wx ∧ ∀ b ∈ abl a3, w.heap.size ≤ b) (fun _ j _ => l.length - (intOf j).toNat)
  case atStart => exact ⟨0, [], none, 0, Nat.zero_le _, rfl, rfl, Lib.hid rfl, Lib.hid rfl, Lib.hid (fun j k _ hk => by simp at hk), Own.nil _ _ _, Chg.refl _ _, by simp [abl]⟩
  case round =>
    obtain ⟨k, F, a3, c3, hk, rfl, rfl, HF, hFk, HU, ho, hch, hab⟩ := hrel
    by_cases hlt : k < l.length
    · have hr1 := HR.out.chg hch (by simp)
      obtain ⟨b, o, rfl, hcs⟩ := hr1.addr (by omega)
      have c0 := ints_at hcs k hlt
      have HS := Lib.hid (sort_step l k hlt)
      have hsz := hch.size
      have hFl : F.length ≤ 1000 := by have := hFk.out; omega
      generalize l[k] = p at *
      clear hcs hr1
      go_wp2
      have HP := Lib.hid (up_parted HU.out p)
      go_loopw [6] (fun i wx => ∃ j : Nat, j ≤ upL F p ∧ i = .int .i64 (j : Nat) ∧ wr = wx) (fun i _ => F.length - (intOf i).toNat)
      case atStart => exact ⟨0, Nat.zero_le _, rfl, rfl⟩
      case round =>
        obtain ⟨j, hj, rfl, rfl⟩ := hrel
        have hU3 := HP.out.2.2
        by_cases hju : j < upL F p
        · have hjl : j < F.length := by omega
          obtain ⟨g, o2, rfl, hcf⟩ := ho.rd.addr (by omega)
          have c1 := ints_at hcf j hjl
          have hle : decide (F[j] ≤ p) = true := decide_eq_true ((up_lt HU.out p j hjl).2 hju)
          have hjd : decide ((j : Int) < (F.length : Int)) = true := decide_eq_true (by omega)
          have hj0 : (0 : Int) ≤ (j : Int) := by omega
          clear hcf
          generalize F[j] = y at *
          go_wp2
          exact ⟨⟨j + 1, by omega, by go_num, trivial⟩, by simp [intOf]; omega⟩
        · obtain rfl : j = upL F p := by omega
          by_cases hjl : upL F p < F.length
          · obtain ⟨g, o2, rfl, hcf⟩ := ho.rd.addr (by omega)
            have c1 := ints_at hcf (upL F p) hjl
            have hle : decide (F[upL F p] ≤ p) = false := decide_eq_false (fun h => by have := (up_lt HU.out p _ hjl).1 h; omega)
            have hjd : decide (((upL F p : Nat) : Int) < (F.length : Int)) = true := decide_eq_true (by omega)
            have hj0 : (0 : Int) ≤ ((upL F p : Nat) : Int) := by omega
            clear hcf
            generalize F[upL F p] = y at *
            go_wp2
            have hFc : F.length ≤ c3 := by
              obtain ⟨_, ⟨hv, _⟩ | ⟨_, _, cp, _, hv, _, hnc, _⟩⟩ := ho
              · simp at hv
              · simp only [Value.slice.injEq] at hv
                omega
            have hcu : ¬ (c3 = upL F p) := by omega
            have huc : upL F p ≤ c3 := by omega
            have hu0 : (0 : Int) ≤ ((upL F p : Nat) : Int) := by omega
            have hul : ((upL F p : Nat) : Int) ≤ (F.length : Int) := by omega
            have rd1 : Rd wr 1 (.slice (some ⟨g, o2, none⟩) (upL F p) c3) (upL F p) (ints (F.take (upL F p))) := ⟨by rw [ints_length, List.length_take]; omega, _, _, rfl, .inr ⟨_, _, rfl, fun j hj => by
              rw [ho.cells j (by omega), ints_take _ _ _ (by omega)]⟩⟩
            have rd2 : Rd wr 1 (.slice (some ⟨g, o2 + upL F p, none⟩) (F.length - upL F p) (c3 - upL F p)) (F.length - upL F p) (ints (F.drop (upL F p))) := ⟨by rw [ints_length, List.length_drop]; omega, _, _, rfl, .inr ⟨_, _, rfl, fun j hj => by
              rw [Nat.add_assoc, ho.cells (upL F p + j) (by omega), ints_drop]⟩⟩
            generalize hu : upL F p = u at *
            have HPUT := Lib.hid (show put1 F p = F.take u ++ [p] ++ F.drop u from by rw [put1, hu])
            have HLN := Lib.hid (show (put1 F p).length = u + 1 + (F.length - u) from by rw [HPUT.out]; simp; omega)
            have RDii : Rd ((wr.alloc (.cells #[] 2)).alloc (.cells #[.int .i64 p] 2)) 1 (.slice (some ⟨wr.heap.size + 1, 0, none⟩) 1 1) 1 (ints [p]) := by
              have := Rd.lit1 (wr.alloc (.cells #[] 2)) (.int .i64 p) 2 1
              simpa [ints] using this
            have RDiii : Rd (wr.alloc (.cells #[.int .i64 p] 2)) 1 (.slice (some ⟨wr.heap.size, 0, none⟩) 1 1) 1 (ints [p]) := Rd.lit1 wr (.int .i64 p) 2 1
            have OWiii : Own ((wr.alloc (.cells #[.int .i64 p] 2)).alloc (.cells #[] 2)) 2 1 (.slice (some ⟨wr.heap.size + 1, 0, none⟩) 0 0) 0 [] := by
              have := Own.lit (wr.alloc (.cells #[.int .i64 p] 2)) 2 1 0 #[] rfl (by decide)
              simpa using this
            go_region_law (first
              | (refine step_append_src rfl (.tmp 27) (.tmp 30) 22 22 rfl 2 _ 1 8 under_ints info_i64 rfl (by decide) _ 0 [] rfl (by first | exact (Own.lit wr 2 1 0 #[] rfl (by decide)).drew | exact ((Own.lit wr 2 1 0 #[] rfl (by decide)).alloc _).drew | exact OWiii.drew) _ u (ints (F.take u)) rfl (Src.of_rd under_ints (rd1.chg (F := []) (by with_reducible (repeat (first | exact Chg.refl _ _ | assumption | apply Chg.drew | apply Chg.alloc))) (by simp))) (ints_oneCell _) (by unfold maxLen; omega) (by omega) ?_; intro a5 c5 w5 ho5 hg5 hf5
                 have ho5' : Own w5 2 1 (.slice a5 u c5) u (ints (F.take u)) := by simpa using ho5
                 have hk5 : Chg [] wr w5 := Chg.trans' (by with_reducible (repeat (first | exact Chg.refl _ _ | assumption | apply Chg.drew | apply Chg.alloc))) hg5 (fun b hb => .inr (by simp [Act.eval] at hb; omega))
                 have hb5 : ∀ b ∈ abl a5, wr.heap.size ≤ b := fun b hb => by rcases hf5 b hb with h | h <;> (simp [Act.eval] at h; omega))
              | (refine step_append_src rfl (.tmp 31) (.tmp 33) 22 22 rfl 2 _ 1 8 under_ints info_i64 rfl (by decide) (.slice a5 u c5) u (ints (F.take u)) rfl (by first | exact ho5' | exact ho5'.alloc _) _ 1 (ints [p]) rfl (Src.of_rd under_ints (by first | exact Rd.lit1 w5 (.int .i64 p) 2 1 | exact Rd.chg (Rd.chg (F := []) RDii (by with_reducible (repeat (first | exact Chg.refl _ _ | assumption | apply Chg.drew | apply Chg.alloc))) (by simp)) hg5 (by simp [Act.eval]) | exact Rd.chg (Rd.chg (F := []) RDiii (by with_reducible (repeat (first | exact Chg.refl _ _ | assumption | apply Chg.drew | apply Chg.alloc))) (by simp)) hg5 (by simp [Act.eval]))) (ints_oneCell _) (by unfold maxLen; omega) (by omega) ?_; intro a6 c6 w6 ho6 hg6 hf6
                 have hk6 : Chg [] wr w6 := Chg.trans' (by with_reducible (repeat (first | exact Chg.refl _ _ | assumption | apply Chg.drew | apply Chg.alloc))) hg6 (fun b hb => .inr (hb5 b (by simpa using hb)))
                 have hb6 : ∀ b ∈ abl a6, wr.heap.size ≤ b := fun b hb => by
                   have := hk5.size
                   rcases hf6 b hb with h | h
                   · exact hb5 b (by simpa using h)
                   · first | (simp at h; omega) | omega)
              | (refine step_append_src rfl (.tmp 34) (.tmp 37) 22 22 rfl 2 _ 1 8 under_ints info_i64 rfl (by decide) (.slice a6 (u + 1) c6) (u + 1) (ints (F.take u) ++ ints [p]) rfl ho6 _ (F.length - u) (ints (F.drop u)) rfl (Src.of_rd under_ints (rd2.chg hk6 (by simp))) (ints_oneCell _) (by unfold maxLen; omega) (by omega) ?_; intro a7 c7 w7 ho7 hg7 hf7
                 have hk7 : Chg [] wr w7 := Chg.trans' hk6 hg7 (fun b hb => .inr (hb6 b (by simpa using hb)))
                 have hb7 : ∀ b ∈ abl a7, wr.heap.size ≤ b := fun b hb => by
                   have := hk6.size
                   rcases hf7 b hb with h | h
                   · exact hb6 b (by simpa using h)
                   · omega))
            all_goals
              go_wp2
              exact ⟨⟨k + 1, put1 F p, a7, c7, by omega, by go_num, by rw [HLN.out], Lib.hid (by rw [HS.out, ← HF.out]), Lib.hid (by have := HLN.out; have := hFk.out; omega), Lib.hid (put1_up HU.out p), by rw [HLN.out, HPUT.out]; simpa [ints_append, ints] using ho7, hch.trans hk7, fun b hb => by have := hb7 b hb; omega⟩, by simp [intOf]; omega⟩
          · have hjd : decide (((upL F p : Nat) : Int) < (F.length : Int)) = false := decide_eq_false (by omega)
            have hue := Lib.hid (show upL F p = F.length from by omega)
            obtain ⟨_, ⟨hv0, h0⟩ | ⟨g, o2, cp, cur, hv1, _, hFc, _⟩⟩ := id ho
            · obtain rfl : F = [] := List.eq_nil_of_length_eq_zero h0
              simp only [Value.slice.injEq] at hv0
              obtain ⟨rfl, _, rfl⟩ := hv0
              have HPUT := Lib.hid (show put1 [] p = [p] from rfl)
              have HLN := Lib.hid (show (put1 [] p).length = 1 from rfl)
              have hz : upL [] p = 0 := rfl
              clear hjl hju hjd hU3 hj HP
              go_wp2
              have rd1 : Rd wr 1 (.slice none 0 0) 0 (ints []) := ⟨rfl, _, _, rfl, .inl rfl⟩
              have rd2 : Rd wr 1 (.slice none 0 0) 0 (ints []) := ⟨rfl, _, _, rfl, .inl rfl⟩
              have RDii : Rd ((wr.alloc (.cells #[] 2)).alloc (.cells #[.int .i64 p] 2)) 1 (.slice (some ⟨wr.heap.size + 1, 0, none⟩) 1 1) 1 (ints [p]) := by
                have := Rd.lit1 (wr.alloc (.cells #[] 2)) (.int .i64 p) 2 1
                simpa [ints] using this
              have RDiii : Rd (wr.alloc (.cells #[.int .i64 p] 2)) 1 (.slice (some ⟨wr.heap.size, 0, none⟩) 1 1) 1 (ints [p]) := Rd.lit1 wr (.int .i64 p) 2 1
              have OWiii : Own ((wr.alloc (.cells #[.int .i64 p] 2)).alloc (.cells #[] 2)) 2 1 (.slice (some ⟨wr.heap.size + 1, 0, none⟩) 0 0) 0 [] := by
                have := Own.lit (wr.alloc (.cells #[.int .i64 p] 2)) 2 1 0 #[] rfl (by decide)
                simpa using this
              go_region_law (first
                | (refine step_append_src rfl (.tmp 27) (.tmp 30) 22 22 rfl 2 _ 1 8 under_ints info_i64 rfl (by decide) _ 0 [] rfl (by first | exact (Own.lit wr 2 1 0 #[] rfl (by decide)).drew | exact ((Own.lit wr 2 1 0 #[] rfl (by decide)).alloc _).drew | exact OWiii.drew) _ (0) (ints []) rfl (Src.of_rd under_ints (rd1.chg (F := []) (by with_reducible (repeat (first | exact Chg.refl _ _ | assumption | apply Chg.drew | apply Chg.alloc))) (by simp))) (ints_oneCell _) (by unfold maxLen; omega) (by omega) ?_; intro a5 c5 w5 ho5 hg5 hf5
                   have ho5' : Own w5 2 1 (.slice a5 0 c5) (0) (ints []) := by simpa using ho5
                   have hk5 : Chg [] wr w5 := Chg.trans' (by with_reducible (repeat (first | exact Chg.refl _ _ | assumption | apply Chg.drew | apply Chg.alloc))) hg5 (fun b hb => .inr (by simp [Act.eval] at hb; omega))
                   have hb5 : ∀ b ∈ abl a5, wr.heap.size ≤ b := fun b hb => by rcases hf5 b hb with h | h <;> (simp [Act.eval] at h; omega))
                | (refine step_append_src rfl (.tmp 31) (.tmp 33) 22 22 rfl 2 _ 1 8 under_ints info_i64 rfl (by decide) (.slice a5 0 c5) (0) (ints []) rfl (by first | exact ho5' | exact ho5'.alloc _) _ 1 (ints [p]) rfl (Src.of_rd under_ints (by first | exact Rd.lit1 w5 (.int .i64 p) 2 1 | exact Rd.chg (Rd.chg (F := []) RDii (by with_reducible (repeat (first | exact Chg.refl _ _ | assumption | apply Chg.drew | apply Chg.alloc))) (by simp)) hg5 (by simp [Act.eval]) | exact Rd.chg (Rd.chg (F := []) RDiii (by with_reducible (repeat (first | exact Chg.refl _ _ | assumption | apply Chg.drew | apply Chg.alloc))) (by simp)) hg5 (by simp [Act.eval]))) (ints_oneCell _) (by unfold maxLen; omega) (by omega) ?_; intro a6 c6 w6 ho6 hg6 hf6
                   have hk6 : Chg [] wr w6 := Chg.trans' (by with_reducible (repeat (first | exact Chg.refl _ _ | assumption | apply Chg.drew | apply Chg.alloc))) hg6 (fun b hb => .inr (hb5 b (by simpa using hb)))
                   have hb6 : ∀ b ∈ abl a6, wr.heap.size ≤ b := fun b hb => by
                     have := hk5.size
                     rcases hf6 b hb with h | h
                     · exact hb5 b (by simpa using h)
                     · first | (simp at h; omega) | omega)
                | (refine step_append_src rfl (.tmp 34) (.tmp 37) 22 22 rfl 2 _ 1 8 under_ints info_i64 rfl (by decide) (.slice a6 (1) c6) (1) (ints [] ++ ints [p]) rfl ho6 _ (0) (ints []) rfl (Src.of_rd under_ints (rd2.chg hk6 (by simp))) (ints_oneCell _) (by unfold maxLen; omega) (by omega) ?_; intro a7 c7 w7 ho7 hg7 hf7
                   have hk7 : Chg [] wr w7 := Chg.trans' hk6 hg7 (fun b hb => .inr (hb6 b (by simpa using hb)))
                   have hb7 : ∀ b ∈ abl a7, wr.heap.size ≤ b := fun b hb => by
                     have := hk6.size
                     rcases hf7 b hb with h | h
                     · exact hb6 b (by simpa using h)
                     · omega))
              all_goals
                go_wp2
                exact ⟨⟨k + 1, put1 [] p, a7, c7, by omega, by go_num, by rw [HLN.out], Lib.hid (by rw [HS.out, ← HF.out]), Lib.hid (by have := HLN.out; have := hFk.out; omega), Lib.hid (put1_up HU.out p), by rw [HLN.out, HPUT.out]; simpa [ints_append, ints] using ho7, hch.trans hk7, fun b hb => by have := hb7 b hb; omega⟩, by simp [intOf]; omega⟩
            · simp only [Value.slice.injEq, true_and] at hv1
              obtain ⟨rfl, rfl⟩ := hv1
              by_cases hcu : c3 = F.length
              · subst hcu
                have HPUT := Lib.hid (show put1 F p = F ++ [p] from by rw [put1, hue.out]; simp)
                have HLN := Lib.hid (show (put1 F p).length = F.length + 1 from by rw [HPUT.out]; simp)
                have hz := hue.out
                clear hjl hju hjd hU3 hj HP
                rw [hz]
                go_wp2
                have rd1 := ho.rd
                have rd2 : Rd wr 1 (.slice (some ⟨g, o2, none⟩) 0 0) 0 (ints []) := ⟨rfl, _, _, rfl, .inl rfl⟩
                have RDii : Rd ((wr.alloc (.cells #[] 2)).alloc (.cells #[.int .i64 p] 2)) 1 (.slice (some ⟨wr.heap.size + 1, 0, none⟩) 1 1) 1 (ints [p]) := by
                  have := Rd.lit1 (wr.alloc (.cells #[] 2)) (.int .i64 p) 2 1
                  simpa [ints] using this
                have RDiii : Rd (wr.alloc (.cells #[.int .i64 p] 2)) 1 (.slice (some ⟨wr.heap.size, 0, none⟩) 1 1) 1 (ints [p]) := Rd.lit1 wr (.int .i64 p) 2 1
                have OWiii : Own ((wr.alloc (.cells #[.int .i64 p] 2)).alloc (.cells #[] 2)) 2 1 (.slice (some ⟨wr.heap.size + 1, 0, none⟩) 0 0) 0 [] := by
                  have := Own.lit (wr.alloc (.cells #[.int .i64 p] 2)) 2 1 0 #[] rfl (by decide)
                  simpa using this
                go_region_law (first
                  | (refine step_append_src rfl (.tmp 27) (.tmp 30) 22 22 rfl 2 _ 1 8 under_ints info_i64 rfl (by decide) _ 0 [] rfl (by first | exact (Own.lit wr 2 1 0 #[] rfl (by decide)).drew | exact ((Own.lit wr 2 1 0 #[] rfl (by decide)).alloc _).drew | exact OWiii.drew) _ (F.length) (ints F) rfl (Src.of_rd under_ints (rd1.chg (F := []) (by with_reducible (repeat (first | exact Chg.refl _ _ | assumption | apply Chg.drew | apply Chg.alloc))) (by simp))) (ints_oneCell _) (by unfold maxLen; omega) (by omega) ?_; intro a5 c5 w5 ho5 hg5 hf5
                     have ho5' : Own w5 2 1 (.slice a5 F.length c5) (F.length) (ints F) := by simpa using ho5
                     have hk5 : Chg [] wr w5 := Chg.trans' (by with_reducible (repeat (first | exact Chg.refl _ _ | assumption | apply Chg.drew | apply Chg.alloc))) hg5 (fun b hb => .inr (by simp [Act.eval] at hb; omega))
                     have hb5 : ∀ b ∈ abl a5, wr.heap.size ≤ b := fun b hb => by rcases hf5 b hb with h | h <;> (simp [Act.eval] at h; omega))
                  | (refine step_append_src rfl (.tmp 31) (.tmp 33) 22 22 rfl 2 _ 1 8 under_ints info_i64 rfl (by decide) (.slice a5 F.length c5) (F.length) (ints F) rfl (by first | exact ho5' | exact ho5'.alloc _) _ 1 (ints [p]) rfl (Src.of_rd under_ints (by first | exact Rd.lit1 w5 (.int .i64 p) 2 1 | exact Rd.chg (Rd.chg (F := []) RDii (by with_reducible (repeat (first | exact Chg.refl _ _ | assumption | apply Chg.drew | apply Chg.alloc))) (by simp)) hg5 (by simp [Act.eval]) | exact Rd.chg (Rd.chg (F := []) RDiii (by with_reducible (repeat (first | exact Chg.refl _ _ | assumption | apply Chg.drew | apply Chg.alloc))) (by simp)) hg5 (by simp [Act.eval]))) (ints_oneCell _) (by unfold maxLen; omega) (by omega) ?_; intro a6 c6 w6 ho6 hg6 hf6
                     have hk6 : Chg [] wr w6 := Chg.trans' (by with_reducible (repeat (first | exact Chg.refl _ _ | assumption | apply Chg.drew | apply Chg.alloc))) hg6 (fun b hb => .inr (hb5 b (by simpa using hb)))
                     have hb6 : ∀ b ∈ abl a6, wr.heap.size ≤ b := fun b hb => by
                       have := hk5.size
                       rcases hf6 b hb with h | h
                       · exact hb5 b (by simpa using h)
                       · first | (simp at h; omega) | omega)
                  | (refine step_append_src rfl (.tmp 34) (.tmp 37) 22 22 rfl 2 _ 1 8 under_ints info_i64 rfl (by decide) (.slice a6 (F.length + 1) c6) (F.length + 1) (ints F ++ ints [p]) rfl ho6 _ (0) (ints []) rfl (Src.of_rd under_ints (rd2.chg hk6 (by simp))) (ints_oneCell _) (by unfold maxLen; omega) (by omega) ?_; intro a7 c7 w7 ho7 hg7 hf7
                     have hk7 : Chg [] wr w7 := Chg.trans' hk6 hg7 (fun b hb => .inr (hb6 b (by simpa using hb)))
                     have hb7 : ∀ b ∈ abl a7, wr.heap.size ≤ b := fun b hb => by
                       have := hk6.size
                       rcases hf7 b hb with h | h
                       · exact hb6 b (by simpa using h)
                       · omega))
                all_goals
                  go_wp2
                  exact ⟨⟨k + 1, put1 F p, a7, c7, by omega, by go_num, by rw [HLN.out], Lib.hid (by rw [HS.out, ← HF.out]), Lib.hid (by have := HLN.out; have := hFk.out; omega), Lib.hid (put1_up HU.out p), by rw [HLN.out, HPUT.out]; simpa [ints_append, ints] using ho7, hch.trans hk7, fun b hb => by have := hb7 b hb; omega⟩, by simp [intOf]; omega⟩
              · have hue2 := hue.out
                have hcu : ¬ (c3 = upL F p) := by omega
                have huc : upL F p ≤ c3 := by omega
                clear hue2
                go_wp2
                have hu0 : (0 : Int) ≤ ((upL F p : Nat) : Int) := by omega
                have hul : ((upL F p : Nat) : Int) ≤ (F.length : Int) := by omega
                have rd1 : Rd wr 1 (.slice (some ⟨g, o2, none⟩) (upL F p) c3) (upL F p) (ints (F.take (upL F p))) := ⟨by rw [ints_length, List.length_take]; omega, _, _, rfl, .inr ⟨_, _, rfl, fun j hj => by
                  rw [ho.cells j (by omega), ints_take _ _ _ (by omega)]⟩⟩
                have rd2 : Rd wr 1 (.slice (some ⟨g, o2 + upL F p, none⟩) (F.length - upL F p) (c3 - upL F p)) (F.length - upL F p) (ints (F.drop (upL F p))) := ⟨by rw [ints_length, List.length_drop]; omega, _, _, rfl, .inr ⟨_, _, rfl, fun j hj => by
                  rw [Nat.add_assoc, ho.cells (upL F p + j) (by omega), ints_drop]⟩⟩
                generalize hu : upL F p = u at *
                have HPUT := Lib.hid (show put1 F p = F.take u ++ [p] ++ F.drop u from by rw [put1, hu])
                have HLN := Lib.hid (show (put1 F p).length = u + 1 + (F.length - u) from by rw [HPUT.out]; simp; omega)
                have RDii : Rd ((wr.alloc (.cells #[] 2)).alloc (.cells #[.int .i64 p] 2)) 1 (.slice (some ⟨wr.heap.size + 1, 0, none⟩) 1 1) 1 (ints [p]) := by
                  have := Rd.lit1 (wr.alloc (.cells #[] 2)) (.int .i64 p) 2 1
                  simpa [ints] using this
                have RDiii : Rd (wr.alloc (.cells #[.int .i64 p] 2)) 1 (.slice (some ⟨wr.heap.size, 0, none⟩) 1 1) 1 (ints [p]) := Rd.lit1 wr (.int .i64 p) 2 1
                have OWiii : Own ((wr.alloc (.cells #[.int .i64 p] 2)).alloc (.cells #[] 2)) 2 1 (.slice (some ⟨wr.heap.size + 1, 0, none⟩) 0 0) 0 [] := by
                  have := Own.lit (wr.alloc (.cells #[.int .i64 p] 2)) 2 1 0 #[] rfl (by decide)
                  simpa using this
                go_region_law (first
                  | (refine step_append_src rfl (.tmp 27) (.tmp 30) 22 22 rfl 2 _ 1 8 under_ints info_i64 rfl (by decide) _ 0 [] rfl (by first | exact (Own.lit wr 2 1 0 #[] rfl (by decide)).drew | exact ((Own.lit wr 2 1 0 #[] rfl (by decide)).alloc _).drew | exact OWiii.drew) _ u (ints (F.take u)) rfl (Src.of_rd under_ints (rd1.chg (F := []) (by with_reducible (repeat (first | exact Chg.refl _ _ | assumption | apply Chg.drew | apply Chg.alloc))) (by simp))) (ints_oneCell _) (by unfold maxLen; omega) (by omega) ?_; intro a5 c5 w5 ho5 hg5 hf5
                     have ho5' : Own w5 2 1 (.slice a5 u c5) u (ints (F.take u)) := by simpa using ho5
                     have hk5 : Chg [] wr w5 := Chg.trans' (by with_reducible (repeat (first | exact Chg.refl _ _ | assumption | apply Chg.drew | apply Chg.alloc))) hg5 (fun b hb => .inr (by simp [Act.eval] at hb; omega))
                     have hb5 : ∀ b ∈ abl a5, wr.heap.size ≤ b := fun b hb => by rcases hf5 b hb with h | h <;> (simp [Act.eval] at h; omega))
                  | (refine step_append_src rfl (.tmp 31) (.tmp 33) 22 22 rfl 2 _ 1 8 under_ints info_i64 rfl (by decide) (.slice a5 u c5) u (ints (F.take u)) rfl (by first | exact ho5' | exact ho5'.alloc _) _ 1 (ints [p]) rfl (Src.of_rd under_ints (by first | exact Rd.lit1 w5 (.int .i64 p) 2 1 | exact Rd.chg (Rd.chg (F := []) RDii (by with_reducible (repeat (first | exact Chg.refl _ _ | assumption | apply Chg.drew | apply Chg.alloc))) (by simp)) hg5 (by simp [Act.eval]) | exact Rd.chg (Rd.chg (F := []) RDiii (by with_reducible (repeat (first | exact Chg.refl _ _ | assumption | apply Chg.drew | apply Chg.alloc))) (by simp)) hg5 (by simp [Act.eval]))) (ints_oneCell _) (by unfold maxLen; omega) (by omega) ?_; intro a6 c6 w6 ho6 hg6 hf6
                     have hk6 : Chg [] wr w6 := Chg.trans' (by with_reducible (repeat (first | exact Chg.refl _ _ | assumption | apply Chg.drew | apply Chg.alloc))) hg6 (fun b hb => .inr (hb5 b (by simpa using hb)))
                     have hb6 : ∀ b ∈ abl a6, wr.heap.size ≤ b := fun b hb => by
                       have := hk5.size
                       rcases hf6 b hb with h | h
                       · exact hb5 b (by simpa using h)
                       · first | (simp at h; omega) | omega)
                  | (refine step_append_src rfl (.tmp 34) (.tmp 37) 22 22 rfl 2 _ 1 8 under_ints info_i64 rfl (by decide) (.slice a6 (u + 1) c6) (u + 1) (ints (F.take u) ++ ints [p]) rfl ho6 _ (F.length - u) (ints (F.drop u)) rfl (Src.of_rd under_ints (rd2.chg hk6 (by simp))) (ints_oneCell _) (by unfold maxLen; omega) (by omega) ?_; intro a7 c7 w7 ho7 hg7 hf7
                     have hk7 : Chg [] wr w7 := Chg.trans' hk6 hg7 (fun b hb => .inr (hb6 b (by simpa using hb)))
                     have hb7 : ∀ b ∈ abl a7, wr.heap.size ≤ b := fun b hb => by
                       have := hk6.size
                       rcases hf7 b hb with h | h
                       · exact hb6 b (by simpa using h)
                       · omega))
                all_goals
                  go_wp2
                  exact ⟨⟨k + 1, put1 F p, a7, c7, by omega, by go_num, by rw [HLN.out], Lib.hid (by rw [HS.out, ← HF.out]), Lib.hid (by have := HLN.out; have := hFk.out; omega), Lib.hid (put1_up HU.out p), by rw [HLN.out, HPUT.out]; simpa [ints_append, ints] using ho7, hch.trans hk7, fun b hb => by have := hb7 b hb; omega⟩, by simp [intOf]; omega⟩
    · obtain rfl : k = l.length := by omega
      rw [List.take_length] at HF
      go_wp2
      go_ret
      rw [← HF.out]
      exact ⟨a3, c3, rfl, ho, hch, hab⟩
end Go.Proofs.Ytbaobiniianamaa
