/-
  The walks of the reference's Halve and Same (layer 20). Conditions: the form's own reach.
-/
import Derived.Test.YtbaobiniianamaaCoinsHalve
namespace Go.Proofs.Ytbaobiniianamaa
open Go.RowKit

theorem halveL_two (l : List Int) (s : Bool) (i : Nat) (h : i < l.length) (hp : decide (i % 2 = 1) = s) : halveL (l.take (i + 2)) s = halveL (l.take i) s ++ [l[i]] := by
  have h1 := halveL_step l s i h
  rw [hp, if_pos (by simp)] at h1
  by_cases h2 : i + 1 < l.length
  · have h3 := halveL_step l s (i + 1) h2
    have hp2 : decide ((i + 1) % 2 = 1) = !s := by
      rw [← hp, Bool.eq_iff_iff]
      simp
      omega
    rw [hp2, if_neg (by cases s <;> simp), List.append_nil] at h3
    rw [h3, h1]
  · rw [show l.take (i + 2) = l.take (i + 1) from by rw [List.take_of_length_le (by omega), List.take_of_length_le (by omega)], h1]

set_option maxRecDepth 100000 in
set_option maxHeartbeats 1000000 in
theorem ref20_halve (w : World) (ao : Option Addr) (cap : Nat) (l : List Int) (n : Nat) (hn : n = l.length) (s : Bool) (hr : Rd w 1 (.slice ao n cap) n (ints l)) (hl : n ≤ 1000) :
    Calls Try.prog 18 #[.slice ao n cap, .bool s] w fun e w' => ∃ a3 c3, e = .returned (.slice a3 (halveL l s).length c3) ∧
      Own w' 2 1 (.slice a3 (halveL l s).length c3) (halveL l s).length (ints (halveL l s)) ∧ Chg [] w w' ∧ ∀ b ∈ abl a3, w.heap.size ≤ b := by
  have HR := Lib.hid hr
  have HN := Lib.hid hn
  clear hr hn
  have start : ∀ (i : Int) (i0 : Nat), i = (i0 : Int) → i0 ≤ 1 → decide (i0 % 2 = 1) = s → halveL (l.take i0) s = [] := by
    intro i i0 _ h1 h2
    rcases show i0 = 0 ∨ i0 = 1 by omega with rfl | rfl
    · simp [halveL]
    · have hs : s = true := by rw [← h2]; decide
      subst hs
      cases l <;> simp [halveL]
  have HST := Lib.hid start
  clear start
  obtain ⟨i0, hi0, hi1, hi2⟩ : ∃ i0 : Nat, i0 ≤ 1 ∧ decide (i0 % 2 = 1) = s ∧ (if s then (1 : Int) else 0) = (i0 : Int) := by
    cases s
    · exact ⟨0, by omega, by decide, rfl⟩
    · exact ⟨1, by omega, by decide, rfl⟩
  have HI1 := Lib.hid hi1
  clear hi1
  cases s
  all_goals
    simp only [Bool.false_eq_true, if_true, if_false] at hi2
    go_enter Try.func18, Try.ntmps18
    go_wp2
    go_loopw [5, 6] (fun out j wx => ∃ (i : Nat) (F : List Int) (a3 : Option Addr) (c3 : Nat), i ≤ n + 1 ∧ j = .int .i64 (i : Nat) ∧ out = .slice a3 F.length c3 ∧ Hid (F = halveL (l.take i) _ ∧ decide (i % 2 = 1) = _) ∧ F.length ≤ i ∧
      Own wx 2 1 (.slice a3 F.length c3) F.length (ints F) ∧ Chg [] w wx ∧ ∀ b ∈ abl a3, w.heap.size ≤ b) (fun _ j _ => n + 2 - (intOf j).toNat)
    case atStart => exact ⟨i0, [], none, 0, by omega, by first | rw [← hi2] | rfl, rfl, Lib.hid ⟨(HST.out _ i0 rfl hi0 HI1.out).symm, HI1.out⟩, Nat.zero_le _, Own.nil _ _ _, Chg.refl _ _, by simp [abl]⟩
    case round =>
      obtain ⟨i, F, a3, c3, hk, rfl, rfl, HF, hFk, ho, hch, hab⟩ := hrel
      by_cases hlt : i < n
      · have hr1 := HR.out.chg hch (by simp)
        have hil : i < l.length := by have := HN.out; omega
        obtain ⟨b, o, rfl, hcs⟩ := hr1.addr (by omega)
        have c0 := ints_at (l := l) (fun j hj => hcs j (by rw [HN.out]; exact hj)) i hil
        have HS := Lib.hid (halveL_two l _ i hil HF.out.2)
        rw [← HF.out.1] at HS
        have HP := Lib.hid ((show decide ((i + 2) % 2 = 1) = decide (i % 2 = 1) from by rw [Nat.add_mod_right]).trans HF.out.2)
        have hsz := hch.size
        generalize l[i] = p at *
        clear hcs hr1
        have hrd : Rd (wr.alloc (.cells #[.int .i64 p] 2)) 1 (.slice (some ⟨wr.heap.size, 0, none⟩) 1 1) 1 (ints [p]) := Rd.lit1 wr (.int .i64 p) 2 1
        go_wp2_with (at_builtin; go_must (refine wpList_append_src _ rfl (.tmp 12) (.tmp 17) 22 22 rfl 2 _ 1 8 under_ints info_i64 rfl (by decide) (.slice a3 F.length c3) F.length (ints F) rfl (ho.alloc _) (.slice (some ⟨wr.heap.size, 0, none⟩) 1 1) 1 (ints [p]) rfl (Src.of_rd under_ints hrd) (ints_oneCell _) (by unfold maxLen; omega) (by omega) ?_; intro a4 c4 w7 ho7 hg7 hf7))
        refine ⟨⟨i + 2, F ++ [p], a4, c4, by omega, by go_num, by simp, Lib.hid ⟨HS.out.symm, HP.out⟩, by simp; omega, by simpa [ints_append] using ho7, (hch.alloc _).trans' hg7 (fun b hb => .inr (hab b (by simpa using hb))), ?_⟩, by simp [intOf]; omega⟩
        intro b hb
        rcases hf7 b hb with h | h
        · exact hab b (by simpa using h)
        · simp at h; omega
      · have HE := Lib.hid (show F = halveL l _ from by rw [HF.out.1, List.take_of_length_le (by have := HN.out; omega)])
        clear HF
        go_wp2
        go_ret
        rw [← HE.out]
        exact ⟨a3, c3, rfl, ho, hch, hab⟩

set_option maxRecDepth 100000 in
set_option maxHeartbeats 1000000 in
theorem ref20_same (w : World) (ao : Option Addr) (cap : Nat) (bo : Option Addr) (cbp : Nat) (l : List Int) (n : Nat) (hn : n = l.length) (ha : Rd w 1 (.slice ao n cap) n (ints l)) (hb : Rd w 1 (.slice bo n cbp) n (ints l)) (hl : n ≤ 140737488351232) :
    Calls Try.prog 16 #[.slice ao n cap, .slice bo n cbp] w fun e w' => e = .returned (.bool true) ∧ Chg [] w w' := by
  have HA := Lib.hid ha
  have HB := Lib.hid hb
  have HN := Lib.hid hn
  clear ha hb hn
  go_enter Try.func16, Try.ntmps16
  go_wp2
  go_loopw [13] (fun j wx => ∃ k : Nat, k ≤ n ∧ j = .int .i64 (k : Nat) ∧ Chg [] w wx) (fun j _ => n - (intOf j).toNat)
  case atStart => exact ⟨0, Nat.zero_le _, rfl, Chg.refl _ _⟩
  case round =>
    obtain ⟨k, hk, rfl, hch⟩ := hrel
    by_cases hlt : k < n
    · have hkl : k < l.length := by have := HN.out; omega
      obtain ⟨b1, o1, rfl, hc1⟩ := (HA.out.chg hch (by simp)).addr (by omega)
      obtain ⟨b2, o2, rfl, hc2⟩ := (HB.out.chg hch (by simp)).addr (by omega)
      have c1 := ints_at (l := l) (fun j hj => hc1 j (by rw [HN.out]; exact hj)) k hkl
      have c2 := ints_at (l := l) (fun j hj => hc2 j (by rw [HN.out]; exact hj)) k hkl
      generalize l[k] = p at *
      have hpp : (p != p) = false := by simp
      clear hc1 hc2
      go_wp2
      go_quiet (fail)
      go_wp2
      exact ⟨⟨k + 1, by omega, by go_num, hch.drewN _⟩, by simp [intOf]; omega⟩
    · obtain rfl : k = n := by omega
      go_wp2
      go_ret
      exact ⟨rfl, hch⟩
end Go.Proofs.Ytbaobiniianamaa
