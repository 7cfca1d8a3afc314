/-
  The walk of the law TuplesRows. Conditions: the form's own reach.
-/
import Derived.Test.YtmbalpkeaobfgaaTupPlay
namespace Go.Proofs.Ytmbalpkeaobfgaa
open Go.RowKit

theorem stps_sum (l : List Tp) : (stps l).sum = tot l := rfl
theorem sumTo_tot (l : List Tp) (k : Nat) : sumTo (stps l) k = tot (l.take k) := by
  rw [sumTo, stps, ← List.map_take]
  rfl
theorem FineT.good {l : List Tp} {n : Nat} (h : FineT l n) (hn : n ≤ 9223372036854775807) : goodT l = true := by
  have hs : (stps l).sum = n := h.total
  have hok : ∀ k, k ≤ l.length → okTo l n k = true := by
    intro k
    induction k with
    | zero => intro _; rfl
    | succ k ih =>
      intro hk
      rw [okTo_succ, ih (by omega), Bool.true_and, okT]
      have hkl : k < l.length := by omega
      have e : l.getD k default = l[k] := by simp [List.getD, hkl]
      rw [e, sumTo_tot, tot_step l k hkl]
      have h1 := h.pos _ (List.getElem_mem hkl)
      have h2 := h.high _ (spot_at l k hkl)
      simp only at h2
      refine decide_eq_true ⟨h1, by omega, fun h0 => ?_⟩
      have hk1 : k - 1 < l.length := by omega
      have e1 : l.getD (k - 1) default = l[k - 1] := by simp [List.getD, hk1]
      rw [e1]
      exact List.pairwise_iff_getElem.1 h.up _ _ _ _ (by omega)
  rw [goodT, hs, decide_eq_true hn, hok _ (Nat.le_refl _), Bool.true_and, Bool.true_and, headOk]
  cases hl : l with
  | nil => rfl
  | cons p r =>
    have := h.first p (by rw [hl]; rfl)
    simp [List.getD, this.1, this.2]

set_option maxRecDepth 100000 in
set_option maxHeartbeats 2000000 in
theorem law_TuplesRows (w : World) (ao : Option Addr) (cap : Nat) (l : List Stp) (hr : Rd w 3 (.slice ao l.length cap) l.length (stCells l)) (_hl : l.length * 24 ≤ 140737488351232) (hlim : ∀ s ∈ l, s.lim < 18446744073709551616) :
    Calls Try.prog 3 #[.slice ao l.length cap] w fun e w' => e = .returned (.bool true) ∧ Chg [] w w' := by
  go_enter Try.func3, Try.ntmps3
  go_wp2_with fail
  refine (law18_alive w).mono ?_
  rintro e w1 ⟨rfl, hc1⟩
  by_cases h80 : 80 < l.length
  · go_wp2_with fail
    refine (law18_play_long w1 ao cap l.length h80).mono ?_
    rintro e w2 ⟨rfl, rfl⟩
    clear h80
    go_wp2
    go_ret
    exact ⟨rfl, hc1⟩
  have HP := Lib.hid (law18_play w1 ao cap l hlim (hr.chg hc1 (by simp)) (by omega))
  have hfp := playP_fine l l.length
  rw [List.take_length] at hfp
  generalize playP l = st at *
  obtain ⟨R, A⟩ := st
  have hfine : FineT R A.length := hfp.fine
  have hA80 : A.length ≤ 80 := by have h : A.length ≤ l.length := hfp.all; omega
  have hR80 : R.length ≤ 80 := by have h : R.length ≤ l.length := hfp.len; omega
  have hok : ∀ p ∈ R, p.st < 18446744073709551616 := fun p hp => by
    obtain ⟨i, hi, rfl⟩ := List.getElem_of_mem hp
    have := hfine.one hi
    omega
  have HT := Lib.hid (fun w ao cap hr => tup_total w ao cap R hok hr (by omega))
  have HG := Lib.hid (fun w ao cap hr => tup_good w ao cap R hok hr (by omega))
  have EG := Lib.hid (hfine.good (by omega))
  have EP := Lib.hid (show plusV (stps R) = .tuple #[.int .u64 (A.length : Nat), .bool true] from by
    have : (stps R).sum = A.length := hfine.total
    rw [plusV, this, if_pos (by omega)])
  have HSH := Lib.hid (fun s (hs : s ∈ spF 0 R) => show s.hi ≤ 9223372036854775807 from by have := hfine.high s hs; omega)
  simp only at HP
  clear hfine hfp hr h80 hok
  go_wp2_with fail
  refine HP.out.mono ?_
  rintro e w2 ⟨a1, c1, a2, c2, a3, c3, rfl, ho1, ho2, ho3, hc2, _, _, _⟩
  have hc2 := hc1.trans hc2
  generalize hn : R.length = n at *
  have HN := Lib.hid hn
  generalize hm : A.length = m at *
  have HM := Lib.hid hm
  clear hn hm hc1 HP
  go_wp2_with fail
  refine (HT.out w2 a1 c1 ho1.rd).mono ?_
  rintro e w3 ⟨rfl, hc3⟩
  rw [EP.out]
  have ho13 := ho1.chg hc3 (by simp)
  have ho23 := ho2.chg hc3 (by simp)
  have hc3 := hc2.trans hc3
  go_wp2_with fail
  refine (law18_plain w3 a1 c1 R n HN.out.symm ho13.rd (by omega)).mono ?_
  rintro e w4 ⟨a4, c4, rfl, ho4, hc4, hf4⟩
  have ho14 := ho13.chg hc4 (by simp)
  have ho24 := ho23.chg hc4 (by simp)
  have hc4 := hc3.trans hc4
  go_wp2_with fail
  refine (ref18_row w4 a2 c2 R n HN.out.symm ho24.rd (by omega) HSH.out).mono ?_
  rintro e w5 ⟨a5, c5, rfl, ho5, hc5, hf5⟩
  have ho15 := ho14.chg hc5 (by simp)
  have ho45 := ho4.chg hc5 (by simp)
  have hc5 := hc4.trans hc5
  go_wp2_with fail
  refine (ref18_same w5 a4 c4 a5 c5 R n HN.out.symm ho45.rd ho5.rd (by omega)).mono ?_
  rintro e w6 ⟨rfl, hc6⟩
  have ho16 := ho15.chg hc6 (by simp)
  have hc6 := hc5.trans hc6
  go_wp2_with fail
  refine (HG.out w6 a1 c1 ho16.rd).mono ?_
  rintro e w7 ⟨rfl, hc7⟩
  rw [EG.out]
  have hc7 := hc6.trans hc7
  clear ho1 ho2 ho3 ho13 ho23 ho14 ho24 ho4 ho5 ho15 ho45 ho16
  go_wp2
  go_ret
  exact ⟨rfl, hc7⟩
end Go.Proofs.Ytmbalpkeaobfgaa
