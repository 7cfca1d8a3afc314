/-
  The walk of the reference's Good, of rows of pairs. Conditions: the form's own reach.
-/
import Derived.Test.YtgnbabkafobeoaaPrBase
namespace Go.Proofs.Ytgnbabkafobeoaa
open Go.RowKit

set_option maxRecDepth 100000 in
set_option maxHeartbeats 1000000 in
theorem ref06_good (w : World) (ao : Option Addr) (cap : Nat) (l : List Pr) (hok : ∀ p ∈ l, p.ok) (hr : Rd w 2 (.slice ao l.length cap) l.length (prCells l)) (hl : l.length ≤ 140737488351232) :
    Calls Try.prog 20 #[.slice ao l.length cap] w fun e w' => e = .returned (.bool (goodP l)) ∧ Chg [] w w' := by
  go_enter Try.func20, Try.ntmps20
  go_wp2
  go_loopw [6] (fun i wr => ∃ k : Nat, k ≤ l.length ∧ i = .int .i64 (k : Nat) ∧ goodTo l k = true ∧ Chg [] w wr) (fun i _ => l.length - (intOf i).toNat)
  case atStart => exact ⟨0, Nat.zero_le _, rfl, rfl, Chg.refl _ _⟩
  case round =>
    obtain ⟨k, hk, rfl, hg, hch⟩ := hrel
    by_cases hlt : k < l.length
    · have hr1 := hr.chg hch (by simp)
      obtain ⟨b, o, rfl, hc⟩ := hr1.addr (by omega)
      obtain ⟨c0, c1⟩ := pr_at hc hlt
      have hok1 := hok l[k] (List.getElem_mem _)
      have hsucc := goodTo_succ l k
      rw [hg, Bool.true_and, show l.getD k default = l[k] from by simp [List.getD, hlt]] at hsucc
      have hbad : goodTo l (k + 1) = false → goodP l = false := fun h => by rw [goodP, goodTo_false h (by omega)]
      have HB := Lib.hid hbad
      clear hbad hok
      by_cases hz : l[k].c = 0
      · have HF := Lib.hid (HB.out (by rw [hsucc]; simp; omega))
        generalize l[k] = p at *
        have hz2 : decide ((p.c : Int) < 1) = true := decide_eq_true (by omega)
        clear hsucc hr1 hr hc
        go_wp2
        go_ret
        rw [HF.out]
        exact ⟨rfl, hch⟩
      · by_cases hz3 : 9223372036854775807 < l[k].c
        · have HF := Lib.hid (HB.out (by rw [hsucc]; simp; omega))
          generalize l[k] = p at *
          clear hsucc hr1 hr hc
          go_wp2
          go_ret
          rw [HF.out]
          exact ⟨rfl, hch⟩
        · rcases k with _ | k
          · have HF := Lib.hid (show goodTo l (0 + 1) = true from by rw [hsucc]; simp; omega)
            generalize l[0] = p at *
            simp only [Nat.zero_mul, Nat.add_zero] at c0 c1
            clear hsucc hr1 hr hc
            go_wp2
            go_quiet (fail)
            go_wp2
            exact ⟨⟨1, by omega, rfl, HF.out, hch.drewN _⟩, by simp [intOf]; omega⟩
          · obtain ⟨d0, d1⟩ := pr_at hc (show k < l.length by omega)
            have hk1 : (k : Int) + 1 - 1 = (k : Int) := by omega
            have hkw : IntKind.i64.wrap (k : Int) = (k : Int) := IntWalk.i64_in _ (by omega)
            have hk0 : (0 : Int) ≤ (k : Int) := by omega
            have hkl : (k : Int) < (l.length : Int) := by omega
            have hk2 : (0 : Int) ≤ (k : Int) + 1 := by omega
            have hkl2 : (k : Int) + 1 < (l.length : Int) := by omega
            have hz5 : decide ((0 : Int) < (k : Int) + 1) = true := decide_eq_true (by omega)
            have hgk : l.getD (k + 1 - 1) default = l[k] := by simp [List.getD, show k < l.length by omega]
            rw [hgk] at hsucc
            have HS := Lib.hid hsucc
            clear hsucc hgk
            by_cases hle : l[k].i < l[k + 1].i
            · have HF := Lib.hid (show goodTo l (k + 1 + 1) = true from by rw [HS.out]; simp; omega)
              generalize l[k + 1] = p at *
              generalize l[k] = q at *
              have hz6 : decide (q.i < p.i) = true := by simpa using hle
              clear hr1 hr hc
              go_wp2
              go_quiet (fail)
              go_wp2
              exact ⟨⟨k + 1 + 1, by omega, by go_num, HF.out, hch.drewN _⟩, by simp [intOf]; omega⟩
            · have HF := Lib.hid (HB.out (by rw [HS.out]; simp; omega))
              generalize l[k + 1] = p at *
              generalize l[k] = q at *
              have hz6 : decide (q.i < p.i) = false := by simpa using hle
              clear hr1 hr hc
              go_wp2
              go_quiet (fail)
              go_wp2
              go_ret
              rw [HF.out]
              exact ⟨rfl, hch.drewN _⟩
    · obtain rfl : k = l.length := by omega
      have HG := Lib.hid hg
      clear hg
      go_wp2
      go_ret
      rw [goodP, HG.out]
      exact ⟨rfl, hch⟩
end Go.Proofs.Ytgnbabkafobeoaa
