/-
  The walk of tuples.Good. Conditions: the form's own reach.
-/
import Derived.Test.YtkcldhimjnehdaaTupTot
namespace Go.Proofs.Ytkcldhimjnehdaa
open Go.RowKit

/-- May the tuple at a place of a row that tells of n stand there? -/
def okT (l : List Tp) (n k : Nat) : Bool :=
  decide (1 ≤ (l.getD k default).st ∧ (l.getD k default).sl ≤ n - sumTo (stps l) (k + 1) ∧ (0 < k → (l.getD (k - 1) default).x ≤ (l.getD k default).x))
def okTo (l : List Tp) (n k : Nat) : Bool := (List.range k).all (okT l n)
def headOk (l : List Tp) : Bool := l.length == 0 || ((l.getD 0 default).st == 1 && (l.getD 0 default).sl == 0)
def goodT (l : List Tp) : Bool := decide ((stps l).sum ≤ 9223372036854775807) && okTo l (stps l).sum l.length && headOk l
theorem okTo_succ (l : List Tp) (n k : Nat) : okTo l n (k + 1) = (okTo l n k && okT l n k) := by
  simp [okTo, List.range_succ]
theorem okTo_false {l : List Tp} {n k m : Nat} (h : okTo l n k = false) (hm : k ≤ m) : okTo l n m = false := by
  induction m with
  | zero => rw [show k = 0 from by omega] at h; exact h
  | succ m ih =>
    rcases Nat.lt_or_ge m k with h1 | h1
    · obtain rfl : k = m + 1 := by omega
      exact h
    · rw [okTo_succ, ih h1]; rfl
theorem goodT_big {l : List Tp} (h : ¬ (stps l).sum ≤ 9223372036854775807) : goodT l = false := by
  rw [goodT, decide_eq_false h]; rfl

set_option maxRecDepth 100000 in
set_option maxHeartbeats 2000000 in
theorem tup_good (w : World) (ao : Option Addr) (cap : Nat) (l : List Tp) (hok : ∀ p ∈ l, p.st < 18446744073709551616) (hr : Rd w 3 (.slice ao l.length cap) l.length (tpCells l)) (hl : l.length ≤ 140737488351232) :
    Calls Try.prog 14 #[.slice ao l.length cap] w fun e w' => e = .returned (.bool (goodT l)) ∧ Chg [] w w' := by
  have HTOT := Lib.hid (tup_total w ao cap l hok hr hl)
  go_enter Try.func14, Try.ntmps14
  go_wp2_with fail
  refine HTOT.out.mono ?_
  rintro e w1 ⟨rfl, hc1⟩
  by_cases hbig : (stps l).sum ≤ 9223372036854775807
  · have HP := Lib.hid (show plusV (stps l) = .tuple #[.int .u64 ((stps l).sum : Nat), .bool true] from if_pos hbig)
    have HGT := Lib.hid (show goodT l = (okTo l (stps l).sum l.length && headOk l) from by rw [goodT, decide_eq_true hbig, Bool.true_and])
    have HLE := Lib.hid (sumTo_le (stps l))
    rw [HP.out]
    clear HP
    generalize (stps l).sum = n at *
    go_wp2
    go_loopw [5, 17] (fun a i wx => ∃ k : Nat, k ≤ l.length ∧ i = .int .i64 (k : Nat) ∧ a = .int .u64 (sumTo (stps l) k : Nat) ∧ Hid (okTo l n k = true) ∧ Chg [] w wx) (fun _ i _ => l.length - (intOf i).toNat)
    case atStart => exact ⟨0, Nat.zero_le _, rfl, rfl, Lib.hid rfl, hc1⟩
    case round =>
      obtain ⟨k, hk, rfl, rfl, hg, hch⟩ := hrel
      by_cases hlt : k < l.length
      · have hr1 := hr.chg hch (by simp)
        obtain ⟨b, o, rfl, hc⟩ := hr1.addr (by omega)
        obtain ⟨c0, c1, c2⟩ := tp_at hc hlt
        have hok1 := hok l[k] (List.getElem_mem _)
        have hst := sumTo_succ (stps l) k (by simpa [stps] using hlt)
        rw [show (stps l)[k]'(by simpa [stps] using hlt) = l[k].st from by simp [stps]] at hst
        have hs1 := HLE.out (k + 1)
        have hsucc := okTo_succ l n k
        rw [hg.out, Bool.true_and, okT, show l.getD k default = l[k] from by simp [List.getD, hlt]] at hsucc
        have hbad : okTo l n (k + 1) = false → goodT l = false := fun h => by rw [HGT.out, okTo_false h (by omega)]; rfl
        have HB := Lib.hid hbad
        clear hbad hok hg
        have hw : (sumTo (stps l) k : Int) + (l[k].st : Int) = (sumTo (stps l) (k + 1) : Nat) := by omega
        generalize hs2e : sumTo (stps l) (k + 1) = s2 at *
        have HE := Lib.hid hs2e
        clear hs2e
        have HST := Lib.hid hst
        clear hst
        generalize sumTo (stps l) k = s at *
        have hsub : (n : Int) - (s2 : Int) = ((n - s2 : Nat) : Int) := by omega
        have hwr : IntKind.u64.wrap ((n : Int) - (s2 : Int)) = ((n - s2 : Nat) : Int) := by rw [hsub]; exact IntWalk.u64_in _ (by omega)
        have HWR := Lib.hid hwr
        clear hwr
        by_cases hz : l[k].st = 0
        · have HF := Lib.hid (HB.out (by rw [hsucc]; simp; omega))
          generalize l[k] = p at *
          have hz2 : ((p.st : Int) == 0) = true := by simp; omega
          clear hsucc hr1 hr hc hz
          go_wp2
          go_quiet (fail)
          go_wp2
          go_ret
          rw [HF.out]
          exact ⟨rfl, (hch.alloc _).drewN _⟩
        · by_cases hz3 : n - s2 < l[k].sl
          · have HF := Lib.hid (HB.out (by rw [hsucc]; simp; omega))
            generalize l[k] = p at *
            have hz2 : ((p.st : Int) == 0) = false := by simp; omega
            have hz4 : decide (n - s2 < p.sl) = true := by simp; omega
            clear hsucc hr1 hr hc hz hz3
            have hwr := HWR.out
            go_wp2
            go_quiet (fail)
            go_wp2
            go_ret
            rw [HF.out]
            exact ⟨rfl, (hch.alloc _).drewN _⟩
          · rcases k with _ | k
            · have HF := Lib.hid (show okTo l n (0 + 1) = true from by rw [hsucc]; simp; omega)
              generalize l[0] = p at *
              have hz2 : ((p.st : Int) == 0) = false := by simp; omega
              have hz4 : decide (n - s2 < p.sl) = false := by simp; omega
              simp only [Nat.zero_mul, Nat.add_zero] at c0 c1 c2
              clear hsucc hr1 hr hc hz hz3
              have hwr := HWR.out
              go_wp2
              go_quiet (fail)
              go_wp2
              exact ⟨⟨1, by omega, rfl, by rw [show sumTo (stps l) 1 = s2 from HE.out, ← hw], HF, (hch.alloc _).drewN _⟩, by simp [intOf]; omega⟩
            · obtain ⟨d0, d1, d2'⟩ := tp_at hc (show k < l.length by omega)
              have hk1 : (k : Int) + 1 - 1 = (k : Int) := by omega
              have hkw : IntKind.i64.wrap (k : Int) = (k : Int) := IntWalk.i64_in _ (by omega)
              have hk0 : (0 : Int) ≤ (k : Int) := by omega
              have hkl : (k : Int) < (l.length : Int) := by omega
              have hz5 : decide ((0 : Int) < (k : Int) + 1) = true := decide_eq_true (by omega)
              have hgk : l.getD (k + 1 - 1) default = l[k] := by simp [List.getD, show k < l.length by omega]
              rw [hgk] at hsucc
              have HS := Lib.hid hsucc
              clear hsucc hgk
              by_cases hle : l[k + 1].x < l[k].x
              · have HF := Lib.hid (HB.out (by rw [HS.out]; simp; omega))
                generalize l[k + 1] = p at *
                generalize l[k] = q at *
                have d2 := ((Chg.refl [] wr).alloc (.cells #[.int .i64 p.x, .int .u64 p.st, .int .u64 p.sl] 28)).cell d0 (by simp)
                have hz2 : ((p.st : Int) == 0) = false := by simp; omega
                have hz4 : decide (n - s2 < p.sl) = false := by simp; omega
                have hz6 : decide (p.x < q.x) = true := by simpa using hle
                clear hr1 hr hc hz hz3 hle d1 d2'
                have hwr := HWR.out
                go_wp2
                go_quiet (fail)
                go_wp2
                go_ret
                rw [HF.out]
                exact ⟨rfl, (hch.alloc _).drewN _⟩
              · have HF := Lib.hid (show okTo l n (k + 1 + 1) = true from by rw [HS.out]; simp; omega)
                generalize l[k + 1] = p at *
                generalize l[k] = q at *
                have d2 := ((Chg.refl [] wr).alloc (.cells #[.int .i64 p.x, .int .u64 p.st, .int .u64 p.sl] 28)).cell d0 (by simp)
                have hz2 : ((p.st : Int) == 0) = false := by simp; omega
                have hz4 : decide (n - s2 < p.sl) = false := by simp; omega
                have hz6 : decide (p.x < q.x) = false := by simpa using hle
                clear hr1 hr hc hz hz3 hle d1 d2'
                have hwr := HWR.out
                go_wp2
                go_quiet (fail)
                go_wp2
                exact ⟨⟨k + 1 + 1, by omega, by go_num, by rw [HE.out, ← hw], HF, (hch.alloc _).drewN _⟩, by simp [intOf]; omega⟩
      · obtain rfl : k = l.length := by omega
        have hr1 := hr.chg hch (by simp)
        have HG : Hid (goodT l = headOk l) := Lib.hid (by rw [HGT.out, hg.out, Bool.true_and])
        clear hg HGT HLE
        by_cases h0 : l.length = 0
        · have HH := Lib.hid (show headOk l = true from by simp [headOk, h0])
          have h0b : ((l.length : Int) == 0) = true := by rw [beq_iff_eq]; omega
          go_wp2
          go_ret
          rw [HG.out, HH.out]
          exact ⟨rfl, hch⟩
        · obtain ⟨b, o, rfl, hc⟩ := hr1.addr (by omega)
          obtain ⟨c0, c1, c2⟩ := tp_at hc (show 0 < l.length by omega)
          have h0b : ((l.length : Int) == 0) = false := by rw [beq_eq_false_iff_ne]; omega
          have hlp : (0 : Int) < (l.length : Int) := by omega
          have HH := Lib.hid (show headOk l = (l[0].st == 1 && l[0].sl == 0) from by simp [headOk, h0, List.getD, show 0 < l.length by omega])
          generalize l[0] = p at *
          simp only [Nat.zero_mul, Nat.add_zero] at c0 c1 c2
          clear hc hr1 hr hok
          by_cases h1 : p.st = 1
          · have h1b : ((p.st : Int) == 1) = true := by simp; omega
            have HHH := Lib.hid (show headOk l = ((p.sl : Int) == 0) from by rw [HH.out, h1, beq_self_eq_true, Bool.true_and, Bool.eq_iff_iff]; simp)
            go_wp2
            go_ret
            rw [HG.out, HHH.out]
            exact ⟨rfl, hch⟩
          · have h1b : ((p.st : Int) == 1) = false := by simp; omega
            have HHH := Lib.hid (show headOk l = false from by rw [HH.out]; simp; omega)
            go_wp2
            go_ret
            rw [HG.out, HHH.out]
            exact ⟨rfl, hch⟩
  · have HP := Lib.hid (show plusV (stps l) = .tuple #[.int .u64 0, .bool false] from if_neg hbig)
    have HGT := Lib.hid (goodT_big hbig)
    rw [HP.out]
    go_wp2
    go_ret
    rw [HGT.out]
    exact ⟨rfl, hc1⟩
end Go.Proofs.Ytkcldhimjnehdaa
