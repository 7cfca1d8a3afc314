/-
  The walk of coins.Split. Conditions: the form's own reach.
-/
import Derived.Test.YtbaobiniianamaaSorted
import Derived.Test.YtbaobiniianamaaPlainReq
namespace Go.Proofs.Ytbaobiniianamaa
open Go.RowKit

/-- How many stay, of n, of which so many are asked to. -/
def keepI (n : Nat) (k : Int) : Nat := keepN n k.toNat

theorem Own.cut {w : World} {e : TypeId} {g o n c : Nat} {xs : List Int} (h : Own w e 1 (.slice (some ⟨g, o, none⟩) n c) n (ints xs)) {m : Nat} (hm : m ≤ n) :
    Own w e 1 (.slice (some ⟨g, o, none⟩) m m) m (ints (xs.take m)) ∧ ∀ c', Rd w 1 (.slice (some ⟨g, o + m, none⟩) (n - m) c') (n - m) (ints (xs.drop m)) := by
  have hl : xs.length = n := by simpa using h.1
  have hcell := fun j hj => h.cells j hj
  obtain ⟨hx, ⟨h0, _⟩ | ⟨g', o', cp, cur, h0, hg, h1, h2, h3, h4⟩⟩ := h
  · simp at h0
  · simp only [Value.slice.injEq, Option.some.injEq, Addr.mk.injEq, true_and, and_true] at h0
    obtain ⟨⟨rfl, rfl⟩, rfl⟩ := h0
    refine ⟨⟨by simp; omega, .inr ⟨g, o, m, cur, rfl, hg, Nat.le_refl _, by omega, by omega, ?_⟩⟩, fun c' => ⟨by simp; omega, _, _, rfl, .inr ⟨g, o + m, rfl, fun j hj => ?_⟩⟩⟩
    · have e1 : (cur.toList.drop o).take (m * 1) = ((cur.toList.drop o).take (n * 1)).take m := by rw [List.take_take]; congr 1; omega
      rw [e1, h4]
      simp [ints, List.map_take]
    · rw [Nat.add_assoc, hcell (m + j) (by omega), ints_drop]

/-- What Split hands back: one row in order, in two parts. -/
def SplitP (w w' : World) (l : List Int) (n m : Nat) (e : Ending) : Prop :=
  ∃ a3 c3 a4 c4, e = .returned (.tuple #[.slice a3 m c3, .slice a4 (n - m) c4]) ∧
      Own w' 2 1 (.slice a3 m c3) m (ints ((sortL l).take m)) ∧ Rd w' 1 (.slice a4 (n - m) c4) (n - m) (ints ((sortL l).drop m)) ∧ Chg [] w w' ∧ (∀ b ∈ abl a3, w.heap.size ≤ b) ∧ (∀ b ∈ abl a4, w.heap.size ≤ b) ∧
      (∃ c5, Own w' 2 1 (.slice a3 n c5) n (ints (sortL l))) ∧ (n - m = 0 ∨ ∃ g o, a3 = some ⟨g, o, none⟩ ∧ a4 = some ⟨g, o + m, none⟩) ∧ c3 = m
set_option maxRecDepth 100000 in
set_option maxHeartbeats 1000000 in
theorem coins_split (w : World) (ao : Option Addr) (cap : Nat) (l : List Int) (n : Nat) (hn : n = l.length) (k : Int) (m : Nat) (hm : m = keepI n k) (hr : Rd w 1 (.slice ao n cap) n (ints l)) (hl : n ≤ 1000000) :
    Calls Try.prog 14 #[.slice ao n cap, .int .i64 k] w fun e w' => SplitP w w' l n m e := by
  have hB := (Blk.alloc_new w #[.slice ao n cap] 22).cell 0
  have HS := Lib.hid (slices_sorted (w.alloc (.cells #[.slice ao n cap] 22)) w.heap.size ao cap l (by rw [← hn]; exact hB) (by rw [← hn]; exact hr.alloc _) (by omega))
  rw [← hn] at HS
  have HN := Lib.hid hn
  clear hB hn
  have hkb := keepN_le (n := n) (k := min k.toNat n) (Nat.min_le_right _ _)
  go_enter Try.func14, Try.ntmps14
  go_wp2_with fail
  refine (slices_values w ao n cap).mono ?_
  rintro e w1 ⟨rfl, rfl⟩
  go_wp2_with fail
  refine HS.out.mono ?_
  rintro e w2 ⟨a3, c3, rfl, ho, hc, hab⟩
  have hcc := ((Chg.refl [] w).alloc _).trans hc
  clear HS
  have hck : k.toNat = (max k 0).toNat := by omega
  have hmn : m ≤ n := by rw [hm, keepI, keepN]; split <;> omega
  have hval1 : ((n : Int) - min (max k 0) (n : Int)) % 2 = 1 → min (max k 0) (n : Int) + 1 = (m : Int) := fun h => by
    rw [hm, keepI, keepN, if_pos (by omega)]; omega
  have hval2 : ¬ ((n : Int) - min (max k 0) (n : Int)) % 2 = 1 → min (max k 0) (n : Int) = (m : Int) := fun h => by
    rw [hm, keepI, keepN, if_neg (by omega)]; omega
  have HV1 := Lib.hid hval1
  have HV2 := Lib.hid hval2
  clear hval1 hval2 hck hkb hm
  have HO := Lib.hid ho
  obtain ⟨hx, ⟨h0, rfl⟩ | ⟨g, o, cp, cur, h0, hg, h1, h2, h3, h4⟩⟩ := ho
  · simp only [Value.slice.injEq] at h0
    obtain ⟨rfl, _, rfl⟩ := h0
    obtain rfl : m = 0 := by omega
    have hp : ¬ (((0 : Nat) : Int) - min (max k 0) ((0 : Nat) : Int)) % 2 = 1 := by omega
    have hv := HV2.out hp
    have hpb : ((((0 : Nat) : Int) - min (max k 0) ((0 : Nat) : Int)) % 2 == 1) = false := by rw [beq_eq_false_iff_ne]; exact hp
    simp only [Int.natCast_zero] at hv hpb
    have HE := Lib.hid (show sortL l = [] from List.eq_nil_of_length_eq_zero (by simpa using hx))
    clear hp HV1 HV2 hx
    go_wp2
    go_quiet (fail)
    go_wp2
    go_ret2
    rw [SplitP, HE.out]
    exact ⟨none, 0, none, 0, rfl, Own.nil _ _ _, (Own.nil w2 2 1).rd, hcc.drewN _, by simp, by simp, ⟨0, by rw [ints]; exact Own.nil _ _ _⟩, .inl (by omega), rfl⟩
  · simp only [Value.slice.injEq, true_and] at h0
    obtain ⟨rfl, rfl⟩ := h0
    have hmc : (m : Int) ≤ (c3 : Int) := by omega
    have hmc2 : (n : Int) ≤ (c3 : Int) := by omega
    have hmn2 : (m : Int) ≤ (n : Int) := by omega
    have hm0 : (0 : Int) ≤ (m : Int) := by omega
    have HF := Lib.hid (HO.out.cut hmn)
    have hgw : w.heap.size ≤ g := by have := hab g (by simp); simp at this; omega
    clear hg h2 h3 h4 hx
    have HZ := Lib.hid (show ∀ nq c', c3 = m → Rd (w2.drewN nq) 1 (.slice (some ⟨g, o, none⟩) (n - m) c') (n - m) (ints ((sortL l).drop m)) from fun nq c' hc => by
      have h0 : n - m = 0 := by omega
      have hs : (sortL l).length = n := by rw [(sort_ok l).2.2, HN.out]
      exact ⟨by simp; omega, _, _, rfl, .inl h0⟩)
    have HFD := Lib.hid (fun nq => (⟨HF.out.1.chg ((Chg.refl [] w2).drewN nq) (by simp), fun c' => (HF.out.2 c').chg ((Chg.refl [] w2).drewN nq) (by simp)⟩ : Own (w2.drewN nq) 2 1 (.slice (some ⟨g, o, none⟩) m m) m (ints ((sortL l).take m)) ∧ ∀ c', Rd (w2.drewN nq) 1 (.slice (some ⟨g, o + m, none⟩) (n - m) c') (n - m) (ints ((sortL l).drop m))))
    by_cases hp : ((n : Int) - min (max k 0) (n : Int)) % 2 = 1
    · have hpb : (((n : Int) - min (max k 0) (n : Int)) % 2 == 1) = true := by rw [beq_iff_eq]; exact hp
      have hv := HV1.out hp
      clear hp
      go_wp2
      go_quiet (fail)
      go_wp2
      · go_ret2
        exact ⟨_, _, _, _, rfl, (HFD.out nq).1, HZ.out nq _ (by assumption), hcc.drewN _, by simpa using hgw, by simpa using hgw, ⟨c3, HO.out.chg ((Chg.refl [] w2).drewN nq) (by simp)⟩, .inl (by omega), by first | rfl | assumption⟩
      · go_ret2
        exact ⟨_, _, _, _, rfl, (HFD.out nq).1, (HFD.out nq).2 _, hcc.drewN _, by simpa using hgw, by simpa using hgw, ⟨c3, HO.out.chg ((Chg.refl [] w2).drewN nq) (by simp)⟩, .inr ⟨g, o, rfl, rfl⟩, rfl⟩
    · have hpb : (((n : Int) - min (max k 0) (n : Int)) % 2 == 1) = false := by rw [beq_eq_false_iff_ne]; exact hp
      have hv := HV2.out hp
      clear hp
      go_wp2
      go_quiet (fail)
      go_wp2
      · go_ret2
        exact ⟨_, _, _, _, rfl, (HFD.out nq).1, HZ.out nq _ (by assumption), hcc.drewN _, by simpa using hgw, by simpa using hgw, ⟨c3, HO.out.chg ((Chg.refl [] w2).drewN nq) (by simp)⟩, .inl (by omega), by first | rfl | assumption⟩
      · go_ret2
        exact ⟨_, _, _, _, rfl, (HFD.out nq).1, (HFD.out nq).2 _, hcc.drewN _, by simpa using hgw, by simpa using hgw, ⟨c3, HO.out.chg ((Chg.refl [] w2).drewN nq) (by simp)⟩, .inr ⟨g, o, rfl, rfl⟩, rfl⟩
end Go.Proofs.Ytbaobiniianamaa
