/-
  The walks of the reference's Split, Halve, Same (layer 20). Conditions: the form's own reach.
-/
import Derived.Test.YtbaobiniianamaaSplit
namespace Go.Proofs.Ytbaobiniianamaa
open Go.RowKit

theorem Rd.cap {w : World} {size n m c : Nat} {ao : Option Addr} {xs : List Value} (h : Rd w size (.slice ao m c) n xs) (c' : Nat) : Rd w size (.slice ao m c') n xs := by
  obtain ⟨h1, ao', cap, hv, h2⟩ := h
  simp only [Value.slice.injEq] at hv
  obtain ⟨rfl, rfl, rfl⟩ := hv
  exact ⟨h1, ao, c', rfl, h2⟩
/-- What the reference's Split hands back. -/
def SplitR (w w' : World) (l : List Int) (n m : Nat) (e : Ending) : Prop :=
  ∃ a3 c3 a4 c4, e = .returned (.tuple #[.slice a3 m c3, .slice a4 (n - m) c4]) ∧
    Rd w' 1 (.slice a3 m c3) m (ints ((sortL l).take m)) ∧ Rd w' 1 (.slice a4 (n - m) c4) (n - m) (ints ((sortL l).drop m)) ∧ Chg [] w w' ∧ (∀ b ∈ abl a3, w.heap.size ≤ b) ∧ (∀ b ∈ abl a4, w.heap.size ≤ b)

set_option maxRecDepth 100000 in
set_option maxHeartbeats 1000000 in
theorem ref20_split (w : World) (ao : Option Addr) (cap : Nat) (l : List Int) (n : Nat) (hn : n = l.length) (k : Int) (m : Nat) (hm : m = keepI n k) (hr : Rd w 1 (.slice ao n cap) n (ints l)) (hl : n ≤ 1000) :
    Calls Try.prog 15 #[.slice ao n cap, .int .i64 k] w fun e w' => SplitR w w' l n m e := by
  have HS := Lib.hid (ref20_sorted w ao cap l (by rw [← hn]; exact hr) (by omega))
  rw [← hn] at HS
  have HN := Lib.hid hn
  clear hn
  have hmn : m ≤ n := by rw [hm, keepI, keepN]; split <;> omega
  have hsl := (sort_ok l).2.2
  rw [← HN.out] at hsl
  rw [hsl] at HS
  go_enter Try.func15, Try.ntmps15
  go_wp2_with fail
  refine HS.out.mono ?_
  rintro e w2 ⟨a3, c3, rfl, ho, hcc, hab⟩
  clear HS hsl
  have HO := Lib.hid ho
  obtain ⟨hx, ⟨h0, rfl⟩ | ⟨g, o, cp, cur, h0, hg, h1, h2, h3, h4⟩⟩ := ho
  · simp only [Value.slice.injEq] at h0
    obtain ⟨rfl, _, rfl⟩ := h0
    obtain rfl : m = 0 := by omega
    have HE := Lib.hid (show sortL l = [] from List.eq_nil_of_length_eq_zero (by simpa using hx))
    clear hm hx
    by_cases hK : (0 : Int) < max k 0
    · have hd : decide ((0 : Int) < max k 0) = true := decide_eq_true hK
      go_wp2
      go_quiet (fail)
      go_wp2
      go_ret2
      rw [SplitR, HE.out]
      exact ⟨none, 0, none, 0, rfl, (Own.nil w2 2 1).rd, (Own.nil w2 2 1).rd, hcc.drewN _, by simp, by simp⟩
    · have hd : decide ((0 : Int) < max k 0) = false := decide_eq_false hK
      have hz : max k 0 = 0 := by omega
      go_wp2
      go_quiet (fail)
      go_wp2
      go_ret2
      rw [SplitR, HE.out]
      exact ⟨none, 0, none, 0, rfl, (Own.nil w2 2 1).rd, (Own.nil w2 2 1).rd, hcc.drewN _, by simp, by simp⟩
  · simp only [Value.slice.injEq, true_and] at h0
    obtain ⟨rfl, rfl⟩ := h0
    have hmc : (m : Int) ≤ (c3 : Int) := by omega
    have hmc2 : (n : Int) ≤ (c3 : Int) := by omega
    have hmn2 : (m : Int) ≤ (n : Int) := by omega
    have hm0 : (0 : Int) ≤ (m : Int) := by omega
    have HF := Lib.hid (HO.out.cut hmn)
    have hgw : w.heap.size ≤ g := by have := hab g (by simp); simpa using this
    clear hg h2 h3 h4 hx
    have HZ := Lib.hid (show ∀ nq c', c3 = m → Rd (w2.drewN nq) 1 (.slice (some ⟨g, o, none⟩) (n - m) c') (n - m) (ints ((sortL l).drop m)) from fun nq c' hc => by
      have h0 : n - m = 0 := by omega
      have hs : (sortL l).length = n := by rw [(sort_ok l).2.2, HN.out]
      exact ⟨by simp; omega, _, _, rfl, .inl h0⟩)
    have HFD := Lib.hid (fun nq => (⟨fun c' => (Rd.cap (HF.out.1.rd) c').chg ((Chg.refl [] w2).drewN nq) (by simp), fun c' => (HF.out.2 c').chg ((Chg.refl [] w2).drewN nq) (by simp)⟩ : (∀ c', Rd (w2.drewN nq) 1 (.slice (some ⟨g, o, none⟩) m c') m (ints ((sortL l).take m))) ∧ ∀ c', Rd (w2.drewN nq) 1 (.slice (some ⟨g, o + m, none⟩) (n - m) c') (n - m) (ints ((sortL l).drop m))))
    by_cases hK : (n : Int) < max k 0
    · have hd : decide ((n : Int) < max k 0) = true := decide_eq_true hK
      have hv : n = m := by rw [hm, keepI, keepN]; split <;> omega
      subst hv
      clear hK hm
      go_wp2
      go_quiet (fail)
      go_wp2
      · go_ret2
        exact ⟨_, _, _, _, (by first | rfl | (rw [Nat.sub_self]; first | done | rfl)), (HFD.out nq).1 _, HZ.out nq _ (by assumption), hcc.drewN _, by simpa using hgw, by simpa using hgw⟩
      · go_ret2
        exact ⟨_, _, _, _, (by first | rfl | (rw [Nat.sub_self]; first | done | rfl)), (HFD.out nq).1 _, (HFD.out nq).2 _, hcc.drewN _, by simpa using hgw, by simpa using hgw⟩
    · have hd : decide ((n : Int) < max k 0) = false := decide_eq_false hK
      obtain ⟨K, hKK⟩ : ∃ K : Nat, max k 0 = (K : Int) := ⟨(max k 0).toNat, by omega⟩
      have hKn : K ≤ n := by omega
      by_cases hp : (n - K) % 2 = 1
      · have hpb : (((n : Int) - (K : Int)) % 2 != 0) = true := by rw [bne_iff_ne]; omega
        have hv : (K : Int) + 1 = (m : Int) := by rw [hm, keepI, keepN, if_pos (by omega)]; omega
        clear hK hm hp
        go_wp2
        go_quiet (fail)
        go_wp2
        · go_ret2
          exact ⟨_, _, _, _, (by first | rfl | (rw [Nat.sub_self]; first | done | rfl)), (HFD.out nq).1 _, HZ.out nq _ (by assumption), hcc.drewN _, by simpa using hgw, by simpa using hgw⟩
        · go_ret2
          exact ⟨_, _, _, _, (by first | rfl | (rw [Nat.sub_self]; first | done | rfl)), (HFD.out nq).1 _, (HFD.out nq).2 _, hcc.drewN _, by simpa using hgw, by simpa using hgw⟩
      · have hpb : (((n : Int) - (K : Int)) % 2 != 0) = false := by rw [bne_eq_false_iff_eq]; omega
        have hv : K = m := by rw [hm, keepI, keepN, if_neg (by omega)]; omega
        subst hv
        clear hK hm hp
        go_wp2
        go_quiet (fail)
        go_wp2
        · go_ret2
          exact ⟨_, _, _, _, (by first | rfl | (rw [Nat.sub_self]; first | done | rfl)), (HFD.out nq).1 _, HZ.out nq _ (by assumption), hcc.drewN _, by simpa using hgw, by simpa using hgw⟩
        · go_ret2
          exact ⟨_, _, _, _, (by first | rfl | (rw [Nat.sub_self]; first | done | rfl)), (HFD.out nq).1 _, (HFD.out nq).2 _, hcc.drewN _, by simpa using hgw, by simpa using hgw⟩
end Go.Proofs.Ytbaobiniianamaa
