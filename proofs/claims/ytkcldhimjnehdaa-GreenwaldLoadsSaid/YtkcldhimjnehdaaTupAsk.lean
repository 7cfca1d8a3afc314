/-
  The walks of tuples.off, Find, Rank. Conditions: the form's own reach.
-/
import Derived.Test.YtkcldhimjnehdaaTupBase
import Derived.Test.YtkcldhimjnehdaaPlainFind
namespace Go.Proofs.Ytkcldhimjnehdaa
open Go.RowKit

theorem spot_at (l : List Tp) (k : Nat) (h : k < l.length) : Sp.mk l[k].x (tot (l.take k) + l[k].st) (tot (l.take k) + l[k].st + l[k].sl) ∈ spF 0 l := by
  have e : l = l.take k ++ l[k] :: l.drop (k + 1) := by
    have h1 := List.take_append_drop k l
    rw [List.drop_eq_getElem_cons h] at h1
    exact h1.symm
  have : spF 0 l = spF 0 (l.take k) ++ spF (0 + tot (l.take k)) (l[k] :: l.drop (k + 1)) := by
    conv => lhs; rw [e]
    exact spF_app 0 _ _
  rw [this, spF]
  simp
theorem tot_step (l : List Tp) (k : Nat) (h : k < l.length) : tot (l.take (k + 1)) = tot (l.take k) + l[k].st := by
  rw [List.take_succ_eq_append_getElem h, tot_app]
  rfl

/-- What Find goes through. -/
def goF (t : Nat) : Bool → Nat → Int → Nat → List Tp → Int
  | _, _, x, _, [] => x
  | f, b, x, a, p :: r => if f = true ∨ offN t (a + p.st) (a + p.st + p.sl) < b then goF t false (offN t (a + p.st) (a + p.st + p.sl)) p.x (a + p.st) r else goF t false b x (a + p.st) r
theorem goF_best (t : Nat) : ∀ (r : List Tp) (s : Sp) (a : Nat), goF t false (offN t s.lo s.hi) s.x a r = (bestS t s (spF a r)).x
  | [], _, _ => rfl
  | p :: r, s, a => by
    rw [goF, spF, bestS]
    by_cases h : offN t (a + p.st) (a + p.st + p.sl) < offN t s.lo s.hi
    · rw [if_pos (.inr h), if_pos h]
      exact goF_best t r ⟨p.x, a + p.st, a + p.st + p.sl⟩ (a + p.st)
    · rw [if_neg (by simp only [Bool.false_eq_true, false_or]; exact h), if_neg h]
      exact goF_best t r s (a + p.st)
def foundX (t : Nat) (l : List Tp) : Int := goF t true 0 0 0 l
theorem foundX_cons (t : Nat) (p : Tp) (r : List Tp) : foundX t (p :: r) = (bestS t ⟨p.x, p.st, p.st + p.sl⟩ (spF p.st r)).x := by
  rw [foundX, goF, if_pos (.inl rfl)]
  simp only [Nat.zero_add]
  exact goF_best t r ⟨p.x, p.st, p.st + p.sl⟩ p.st

theorem ret_u64 {a b : Nat} (h : a = b) : Ending.returned (.int .u64 (a : Int)) = .returned (.int .u64 (b : Int)) := by rw [h]
set_option maxRecDepth 100000 in
theorem tup_off (w : World) (t lo hi : Nat) (ht : t < 18446744073709551616) (hh : hi < 18446744073709551616) :
    Calls Try.prog 75 #[.int .u64 t, .int .u64 lo, .int .u64 hi] w fun e w' => e = .returned (.int .u64 (offN t lo hi : Nat)) ∧ w = w' := by
  have HM := Lib.hid (show offN t lo hi = max (t - lo) (hi - t) from rfl)
  have hw1 : lo < t → IntKind.u64.wrap ((t : Int) - (lo : Int)) = ((t - lo : Nat) : Int) := fun h => by rw [show (t : Int) - (lo : Int) = ((t - lo : Nat) : Int) from by omega]; exact IntWalk.u64_in _ (by omega)
  have hw2 : t < hi → IntKind.u64.wrap ((hi : Int) - (t : Int)) = ((hi - t : Nat) : Int) := fun h => by rw [show (hi : Int) - (t : Int) = ((hi - t : Nat) : Int) from by omega]; exact IntWalk.u64_in _ (by omega)
  have HW1 := Lib.hid hw1
  have HW2 := Lib.hid hw2
  clear hw1 hw2 ht hh
  generalize offN t lo hi = d at *
  go_enter Try.func75, Try.ntmps75
  by_cases h1 : lo < t
  · have d1 : decide (lo < t) = true := decide_eq_true h1
    have e1 := HW1.out h1
    by_cases h2 : t < hi
    · have d2 : decide (t < hi) = true := decide_eq_true h2
      have e2 := HW2.out h2
      clear HW1 HW2
      have hx : t - lo + (hi - t) ≥ 0 := Nat.zero_le _
      generalize t - lo = x at *
      generalize hi - t = y at *
      go_wp2
      all_goals
        go_ret
        refine ⟨ret_u64 ?_, rfl⟩
        rw [HM.out]
        first | omega | (simp_all; done) | (simp_all; omega)
    · have d2 : decide (t < hi) = false := decide_eq_false h2
      have hz : hi - t = 0 := by omega
      rw [hz] at HM
      clear HW1 HW2 hz
      generalize t - lo = x at *
      go_wp2
      all_goals
        go_ret
        refine ⟨ret_u64 ?_, rfl⟩
        rw [HM.out]
        first | omega | (simp_all; done) | (simp_all; omega)
  · have d1 : decide (lo < t) = false := decide_eq_false h1
    have hz : t - lo = 0 := by omega
    rw [hz] at HM
    by_cases h2 : t < hi
    · have d2 : decide (t < hi) = true := decide_eq_true h2
      have e2 := HW2.out h2
      clear HW1 HW2 hz
      generalize hi - t = y at *
      go_wp2
      all_goals
        go_ret
        refine ⟨ret_u64 ?_, rfl⟩
        rw [HM.out]
        first | omega | (simp_all; done) | (simp_all; omega)
    · have d2 : decide (t < hi) = false := decide_eq_false h2
      have hz2 : hi - t = 0 := by omega
      rw [hz2] at HM
      clear HW1 HW2 hz hz2
      go_wp2
      all_goals
        go_ret
        refine ⟨ret_u64 ?_, rfl⟩
        rw [HM.out]
        first | omega | (simp_all; done) | (simp_all; omega)

set_option maxRecDepth 100000 in
set_option maxHeartbeats 2000000 in
theorem tup_find (w : World) (ao : Option Addr) (cap : Nat) (l : List Tp) (t : Nat) (ht : t < 18446744073709551616) (hr : Rd w 3 (.slice ao l.length cap) l.length (tpCells l)) (hl : l.length ≤ 140737488351232) (hh : ∀ s ∈ spF 0 l, s.hi ≤ 9223372036854775807) :
    Calls Try.prog 51 #[.slice ao l.length cap, .int .u64 t] w fun e w' => e = .returned (.tuple #[.int .i64 (foundX t l), .bool (decide (0 < l.length))]) ∧ Chg [] w w' := by
  have HR := Lib.hid hr
  have HH := Lib.hid hh
  have HT := Lib.hid ht
  clear hr hh ht
  go_enter Try.func51, Try.ntmps51
  go_wp2
  go_loopw [6, 7, 8, 14] (fun b x a i wx => ∃ (k best at_ : Nat) (y : Int), k ≤ l.length ∧ i = .int .i64 (k : Nat) ∧ b = .int .u64 (best : Nat) ∧ x = .int .i64 y ∧ a = .int .u64 (at_ : Nat) ∧
    Hid (at_ = tot (l.take k) ∧ goF t (decide (k = 0)) best y at_ (l.drop k) = foundX t l) ∧ Chg [] w wx) (fun _ _ _ i _ => l.length - (intOf i).toNat)
  case atStart => exact ⟨0, 0, 0, 0, Nat.zero_le _, rfl, rfl, rfl, rfl, Lib.hid ⟨rfl, rfl⟩, Chg.refl _ _⟩
  case round =>
    obtain ⟨k, best, at_, y, hk, rfl, rfl, rfl, rfl, HG, hch⟩ := hrel
    by_cases hlt : k < l.length
    · have hr1 := HR.out.chg hch (by simp)
      obtain ⟨b, o, rfl, hc⟩ := hr1.addr (by omega)
      obtain ⟨c0, c1, c2⟩ := tp_at hc hlt
      have hs := HH.out _ (spot_at l k hlt)
      have HTS := Lib.hid (tot_step l k hlt)
      have HD := Lib.hid (List.drop_eq_getElem_cons hlt)
      simp only at hs
      rw [← HG.out.1] at hs HTS
      have HO := Lib.hid (fun w => tup_off w t (at_ + l[k].st) (at_ + l[k].st + l[k].sl) HT.out (by omega))
      generalize l[k] = p at *
      have hw1 : (at_ : Int) + (p.st : Int) = ((at_ + p.st : Nat) : Int) := by omega
      have hgo := HG.out.2
      rw [HD.out, goF] at hgo
      clear hc hr1
      by_cases hch2 : k = 0 ∨ offN t (at_ + p.st) (at_ + p.st + p.sl) < best
      · rw [if_pos (hch2.imp (fun h => decide_eq_true h) id)] at hgo
        have HG2 := Lib.hid (And.intro HTS.out.symm hgo)
        clear hgo HG HD HTS
        generalize offN t (at_ + p.st) (at_ + p.st + p.sl) = d at *
        have hw3 : ((at_ + p.st : Nat) : Int) + (p.sl : Int) = ((at_ + p.st + p.sl : Nat) : Int) := by omega
        generalize at_ + p.st = a2 at *
        generalize a2 + p.sl = a3 at *
        have HCA := Lib.hid (hch.alloc (.cells #[.int .i64 p.x, .int .u64 p.st, .int .u64 p.sl] 28))
        have hbx := Blk.alloc_new wr #[.int .i64 p.x, .int .u64 p.st, .int .u64 p.sl] 28
        have e0 := hbx.cell 0
        by_cases hk0 : k = 0
        · have hkb : ((k : Int) == 0) = true := by rw [beq_iff_eq]; omega
          clear hch2
          have HK0 := Lib.hid hk0
          clear hk0
          go_wp2_with fail
          refine (HO.out _).mono ?_
          rintro e w2 ⟨rfl, rfl⟩
          go_wp2
          go_quiet (fail)
          go_wp2
          exact ⟨⟨k + 1, d, a2, p.x, by omega, by go_num, rfl, rfl, rfl, HG2, HCA.out.drewN _⟩, by simp [intOf]; omega⟩
        · have hkb : ((k : Int) == 0) = false := by rw [beq_eq_false_iff_ne]; omega
          have hdb : decide (d < best) = true := decide_eq_true (by omega)
          clear hch2 hk0
          go_wp2_with fail
          refine (HO.out _).mono ?_
          rintro e w2 ⟨rfl, rfl⟩
          go_wp2
          go_quiet (fail)
          go_wp2
          exact ⟨⟨k + 1, d, a2, p.x, by omega, by go_num, rfl, rfl, rfl, HG2, HCA.out.drewN _⟩, by simp [intOf]; omega⟩
      · have hk0 : ¬ k = 0 := fun h => hch2 (.inl h)
        have hdb : ¬ offN t (at_ + p.st) (at_ + p.st + p.sl) < best := fun h => hch2 (.inr h)
        rw [if_neg (fun h => hch2 (h.imp (fun h => of_decide_eq_true h) id))] at hgo
        have HG2 := Lib.hid (And.intro HTS.out.symm hgo)
        clear hgo HG HD HTS
        generalize offN t (at_ + p.st) (at_ + p.st + p.sl) = d at *
        have hw3 : ((at_ + p.st : Nat) : Int) + (p.sl : Int) = ((at_ + p.st + p.sl : Nat) : Int) := by omega
        generalize at_ + p.st = a2 at *
        generalize a2 + p.sl = a3 at *
        have HCA := Lib.hid (hch.alloc (.cells #[.int .i64 p.x, .int .u64 p.st, .int .u64 p.sl] 28))
        have hbx := Blk.alloc_new wr #[.int .i64 p.x, .int .u64 p.st, .int .u64 p.sl] 28
        have e0 := hbx.cell 0
        have hkb : ((k : Int) == 0) = false := by rw [beq_eq_false_iff_ne]; omega
        have hdb2 : decide (d < best) = false := decide_eq_false hdb
        clear hch2 hk0 hdb
        go_wp2_with fail
        refine (HO.out _).mono ?_
        rintro e w2 ⟨rfl, rfl⟩
        go_wp2
        exact ⟨⟨k + 1, best, a2, y, by omega, by go_num, rfl, rfl, rfl, HG2, HCA.out⟩, by simp [intOf]; omega⟩
    · obtain rfl : k = l.length := by omega
      have hgo := HG.out.2
      rw [List.drop_length] at hgo
      have HF := Lib.hid (show foundX t l = y from hgo.symm)
      clear hgo HG
      by_cases h0 : 0 < l.length
      · have hd : decide ((0 : Int) < (l.length : Int)) = true := decide_eq_true (by omega)
        have hd1 : decide (0 < l.length) = true := decide_eq_true h0
        have HD1 := Lib.hid hd1
        go_wp2
        go_ret2
        rw [HF.out, HD1.out]
        exact ⟨rfl, hch⟩
      · have hd1 : decide (0 < l.length) = false := decide_eq_false h0
        have HD1 := Lib.hid hd1
        go_wp2
        go_ret2
        rw [HF.out, HD1.out]
        exact ⟨rfl, hch⟩

set_option maxRecDepth 100000 in
set_option maxHeartbeats 2000000 in
theorem tup_rank (w : World) (ao : Option Addr) (cap : Nat) (l : List Tp) (x : Int) (hr : Rd w 3 (.slice ao l.length cap) l.length (tpCells l)) (hl : l.length ≤ 140737488351232) (hh : ∀ s ∈ spF 0 l, s.hi ≤ 9223372036854775807) (hp : ∀ p ∈ l, 1 ≤ p.st) :
    Calls Try.prog 48 #[.slice ao l.length cap, .int .i64 x] w fun e w' => e = .returned (.tuple #[.int .u64 ((rankF 0 l x).1 : Nat), .int .u64 ((rankF 0 l x).2 : Nat)]) ∧ Chg [] w w' := by
  have HR := Lib.hid hr
  have HH := Lib.hid hh
  have HP := Lib.hid hp
  clear hr hh hp
  go_enter Try.func48, Try.ntmps48
  go_wp2
  go_loopw [6, 11] (fun a i wx => ∃ (k at_ : Nat), k ≤ l.length ∧ i = .int .i64 (k : Nat) ∧ a = .int .u64 (at_ : Nat) ∧
    Hid (at_ = tot (l.take k) ∧ rankF at_ (l.drop k) x = rankF 0 l x) ∧ Chg [] w wx) (fun _ i _ => l.length - (intOf i).toNat)
  case atStart => exact ⟨0, 0, Nat.zero_le _, rfl, rfl, Lib.hid ⟨rfl, rfl⟩, Chg.refl _ _⟩
  case round =>
    obtain ⟨k, at_, hk, rfl, rfl, HG, hch⟩ := hrel
    by_cases hlt : k < l.length
    · have hr1 := HR.out.chg hch (by simp)
      obtain ⟨b, o, rfl, hc⟩ := hr1.addr (by omega)
      obtain ⟨c0, c1, c2⟩ := tp_at hc hlt
      have hs := HH.out _ (spot_at l k hlt)
      have hps := HP.out l[k] (List.getElem_mem _)
      have HTS := Lib.hid (tot_step l k hlt)
      have HD := Lib.hid (List.drop_eq_getElem_cons hlt)
      simp only at hs
      rw [← HG.out.1] at hs HTS
      generalize l[k] = p at *
      have hgo := HG.out.2
      rw [HD.out, rankF] at hgo
      have HCA := Lib.hid (hch.alloc (.cells #[.int .i64 p.x, .int .u64 p.st, .int .u64 p.sl] 28))
      have hbx := Blk.alloc_new wr #[.int .i64 p.x, .int .u64 p.st, .int .u64 p.sl] 28
      have e1 := hbx.cell 1
      have e2 := hbx.cell 2
      clear hc hr1 HG HD
      by_cases hx : x < p.x
      · rw [if_pos hx] at hgo
        have HGO := Lib.hid hgo.symm
        have hd : decide (x < p.x) = true := decide_eq_true hx
        have hw1 : IntKind.u64.wrap ((at_ : Int) + (p.st : Int)) = (at_ : Int) + (p.st : Int) := IntWalk.u64_in _ (by omega)
        have hw2 : IntKind.u64.wrap ((at_ : Int) + (p.st : Int) + (p.sl : Int)) = (at_ : Int) + (p.st : Int) + (p.sl : Int) := IntWalk.u64_in _ (by omega)
        have hw3 : IntKind.u64.wrap ((at_ : Int) + (p.st : Int) + (p.sl : Int) - 1) = (at_ : Int) + (p.st : Int) + (p.sl : Int) - 1 := IntWalk.u64_in _ (by omega)
        have HW := Lib.hid (show (at_ : Int) + (p.st : Int) + (p.sl : Int) - 1 = ((at_ + p.st + p.sl - 1 : Nat) : Int) by omega)
        clear hgo HTS hs hx
        go_wp2
        go_quiet (fail)
        go_wp2
        go_ret2
        rw [HGO.out, HW.out]
        exact ⟨rfl, HCA.out.drewN _⟩
      · rw [if_neg hx] at hgo
        have HG2 := Lib.hid (And.intro HTS.out.symm hgo)
        have hd : decide (x < p.x) = false := decide_eq_false hx
        have hw1 : (at_ : Int) + (p.st : Int) = ((at_ + p.st : Nat) : Int) := by omega
        clear hgo HTS hx
        generalize at_ + p.st = a2 at *
        go_wp2
        exact ⟨⟨k + 1, a2, by omega, by go_num, rfl, HG2, HCA.out⟩, by simp [intOf]; omega⟩
    · obtain rfl : k = l.length := by omega
      have hgo := HG.out.2
      rw [List.drop_length] at hgo
      have HF := Lib.hid (show rankF 0 l x = (at_, at_) from hgo.symm)
      clear hgo HG
      go_wp2
      go_ret2
      rw [HF.out]
      exact ⟨rfl, hch⟩
end Go.Proofs.Ytkcldhimjnehdaa
