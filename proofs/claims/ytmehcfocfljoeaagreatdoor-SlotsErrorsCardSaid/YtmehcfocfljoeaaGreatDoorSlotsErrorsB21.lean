/-
  The walks of tuples.after: the binary search by its closure. Conditions: the form's own reach.
  The walk of tuples.Insert. Conditions: the form's own reach.
  Laws on rows of tuples that several texts use. Conditions: none.
  The library's sort of numbers: that its bodies are those of the shelf. Conditions: none.
  Plainly: rows in order are told by how many are no greater; the library's sort of numbers is the document's. Conditions: none.
  The library's sort of numbers: its contract at a slice of the program's own. Conditions: none.
-/
import Derived.Test.YtmehcfocfljoeaaGreatDoorSlotsErrorsB20
import Derived.Test.YtmehcfocfljoeaaGreatDoorSlotsErrorsB18
import Derived.Test.YtmehcfocfljoeaaGreatDoorProg
import Derived.Shelf.SortM.Plain
import Derived.Shelf.SortM.SortNone
import Derived.Test.YtmehcfocfljoeaaGreatDoorSlotsErrorsB19
import Derived.Test.YtmehcfocfljoeaaGreatDoorSlotsErrorsB3
namespace Go.Proofs.YtmehcfocfljoeaaGreatDoor
open Go.RowKit

def afV (y x : Int) : Int := if x < y then 1 else -1
theorem afV_neg (y x : Int) : afV y x < 0 ↔ y ≤ x := by
  unfold afV
  by_cases h : x < y
  · rw [if_pos h]; omega
  · rw [if_neg h]; omega
theorem afV_zero (y x : Int) : (afV y x == 0) = false := by
  unfold afV
  by_cases h : x < y
  · rw [if_pos h]; rfl
  · rw [if_neg h]; rfl
set_option maxRecDepth 100000 in
theorem after_cmp (w : World) (p : Tp) (x : Int) :
    Calls Tryz.prog 368 #[.agg #[.int .i64 p.x, .int .u64 p.st, .int .u64 p.sl], .int .i64 x] w fun e w' => e = .returned (.int .i64 (afV p.x x)) ∧ Chg [] w w' := by
  have hc := (Chg.refl [] w).alloc (.cells #[.int .i64 p.x, .int .u64 p.st, .int .u64 p.sl] 251)
  go_enter Tryz.func368, Tryz.ntmps368
  by_cases h : x < p.x
  · have hd : decide (x < p.x) = true := decide_eq_true h
    have HV := Lib.hid (show afV p.x x = 1 from if_pos h)
    go_wp2
    go_ret
    exact ⟨by rw [HV.out]; rfl, hc⟩
  · have hd : decide (x < p.x) = false := decide_eq_false h
    have HV := Lib.hid (show afV p.x x = -1 from if_neg h)
    go_wp2
    go_ret
    exact ⟨by rw [HV.out]; rfl, hc⟩
theorem upT_cons (p : Tp) (l : List Tp) (x : Int) : upT (p :: l) x = upT l x + if p.x ≤ x then 1 else 0 := by
  simp [upT, List.countP_cons]
theorem upT_eq {l : List Tp} {x : Int} {n : Nat} (hn : n ≤ l.length) (h0 : ∀ k, (h : k < l.length) → k < n → l[k].x ≤ x) (h1 : ∀ k, (h : k < l.length) → n ≤ k → x < l[k].x) : upT l x = n := by
  induction l generalizing n with
  | nil => simp at hn; subst hn; rfl
  | cons p l ih =>
    rw [upT_cons]
    cases n with
    | zero =>
      have hp := h1 0 (by simp) (Nat.le_refl _)
      have := ih (n := 0) (Nat.zero_le _) (fun k _ hk => (Nat.not_lt_zero k hk).elim) (fun k h _ => by have := h1 (k + 1) (by simpa using h) (by omega); simpa using this)
      rw [this]
      simp only [List.getElem_cons_zero] at hp
      rw [if_neg (by omega)]
    | succ n =>
      have hp := h0 0 (by simp) (by omega)
      have := ih (n := n) (by simpa using hn) (fun k h hk => by have := h0 (k + 1) (by simpa using h) (by omega); simpa using this) (fun k h hk => by have := h1 (k + 1) (by simpa using h) (by omega); simpa using this)
      rw [this]
      simp only [List.getElem_cons_zero] at hp
      rw [if_pos hp]

set_option maxRecDepth 100000 in
set_option maxHeartbeats 1000000 in
theorem bsf_tuples (w : World) (ao : Option Addr) (cap : Nat) (l : List Tp) (x : Int) (hrs : ∀ j k, (hjk : j ≤ k) → (h : k < l.length) → (l[j]'(by omega)).x ≤ l[k].x) (hr : Rd w 3 (.slice ao l.length cap) l.length (tpCells l)) (hl : l.length ≤ 100000) :
    Calls Tryz.prog 367 #[.slice ao l.length cap, .int .i64 x, .func (.func 368) #[] #[]] w fun e w' => e = .returned (.tuple #[.int .i64 (upT l x), .bool false]) ∧ Chg [] w w' := by
  go_enter Tryz.func367, Tryz.ntmps367
  go_wp2
  go_loopw [9, 10] (fun a b wx => ∃ lo hi : Nat, lo ≤ hi ∧ hi ≤ l.length ∧ a = .int .i64 (lo : Nat) ∧ b = .int .i64 (hi : Nat) ∧ Hid (∀ k, (h : k < l.length) → k < lo → l[k].x ≤ x) ∧ Hid (∀ k, (h : k < l.length) → hi ≤ k → x < l[k].x) ∧ Chg [] w wx) (fun a b _ => (intOf b).toNat - (intOf a).toNat)
  case atStart => exact ⟨0, l.length, by omega, by omega, rfl, rfl, Lib.hid (fun k _ hk => (Nat.not_lt_zero k hk).elim), Lib.hid (fun k h hk => absurd h (by omega)), Chg.refl _ _⟩
  case round =>
    obtain ⟨lo, hi, hlh, hhl, rfl, rfl, H0, H1, hch⟩ := hrel
    have hr1 := hr.chg hch (by simp)
    by_cases hlt : lo < hi
    · obtain ⟨b, o, rfl, hc⟩ := hr1.addr (by omega)
      obtain ⟨m, hm⟩ : ∃ m, m = (lo + hi) / 2 := ⟨_, rfl⟩
      have hmi : ((lo : Int) + (hi : Int)) / 2 = (m : Int) := by omega
      have hml : m < l.length := by omega
      have hmlo : lo ≤ m := by omega
      have hmhi : m < hi := by omega
      have hmi2 : (m : Int) < (l.length : Int) := by omega
      have hmi3 : (0 : Int) ≤ (m : Int) := by omega
      obtain ⟨c0, c1, c2⟩ := tp_at hc hml
      have HBY := Lib.hid (after_cmp wr l[m] x)
      have hdl : decide ((lo : Int) < (hi : Int)) = true := decide_eq_true (by omega)
      have HR := Lib.hid hrs
      have HV := Lib.hid (afV_neg l[m].x x)
      clear hm hc hr1 hrs
      go_wp2_with fail
      refine HBY.out.mono ?_
      rintro e w2 ⟨rfl, hc2⟩
      have hc3 := hch.trans hc2
      clear hch hc2 HBY c0 c1 c2 hr
      by_cases hb : l[m].x ≤ x
      · have hv : afV l[m].x x < 0 := HV.out.2 hb
        have hd2 := decide_eq_true hv
        have HN := Lib.hid (show ∀ k, (h : k < l.length) → k < m + 1 → l[k].x ≤ x from fun k h hk => by
          have := HR.out k m (by omega) hml; omega)
        clear HV hb hv
        generalize afV l[m].x x = v at *
        go_wp2
        exact ⟨⟨m + 1, hi, by omega, by omega, by go_num, rfl, HN, H1, hc3⟩, by simp [intOf]; omega⟩
      · have hv : ¬ afV l[m].x x < 0 := fun h => hb (HV.out.1 h)
        have hd2 := decide_eq_false hv
        have HN := Lib.hid (show ∀ k, (h : k < l.length) → m ≤ k → x < l[k].x from fun k h hk => by
          have := HR.out m k hk h; omega)
        clear HV hb hv
        generalize afV l[m].x x = v at *
        go_wp2
        exact ⟨⟨lo, m, by omega, by omega, rfl, rfl, H0, HN, hc3⟩, by simp [intOf]; omega⟩
    · obtain rfl : lo = hi := by omega
      have HC := Lib.hid (upT_eq hhl H0.out H1.out)
      clear hrs
      by_cases hn : lo < l.length
      · obtain ⟨b, o, rfl, hc⟩ := hr1.addr (by omega)
        obtain ⟨c0, c1, c2⟩ := tp_at hc hn
        have hdn : decide ((lo : Int) < (l.length : Int)) = true := decide_eq_true (by omega)
        have hn0 : (0 : Int) ≤ (lo : Int) := by omega
        have HBY := Lib.hid (after_cmp wr l[lo] x)
        have HV := Lib.hid (afV_zero l[lo].x x)
        clear hc hr1
        go_wp2_with fail
        refine HBY.out.mono ?_
        rintro e w2 ⟨rfl, hc2⟩
        have hv := HV.out
        clear HV
        generalize afV l[lo].x x = v at *
        go_wp2
        go_ret2
        exact ⟨by rw [HC.out]; rfl, hch.trans hc2⟩
      · have hdn : decide ((lo : Int) < (l.length : Int)) = false := decide_eq_false (by omega)
        go_wp2
        go_ret2
        exact ⟨by rw [HC.out]; rfl, hch⟩

set_option maxRecDepth 100000 in
theorem tup_after (w : World) (ao : Option Addr) (cap : Nat) (l : List Tp) (x : Int) (hrs : ∀ j k, (hjk : j ≤ k) → (h : k < l.length) → (l[j]'(by omega)).x ≤ l[k].x) (hr : Rd w 3 (.slice ao l.length cap) l.length (tpCells l)) (hl : l.length ≤ 100000) :
    Calls Tryz.prog 354 #[.slice ao l.length cap, .int .i64 x] w fun e w' => e = .returned (.int .i64 (upT l x : Nat)) ∧ Chg [] w w' := by
  have HB := Lib.hid (bsf_tuples w ao cap l x hrs hr hl)
  clear hrs
  go_enter Tryz.func354, Tryz.ntmps354
  go_wp2_with fail
  refine HB.out.mono ?_
  rintro e w2 ⟨rfl, hc2⟩
  go_wp2
  go_ret
  exact ⟨rfl, hc2⟩
end Go.Proofs.YtmehcfocfljoeaaGreatDoor

namespace Go.Proofs.YtmehcfocfljoeaaGreatDoor
open Go.RowKit

theorem insT_len (l : List Tp) (x : Int) (k : Nat) (hk : k ≤ l.length) : (insT l x k).length = l.length + 1 := by
  simp [insT]; omega
theorem upT_le (l : List Tp) (x : Int) : upT l x ≤ l.length := List.countP_le_length
set_option maxRecDepth 100000 in
set_option maxHeartbeats 1000000 in
theorem tup_insert (w : World) (ao : Option Addr) (cap : Nat) (l : List Tp) (x : Int) (hrs : ∀ j k, (hjk : j ≤ k) → (h : k < l.length) → (l[j]'(by omega)).x ≤ l[k].x) (ho : Own w 251 3 (.slice ao l.length cap) l.length (tpCells l)) (hl : l.length ≤ 100000)
    (hst : ∀ p ∈ l, 1 ≤ p.st ∧ p.st + p.sl ≤ 4611686018427387904) :
    Calls Tryz.prog 350 #[.slice ao l.length cap, .int .i64 x] w fun e w' => ∃ a3 c3, e = .returned (.slice a3 (l.length + 1) c3) ∧
      Own w' 251 3 (.slice a3 (l.length + 1) c3) (l.length + 1) (tpCells (insT l x (upT l x))) ∧ Chg (abl ao) w w' ∧ ∀ b ∈ abl a3, b ∈ abl ao ∨ w.heap.size ≤ b := by
  have HA := Lib.hid (tup_after w ao cap l x hrs ho.rd hl)
  have hle := upT_le l x
  have HST := Lib.hid hst
  clear hrs hst
  generalize upT l x = n at *
  go_enter Tryz.func350, Tryz.ntmps350
  go_wp2_with fail
  refine HA.out.mono ?_
  rintro e w1 ⟨rfl, hc1⟩
  clear HA
  have ho1 := ho.chg hc1 (by simp)
  have hsz := hc1.size
  have hbl := ho1.lt
  by_cases hin : 0 < n ∧ n < l.length
  · obtain ⟨hn0, hnl⟩ := hin
    obtain ⟨b, o, rfl, hc⟩ := ho1.rd.addr (by omega)
    obtain ⟨c0, c1, c2⟩ := tp_at hc hnl
    have hs := HST.out l[n] (List.getElem_mem _)
    have HE := Lib.hid (show insT l x n = l.take n ++ [⟨x, 1, l[n].st + l[n].sl - 1⟩] ++ l.drop n from by
      rw [insT, if_pos ⟨hn0, hnl⟩, show l.getD n default = l[n] from by simp [List.getD, hnl]])
    generalize l[n] = p at *
    have hd1 : decide ((0 : Int) < (n : Int)) = true := decide_eq_true (by omega)
    have hd2 : decide ((n : Int) < (l.length : Int)) = true := decide_eq_true (by omega)
    have hn1 : (0 : Int) ≤ (n : Int) := by omega
    have hnl2 : (n : Int) < (l.length : Int) := by omega
    have hw : (p.st : Int) + (p.sl : Int) - 1 = ((p.st + p.sl - 1 : Nat) : Int) := by omega
    clear hc ho
    have hw1 : IntKind.u64.wrap ((p.st : Int) + (p.sl : Int)) = (p.st : Int) + (p.sl : Int) := IntWalk.u64_in _ (by omega)
    have hw2 : IntKind.u64.wrap ((p.st : Int) + (p.sl : Int) - 1) = ((p.st + p.sl - 1 : Nat) : Int) := by rw [hw]; exact IntWalk.u64_in _ (by omega)
    clear hw
    go_wp2
    have hcW := (Chg.refl [] w1).alloc (.cells #[.int .i64 x, .int .u64 1, .int .u64 0] 251)
    have d1 := hcW.cell c1 (by simp)
    have d2 := hcW.cell c2 (by simp)
    have hbx := Blk.alloc_new w1 #[.int .i64 x, .int .u64 1, .int .u64 0] 251
    have hoW := ho1.chg hcW (by simp)
    have hsW : (w1.alloc (.cells #[.int .i64 x, .int .u64 1, .int .u64 0] 251)).heap.size = w1.heap.size + 1 := by simp
    have hblW := fun k (hk : k ∈ abl (some ⟨b, o, none⟩)) => hbl k hk
    generalize w1.alloc (.cells #[.int .i64 x, .int .u64 1, .int .u64 0] 251) = W at *
    generalize w1.heap.size = B at *
    have e0 := hbx.cell 0
    have e1 := hbx.cell 1
    have e2 := hbx.cell 2
    have f2 := hbx.free 2
    have HB := Lib.hid hbx
    have HS := Lib.hid hsW
    clear c0 c1 c2 hbx hsW hbl
    go_still_tail 13, (by kernel_rfl)
    change wpList _ _ _ _ _ (World.drew _)
    have hcS : Chg [B] W (W.drew.setCell ⟨B, 2, none⟩ (.int .u64 (p.st + p.sl - 1 : Nat))) := ((Chg.refl [B] W).drew).setCell (.inl (by simp)) _
    have hoS := hoW.chg hcS (fun k hk => by have := hblW k (by simpa using hk); simp; omega)
    have HC := Lib.hid ((((hc1.trans hcW).nil (F := [b])).trans' hcS (by simp; omega)).alloc (.cells #[.int .i64 x, .int .u64 1, .int .u64 (p.st + p.sl - 1 : Nat)] 251))
    clear hcS hblW hcW
    go_wp2_with fail
    refine (insert_tuple _ (some ⟨b, o, none⟩) cap l n hle ⟨x, 1, p.st + p.sl - 1⟩ W.heap.size hl (hoS.alloc _) (by have := Blk.alloc_new (W.drew.setCell ⟨B, 2, none⟩ (.int .u64 (p.st + p.sl - 1 : Nat))) #[.int .i64 x, .int .u64 1, .int .u64 (p.st + p.sl - 1 : Nat)] 251; simpa [World.setCell] using this) (by have := HS.out; have := hoW.lt b (by simp); simp; omega)).mono ?_
    rintro e w7 ⟨a3, c3, rfl, ho7, hg7, hf7⟩
    go_wp2
    go_ret
    refine ⟨a3, c3, rfl, by rw [HE.out]; exact ho7, HC.out.trans hg7, fun k hk => ?_⟩
    rcases hf7 k hk with h | h
    · exact .inl h
    · right
      have := HS.out
      simp [World.setCell] at h
      omega
  · have HE := Lib.hid (show insT l x n = l.take n ++ [⟨x, 1, 0⟩] ++ l.drop n from by rw [insT, if_neg hin])
    have hne : n = 0 ∨ n = l.length := by omega
    clear hin
    have fin : ∀ w7 a3 c3, Own w7 251 3 (.slice a3 (l.length + 1) c3) (l.length + 1) (tpCells (l.take n ++ [⟨x, 1, 0⟩] ++ l.drop n)) →
        Chg (abl ao) ((w1.alloc (.cells #[.int .i64 x, .int .u64 1, .int .u64 0] 251)).alloc (.cells #[.int .i64 x, .int .u64 1, .int .u64 0] 251)) w7 →
        (∀ b ∈ abl a3, b ∈ abl ao ∨ ((w1.alloc (.cells #[.int .i64 x, .int .u64 1, .int .u64 0] 251)).alloc (.cells #[.int .i64 x, .int .u64 1, .int .u64 0] 251)).heap.size ≤ b) →
        Own w7 251 3 (.slice a3 (l.length + 1) c3) (l.length + 1) (tpCells (insT l x n)) ∧ Chg (abl ao) w w7 ∧ ∀ b ∈ abl a3, b ∈ abl ao ∨ w.heap.size ≤ b := fun w7 a3 c3 h1 h2 h3 => by
      refine ⟨by rw [HE.out]; exact h1, (((hc1.alloc _).alloc _).nil).trans h2, fun k hk => ?_⟩
      rcases h3 k hk with h | h
      · exact .inl h
      · right
        simp at h
        omega
    have FIN := Lib.hid fin
    have hbx := Blk.alloc_new w1 #[.int .i64 x, .int .u64 1, .int .u64 0] 251
    have HV := Lib.hid (show Blk ((w1.alloc (.cells #[.int .i64 x, .int .u64 1, .int .u64 0] 251)).alloc (.cells #[.int .i64 x, .int .u64 1, .int .u64 0] 251)) (w1.heap.size + 1) #[.int .i64 x, .int .u64 1, .int .u64 0] 251 from by
      have := Blk.alloc_new (w1.alloc (.cells #[.int .i64 x, .int .u64 1, .int .u64 0] 251)) #[.int .i64 x, .int .u64 1, .int .u64 0] 251
      simpa using this)
    have e0 := hbx.cell 0
    have e1 := hbx.cell 1
    have e2 := hbx.cell 2
    have HB := Lib.hid (show w1.heap.size + 1 ∉ abl ao from fun hb => by have := hbl _ (by simpa using hb); omega)
    clear fin hbx HE hbl ho
    rcases hne with h0 | h0
    · subst h0
      go_wp2_with fail
      refine (insert_tuple _ ao cap l 0 hle ⟨x, 1, 0⟩ (w1.heap.size + 1) hl ((ho1.alloc _).alloc _) HV.out HB.out).mono ?_
      rintro e w7 ⟨a3, c3, rfl, ho7, hg7, hf7⟩
      have HF := Lib.hid (FIN.out w7 a3 c3 ho7 hg7 hf7)
      clear ho7 hg7 hf7
      go_wp2
      go_ret
      exact ⟨a3, c3, rfl, HF.out.1, HF.out.2.1, HF.out.2.2⟩
    · have hd2 : decide (n < l.length) = false := decide_eq_false (by omega)
      by_cases hz : 0 < n
      all_goals
        clear h0
        go_wp2_with fail
        refine (insert_tuple _ ao cap l n hle ⟨x, 1, 0⟩ (w1.heap.size + 1) hl ((ho1.alloc _).alloc _) HV.out HB.out).mono ?_
        rintro e w7 ⟨a3, c3, rfl, ho7, hg7, hf7⟩
        have HF := Lib.hid (FIN.out w7 a3 c3 ho7 hg7 hf7)
        clear ho7 hg7 hf7
        go_wp2
        go_ret
        exact ⟨a3, c3, rfl, HF.out.1, HF.out.2.1, HF.out.2.2⟩
end Go.Proofs.YtmehcfocfljoeaaGreatDoor

namespace Go.Proofs.YtmehcfocfljoeaaGreatDoor
open Go.RowKit

theorem sorted_get {l : List Tp} (h : l.Pairwise fun p q => p.x ≤ q.x) : ∀ j k, (hjk : j ≤ k) → (h : k < l.length) → (l[j]'(by omega)).x ≤ l[k].x := by
  intro j k hjk hk
  rcases Nat.lt_or_ge j k with h1 | h1
  · exact List.pairwise_iff_getElem.1 h j k (by omega) hk h1
  · obtain rfl : j = k := by omega
    exact Int.le_refl _
theorem spF_sorted (n : Nat) {r : List Tp} (h : r.Pairwise fun p q => p.x ≤ q.x) : (spF n r).Pairwise fun p q => p.x ≤ q.x := by
  induction r generalizing n with
  | nil => exact List.Pairwise.nil
  | cons p r ih =>
    obtain ⟨h1, h2⟩ := List.pairwise_cons.1 h
    rw [spF]
    refine List.pairwise_cons.2 ⟨fun s hs => ?_, ih _ h2⟩
    obtain ⟨q, hq, hx⟩ := spF_x_mem hs
    rw [hx]
    exact h1 q hq

end Go.Proofs.YtmehcfocfljoeaaGreatDoor

namespace Go.Proofs.YtmehcfocfljoeaaGreatDoor
open Go.Shelf

def sortI_ren : Go.Shelf.Ren := ⟨fun | 5 => 349 | 8 => 318 | 7 => 353 | 19 => 327 | 20 => 192 | 10 => 358 | 11 => 359 | 12 => 360 | 13 => 361 | 14 => 362 | 15 => 363 | 16 => 364 | 17 => 365 | 18 => 366 | 30 => 371 | 31 => 329 | 32 => 330 | 33 => 372 | 34 => 373 | 35 => 374 | 40 => 376 | n => n, fun | 23 => 73 | 25 => 2 | 3 => 3 | 32 => 194 | 22 => 73 | 0 => 0 | 44 => 135 | 46 => 23 | 4 => 4 | 36 => 421 | 35 => 420 | 41 => 294 | 5 => 5 | 9 => 9 | 53 => 426 | 57 => 429 | 63 => 431 | 64 => 432 | n => n, fun | n => n⟩
theorem sortI : Go.Proofs.SlLaysM.n5 Tryz.prog sortI_ren := {
  mixed := by kernel_rfl,
  f5 := ⟨Tryz.f349.name, by decide, Tryz.func349.trans (congrArg some (by kernel_rfl))⟩,
  f7 := ⟨Tryz.f353.name, by decide, Tryz.func353.trans (congrArg some (by kernel_rfl))⟩,
  f8 := Tryz.func318.trans (congrArg some (by kernel_rfl)),
  f10 := ⟨Tryz.f358.name, by decide, Tryz.func358.trans (congrArg some (by kernel_rfl))⟩,
  f11 := ⟨Tryz.f359.name, by decide, Tryz.func359.trans (congrArg some (by kernel_rfl))⟩,
  f12 := ⟨Tryz.f360.name, by decide, Tryz.func360.trans (congrArg some (by kernel_rfl))⟩,
  f13 := ⟨Tryz.f361.name, by decide, Tryz.func361.trans (congrArg some (by kernel_rfl))⟩,
  f14 := ⟨Tryz.f362.name, by decide, Tryz.func362.trans (congrArg some (by kernel_rfl))⟩,
  f15 := ⟨Tryz.f363.name, by decide, Tryz.func363.trans (congrArg some (by kernel_rfl))⟩,
  f16 := ⟨Tryz.f364.name, by decide, Tryz.func364.trans (congrArg some (by kernel_rfl))⟩,
  f17 := ⟨Tryz.f365.name, by decide, Tryz.func365.trans (congrArg some (by kernel_rfl))⟩,
  f18 := ⟨Tryz.f366.name, by decide, Tryz.func366.trans (congrArg some (by kernel_rfl))⟩,
  f19 := Tryz.func327.trans (congrArg some (by kernel_rfl)),
  f20 := Tryz.func192.trans (congrArg some (by kernel_rfl)),
  f30 := ⟨Tryz.f371.name, by decide, Tryz.func371.trans (congrArg some (by kernel_rfl))⟩,
  f31 := Tryz.func329.trans (congrArg some (by kernel_rfl)),
  f32 := Tryz.func330.trans (congrArg some (by kernel_rfl)),
  f33 := ⟨Tryz.f372.name, by decide, Tryz.func372.trans (congrArg some (by kernel_rfl))⟩,
  f34 := ⟨Tryz.f373.name, by decide, Tryz.func373.trans (congrArg some (by kernel_rfl))⟩,
  f35 := ⟨Tryz.f374.name, by decide, Tryz.func374.trans (congrArg some (by kernel_rfl))⟩,
  f40 := ⟨Tryz.f376.name, by decide, Tryz.func376.trans (congrArg some (by kernel_rfl))⟩,
  t0 := Tryz.underlying0,
  a0 := Tryz.isAgg0,
  z0 := Tryz.sizeOf0,
  v0 := Tryz.zeroValue0,
  t3 := Tryz.underlying3,
  a3 := Tryz.isAgg3,
  z3 := Tryz.sizeOf3,
  v3 := Tryz.zeroValue3,
  t4 := Tryz.underlying4,
  a4 := Tryz.isAgg4,
  z4 := Tryz.sizeOf4,
  v4 := Tryz.zeroValue4,
  t5 := Tryz.underlying5,
  a5 := Tryz.isAgg5,
  z5 := Tryz.sizeOf5,
  v5 := Tryz.zeroValue5,
  t9 := Tryz.underlying9,
  a9 := Tryz.isAgg9,
  z9 := Tryz.sizeOf9,
  v9 := Tryz.zeroValue9,
  t22 := Tryz.underlying73,
  a22 := Tryz.isAgg73,
  z22 := Tryz.sizeOf73,
  v22 := Tryz.zeroValue73,
  t23 := Tryz.underlying73,
  a23 := Tryz.isAgg73,
  z23 := Tryz.sizeOf73,
  v23 := Tryz.zeroValue73,
  t25 := Tryz.underlying2,
  a25 := Tryz.isAgg2,
  z25 := Tryz.sizeOf2,
  v25 := Tryz.zeroValue2,
  t32 := Tryz.underlying194,
  a32 := Tryz.isAgg194,
  z32 := Tryz.sizeOf194,
  v32 := Tryz.zeroValue194,
  t35 := Tryz.underlying420,
  a35 := Tryz.isAgg420,
  z35 := Tryz.sizeOf420,
  v35 := Tryz.zeroValue420,
  t36 := Tryz.underlying421,
  a36 := Tryz.isAgg421,
  z36 := Tryz.sizeOf421,
  v36 := Tryz.zeroValue421,
  t41 := Tryz.underlying294,
  a41 := Tryz.isAgg294,
  z41 := Tryz.sizeOf294,
  v41 := Tryz.zeroValue294,
  t44 := Tryz.underlying135,
  a44 := Tryz.isAgg135,
  z44 := Tryz.sizeOf135,
  v44 := Tryz.zeroValue135,
  t46 := Tryz.underlying23,
  a46 := Tryz.isAgg23,
  z46 := Tryz.sizeOf23,
  v46 := Tryz.zeroValue23,
  t53 := Tryz.underlying426,
  a53 := Tryz.isAgg426,
  z53 := Tryz.sizeOf426,
  v53 := Tryz.zeroValue426,
  t57 := Tryz.underlying429,
  a57 := Tryz.isAgg429,
  z57 := Tryz.sizeOf429,
  v57 := Tryz.zeroValue429,
  t63 := Tryz.underlying431,
  a63 := Tryz.isAgg431,
  z63 := Tryz.sizeOf431,
  v63 := Tryz.zeroValue431,
  t64 := Tryz.underlying432,
  a64 := Tryz.isAgg432,
  z64 := Tryz.sizeOf432,
  v64 := Tryz.zeroValue432 }
end Go.Proofs.YtmehcfocfljoeaaGreatDoor

namespace Go.Proofs.YtmehcfocfljoeaaGreatDoor
theorem up_lt {l : List Int} (h : up l) (x : Int) (k : Nat) (hk : k < l.length) : l[k] ≤ x ↔ k < upL l x := by
  obtain ⟨h1, h2, h3⟩ := up_parted h x
  constructor
  · intro hx
    rcases Nat.lt_or_ge k (upL l x) with h4 | h4
    · exact h4
    · have hm : l[k] ∈ l.drop (upL l x) := by
        rw [List.mem_iff_getElem]
        refine ⟨k - upL l x, by rw [List.length_drop]; omega, ?_⟩
        rw [List.getElem_drop]
        congr 1
        omega
      have := h2 _ hm
      omega
  · intro hx
    refine h1 _ ?_
    rw [List.mem_iff_getElem]
    exact ⟨k, by rw [List.length_take]; omega, by rw [List.getElem_take]⟩
theorem up_unique {a b : List Int} (ha : up a) (hb : up b) (hl : a.length = b.length) (h : ∀ x, upL a x = upL b x) : a = b := by
  refine List.ext_getElem hl fun k h1 h2 => ?_
  have e1 := fun x => up_lt ha x k h1
  have e2 := fun x => up_lt hb x k h2
  have h3 : a[k] ≤ b[k] := (e1 _).2 (by rw [h]; exact (e2 _).1 (Int.le_refl _))
  have h4 : b[k] ≤ a[k] := (e2 _).2 (by rw [← h]; exact (e1 _).1 (Int.le_refl _))
  omega
theorem msort_eq (l : List Int) : l.mergeSort (fun x y => decide (x ≤ y)) = sortL l := by
  have hp := List.mergeSort_perm l (fun x y => decide (x ≤ y))
  have hs := List.pairwise_mergeSort (le := fun x y : Int => decide (x ≤ y)) (fun a b c h1 h2 => by simp at h1 h2 ⊢; omega) (fun a b => by simp; omega) l
  obtain ⟨q1, q2, q3⟩ := sort_ok l
  refine up_unique (fun j k hjk hk => ?_) q1 (by rw [hp.length_eq, q3]) (fun x => ?_)
  · have := List.pairwise_iff_getElem.1 hs j k (by omega) hk hjk
    simpa using this
  · rw [q2]
    exact hp.countP_eq _
end Go.Proofs.YtmehcfocfljoeaaGreatDoor

namespace Go.Proofs.YtmehcfocfljoeaaGreatDoor
open Go.RowKit Go.Sort

theorem ints_getE (l : List Int) (j : Nat) (h : j < l.length) : (ints l)[j]? = some (.int .i64 l[j]) := by simp [ints, h]
theorem Own.holdsI {w : World} {e : TypeId} {g o cap : Nat} {l : List Int} (h : Own w e 1 (.slice (some ⟨g, o, none⟩) l.length cap) l.length (ints l)) : Holds (Value.int .i64) w g o l.toArray := by
  intro j hj
  have hj' : j < l.length := by simpa using hj
  refine ⟨?_, h.free _⟩
  rw [h.cells j (by omega), ints_getE l j hj', getElem!_pos l.toArray j hj, List.getElem_toArray]
theorem sortedI_heap {w : World} {g n off : Nat} {os : Array Obj} {cur : Array Value} {e : TypeId} {fr : Nat × Nat} (d : Array Int) (hb : w.heap[g]? = some (.cells cur e fr)) :
    (grow (putRow (Value.int .i64) (Sort.ahead w n) g off d) os).heap[g]? = some (.cells (putCells (Value.int .i64) off d cur) e fr) := by
  have hg : g < w.heap.size := (Array.getElem?_eq_some_iff.1 hb).1
  rw [heap_grow_old _ _ (by simpa using hg)]
  simp [putRow, mapBlock, Sort.ahead, Array.getElem?_modify, hb, onCells]
theorem sortedI_chg (w : World) (g n off : Nat) (os : Array Obj) (d : Array Int) : Chg [g] w (grow (putRow (Value.int .i64) (Sort.ahead w n) g off d) os) := by
  refine ⟨rfl, rfl, rfl, by simp, fun j hj hne => ?_⟩
  rw [heap_grow_old _ _ (by simpa using hj)]
  have : g ≠ j := fun e => hne (by simp [e])
  simp [putRow, mapBlock, Sort.ahead, Array.getElem?_modify, this]
theorem Own.sortedI {w : World} {e : TypeId} {g o cap : Nat} {l l' : List Int} (h : Own w e 1 (.slice (some ⟨g, o, none⟩) l.length cap) l.length (ints l)) (hl : l'.length = l.length) (n : Nat) (os : Array Obj) :
    Own (grow (putRow (Value.int .i64) (Sort.ahead w n) g o l'.toArray) os) e 1 (.slice (some ⟨g, o, none⟩) l.length cap) l.length (ints l') := by
  obtain ⟨h1, ⟨h0, _⟩ | ⟨g', o', cap', cur, h0, h2, h3, h4, h5, h6⟩⟩ := h
  · simp at h0
  simp only [Value.slice.injEq, Option.some.injEq, Addr.mk.injEq, and_true, true_and] at h0
  obtain ⟨⟨rfl, rfl⟩, rfl⟩ := h0
  refine ⟨by simp [ints, hl], .inr ⟨g, o, cap, _, rfl, sortedI_heap _ h2, h3, h4, by simpa [putCells] using h5, ?_⟩⟩
  apply List.ext_getElem?
  intro t
  by_cases ht : t < l.length
  · rw [List.getElem?_take_of_lt (by omega), List.getElem?_drop, Array.getElem?_toList, ints_getE l' t (by omega)]
    have hf : t < l'.toArray.size := by simpa [hl] using ht
    simp only [putCells, Array.getElem?_mapIdx]
    rw [Array.getElem?_eq_getElem (show o + t < cur.size by omega), Option.map_some, if_pos ⟨by omega, by omega⟩, show o + t - o = t by omega, getElem!_pos _ t hf, List.getElem_toArray]
  · rw [List.getElem?_take_eq_none (by omega), List.getElem?_eq_none (by simp [ints, hl]; omega)]

/-- The sort: the same slice, the numbers in order. -/
theorem sort_ints (w : World) (ao : Option Addr) (cap n : Nat) (l : List Int) (hn : n = l.length) (h : Own w 2 1 (.slice ao n cap) n (ints l)) (hsz : n < 4611686018427387904) :
    Calls Tryz.prog 349 #[.slice ao n cap] w fun e w' => e = .returned (.tuple #[]) ∧ Own w' 2 1 (.slice ao n cap) n (ints (sortL l)) ∧ Chg (abl ao) w w' := by
  subst hn
  have hl := (sort_ok l).2.2
  by_cases h0 : l = []
  · subst h0
    have hcon := AnyM.slices_Sort_int_none sortI ao cap w
    change Calls Tryz.prog 349 _ _ _ at hcon
    refine hcon.mono ?_
    rintro e w' ⟨rfl, rfl⟩
    exact ⟨rfl, h, Chg.refl _ _⟩
  · have hpos : 0 < l.length := List.length_pos_iff.2 h0
    obtain ⟨g, o, rfl, -⟩ := h.rd.addr hpos
    have hcon := AnyM.slices_Sort_int sortI g o cap l w h.holdsI (h.lt g (by simp)) hsz
    change Calls Tryz.prog 349 _ _ _ at hcon
    rw [msort_eq] at hcon
    refine hcon.mono ?_
    rintro e w' ⟨rfl, m, os, rfl⟩
    exact ⟨rfl, h.sortedI hl m os, sortedI_chg _ _ _ _ _ _⟩
end Go.Proofs.YtmehcfocfljoeaaGreatDoor
