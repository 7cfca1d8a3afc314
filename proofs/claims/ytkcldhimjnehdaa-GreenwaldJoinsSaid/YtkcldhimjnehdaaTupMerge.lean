/-
  The walk of tuples.part: the tuples of a row, as they are in a merged one. Conditions: the form's own reach.
  The walks of the closures of tuples.Merge, and of the binary searches by them. Conditions: the form's own reach.
  The walk of tuples.Merge. Conditions: the form's own reach.
-/
import Derived.Test.YtkcldhimjnehdaaTupFind
import Derived.StillTailTactics
import Derived.Test.YtkcldhimjnehdaaSteps
import Derived.Test.YtkcldhimjnehdaaPlainMerge
import Derived.Shelf.Abstract
namespace Go.Proofs.Ytkcldhimjnehdaa
open Go.RowKit

/-- How much slack comes from the other row, if the next of it is at a place. -/
def nxt (r : List Tp) (k : Nat) : Nat := if k < r.length then (r.getD k default).st + (r.getD k default).sl - 1 else 0
def partG (l r : List Tp) (pos : Int → Nat) : List Tp := l.map fun p => ⟨p.x, p.st, p.sl + nxt r (pos p.x)⟩
theorem partG_step (l r : List Tp) (pos : Int → Nat) (k : Nat) (h : k < l.length) : partG (l.take (k + 1)) r pos = partG (l.take k) r pos ++ [⟨l[k].x, l[k].st, l[k].sl + nxt r (pos l[k].x)⟩] := by
  rw [List.take_succ_eq_append_getElem h, partG, List.map_append]
  rfl
theorem partG_len (l r : List Tp) (pos : Int → Nat) : (partG l r pos).length = l.length := by simp [partG]

set_option maxRecDepth 100000 in
set_option maxHeartbeats 2000000 in
theorem tup_part (w : World) (ao : Option Addr) (cap : Nat) (l : List Tp) (bo : Option Addr) (bcap : Nat) (r : List Tp) (fn bx : Nat) (pos : Int → Nat) (he : ∀ args w, (callFunc fn args).run Try.prog w = .ok (.enter fn args) w)
    (hcall : ∀ w' x, Chg [] w w' → Calls Try.prog fn #[.int .i64 x, .pointer (some ⟨bx, 0, none⟩)] w' fun e w'' => e = .returned (.int .i64 (pos x : Nat)) ∧ Chg [] w' w'')
    (hr : Rd w 3 (.slice ao l.length cap) l.length (tpCells l)) (hr2 : Rd w 3 (.slice bo r.length bcap) r.length (tpCells r)) (hl : l.length ≤ 100000) (hl2 : r.length ≤ 100000)
    (hb : ∀ p ∈ l, ∀ q ∈ r, 1 ≤ q.st ∧ p.sl + q.st + q.sl ≤ 9223372036854775807) :
    Calls Try.prog 80 #[.slice ao l.length cap, .slice bo r.length bcap, .func (.func fn) #[] #[.pointer (some ⟨bx, 0, none⟩)]] w fun e w' => ∃ a3 c3, e = .returned (.slice a3 l.length c3) ∧
      Own w' 28 3 (.slice a3 l.length c3) l.length (tpCells (partG l r pos)) ∧ Chg [] w w' ∧ ∀ b ∈ abl a3, w.heap.size ≤ b := by
  have HCALL := Lib.hid hcall
  have HBD := Lib.hid hb
  have HR := Lib.hid hr
  have HR2 := Lib.hid hr2
  have HP := Lib.hid (partG_step l r pos)
  clear hcall hb hr hr2
  go_enter Try.func80, Try.ntmps80
  go_wp2
  go_loopw [7, 13] (fun out i wx => ∃ (k : Nat) (a3 : Option Addr) (c3 : Nat), k ≤ l.length ∧ i = .int .i64 (k : Nat) ∧ out = .slice a3 k c3 ∧
    Own wx 28 3 (.slice a3 k c3) k (tpCells (partG (l.take k) r pos)) ∧ Chg [] w wx ∧ Hid (∀ b ∈ abl a3, w.heap.size ≤ b)) (fun _ i _ => l.length - (intOf i).toNat)
  case atStart => exact ⟨0, none, 0, Nat.zero_le _, rfl, rfl, Own.nil _ _ _, Chg.refl _ _, Lib.hid (by simp [abl])⟩
  case round =>
    obtain ⟨k, a3, c3, hk, rfl, rfl, ho, hch, HA⟩ := hrel
    by_cases hlt : k < l.length
    · have hr1 := HR.out.chg hch (by simp)
      obtain ⟨b, o, rfl, hcs⟩ := hr1.addr (by omega)
      obtain ⟨c0, c1, c2⟩ := tp_at hcs hlt
      have HS := Lib.hid (HP.out k hlt)
      have HM := Lib.hid (HBD.out l[k] (List.getElem_mem _))
      have hbx := Blk.alloc_new wr #[.int .i64 l[k].x, .int .u64 l[k].st, .int .u64 l[k].sl] 28
      have HC := Lib.hid (HCALL.out (wr.alloc (.cells #[.int .i64 l[k].x, .int .u64 l[k].st, .int .u64 l[k].sl] 28)) l[k].x (hch.alloc _))
      have e0 := hbx.cell 0
      have e1 := hbx.cell 1
      have e2 := hbx.cell 2
      have HX := Lib.hid hbx
      have HCH := Lib.hid (hch.alloc (.cells #[.int .i64 l[k].x, .int .u64 l[k].st, .int .u64 l[k].sl] 28))
      have HO := Lib.hid (ho.alloc (.cells #[.int .i64 l[k].x, .int .u64 l[k].st, .int .u64 l[k].sl] 28))
      have hsz := hch.size
      have hlt3 := ho.lt
      simp only [blkOf_slice] at hlt3
      generalize l[k] = p at *
      clear hcs hr1 ho hbx
      go_wp2_with fail
      refine HC.out.mono ?_
      rintro e w2 ⟨rfl, hc2⟩
      have HCH2 := Lib.hid (HCH.out.trans hc2)
      have hx2 := HX.out.chg hc2 (by simp)
      have HO2 := Lib.hid (HO.out.chg hc2 (by simp))
      have hsz2 := hc2.size
      simp only [World.size_alloc] at hsz2
      have d0 := hx2.cell 0
      have d1 := hx2.cell 1
      have d2 := hx2.cell 2
      have f2 := hx2.free 2
      generalize hB : wr.heap.size = B at *
      clear HX HO HC HCH hc2 e0 e1 e2 c0 c1 c2 hch hB
      generalize pos p.x = n at *
      by_cases hnl : n < r.length
      · have hr3 := HR2.out.chg HCH2.out (by simp)
        obtain ⟨b', o', rfl, hcs'⟩ := hr3.addr (by omega)
        obtain ⟨c0, c1, c2⟩ := tp_at hcs' hnl
        have hm := HM.out r[n] (List.getElem_mem _)
        have HZ := Lib.hid (show nxt r n = r[n].st + r[n].sl - 1 from by rw [nxt, if_pos hnl]; simp [List.getD, hnl])
        have hd : decide (n < r.length) = true := decide_eq_true hnl
        have hn0 : (0 : Int) ≤ (n : Int) := by omega
        have hn1 : (n : Int) < (r.length : Int) := by omega
        generalize r[n] = q at *
        have hw1 : IntKind.u64.wrap ((q.st : Int) + (q.sl : Int)) = (q.st : Int) + (q.sl : Int) := IntWalk.u64_in _ (by omega)
        have hw2 : IntKind.u64.wrap ((q.st : Int) + (q.sl : Int) - 1) = (q.st : Int) + (q.sl : Int) - 1 := IntWalk.u64_in _ (by omega)
        have hw3 : IntKind.u64.wrap ((p.sl : Int) + ((q.st : Int) + (q.sl : Int) - 1)) = (p.sl : Int) + ((q.st : Int) + (q.sl : Int) - 1) := IntWalk.u64_in _ (by omega)
        have HV := Lib.hid (show (p.sl : Int) + ((q.st : Int) + (q.sl : Int) - 1) = ((p.sl + nxt r n : Nat) : Int) from by rw [HZ.out]; omega)
        have hBb : b' < w2.heap.size := World.block_lt_of_cell? w2 _ c0
        clear hcs' hr3 hnl c0
        go_wp2
        go_still_tail 16, (by kernel_rfl)
        change wpList _ _ _ _ _ (World.drew _)
        clear hw1 hw2 hw3 c1 c2
        have hcS : Chg [B] w2 (w2.setCell ⟨B, 2, none⟩ (.int .u64 ((p.sl : Int) + (nxt r n : Int)))) := (Chg.refl [B] w2).setCell (.inl (by simp)) _
        rw [HV.out]
        have hrd : Rd (((w2.setCell ⟨B, 2, none⟩ (.int .u64 ((p.sl : Int) + (nxt r n : Int)))).alloc (.cells #[.int .i64 p.x, .int .u64 p.st, .int .u64 ((p.sl : Int) + (nxt r n : Int))] 28)).drew) 3 (.slice (some ⟨w2.heap.size, 0, none⟩) 1 1) 1 (tpCells [⟨p.x, p.st, p.sl + nxt r n⟩]) := by
          have := Rd.lit (w2.setCell ⟨B, 2, none⟩ (.int .u64 ((p.sl : Int) + (nxt r n : Int)))) #[.int .i64 p.x, .int .u64 p.st, .int .u64 ((p.sl : Int) + (nxt r n : Int))] 28 3 1 1 rfl
          simp only [World.setCell, Array.size_modify] at this
          exact this
        have HOW : Own (((w2.setCell ⟨B, 2, none⟩ (.int .u64 ((p.sl : Int) + (nxt r n : Int)))).alloc (.cells #[.int .i64 p.x, .int .u64 p.st, .int .u64 ((p.sl : Int) + (nxt r n : Int))] 28)).drew) 28 3 (.slice a3 k c3) k (tpCells (partG (l.take k) r pos)) := (((HO2.out.chg hcS (fun b hb => by have := hlt3 b (by simpa using hb); simp; omega)).alloc _).drew)
        have HCW := Lib.hid (show Chg [] w (((w2.setCell ⟨B, 2, none⟩ (.int .u64 ((p.sl : Int) + (nxt r n : Int)))).alloc (.cells #[.int .i64 p.x, .int .u64 p.st, .int .u64 ((p.sl : Int) + (nxt r n : Int))] 28)).drew) from (((HCH2.out.trans' hcS (by simp; omega)).alloc _).drew))
        go_wp2_with (at_builtin; go_must (refine wpList_append_src _ rfl (.tmp 41) (.tmp 43) 22 22 rfl 28 _ 3 24 under_tuples info_tuple rfl (by decide) (.slice a3 k c3) k (tpCells (partG (l.take k) r pos)) rfl HOW (.slice (some ⟨w2.heap.size, 0, none⟩) 1 1) 1 (tpCells [⟨p.x, p.st, p.sl + nxt r n⟩]) rfl (Src.of_rd under_tuples hrd) (tpCells_oneCell _) (by unfold maxLen; omega) (by omega) ?_; intro a4 c4 w7 ho7 hg7 hf7))
        refine ⟨⟨k + 1, a4, c4, by omega, by go_num, rfl, by rw [HS.out, tpCells_append]; exact ho7, HCW.out.trans' hg7 (fun b hb => .inr (HA.out b (by simpa using hb))), Lib.hid (fun b hb => ?_)⟩, by simp [intOf]; omega⟩
        rcases hf7 b hb with h | h
        · exact HA.out b (by simpa using h)
        · simp [World.setCell] at h; omega
      · have HZ := Lib.hid (show nxt r n = 0 from if_neg hnl)
        have hd : decide (n < r.length) = false := decide_eq_false hnl
        rw [HZ.out, Nat.add_zero] at HS
        have hrd : Rd (w2.alloc (.cells #[.int .i64 p.x, .int .u64 p.st, .int .u64 p.sl] 28)) 3 (.slice (some ⟨w2.heap.size, 0, none⟩) 1 1) 1 (tpCells [p]) := by
          have := Rd.lit w2 #[.int .i64 p.x, .int .u64 p.st, .int .u64 p.sl] 28 3 1 1 rfl
          simpa [tpCells, Tp.cells] using this
        have HOW := HO2.out.alloc (.cells #[.int .i64 p.x, .int .u64 p.st, .int .u64 p.sl] 28)
        have HCW := Lib.hid (HCH2.out.alloc (.cells #[.int .i64 p.x, .int .u64 p.st, .int .u64 p.sl] 28))
        clear hnl
        go_wp2_with (at_builtin; go_must (refine wpList_append_src _ rfl (.tmp 41) (.tmp 43) 22 22 rfl 28 _ 3 24 under_tuples info_tuple rfl (by decide) (.slice a3 k c3) k (tpCells (partG (l.take k) r pos)) rfl HOW (.slice (some ⟨w2.heap.size, 0, none⟩) 1 1) 1 (tpCells [p]) rfl (Src.of_rd under_tuples hrd) (tpCells_oneCell _) (by unfold maxLen; omega) (by omega) ?_; intro a4 c4 w7 ho7 hg7 hf7))
        refine ⟨⟨k + 1, a4, c4, by omega, by go_num, rfl, by rw [HS.out, tpCells_append]; exact ho7, HCW.out.trans' hg7 (fun b hb => .inr (HA.out b (by simpa using hb))), Lib.hid (fun b hb => ?_)⟩, by simp [intOf]; omega⟩
        rcases hf7 b hb with h | h
        · exact HA.out b (by simpa using h)
        · simp at h; omega
    · obtain rfl : k = l.length := by omega
      rw [List.take_length] at ho
      go_wp2
      go_ret
      exact ⟨a3, c3, rfl, ho, hch, HA.out⟩
end Go.Proofs.Ytkcldhimjnehdaa

namespace Go.Proofs.Ytkcldhimjnehdaa
open Go.RowKit

def unT (l : List Tp) (x : Int) : Nat := l.countP fun p => decide (p.x < x)
def geV (y x : Int) : Int := if x ≤ y then 1 else -1
theorem geV_neg (y x : Int) : geV y x < 0 ↔ y < x := by
  unfold geV
  by_cases h : x ≤ y
  · rw [if_pos h]; omega
  · rw [if_neg h]; omega
theorem geV_zero (y x : Int) : (geV y x == 0) = false := by
  unfold geV
  by_cases h : x ≤ y
  · rw [if_pos h]; rfl
  · rw [if_neg h]; rfl
set_option maxRecDepth 100000 in
theorem ge_cmp (w : World) (p : Tp) (x : Int) :
    Calls Try.prog 83 #[.agg #[.int .i64 p.x, .int .u64 p.st, .int .u64 p.sl], .int .i64 x] w fun e w' => e = .returned (.int .i64 (geV p.x x)) ∧ Chg [] w w' := by
  have hc := (Chg.refl [] w).alloc (.cells #[.int .i64 p.x, .int .u64 p.st, .int .u64 p.sl] 28)
  go_enter Try.func83, Try.ntmps83
  by_cases h : x ≤ p.x
  · have hd : decide (x ≤ p.x) = true := decide_eq_true h
    have HV := Lib.hid (show geV p.x x = 1 from if_pos h)
    go_wp2
    go_ret
    exact ⟨by rw [HV.out]; rfl, hc⟩
  · have hd : decide (x ≤ p.x) = false := decide_eq_false h
    have HV := Lib.hid (show geV p.x x = -1 from if_neg h)
    go_wp2
    go_ret
    exact ⟨by rw [HV.out]; rfl, hc⟩
theorem unT_cons (p : Tp) (l : List Tp) (x : Int) : unT (p :: l) x = unT l x + if p.x < x then 1 else 0 := by
  simp [unT, List.countP_cons]
theorem unT_eq {l : List Tp} {x : Int} {n : Nat} (hn : n ≤ l.length) (h0 : ∀ k, (h : k < l.length) → k < n → l[k].x < x) (h1 : ∀ k, (h : k < l.length) → n ≤ k → x ≤ l[k].x) : unT l x = n := by
  induction l generalizing n with
  | nil => simp at hn; subst hn; rfl
  | cons p l ih =>
    rw [unT_cons]
    cases n with
    | zero =>
      have hp := h1 0 (by simp) (Nat.le_refl _)
      have := ih (n := 0) (Nat.zero_le _) (fun k _ hk => (Nat.not_lt_zero k hk).elim) (fun k h _ => by have := h1 (k + 1) (by simpa using h) (by omega); simpa using this)
      rw [this]
      simp only [List.getElem_cons_zero] at hp
      rw [if_neg (by omega)]
    | succ n =>
      have hp := h0 0 (by simp) (by omega)
      have := ih (n := n) (by simpa using hn) (fun k h hk => by have := h0 (k + 1) (by simpa using h) (by omega); simpa using this) (fun k h hk => by have := h1 (k + 1) (by simpa using h) (by omega); simpa using this)
      rw [this]
      simp only [List.getElem_cons_zero] at hp
      rw [if_pos hp]

set_option maxRecDepth 100000 in
set_option maxHeartbeats 1000000 in
theorem bsf_ge (w : World) (ao : Option Addr) (cap : Nat) (l : List Tp) (x : Int) (hrs : ∀ j k, (hjk : j ≤ k) → (h : k < l.length) → (l[j]'(by omega)).x ≤ l[k].x) (hr : Rd w 3 (.slice ao l.length cap) l.length (tpCells l)) (hl : l.length ≤ 100000) :
    Calls Try.prog 82 #[.slice ao l.length cap, .int .i64 x, .func (.func 83) #[] #[]] w fun e w' => e = .returned (.tuple #[.int .i64 (unT l x), .bool false]) ∧ Chg [] w w' := by
  go_enter Try.func82, Try.ntmps82
  go_wp2
  go_loopw [9, 10] (fun a b wx => ∃ lo hi : Nat, lo ≤ hi ∧ hi ≤ l.length ∧ a = .int .i64 (lo : Nat) ∧ b = .int .i64 (hi : Nat) ∧ Hid (∀ k, (h : k < l.length) → k < lo → l[k].x < x) ∧ Hid (∀ k, (h : k < l.length) → hi ≤ k → x ≤ l[k].x) ∧ Chg [] w wx) (fun a b _ => (intOf b).toNat - (intOf a).toNat)
  case atStart => exact ⟨0, l.length, by omega, by omega, rfl, rfl, Lib.hid (fun k _ hk => (Nat.not_lt_zero k hk).elim), Lib.hid (fun k h hk => absurd h (by omega)), Chg.refl _ _⟩
  case round =>
    obtain ⟨lo, hi, hlh, hhl, rfl, rfl, H0, H1, hch⟩ := hrel
    have hr1 := hr.chg hch (by simp)
    by_cases hlt : lo < hi
    · obtain ⟨b, o, rfl, hc⟩ := hr1.addr (by omega)
      obtain ⟨m, hm⟩ : ∃ m, m = (lo + hi) / 2 := ⟨_, rfl⟩
      have hmi : ((lo : Int) + (hi : Int)) / 2 = (m : Int) := by omega
      have hml : m < l.length := by omega
      have hmlo : lo ≤ m := by omega
      have hmhi : m < hi := by omega
      have hmi2 : (m : Int) < (l.length : Int) := by omega
      have hmi3 : (0 : Int) ≤ (m : Int) := by omega
      obtain ⟨c0, c1, c2⟩ := tp_at hc hml
      have HBY := Lib.hid (ge_cmp wr l[m] x)
      have hdl : decide ((lo : Int) < (hi : Int)) = true := decide_eq_true (by omega)
      have HR := Lib.hid hrs
      have HV := Lib.hid (geV_neg l[m].x x)
      clear hm hc hr1 hrs
      go_wp2_with fail
      refine HBY.out.mono ?_
      rintro e w2 ⟨rfl, hc2⟩
      have hc3 := hch.trans hc2
      clear hch hc2 HBY c0 c1 c2 hr
      by_cases hb : l[m].x < x
      · have hv : geV l[m].x x < 0 := HV.out.2 hb
        have hd2 := decide_eq_true hv
        have HN := Lib.hid (show ∀ k, (h : k < l.length) → k < m + 1 → l[k].x < x from fun k h hk => by
          have := HR.out k m (by omega) hml; omega)
        clear HV hb hv
        generalize geV l[m].x x = v at *
        go_wp2
        exact ⟨⟨m + 1, hi, by omega, by omega, by go_num, rfl, HN, H1, hc3⟩, by simp [intOf]; omega⟩
      · have hv : ¬ geV l[m].x x < 0 := fun h => hb (HV.out.1 h)
        have hd2 := decide_eq_false hv
        have HN := Lib.hid (show ∀ k, (h : k < l.length) → m ≤ k → x ≤ l[k].x from fun k h hk => by
          have := HR.out m k hk h; omega)
        clear HV hb hv
        generalize geV l[m].x x = v at *
        go_wp2
        exact ⟨⟨lo, m, by omega, by omega, rfl, rfl, H0, HN, hc3⟩, by simp [intOf]; omega⟩
    · obtain rfl : lo = hi := by omega
      have HC := Lib.hid (unT_eq hhl H0.out H1.out)
      clear hrs
      by_cases hn : lo < l.length
      · obtain ⟨b, o, rfl, hc⟩ := hr1.addr (by omega)
        obtain ⟨c0, c1, c2⟩ := tp_at hc hn
        have hdn : decide ((lo : Int) < (l.length : Int)) = true := decide_eq_true (by omega)
        have hn0 : (0 : Int) ≤ (lo : Int) := by omega
        have HBY := Lib.hid (ge_cmp wr l[lo] x)
        have HV := Lib.hid (geV_zero l[lo].x x)
        clear hc hr1
        go_wp2_with fail
        refine HBY.out.mono ?_
        rintro e w2 ⟨rfl, hc2⟩
        have hv := HV.out
        clear HV
        generalize geV l[lo].x x = v at *
        go_wp2
        go_ret2
        exact ⟨by rw [HC.out]; rfl, hch.trans hc2⟩
      · have hdn : decide ((lo : Int) < (l.length : Int)) = false := decide_eq_false (by omega)
        go_wp2
        go_ret2
        exact ⟨by rw [HC.out]; rfl, hch⟩


set_option maxRecDepth 100000 in
theorem merge_one (w : World) (bx : Nat) (ao : Option Addr) (cap : Nat) (l : List Tp) (x : Int) (hbx : w.cell? ⟨bx, 0, none⟩ = some (.slice ao l.length cap)) (hrs : ∀ j k, (hjk : j ≤ k) → (h : k < l.length) → (l[j]'(by omega)).x ≤ l[k].x) (hr : Rd w 3 (.slice ao l.length cap) l.length (tpCells l)) (hl : l.length ≤ 100000) :
    Calls Try.prog 81 #[.int .i64 x, .pointer (some ⟨bx, 0, none⟩)] w fun e w' => e = .returned (.int .i64 (unT l x : Nat)) ∧ Chg [] w w' := by
  have HB := Lib.hid (bsf_ge w ao cap l x hrs hr hl)
  clear hrs
  go_enter Try.func81, Try.ntmps81
  go_wp2_with fail
  refine HB.out.mono ?_
  rintro e w2 ⟨rfl, hc2⟩
  go_wp2
  go_ret
  exact ⟨rfl, hc2⟩
set_option maxRecDepth 100000 in
theorem merge_two (w : World) (bx : Nat) (ao : Option Addr) (cap : Nat) (l : List Tp) (x : Int) (hbx : w.cell? ⟨bx, 0, none⟩ = some (.slice ao l.length cap)) (hrs : ∀ j k, (hjk : j ≤ k) → (h : k < l.length) → (l[j]'(by omega)).x ≤ l[k].x) (hr : Rd w 3 (.slice ao l.length cap) l.length (tpCells l)) (hl : l.length ≤ 100000) :
    Calls Try.prog 84 #[.int .i64 x, .pointer (some ⟨bx, 0, none⟩)] w fun e w' => e = .returned (.int .i64 (upT l x : Nat)) ∧ Chg [] w w' := by
  have HB := Lib.hid (tup_after w ao cap l x hrs hr hl)
  clear hrs
  go_enter Try.func84, Try.ntmps84
  go_wp2_with fail
  refine HB.out.mono ?_
  rintro e w2 ⟨rfl, hc2⟩
  go_wp2
  go_ret
  exact ⟨rfl, hc2⟩
end Go.Proofs.Ytkcldhimjnehdaa

namespace Go.Proofs.Ytkcldhimjnehdaa
open Go.RowKit

theorem nxt_cons (q : Tp) (b : List Tp) (k : Nat) : nxt (q :: b) (k + 1) = nxt b k := by
  simp [nxt]
theorem unT_zero {b : List Tp} {x : Int} (h : ∀ p ∈ b, x ≤ p.x) : unT b x = 0 := by
  rw [unT, List.countP_eq_zero]
  intro p hp
  have := h p hp
  simp; omega
theorem upT_zero {b : List Tp} {x : Int} (h : ∀ p ∈ b, x < p.x) : upT b x = 0 := by
  rw [upT, List.countP_eq_zero]
  intro p hp
  have := h p hp
  simp; omega
theorem nxt_unT (x : Int) : ∀ (b : List Tp), (b.Pairwise fun p q => p.x ≤ q.x) → nxt b (unT b x) = nextGe b x := by
  intro b
  induction b with
  | nil => intro _; rfl
  | cons q b ih =>
    intro h
    obtain ⟨h1, h2⟩ := List.pairwise_cons.1 h
    by_cases hq : q.x < x
    · rw [unT_cons, if_pos hq, nxt_cons, ih h2, nextGe_skip q b x hq]
    · rw [unT_zero (b := q :: b) (x := x) (fun p hp => by
        rcases List.mem_cons.1 hp with rfl | hp
        · omega
        · have := h1 p hp; omega), nextGe_hit q b x (by omega)]
      simp [nxt]
theorem nxt_upT (x : Int) : ∀ (b : List Tp), (b.Pairwise fun p q => p.x ≤ q.x) → nxt b (upT b x) = nextGt b x := by
  intro b
  induction b with
  | nil => intro _; rfl
  | cons q b ih =>
    intro h
    obtain ⟨h1, h2⟩ := List.pairwise_cons.1 h
    by_cases hq : q.x ≤ x
    · rw [upT_cons, if_pos hq, nxt_cons, ih h2, nextGt_skip q b x hq]
    · rw [upT_zero (b := q :: b) (x := x) (fun p hp => by
        rcases List.mem_cons.1 hp with rfl | hp
        · omega
        · have := h1 p hp; omega), nextGt_hit q b x (by omega)]
      simp [nxt]
theorem partG_A (a b : List Tp) (hb : b.Pairwise fun p q => p.x ≤ q.x) : partG a b (unT b) = partA a b := by
  rw [partG, partA]
  apply List.map_congr_left
  intro p _
  rw [nxt_unT p.x b hb]
theorem partG_B (a b : List Tp) (ha : a.Pairwise fun p q => p.x ≤ q.x) : partG b a (upT a) = partB b a := by
  rw [partG, partB]
  apply List.map_congr_left
  intro p _
  rw [nxt_upT p.x a ha]
theorem pw_get {l : List Tp} (h : l.Pairwise fun p q => p.x ≤ q.x) : ∀ j k, (hjk : j ≤ k) → (h : k < l.length) → (l[j]'(by omega)).x ≤ l[k].x := by
  intro j k hjk hk
  rcases Nat.lt_or_ge j k with h1 | h1
  · exact List.pairwise_iff_getElem.1 h j k (by omega) hk h1
  · obtain rfl : j = k := by omega
    exact Int.le_refl _
theorem mrgX_left (p : Tp) (a : List Tp) : mrgX (p :: a) [] = p :: a := by unfold mrgX; rfl
theorem mrgX_nil (b : List Tp) : mrgX [] b = b := by unfold mrgX; rfl
theorem mrgX_right (a : List Tp) : mrgX a [] = a := by
  cases a with
  | nil => exact mrgX_nil []
  | cons p a => exact mrgX_left p a
theorem mrgX_le {p q : Tp} (a b : List Tp) (h : p.x ≤ q.x) : mrgX (p :: a) (q :: b) = p :: mrgX a (q :: b) := by rw [mrgX, if_pos h]
theorem mrgX_gt {p q : Tp} (a b : List Tp) (h : ¬ p.x ≤ q.x) : mrgX (p :: a) (q :: b) = q :: mrgX (p :: a) b := by rw [mrgX, if_neg h]
theorem mrgX_len : ∀ (a b : List Tp), (mrgX a b).length = a.length + b.length
  | [], b => by rw [mrgX_nil]; simp
  | p :: a, [] => by rw [mrgX_left]; rfl
  | p :: a, q :: b => by
    by_cases h : p.x ≤ q.x
    · rw [mrgX_le a b h, List.length_cons, mrgX_len a (q :: b)]; simp; omega
    · rw [mrgX_gt a b h, List.length_cons, mrgX_len (p :: a) b]; simp; omega
termination_by a b => a.length + b.length
theorem Own.le_cap {w : World} {e : TypeId} {size n c : Nat} {ao : Option Addr} {xs : List Value} (h : Own w e size (.slice ao n c) n xs) : n ≤ c := by
  obtain ⟨_, ⟨h1, h2⟩ | ⟨g, o, cp, cur, h1, _, h2, _⟩⟩ := h
  · omega
  · simp only [Value.slice.injEq, true_and] at h1
    omega
def slen : Value → Nat | .slice _ n _ => n | _ => 0

/-- What is read of a row behind its first tuple. -/
theorem Rd.tail3 {w : World} {g o n c : Nat} {p : Tp} {l : List Tp} (h : Rd w 3 (.slice (some ⟨g, o, none⟩) n c) n (tpCells (p :: l))) : Rd w 3 (.slice (some ⟨g, o + 3, none⟩) (n - 1) (c - 1)) (n - 1) (tpCells l) := by
  obtain ⟨h1, ao, cap, hv, h2⟩ := h
  simp only [Value.slice.injEq, true_and] at hv
  obtain ⟨rfl, rfl⟩ := hv
  have h3 := tpCells_len l
  have h4 : (tpCells (p :: l)).length = (l.length + 1) * 3 := tpCells_len _
  refine ⟨by omega, _, _, rfl, .inr ⟨g, o + 3, rfl, fun j hj => ?_⟩⟩
  rcases h2 with h2 | ⟨b', o', hb, hc⟩
  · omega
  · simp only [Option.some.injEq, Addr.mk.injEq, and_true] at hb
    obtain ⟨rfl, rfl⟩ := hb
    rw [Nat.add_assoc, hc (3 + j) (by omega)]
    show (p.cells ++ tpCells l)[3 + j]? = _
    rw [List.getElem?_append_right (by simp [Tp.cells])]
    simp [Tp.cells]
theorem Rd.tail3' {w : World} {g o n c : Nat} {p : Tp} {l : List Tp} (h : Rd w 3 (.slice (some ⟨g, o, none⟩) n c) n (tpCells (p :: l))) (hn : n = 1) (a : Option Addr) (c' : Nat) : Rd w 3 (.slice a 0 c') 0 (tpCells l) := by
  have h3 := tpCells_len l
  have h4 : (tpCells (p :: l)).length = (l.length + 1) * 3 := tpCells_len _
  have h5 := h.1
  exact ⟨by omega, _, _, rfl, .inl rfl⟩
theorem tp_head {w : World} {g o n c : Nat} {p : Tp} {l : List Tp} (h : Rd w 3 (.slice (some ⟨g, o, none⟩) n c) n (tpCells (p :: l))) :
    w.cell? ⟨g, o, none⟩ = some (.int .i64 p.x) ∧ w.cell? ⟨g, o + 1, none⟩ = some (.int .u64 p.st) ∧ w.cell? ⟨g, o + 2, none⟩ = some (.int .u64 p.sl) := by
  have h4 : (tpCells (p :: l)).length = (l.length + 1) * 3 := tpCells_len _
  have h5 := h.1
  obtain ⟨b, o', hv, hc⟩ := h.addr (by omega)
  simp only [Option.some.injEq, Addr.mk.injEq, and_true] at hv
  obtain ⟨rfl, rfl⟩ := hv
  have e0 := hc 0 (by omega)
  have e1 := hc 1 (by omega)
  have e2 := hc 2 (by omega)
  exact ⟨e0, e1, e2⟩

set_option maxRecDepth 100000 in
set_option maxHeartbeats 4000000 in
theorem tup_merge (w : World) (ao : Option Addr) (cap : Nat) (a : List Tp) (bo : Option Addr) (bcap : Nat) (b : List Tp) (ha : a.Pairwise fun p q => p.x ≤ q.x) (hb : b.Pairwise fun p q => p.x ≤ q.x)
    (hra : Rd w 3 (.slice ao a.length cap) a.length (tpCells a)) (hrb : Rd w 3 (.slice bo b.length bcap) b.length (tpCells b)) (hla : a.length ≤ 40000) (hlb : b.length ≤ 40000)
    (hab : ∀ p ∈ a, ∀ q ∈ b, 1 ≤ q.st ∧ p.sl + q.st + q.sl ≤ 9223372036854775807) (hba : ∀ p ∈ b, ∀ q ∈ a, 1 ≤ q.st ∧ p.sl + q.st + q.sl ≤ 9223372036854775807) :
    Calls Try.prog 63 #[.slice ao a.length cap, .slice bo b.length bcap] w fun e w' => ∃ a3 c3, e = .returned (.slice a3 (mrgT a b).length c3) ∧
      Own w' 28 3 (.slice a3 (mrgT a b).length c3) (mrgT a b).length (tpCells (mrgT a b)) ∧ Chg [] w w' ∧ ∀ b ∈ abl a3, w.heap.size ≤ b := by
  have HA := Lib.hid ha
  have HB := Lib.hid hb
  have HAB := Lib.hid hab
  have HBA := Lib.hid hba
  have HX := Lib.hid (part_merge a b ha hb)
  obtain ⟨W1, hW1⟩ : ∃ W1, W1 = (w.alloc (.cells #[.slice ao a.length cap] 22)).alloc (.cells #[.slice bo b.length bcap] 22) := ⟨_, rfl⟩
  have hb0 := (Blk.alloc_new w #[.slice ao a.length cap] 22).alloc (.cells #[.slice bo b.length bcap] 22)
  have hb1 := Blk.alloc_new (w.alloc (.cells #[.slice ao a.length cap] 22)) #[.slice bo b.length bcap] 22
  have hcW := (Chg.refl [] w).alloc (.cells #[.slice ao a.length cap] 22) |>.alloc (.cells #[.slice bo b.length bcap] 22)
  rw [World.size_alloc, ← hW1] at hb1
  rw [← hW1] at hb0 hcW
  have hra1 := hra.chg hcW (by simp)
  have hrb1 := hrb.chg hcW (by simp)
  have H1 := Lib.hid (tup_part W1 ao cap a bo bcap b 81 (w.heap.size + 1) (unT b) (enters_of Try.func81 (by kernel_rfl) rfl)
    (fun w' x hc => merge_one w' (w.heap.size + 1) bo bcap b x ((hb1.chg hc (by simp)).cell 0) (pw_get hb) (hrb1.chg hc (by simp)) (by omega)) hra1 hrb1 (by omega) (by omega) hab)
  have H2 := Lib.hid (fun w2 (hc : Chg [] W1 w2) => tup_part w2 bo bcap b ao cap a 84 w.heap.size (upT a) (enters_of Try.func84 (by kernel_rfl) rfl)
    (fun w' x hc' => merge_two w' w.heap.size ao cap a x ((hb0.chg (hc.trans hc') (by simp)).cell 0) (pw_get ha) ((hra1.chg hc (by simp)).chg hc' (by simp)) (by omega)) (hrb1.chg hc (by simp)) (hra1.chg hc (by simp)) (by omega) (by omega) hba)
  rw [partG_A a b hb] at H1
  rw [partG_B a b ha] at H2
  have e0 := hb0.cell 0
  have e1 := hb1.cell 0
  have HB0 := Lib.hid hb0
  have HB1 := Lib.hid hb1
  have HW := Lib.hid hW1
  have hlt : (mrgT a b).length = a.length + b.length := by
    rw [← HX.out, mrgX_len]
    simp [partA, partB]
  rw [hlt]
  have HPA := Lib.hid (show (partA a b).length = a.length by simp [partA])
  have HPB := Lib.hid (show (partB b a).length = b.length by simp [partB])
  clear ha hb hab hba hra hrb hra1 hrb1 hb0 hb1 hlt HA HB HAB HBA
  generalize mrgT a b = R at *
  generalize partA a b = A0 at *
  generalize partB b a = B0 at *
  generalize a.length = na at *
  generalize b.length = nb at *
  go_enter Try.func63, Try.ntmps63
  go_wp2_with fail
  rw [← HW.out]
  refine H1.out.mono ?_
  rintro e w2 ⟨a3, c3, rfl, ho3, hc3, hf3⟩
  have e0' := hc3.cell e0 (by simp)
  have e1' := hc3.cell e1 (by simp)
  clear e0 e1 hW1 H1
  go_wp2_with fail
  refine (H2.out w2 hc3).mono ?_
  rintro e w3 ⟨a4, c4, rfl, ho4, hc4, hf4⟩
  clear e0' e1' H2
  have HS3 := Lib.hid (hcW.trans (hc3.trans hc4))
  have hsz : w.heap.size ≤ w3.heap.size := (hcW.trans (hc3.trans hc4)).size
  have ho3' := ho3.chg hc4 (by simp)
  have hl3 := ho3'.lt
  have hl4 := ho4.lt
  have hk3 := ho3'.le_cap
  have hk4 := ho4.le_cap
  have HR3 := Lib.hid ho3'.rd
  have HR4 := Lib.hid ho4.rd
  have HL3 := Lib.hid hl3
  have HL4 := Lib.hid hl4
  clear HB0 HB1 HW hc3 hc4 hf3 hf4 ho3 ho4 ho3' hl3 hl4 hcW
  go_wp2
  go_loopw [5, 6, 7] (fun f s o wx => ∃ (F S O : List Tp) (n m k : Nat) (fo : Option Addr) (fc : Nat) (so : Option Addr) (sc : Nat) (a3 : Option Addr) (c3 : Nat), f = .slice fo n fc ∧ s = .slice so m sc ∧ o = .slice a3 k c3 ∧
    Rd wx 3 (.slice fo n fc) n (tpCells F) ∧ Rd wx 3 (.slice so m sc) m (tpCells S) ∧ n ≤ fc ∧ m ≤ sc ∧ (∀ b ∈ abl fo, b < w3.heap.size) ∧ (∀ b ∈ abl so, b < w3.heap.size) ∧
    Own wx 28 3 (.slice a3 k c3) k (tpCells O) ∧ Chg [] w3 wx ∧ (∀ b ∈ abl a3, w3.heap.size ≤ b) ∧ Hid (O ++ mrgX F S = R) ∧ Hid (k + n + m = na + nb)) (fun f s _ _ => slen f + slen s)
  case atStart => exact ⟨A0, B0, [], na, nb, 0, _, _, _, _, none, 0, rfl, rfl, rfl, HR3.out, HR4.out, hk3, hk4, by simpa using HL3.out, by simpa using HL4.out, Own.nil _ _ _, Chg.refl _ _, by simp [abl], Lib.hid (by simpa using HX.out), Lib.hid (by omega)⟩
  case round =>
    obtain ⟨F, S, O, n, m, k, fo, fc, so, sc, a5, c5, rfl, rfl, rfl, hF, hS, hnf, hms, hbf, hbs, ho, hch, hba, HX, HT⟩ := hrel
    have hFl : F.length = n := by have := hF.1; rw [tpCells_len] at this; omega
    have hSl : S.length = m := by have := hS.1; rw [tpCells_len] at this; omega
    clear HR3 HR4 HL3 HL4 hk3 hk4
    cases F with
    | nil =>
      simp only [List.length_nil] at hFl
      subst hFl
      cases S with
      | nil =>
        simp only [List.length_nil] at hSl
        subst hSl
        have HE := Lib.hid (show O = R from by have := HX.out; rw [mrgX_nil, List.append_nil] at this; exact this)
        have hk : k = na + nb := by have := HT.out; omega
        subst hk
        go_wp2
        go_ret
        exact ⟨a5, c5, rfl, by rw [← HE.out]; exact ho, HS3.out.trans hch, fun b hb => by have := hba b hb; omega⟩
      | cons q S =>
        have hm1 : 0 < m := by simp only [List.length_cons] at hSl; omega
        have HSl := Lib.hid hSl
        clear hSl
        obtain ⟨g, o, rfl, _⟩ := hS.addr hm1
        obtain ⟨c0, c1, c2⟩ := tp_head hS
        rw [mrgX_nil] at HX
        have HX2 : Hid ((O ++ [q]) ++ mrgX [] S = R) := Lib.hid (by rw [mrgX_nil, List.append_assoc]; exact HX.out)
        have hgt : decide (0 < m) = true := decide_eq_true hm1
        have heq : ((m : Int) == 0) = false := by rw [beq_eq_false_iff_ne]; omega
        have hmi : (0 : Int) < (m : Int) := by omega
        have hm2 : 1 ≤ m := hm1
        have HTL := Lib.hid hS.tail3
        clear HX
        go_wp2
        go_quiet (fail)
        have hD := (Chg.refl [] wr).drewN nq
        have HFW := Lib.hid (hF.chg hD (by simp))
        have HTW := Lib.hid (fun a c' (h : m = 1) => ((hS.tail3' h a c').chg hD (by simp)))
        have HTL2 := Lib.hid (HTL.out.chg hD (by simp))
        have hoW := ho.chg hD (by simp)
        have HCW := Lib.hid (hch.trans hD)
        have c0' := hD.cell c0 (by simp)
        have c1' := hD.cell c1 (by simp)
        have c2' := hD.cell c2 (by simp)
        have HSZ := Lib.hid (hch.trans hD).size
        generalize wr.drewN nq = W at *
        clear c0 c1 c2 hD ho hch HTL
        have hrd0 := Rd.lit W #[.int .i64 q.x, .int .u64 q.st, .int .u64 q.sl] 28 3 1 1 rfl
        have hrd : Rd ((W.alloc (.cells #[.int .i64 q.x, .int .u64 q.st, .int .u64 q.sl] 28)).drew) 3 (.slice (some ⟨W.heap.size, 0, none⟩) 1 1) 1 (tpCells [q]) := hrd0
        have hox : Own ((W.alloc (.cells #[.int .i64 q.x, .int .u64 q.st, .int .u64 q.sl] 28)).drew) 28 3 (.slice a5 k c5) k (tpCells O) := (hoW.alloc _).drew
        have HCX := Lib.hid ((HCW.out.alloc (.cells #[.int .i64 q.x, .int .u64 q.st, .int .u64 q.sl] 28)).drew)
        have HKB := Lib.hid (show k + 1 ≤ 80000 from by have := HT.out; omega)
        clear hrd0
        by_cases hc1 : sc = 1
        · have hn1 : m = 1 := by omega
          subst hn1 hc1
          have HT1 := Lib.hid (fun a c' => HTW.out a c' rfl)
          clear HTW
          go_wp2
          go_region_law (refine step_append_src rfl (.tmp 51) (.tmp 55) 22 22 rfl 28 _ 3 24 under_tuples info_tuple rfl (by decide) (.slice a5 k c5) k (tpCells O) rfl hox (.slice (some ⟨W.heap.size, 0, none⟩) 1 1) 1 (tpCells [q]) rfl (Src.of_rd under_tuples hrd) (tpCells_oneCell _) (by have := HKB.out; unfold maxLen; omega) (by have := HKB.out; omega) ?_; intro a7 c7 w7 ho7 hg7 hf7)
          all_goals
            simp only [Act.put, List.setIfInBounds_toArray, List.set_cons_succ, List.set_cons_zero, List.getElem_toArray, List.getElem_cons_succ, List.getElem_cons_zero]
            go_wp2
            refine ⟨⟨_, _, O ++ [q], _, _, k + 1, _, _, _, _, a7, c7, rfl, rfl, rfl, (HFW.out.chg ((((Chg.refl [] W).alloc (.cells #[.int .i64 q.x, .int .u64 q.st, .int .u64 q.sl] 28)).drew).nil.trans hg7) (fun b hb hb7 => by have h1 := hba b (by simpa using hb7); have h2 := hbf b (by simpa using hb); omega)), ((HT1.out _ _).chg ((((Chg.refl [] W).alloc (.cells #[.int .i64 q.x, .int .u64 q.st, .int .u64 q.sl] 28)).drew).nil.trans hg7) (fun b hb hb7 => by have h1 := hba b (by simpa using hb7); have h2 := hbs b (by simpa using hb); omega)), by omega, by omega, fun b hb => hbf b (by simpa using hb), fun b hb => hbs b (by simpa using hb), by rw [tpCells_append]; exact ho7, HCX.out.trans' hg7 (fun b hb => .inr (hba b (by simpa using hb))), fun b hb => ?_, HX2, Lib.hid (by have := HT.out; omega)⟩, by first | (simp [slen]; done) | (simp [slen]; omega)⟩
            rcases hf7 b hb with h | h
            · exact hba b (by simpa using h)
            · have := HSZ.out; simp at h; omega
        · have hn1 : True := trivial
          have hc2 : 1 ≤ sc := by omega
          have hc3 : (1 : Int) ≤ (m : Int) := by omega
          go_wp2
          go_region_law (refine step_append_src rfl (.tmp 51) (.tmp 55) 22 22 rfl 28 _ 3 24 under_tuples info_tuple rfl (by decide) (.slice a5 k c5) k (tpCells O) rfl hox (.slice (some ⟨W.heap.size, 0, none⟩) 1 1) 1 (tpCells [q]) rfl (Src.of_rd under_tuples hrd) (tpCells_oneCell _) (by have := HKB.out; unfold maxLen; omega) (by have := HKB.out; omega) ?_; intro a7 c7 w7 ho7 hg7 hf7)
          all_goals
            simp only [Act.put, List.setIfInBounds_toArray, List.set_cons_succ, List.set_cons_zero, List.getElem_toArray, List.getElem_cons_succ, List.getElem_cons_zero]
            go_wp2
            refine ⟨⟨_, _, O ++ [q], _, _, k + 1, _, _, _, _, a7, c7, rfl, rfl, rfl, (HFW.out.chg ((((Chg.refl [] W).alloc (.cells #[.int .i64 q.x, .int .u64 q.st, .int .u64 q.sl] 28)).drew).nil.trans hg7) (fun b hb hb7 => by have h1 := hba b (by simpa using hb7); have h2 := hbf b (by simpa using hb); omega)), ((HTL2.out).chg ((((Chg.refl [] W).alloc (.cells #[.int .i64 q.x, .int .u64 q.st, .int .u64 q.sl] 28)).drew).nil.trans hg7) (fun b hb hb7 => by have h1 := hba b (by simpa using hb7); have h2 := hbs b (by simpa using hb); omega)), by omega, by omega, fun b hb => hbf b (by simpa using hb), fun b hb => hbs b (by simpa using hb), by rw [tpCells_append]; exact ho7, HCX.out.trans' hg7 (fun b hb => .inr (hba b (by simpa using hb))), fun b hb => ?_, HX2, Lib.hid (by have := HT.out; omega)⟩, by first | (simp [slen]; done) | (simp [slen]; omega)⟩
            rcases hf7 b hb with h | h
            · exact hba b (by simpa using h)
            · have := HSZ.out; simp at h; omega
    | cons p F =>
      have hn1 : 0 < n := by simp only [List.length_cons] at hFl; omega
      have HFl := Lib.hid hFl
      clear hFl
      obtain ⟨g, o, rfl, _⟩ := hF.addr hn1
      obtain ⟨c0, c1, c2⟩ := tp_head hF
      have hgt : decide (0 < n) = true := decide_eq_true hn1
      have heq : ((n : Int) == 0) = false := by rw [beq_eq_false_iff_ne]; omega
      have hni : (0 : Int) < (n : Int) := by omega
      have hn2 : 1 ≤ n := hn1
      cases S with
      | nil =>
        simp only [List.length_nil] at hSl
        subst hSl
        rw [mrgX_left] at HX
        have HX2 : Hid ((O ++ [p]) ++ mrgX F [] = R) := Lib.hid (by rw [mrgX_right, List.append_assoc]; exact HX.out)
        have HTL := Lib.hid hF.tail3
        clear HX
        go_wp2
        go_quiet (fail)
        have hD := (Chg.refl [] wr).drewN nq
        have HFW := Lib.hid (hS.chg hD (by simp))
        have HTW := Lib.hid (fun a c' (h : n = 1) => ((hF.tail3' h a c').chg hD (by simp)))
        have HTL2 := Lib.hid (HTL.out.chg hD (by simp))
        have hoW := ho.chg hD (by simp)
        have HCW := Lib.hid (hch.trans hD)
        have c0' := hD.cell c0 (by simp)
        have c1' := hD.cell c1 (by simp)
        have c2' := hD.cell c2 (by simp)
        have HSZ := Lib.hid (hch.trans hD).size
        generalize wr.drewN nq = W at *
        clear c0 c1 c2 hD ho hch HTL
        have hrd0 := Rd.lit W #[.int .i64 p.x, .int .u64 p.st, .int .u64 p.sl] 28 3 1 1 rfl
        have hrd : Rd ((W.alloc (.cells #[.int .i64 p.x, .int .u64 p.st, .int .u64 p.sl] 28)).drew) 3 (.slice (some ⟨W.heap.size, 0, none⟩) 1 1) 1 (tpCells [p]) := hrd0
        have hox : Own ((W.alloc (.cells #[.int .i64 p.x, .int .u64 p.st, .int .u64 p.sl] 28)).drew) 28 3 (.slice a5 k c5) k (tpCells O) := (hoW.alloc _).drew
        have HCX := Lib.hid ((HCW.out.alloc (.cells #[.int .i64 p.x, .int .u64 p.st, .int .u64 p.sl] 28)).drew)
        have HKB := Lib.hid (show k + 1 ≤ 80000 from by have := HT.out; omega)
        clear hrd0
        by_cases hc1 : fc = 1
        · have hn1 : n = 1 := by omega
          subst hn1 hc1
          have HT1 := Lib.hid (fun a c' => HTW.out a c' rfl)
          clear HTW
          go_wp2
          go_region_law (refine step_append_src rfl (.tmp 43) (.tmp 47) 22 22 rfl 28 _ 3 24 under_tuples info_tuple rfl (by decide) (.slice a5 k c5) k (tpCells O) rfl hox (.slice (some ⟨W.heap.size, 0, none⟩) 1 1) 1 (tpCells [p]) rfl (Src.of_rd under_tuples hrd) (tpCells_oneCell _) (by have := HKB.out; unfold maxLen; omega) (by have := HKB.out; omega) ?_; intro a7 c7 w7 ho7 hg7 hf7)
          all_goals
            simp only [Act.put, List.setIfInBounds_toArray, List.set_cons_succ, List.set_cons_zero, List.getElem_toArray, List.getElem_cons_succ, List.getElem_cons_zero]
            go_wp2
            refine ⟨⟨_, _, O ++ [p], _, _, k + 1, _, _, _, _, a7, c7, rfl, rfl, rfl, ((HT1.out _ _).chg ((((Chg.refl [] W).alloc (.cells #[.int .i64 p.x, .int .u64 p.st, .int .u64 p.sl] 28)).drew).nil.trans hg7) (fun b hb hb7 => by have h1 := hba b (by simpa using hb7); have h2 := hbf b (by simpa using hb); omega)), (HFW.out.chg ((((Chg.refl [] W).alloc (.cells #[.int .i64 p.x, .int .u64 p.st, .int .u64 p.sl] 28)).drew).nil.trans hg7) (fun b hb hb7 => by have h1 := hba b (by simpa using hb7); have h2 := hbs b (by simpa using hb); omega)), by omega, by omega, fun b hb => hbf b (by simpa using hb), fun b hb => hbs b (by simpa using hb), by rw [tpCells_append]; exact ho7, HCX.out.trans' hg7 (fun b hb => .inr (hba b (by simpa using hb))), fun b hb => ?_, HX2, Lib.hid (by have := HT.out; omega)⟩, by first | (simp [slen]; done) | (simp [slen]; omega)⟩
            rcases hf7 b hb with h | h
            · exact hba b (by simpa using h)
            · have := HSZ.out; simp at h; omega
        · have hn1 : True := trivial
          have hc2 : 1 ≤ fc := by omega
          have hc3 : (1 : Int) ≤ (n : Int) := by omega
          go_wp2
          go_region_law (refine step_append_src rfl (.tmp 43) (.tmp 47) 22 22 rfl 28 _ 3 24 under_tuples info_tuple rfl (by decide) (.slice a5 k c5) k (tpCells O) rfl hox (.slice (some ⟨W.heap.size, 0, none⟩) 1 1) 1 (tpCells [p]) rfl (Src.of_rd under_tuples hrd) (tpCells_oneCell _) (by have := HKB.out; unfold maxLen; omega) (by have := HKB.out; omega) ?_; intro a7 c7 w7 ho7 hg7 hf7)
          all_goals
            simp only [Act.put, List.setIfInBounds_toArray, List.set_cons_succ, List.set_cons_zero, List.getElem_toArray, List.getElem_cons_succ, List.getElem_cons_zero]
            go_wp2
            refine ⟨⟨_, _, O ++ [p], _, _, k + 1, _, _, _, _, a7, c7, rfl, rfl, rfl, ((HTL2.out).chg ((((Chg.refl [] W).alloc (.cells #[.int .i64 p.x, .int .u64 p.st, .int .u64 p.sl] 28)).drew).nil.trans hg7) (fun b hb hb7 => by have h1 := hba b (by simpa using hb7); have h2 := hbf b (by simpa using hb); omega)), (HFW.out.chg ((((Chg.refl [] W).alloc (.cells #[.int .i64 p.x, .int .u64 p.st, .int .u64 p.sl] 28)).drew).nil.trans hg7) (fun b hb hb7 => by have h1 := hba b (by simpa using hb7); have h2 := hbs b (by simpa using hb); omega)), by omega, by omega, fun b hb => hbf b (by simpa using hb), fun b hb => hbs b (by simpa using hb), by rw [tpCells_append]; exact ho7, HCX.out.trans' hg7 (fun b hb => .inr (hba b (by simpa using hb))), fun b hb => ?_, HX2, Lib.hid (by have := HT.out; omega)⟩, by first | (simp [slen]; done) | (simp [slen]; omega)⟩
            rcases hf7 b hb with h | h
            · exact hba b (by simpa using h)
            · have := HSZ.out; simp at h; omega
      | cons q S =>
        have hm1 : 0 < m := by simp only [List.length_cons] at hSl; omega
        have HSl := Lib.hid hSl
        clear hSl
        obtain ⟨g', o', rfl, _⟩ := hS.addr hm1
        obtain ⟨d0, d1, d2⟩ := tp_head hS
        have hgt' : decide (0 < m) = true := decide_eq_true hm1
        have heq' : ((m : Int) == 0) = false := by rw [beq_eq_false_iff_ne]; omega
        have hmi : (0 : Int) < (m : Int) := by omega
        have hm2 : 1 ≤ m := hm1
        by_cases hle : p.x ≤ q.x
        · rw [mrgX_le F S hle] at HX
          have hdl : decide (p.x ≤ q.x) = true := decide_eq_true hle
          have HX2 : Hid ((O ++ [p]) ++ mrgX F (q :: S) = R) := Lib.hid (by rw [List.append_assoc]; exact HX.out)
          have HTL := Lib.hid hF.tail3
          clear HX hle
          go_wp2
          go_quiet (fail)
          clear d0 d1 d2
          have hD := (Chg.refl [] wr).drewN nq
          have HFW := Lib.hid (hS.chg hD (by simp))
          have HTW := Lib.hid (fun a c' (h : n = 1) => ((hF.tail3' h a c').chg hD (by simp)))
          have HTL2 := Lib.hid (HTL.out.chg hD (by simp))
          have hoW := ho.chg hD (by simp)
          have HCW := Lib.hid (hch.trans hD)
          have c0' := hD.cell c0 (by simp)
          have c1' := hD.cell c1 (by simp)
          have c2' := hD.cell c2 (by simp)
          have HSZ := Lib.hid (hch.trans hD).size
          generalize wr.drewN nq = W at *
          clear c0 c1 c2 hD ho hch HTL
          have hrd0 := Rd.lit W #[.int .i64 p.x, .int .u64 p.st, .int .u64 p.sl] 28 3 1 1 rfl
          have hrd : Rd ((W.alloc (.cells #[.int .i64 p.x, .int .u64 p.st, .int .u64 p.sl] 28)).drew) 3 (.slice (some ⟨W.heap.size, 0, none⟩) 1 1) 1 (tpCells [p]) := hrd0
          have hox : Own ((W.alloc (.cells #[.int .i64 p.x, .int .u64 p.st, .int .u64 p.sl] 28)).drew) 28 3 (.slice a5 k c5) k (tpCells O) := (hoW.alloc _).drew
          have HCX := Lib.hid ((HCW.out.alloc (.cells #[.int .i64 p.x, .int .u64 p.st, .int .u64 p.sl] 28)).drew)
          have HKB := Lib.hid (show k + 1 ≤ 80000 from by have := HT.out; omega)
          clear hrd0
          by_cases hc1 : fc = 1
          · have hn1 : n = 1 := by omega
            subst hn1 hc1
            have HT1 := Lib.hid (fun a c' => HTW.out a c' rfl)
            clear HTW
            go_wp2
            go_region_law (refine step_append_src rfl (.tmp 43) (.tmp 47) 22 22 rfl 28 _ 3 24 under_tuples info_tuple rfl (by decide) (.slice a5 k c5) k (tpCells O) rfl hox (.slice (some ⟨W.heap.size, 0, none⟩) 1 1) 1 (tpCells [p]) rfl (Src.of_rd under_tuples hrd) (tpCells_oneCell _) (by have := HKB.out; unfold maxLen; omega) (by have := HKB.out; omega) ?_; intro a7 c7 w7 ho7 hg7 hf7)
            all_goals
              simp only [Act.put, List.setIfInBounds_toArray, List.set_cons_succ, List.set_cons_zero, List.getElem_toArray, List.getElem_cons_succ, List.getElem_cons_zero]
              go_wp2
              refine ⟨⟨_, _, O ++ [p], _, _, k + 1, _, _, _, _, a7, c7, rfl, rfl, rfl, ((HT1.out _ _).chg ((((Chg.refl [] W).alloc (.cells #[.int .i64 p.x, .int .u64 p.st, .int .u64 p.sl] 28)).drew).nil.trans hg7) (fun b hb hb7 => by have h1 := hba b (by simpa using hb7); have h2 := hbf b (by simpa using hb); omega)), (HFW.out.chg ((((Chg.refl [] W).alloc (.cells #[.int .i64 p.x, .int .u64 p.st, .int .u64 p.sl] 28)).drew).nil.trans hg7) (fun b hb hb7 => by have h1 := hba b (by simpa using hb7); have h2 := hbs b (by simpa using hb); omega)), by omega, by omega, fun b hb => hbf b (by simpa using hb), fun b hb => hbs b (by simpa using hb), by rw [tpCells_append]; exact ho7, HCX.out.trans' hg7 (fun b hb => .inr (hba b (by simpa using hb))), fun b hb => ?_, HX2, Lib.hid (by have := HT.out; omega)⟩, by first | (simp [slen]; done) | (simp [slen]; omega)⟩
              rcases hf7 b hb with h | h
              · exact hba b (by simpa using h)
              · have := HSZ.out; simp at h; omega
          · have hn1 : True := trivial
            have hc2 : 1 ≤ fc := by omega
            have hc3 : (1 : Int) ≤ (n : Int) := by omega
            go_wp2
            go_region_law (refine step_append_src rfl (.tmp 43) (.tmp 47) 22 22 rfl 28 _ 3 24 under_tuples info_tuple rfl (by decide) (.slice a5 k c5) k (tpCells O) rfl hox (.slice (some ⟨W.heap.size, 0, none⟩) 1 1) 1 (tpCells [p]) rfl (Src.of_rd under_tuples hrd) (tpCells_oneCell _) (by have := HKB.out; unfold maxLen; omega) (by have := HKB.out; omega) ?_; intro a7 c7 w7 ho7 hg7 hf7)
            all_goals
              simp only [Act.put, List.setIfInBounds_toArray, List.set_cons_succ, List.set_cons_zero, List.getElem_toArray, List.getElem_cons_succ, List.getElem_cons_zero]
              go_wp2
              refine ⟨⟨_, _, O ++ [p], _, _, k + 1, _, _, _, _, a7, c7, rfl, rfl, rfl, ((HTL2.out).chg ((((Chg.refl [] W).alloc (.cells #[.int .i64 p.x, .int .u64 p.st, .int .u64 p.sl] 28)).drew).nil.trans hg7) (fun b hb hb7 => by have h1 := hba b (by simpa using hb7); have h2 := hbf b (by simpa using hb); omega)), (HFW.out.chg ((((Chg.refl [] W).alloc (.cells #[.int .i64 p.x, .int .u64 p.st, .int .u64 p.sl] 28)).drew).nil.trans hg7) (fun b hb hb7 => by have h1 := hba b (by simpa using hb7); have h2 := hbs b (by simpa using hb); omega)), by omega, by omega, fun b hb => hbf b (by simpa using hb), fun b hb => hbs b (by simpa using hb), by rw [tpCells_append]; exact ho7, HCX.out.trans' hg7 (fun b hb => .inr (hba b (by simpa using hb))), fun b hb => ?_, HX2, Lib.hid (by have := HT.out; omega)⟩, by first | (simp [slen]; done) | (simp [slen]; omega)⟩
              rcases hf7 b hb with h | h
              · exact hba b (by simpa using h)
              · have := HSZ.out; simp at h; omega
        · rw [mrgX_gt F S hle] at HX
          have hdl : decide (p.x ≤ q.x) = false := decide_eq_false hle
          have HX2 : Hid ((O ++ [q]) ++ mrgX (p :: F) S = R) := Lib.hid (by rw [List.append_assoc]; exact HX.out)
          have HTL := Lib.hid hS.tail3
          clear HX hle
          go_wp2
          go_quiet (fail)
          clear c0 c1 c2
          have c0 := d0
          have c1 := d1
          have c2 := d2
          clear d0 d1 d2
          have hD := (Chg.refl [] wr).drewN nq
          have HFW := Lib.hid (hF.chg hD (by simp))
          have HTW := Lib.hid (fun a c' (h : m = 1) => ((hS.tail3' h a c').chg hD (by simp)))
          have HTL2 := Lib.hid (HTL.out.chg hD (by simp))
          have hoW := ho.chg hD (by simp)
          have HCW := Lib.hid (hch.trans hD)
          have c0' := hD.cell c0 (by simp)
          have c1' := hD.cell c1 (by simp)
          have c2' := hD.cell c2 (by simp)
          have HSZ := Lib.hid (hch.trans hD).size
          generalize wr.drewN nq = W at *
          clear c0 c1 c2 hD ho hch HTL
          have hrd0 := Rd.lit W #[.int .i64 q.x, .int .u64 q.st, .int .u64 q.sl] 28 3 1 1 rfl
          have hrd : Rd ((W.alloc (.cells #[.int .i64 q.x, .int .u64 q.st, .int .u64 q.sl] 28)).drew) 3 (.slice (some ⟨W.heap.size, 0, none⟩) 1 1) 1 (tpCells [q]) := hrd0
          have hox : Own ((W.alloc (.cells #[.int .i64 q.x, .int .u64 q.st, .int .u64 q.sl] 28)).drew) 28 3 (.slice a5 k c5) k (tpCells O) := (hoW.alloc _).drew
          have HCX := Lib.hid ((HCW.out.alloc (.cells #[.int .i64 q.x, .int .u64 q.st, .int .u64 q.sl] 28)).drew)
          have HKB := Lib.hid (show k + 1 ≤ 80000 from by have := HT.out; omega)
          clear hrd0
          by_cases hc1 : sc = 1
          · have hn1 : m = 1 := by omega
            subst hn1 hc1
            have HT1 := Lib.hid (fun a c' => HTW.out a c' rfl)
            clear HTW
            go_wp2
            go_region_law (refine step_append_src rfl (.tmp 51) (.tmp 55) 22 22 rfl 28 _ 3 24 under_tuples info_tuple rfl (by decide) (.slice a5 k c5) k (tpCells O) rfl hox (.slice (some ⟨W.heap.size, 0, none⟩) 1 1) 1 (tpCells [q]) rfl (Src.of_rd under_tuples hrd) (tpCells_oneCell _) (by have := HKB.out; unfold maxLen; omega) (by have := HKB.out; omega) ?_; intro a7 c7 w7 ho7 hg7 hf7)
            all_goals
              simp only [Act.put, List.setIfInBounds_toArray, List.set_cons_succ, List.set_cons_zero, List.getElem_toArray, List.getElem_cons_succ, List.getElem_cons_zero]
              go_wp2
              refine ⟨⟨_, _, O ++ [q], _, _, k + 1, _, _, _, _, a7, c7, rfl, rfl, rfl, (HFW.out.chg ((((Chg.refl [] W).alloc (.cells #[.int .i64 q.x, .int .u64 q.st, .int .u64 q.sl] 28)).drew).nil.trans hg7) (fun b hb hb7 => by have h1 := hba b (by simpa using hb7); have h2 := hbf b (by simpa using hb); omega)), ((HT1.out _ _).chg ((((Chg.refl [] W).alloc (.cells #[.int .i64 q.x, .int .u64 q.st, .int .u64 q.sl] 28)).drew).nil.trans hg7) (fun b hb hb7 => by have h1 := hba b (by simpa using hb7); have h2 := hbs b (by simpa using hb); omega)), by omega, by omega, fun b hb => hbf b (by simpa using hb), fun b hb => hbs b (by simpa using hb), by rw [tpCells_append]; exact ho7, HCX.out.trans' hg7 (fun b hb => .inr (hba b (by simpa using hb))), fun b hb => ?_, HX2, Lib.hid (by have := HT.out; omega)⟩, by first | (simp [slen]; done) | (simp [slen]; omega)⟩
              rcases hf7 b hb with h | h
              · exact hba b (by simpa using h)
              · have := HSZ.out; simp at h; omega
          · have hn1 : True := trivial
            have hc2 : 1 ≤ sc := by omega
            have hc3 : (1 : Int) ≤ (m : Int) := by omega
            go_wp2
            go_region_law (refine step_append_src rfl (.tmp 51) (.tmp 55) 22 22 rfl 28 _ 3 24 under_tuples info_tuple rfl (by decide) (.slice a5 k c5) k (tpCells O) rfl hox (.slice (some ⟨W.heap.size, 0, none⟩) 1 1) 1 (tpCells [q]) rfl (Src.of_rd under_tuples hrd) (tpCells_oneCell _) (by have := HKB.out; unfold maxLen; omega) (by have := HKB.out; omega) ?_; intro a7 c7 w7 ho7 hg7 hf7)
            all_goals
              simp only [Act.put, List.setIfInBounds_toArray, List.set_cons_succ, List.set_cons_zero, List.getElem_toArray, List.getElem_cons_succ, List.getElem_cons_zero]
              go_wp2
              refine ⟨⟨_, _, O ++ [q], _, _, k + 1, _, _, _, _, a7, c7, rfl, rfl, rfl, (HFW.out.chg ((((Chg.refl [] W).alloc (.cells #[.int .i64 q.x, .int .u64 q.st, .int .u64 q.sl] 28)).drew).nil.trans hg7) (fun b hb hb7 => by have h1 := hba b (by simpa using hb7); have h2 := hbf b (by simpa using hb); omega)), ((HTL2.out).chg ((((Chg.refl [] W).alloc (.cells #[.int .i64 q.x, .int .u64 q.st, .int .u64 q.sl] 28)).drew).nil.trans hg7) (fun b hb hb7 => by have h1 := hba b (by simpa using hb7); have h2 := hbs b (by simpa using hb); omega)), by omega, by omega, fun b hb => hbf b (by simpa using hb), fun b hb => hbs b (by simpa using hb), by rw [tpCells_append]; exact ho7, HCX.out.trans' hg7 (fun b hb => .inr (hba b (by simpa using hb))), fun b hb => ?_, HX2, Lib.hid (by have := HT.out; omega)⟩, by first | (simp [slen]; done) | (simp [slen]; omega)⟩
              rcases hf7 b hb with h | h
              · exact hba b (by simpa using h)
              · have := HSZ.out; simp at h; omega
end Go.Proofs.Ytkcldhimjnehdaa
