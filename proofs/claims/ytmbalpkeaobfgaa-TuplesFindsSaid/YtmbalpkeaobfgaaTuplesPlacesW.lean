/-
  The walk of the law TuplesPlaces. Conditions: the form's own reach.
-/
import Derived.Test.YtmbalpkeaobfgaaTuplesRowsW
import Derived.Test.YtmbalpkeaobfgaaTupMerge
import Derived.Test.YtmbalpkeaobfgaaRefMerge
import Derived.Test.YtmbalpkeaobfgaaPlainMerged
namespace Go.Proofs.Ytmbalpkeaobfgaa
open Go.RowKit

theorem FineT.zero {l : List Tp} (h : FineT l 0) : l = [] := by
  cases l with
  | nil => rfl
  | cons p r =>
    have h1 := h.total
    have h2 := h.pos p (by simp)
    rw [tot_cons] at h1
    omega
theorem FineT.le {l : List Tp} {n : Nat} (h : FineT l n) : ∀ p ∈ l, p.st + p.sl ≤ n := fun p hp => by
  obtain ⟨i, hi, rfl⟩ := List.getElem_of_mem hp
  exact h.one hi
theorem FineT.spots {l : List Tp} {n : Nat} (h : FineT l n) (hn : n ≤ 4611686018427387904) : ∀ s ∈ spF 0 l, s.lo ≤ 4611686018427387904 ∧ s.hi ≤ 4611686018427387904 ∧ 1 ≤ s.hi := fun s hs => by
  have h1 := h.high s hs
  have h2 := spF_lohi 0 l s hs
  have h3 := (spF_rise 0 l h.pos).1 s hs
  omega
/-- What the two plays of the laws come to, and what is known of it. -/
structure Both (la lb : List Stp) (lim : Nat) where
  R1 : List Tp
  A1 : List Int
  R2 : List Tp
  A2 : List Int
  e1 : playP la = (R1, A1)
  e2 : playP lb = (R2, A2)
  f1 : FineT R1 A1.length
  f2 : FineT R2 A2.length
  p1 : Placed (spF 0 R1) A1
  p2 : Placed (spF 0 R2) A2
  l1 : R1.length ≤ 80
  l2 : R2.length ≤ 80
  m1 : A1.length ≤ 80
  m2 : A2.length ≤ 80
def both_of (la lb : List Stp) (lim : Nat) (h1 : la.length ≤ 80) (h2 : lb.length ≤ 80) : Both la lb lim :=
  ⟨(playP la).1, (playP la).2, (playP lb).1, (playP lb).2, rfl, rfl,
    (by have := playP_fine la la.length; rw [List.take_length] at this; exact this.fine), (by have := playP_fine lb lb.length; rw [List.take_length] at this; exact this.fine),
    (by have := playP_fine la la.length; rw [List.take_length] at this; exact this.placed), (by have := playP_fine lb lb.length; rw [List.take_length] at this; exact this.placed),
    (by have := playP_fine la la.length; rw [List.take_length] at this; exact Nat.le_trans this.len h1), (by have := playP_fine lb lb.length; rw [List.take_length] at this; exact Nat.le_trans this.len h2),
    (by have := playP_fine la la.length; rw [List.take_length] at this; exact Nat.le_trans this.all h1), (by have := playP_fine lb lb.length; rw [List.take_length] at this; exact Nat.le_trans this.all h2)⟩

set_option maxRecDepth 100000 in
set_option maxHeartbeats 4000000 in
theorem law_TuplesPlaces (w : World) (ao : Option Addr) (acap : Nat) (la : List Stp) (hra : Rd w 3 (.slice ao la.length acap) la.length (stCells la)) (_hla : la.length * 24 ≤ 140737488351232) (hka : ∀ s ∈ la, s.lim < 18446744073709551616)
    (bo : Option Addr) (bcap : Nat) (lb : List Stp) (hrb : Rd w 3 (.slice bo lb.length bcap) lb.length (stCells lb)) (_hlb : lb.length * 24 ≤ 140737488351232) (hkb : ∀ s ∈ lb, s.lim < 18446744073709551616)
    (lim : Nat) (hlim : lim < 18446744073709551616) :
    Calls Try.prog 5 #[.slice ao la.length acap, .slice bo lb.length bcap, .int .u64 lim] w fun e w' => e = .returned (.bool true) ∧ Chg [] w w' := by
  go_enter Try.func5, Try.ntmps5
  go_wp2_with fail
  refine (law18_alive w).mono ?_
  rintro e w1 ⟨rfl, hc1⟩
  by_cases ha80 : 80 < la.length
  · go_wp2_with fail
    refine (law18_play_long w1 ao acap la.length ha80).mono ?_
    rintro e w2 ⟨rfl, rfl⟩
    clear ha80
    by_cases hb80 : 80 < lb.length
    · go_wp2_with fail
      refine (law18_play_long w1 bo bcap lb.length hb80).mono ?_
      rintro e w2 ⟨rfl, rfl⟩
      clear hb80
      go_wp2
      go_ret
      exact ⟨rfl, hc1⟩
    · have HP := Lib.hid (law18_play w1 bo bcap lb hkb (hrb.chg hc1 (by simp)) (by omega))
      clear hb80
      go_wp2_with fail
      refine HP.out.mono ?_
      rintro e w2 ⟨a1, c1, a2, c2, a3, c3, rfl, _, _, _, hc2, _, _, _⟩
      go_wp2
      go_ret
      exact ⟨rfl, hc1.trans hc2⟩
  have HP := Lib.hid (law18_play w1 ao acap la hka (hra.chg hc1 (by simp)) (by omega))
  by_cases hb80 : 80 < lb.length
  · clear ha80
    go_wp2_with fail
    refine HP.out.mono ?_
    rintro e w2 ⟨a1, c1, a2, c2, a3, c3, rfl, _, _, _, hc2, _, _, _⟩
    go_wp2_with fail
    refine (law18_play_long w2 bo bcap lb.length hb80).mono ?_
    rintro e w3 ⟨rfl, rfl⟩
    clear hb80
    go_wp2
    go_ret
    exact ⟨rfl, hc1.trans hc2⟩
  have HPB := Lib.hid (fun w2 (h : Chg [] w w2) => law18_play w2 bo bcap lb hkb (hrb.chg h (by simp)) (by omega))
  obtain ⟨R1, A1, R2, A2, e1, e2, f1, f2, p1, p2, l1, l2, m1, m2⟩ := both_of la lb 0 (by omega) (by omega)
  rw [e1] at HP
  rw [e2] at HPB
  simp only at HP HPB
  obtain ⟨fm, pm⟩ := merged f1 f2 p1 p2
  have hNN : (A1 ++ A2).length ≤ 160 := by rw [List.length_append]; omega
  have hNl : (A1 ++ A2).length = A1.length + A2.length := List.length_append
  have HM := Lib.hid (fun W ao cap bo bcap h1 h2 => tup_merge W ao cap R1 bo bcap R2 f1.up f2.up h1 h2 (by omega) (by omega) (fun p hp q hq => ⟨f2.pos q hq, by have := f1.le p hp; have := f2.le q hq; omega⟩) (fun p hp q hq => ⟨f1.pos q hq, by have := f2.le p hp; have := f1.le q hq; omega⟩))
  have hMl : (mrgT R1 R2).length ≤ 160 := by rw [mrgT_len]; omega
  have fq := fm.squeeze lim
  have pq : Placed (spF 0 (sqT lim (mrgT R1 R2))) (A1 ++ A2) := by rw [squeeze_same]; exact pm.squeeze lim
  have hQl : (sqT lim (mrgT R1 R2)).length ≤ 160 := Nat.le_trans (sqT_len lim _) hMl
  have HS1 := Lib.hid (fun W ao cap hr => ref18_spots W ao cap R1 hr (by omega) (fun s hs => by have := f1.high s hs; omega))
  have HS2 := Lib.hid (fun W ao cap hr => ref18_spots W ao cap (sqT lim (mrgT R1 R2)) hr (by omega) (fun s hs => by have := fq.high s hs; omega))
  have HRM := Lib.hid (fun W ao cap bo bcap h1 h2 => ref18_merge W ao cap (spF 0 R1) bo bcap (spF 0 R2) R1.length R2.length (by rw [spF_len]) (by rw [spF_len]) h1 h2 (by omega) (by omega) (f1.spots (by omega)) (f2.spots (by omega)))
  rw [← spF_merge f1 f2, show R1.length + R2.length = (mrgT R1 R2).length from (mrgT_len R1 R2).symm] at HRM
  have HSQ := Lib.hid (fun W ao cap ho => tup_squeeze W ao cap (mrgT R1 R2) lim (A1 ++ A2).length hlim fm (by omega) (by omega) ho)
  have HG := Lib.hid (fun W ao cap hr => tup_good W ao cap (sqT lim (mrgT R1 R2)) (fun p hp => by have := fq.le p hp; omega) hr (by omega))
  have EG := Lib.hid (fq.good (by omega))
  have HW1 := Lib.hid (fun W ao cap hr => ref18_row W ao cap R1 R1.length rfl hr (by omega) (fun s hs => by have := f1.high s hs; omega))
  have HW2 := Lib.hid (fun W ao cap hr => ref18_row W ao cap R2 R2.length rfl hr (by omega) (fun s hs => by have := f2.high s hs; omega))
  have HWM := Lib.hid (fun W ao cap hr => ref18_row W ao cap (mrgT R1 R2) (mrgT R1 R2).length rfl hr (by omega) (fun s hs => by have := fm.high s hs; omega))
  have HPS1 := Lib.hid (fun W ao cap bo bcap h1 h2 => law18_placed W ao cap (spF 0 R1) R1.length (by rw [spF_len]) bo bcap A1 A1.length rfl h1 h2 (by omega) (by omega) p1.all)
  have HPSQ := Lib.hid (fun W ao cap bo bcap h1 h2 => law18_placed W ao cap (spF 0 (sqT lim (mrgT R1 R2))) (sqT lim (mrgT R1 R2)).length (by rw [spF_len]) bo bcap (A1 ++ A2) (A1 ++ A2).length rfl h1 h2 (by omega) (by omega) pq.all)
  have HPN1 := Lib.hid (fun W ao cap hr => law18_plain W ao cap R1 R1.length rfl hr (by omega))
  have HPN2 := Lib.hid (fun W ao cap hr => law18_plain W ao cap R2 R2.length rfl hr (by omega))
  have HPNM := Lib.hid (fun W ao cap hr => law18_plain W ao cap (mrgT R1 R2) (mrgT R1 R2).length rfl hr (by omega))
  have HPNQ := Lib.hid (fun W ao cap hr => law18_plain W ao cap (sqT lim (mrgT R1 R2)) (sqT lim (mrgT R1 R2)).length rfl hr (by omega))
  have HSA1 := Lib.hid (fun W ao cap bo bcap h1 h2 => ref18_same W ao cap bo bcap R1 R1.length rfl h1 h2 (by omega))
  have HSA2 := Lib.hid (fun W ao cap bo bcap h1 h2 => ref18_same W ao cap bo bcap R2 R2.length rfl h1 h2 (by omega))
  have HSAM := Lib.hid (fun W ao cap bo bcap h1 h2 => ref18_same W ao cap bo bcap (mrgT R1 R2) (mrgT R1 R2).length rfl h1 h2 (by omega))
  have HUN := Lib.hid (fun W ao cap x hr => law18_under W ao cap (A1 ++ A2) x (A1 ++ A2).length rfl hr (by omega))
  have HUP := Lib.hid (fun W ao cap x hr => law18_up W ao cap (A1 ++ A2) x (A1 ++ A2).length rfl hr (by omega))
  have HZ := Lib.hid (show (A1 ++ A2).length = 0 → (sqT lim (mrgT R1 R2)).length = 0 from fun h => by rw [h] at fq; rw [fq.zero]; rfl)
  have HQ := Lib.hid (show (A1 ++ A2).length ≠ 0 → ∃ s0 s1 : Sp, (spF 0 (sqT lim (mrgT R1 R2)))[0]? = some s0 ∧ (spF 0 (sqT lim (mrgT R1 R2)))[(sqT lim (mrgT R1 R2)).length - 1]? = some s1 ∧ s0.hi = 1 ∧ s1.lo = (A1 ++ A2).length ∧ unC (A1 ++ A2) s0.x = 0 ∧ upC (A1 ++ A2) s1.x = (A1 ++ A2).length ∧ 0 < (sqT lim (mrgT R1 R2)).length from fun h => by
    have ht := fq.total
    have hfst := fq.first
    have hl := pq.least
    have hm := pq.most
    have htt := totS_spF0 (sqT lim (mrgT R1 R2))
    have hlen := spF_len 0 (sqT lim (mrgT R1 R2))
    generalize sqT lim (mrgT R1 R2) = Q at *
    cases Q with
    | nil => exact absurd ht.symm h
    | cons p r =>
      have h1 := hfst p rfl
      obtain ⟨s1, hs1⟩ : ∃ s1, (spF 0 (p :: r)).getLast? = some s1 := by
        cases hg : (spF 0 (p :: r)).getLast? with
        | none => rw [List.getLast?_eq_none_iff] at hg; simp [spF] at hg
        | some s => exact ⟨s, rfl⟩
      refine ⟨⟨p.x, 0 + p.st, 0 + p.st + p.sl⟩, s1, rfl, ?_, by simp only; omega, ?_, hl _ rfl, hm _ hs1, by simp⟩
      · rw [← hlen, ← List.getLast?_eq_getElem?]
        exact hs1
      · rw [totS, hs1] at htt
        rw [← ht, ← htt])
  have HNL := Lib.hid hNl
  generalize hBB : A1 ++ A2 = BB at *
  have HBB := Lib.hid hBB
  clear hBB f1 f2 p1 p2 fm pm fq pq e1 e2
  generalize hQ : sqT lim (mrgT R1 R2) = Q at *
  clear hQ
  generalize hM : mrgT R1 R2 = M at *
  clear hM
  generalize R1.length = n1 at *
  generalize R2.length = n2 at *
  generalize M.length = nm at *
  generalize Q.length = nq at *
  generalize A1.length = k1 at *
  generalize A2.length = k2 at *
  generalize hNb : BB.length = nb at *
  clear hNb hNl
  go_wp2_with fail
  refine HP.out.mono ?_
  rintro e w2 ⟨a1, c1, a2, c2, a3, c3, rfl, o1, s1, i1, hc2, _, _, _⟩
  have hc2 := hc1.trans hc2
  clear HP
  go_wp2_with fail
  refine (HPB.out w2 hc2).mono ?_
  rintro e w3 ⟨a4, c4, a5, c5, a6, c6, rfl, o2, s2, i2, hc3, _, _, _⟩
  clear HPB
  have o1 := o1.chg hc3 (by simp)
  have s1 := s1.chg hc3 (by simp)
  have i1 := i1.chg hc3 (by simp)
  have hc3 := hc2.trans hc3
  go_wp2_with fail
  refine (HPN1.out w3 a1 c1 o1.rd).mono ?_
  rintro e w4 ⟨x1, y1, rfl, t1, hc4, _⟩
  have o1 := o1.chg hc4 (by simp)
  have s1 := s1.chg hc4 (by simp)
  have i1 := i1.chg hc4 (by simp)
  have o2 := o2.chg hc4 (by simp)
  have s2 := s2.chg hc4 (by simp)
  have i2 := i2.chg hc4 (by simp)
  have hc4 := hc3.trans hc4
  go_wp2_with fail
  refine (HS1.out w4 x1 y1 t1.rd).mono ?_
  rintro e w5 ⟨x2, y2, rfl, t2, hc5, _⟩
  have o1 := o1.chg hc5 (by simp)
  have s1 := s1.chg hc5 (by simp)
  have i1 := i1.chg hc5 (by simp)
  have o2 := o2.chg hc5 (by simp)
  have s2 := s2.chg hc5 (by simp)
  have i2 := i2.chg hc5 (by simp)
  have hc5 := hc4.trans hc5
  go_wp2_with fail
  refine (HPS1.out w5 x2 y2 a3 c3 t2.rd i1.rd).mono ?_
  rintro e w6 ⟨rfl, hc6⟩
  have o1 := o1.chg hc6 (by simp)
  have s1 := s1.chg hc6 (by simp)
  have i1 := i1.chg hc6 (by simp)
  have o2 := o2.chg hc6 (by simp)
  have s2 := s2.chg hc6 (by simp)
  have i2 := i2.chg hc6 (by simp)
  have hc6 := hc5.trans hc6
  clear t1 t2
  go_wp2_with fail
  refine (HM.out w6 a1 c1 a4 c4 o1.rd o2.rd).mono ?_
  rintro e w7 ⟨am, cm, rfl, om, hc7, hfm⟩
  have o1 := o1.chg hc7 (by simp)
  have s1 := s1.chg hc7 (by simp)
  have i1 := i1.chg hc7 (by simp)
  have o2 := o2.chg hc7 (by simp)
  have s2 := s2.chg hc7 (by simp)
  have i2 := i2.chg hc7 (by simp)
  have hc7 := hc6.trans hc7
  go_wp2_with fail
  refine (HPNM.out w7 am cm om.rd).mono ?_
  rintro e w8 ⟨x1, y1, rfl, t1, hc8, _⟩
  have o1 := o1.chg hc8 (by simp)
  have s1 := s1.chg hc8 (by simp)
  have i1 := i1.chg hc8 (by simp)
  have o2 := o2.chg hc8 (by simp)
  have s2 := s2.chg hc8 (by simp)
  have i2 := i2.chg hc8 (by simp)
  have om := om.chg hc8 (by simp)
  have hc8 := hc7.trans hc8
  go_wp2_with fail
  refine (HRM.out w8 a2 c2 a5 c5 s1.rd s2.rd).mono ?_
  rintro e w9 ⟨x2, y2, rfl, t2, hc9, _⟩
  have o1 := o1.chg hc9 (by simp)
  have s1 := s1.chg hc9 (by simp)
  have i1 := i1.chg hc9 (by simp)
  have o2 := o2.chg hc9 (by simp)
  have s2 := s2.chg hc9 (by simp)
  have i2 := i2.chg hc9 (by simp)
  have om := om.chg hc9 (by simp)
  have t1 := t1.chg hc9 (by simp)
  have hc9 := hc8.trans hc9
  go_wp2_with fail
  refine (HWM.out w9 x2 y2 t2.rd).mono ?_
  rintro e w10 ⟨x3, y3, rfl, t3, hc10, _⟩
  have o1 := o1.chg hc10 (by simp)
  have s1 := s1.chg hc10 (by simp)
  have i1 := i1.chg hc10 (by simp)
  have o2 := o2.chg hc10 (by simp)
  have s2 := s2.chg hc10 (by simp)
  have i2 := i2.chg hc10 (by simp)
  have om := om.chg hc10 (by simp)
  have t1 := t1.chg hc10 (by simp)
  have hc10 := hc9.trans hc10
  go_wp2_with fail
  refine (HSAM.out w10 x1 y1 x3 y3 t1.rd t3.rd).mono ?_
  rintro e w11 ⟨rfl, hc11⟩
  have o1 := o1.chg hc11 (by simp)
  have s1 := s1.chg hc11 (by simp)
  have i1 := i1.chg hc11 (by simp)
  have o2 := o2.chg hc11 (by simp)
  have s2 := s2.chg hc11 (by simp)
  have i2 := i2.chg hc11 (by simp)
  have om := om.chg hc11 (by simp)
  have hc11 := hc10.trans hc11
  clear t1 t2 t3
  go_wp2_with fail
  refine (HPN1.out w11 a1 c1 o1.rd).mono ?_
  rintro e w12 ⟨x1, y1, rfl, t1, hc12, _⟩
  have o1 := o1.chg hc12 (by simp)
  have s1 := s1.chg hc12 (by simp)
  have i1 := i1.chg hc12 (by simp)
  have o2 := o2.chg hc12 (by simp)
  have s2 := s2.chg hc12 (by simp)
  have i2 := i2.chg hc12 (by simp)
  have om := om.chg hc12 (by simp)
  have hc12 := hc11.trans hc12
  go_wp2_with fail
  refine (HW1.out w12 a2 c2 s1.rd).mono ?_
  rintro e w13 ⟨x2, y2, rfl, t2, hc13, _⟩
  have o1 := o1.chg hc13 (by simp)
  have s1 := s1.chg hc13 (by simp)
  have i1 := i1.chg hc13 (by simp)
  have o2 := o2.chg hc13 (by simp)
  have s2 := s2.chg hc13 (by simp)
  have i2 := i2.chg hc13 (by simp)
  have om := om.chg hc13 (by simp)
  have t1 := t1.chg hc13 (by simp)
  have hc13 := hc12.trans hc13
  go_wp2_with fail
  refine (HSA1.out w13 x1 y1 x2 y2 t1.rd t2.rd).mono ?_
  rintro e w14 ⟨rfl, hc14⟩
  have o1 := o1.chg hc14 (by simp)
  have s1 := s1.chg hc14 (by simp)
  have i1 := i1.chg hc14 (by simp)
  have o2 := o2.chg hc14 (by simp)
  have s2 := s2.chg hc14 (by simp)
  have i2 := i2.chg hc14 (by simp)
  have om := om.chg hc14 (by simp)
  have hc14 := hc13.trans hc14
  clear t1 t2
  go_wp2_with fail
  refine (HPN2.out w14 a4 c4 o2.rd).mono ?_
  rintro e w15 ⟨x1, y1, rfl, t1, hc15, _⟩
  have o1 := o1.chg hc15 (by simp)
  have s1 := s1.chg hc15 (by simp)
  have i1 := i1.chg hc15 (by simp)
  have o2 := o2.chg hc15 (by simp)
  have s2 := s2.chg hc15 (by simp)
  have i2 := i2.chg hc15 (by simp)
  have om := om.chg hc15 (by simp)
  have hc15 := hc14.trans hc15
  go_wp2_with fail
  refine (HW2.out w15 a5 c5 s2.rd).mono ?_
  rintro e w16 ⟨x2, y2, rfl, t2, hc16, _⟩
  have o1 := o1.chg hc16 (by simp)
  have s1 := s1.chg hc16 (by simp)
  have i1 := i1.chg hc16 (by simp)
  have o2 := o2.chg hc16 (by simp)
  have s2 := s2.chg hc16 (by simp)
  have i2 := i2.chg hc16 (by simp)
  have om := om.chg hc16 (by simp)
  have t1 := t1.chg hc16 (by simp)
  have hc16 := hc15.trans hc16
  go_wp2_with fail
  refine (HSA2.out w16 x1 y1 x2 y2 t1.rd t2.rd).mono ?_
  rintro e w17 ⟨rfl, hc17⟩
  have o1 := o1.chg hc17 (by simp)
  have s1 := s1.chg hc17 (by simp)
  have i1 := i1.chg hc17 (by simp)
  have o2 := o2.chg hc17 (by simp)
  have s2 := s2.chg hc17 (by simp)
  have i2 := i2.chg hc17 (by simp)
  have om := om.chg hc17 (by simp)
  have hc17 := hc16.trans hc17
  clear t1 t2
  clear o1 o2 s1 s2
  go_wp2_with fail
  refine (HSQ.out w17 am cm om).mono ?_
  rintro e w18 ⟨rfl, oq, hc18⟩
  have i1 := i1.chg hc18 (fun b hb hb2 => i1.apart om (by decide) b hb (by simpa using hb2))
  have i2 := i2.chg hc18 (fun b hb hb2 => i2.apart om (by decide) b hb (by simpa using hb2))
  have hm7 : w.heap.size ≤ w6.heap.size := hc6.size
  have hc18 : Chg [] w w18 := hc17.trans' hc18 (fun b hb => .inr (by have := hfm b hb; omega))
  clear om
  have rd1 : Rd (w18.alloc (.cells #[] 2)) 1 _ _ _ := i1.rd.alloc (.cells #[] 2)
  have HO := Lib.hid (oq.alloc (.cells #[] 2))
  have HI2 := Lib.hid (i2.alloc (.cells #[] 2))
  have HCA := Lib.hid (hc18.alloc (.cells #[] 2))
  have hk160 : k1 + k2 ≤ 160 := by omega
  have HKB := Lib.hid (show Own (w18.alloc (.cells #[] 2)) 2 1 (.slice (some ⟨w18.heap.size, 0, none⟩) 0 0) 0 [] from Own.lit w18 2 1 0 #[] rfl (by decide))
  have i2lt := i2.lt
  have oqlt := oq.lt
  simp only [blkOf_slice] at i2lt oqlt
  clear i1 i2 oq
  go_wp2_with (first
    | (at_builtin; refine wpList_append_src _ rfl (.tmp 77) (.tmp 78) 26 26 rfl 2 _ 1 8 under_ints info_i64 rfl (by decide) (.slice (some ⟨w18.heap.size, 0, none⟩) 0 0) 0 [] rfl HKB.out (.slice a3 k1 c3) k1 (ints A1) rfl (Src.of_rd under_ints rd1) (ints_oneCell _) (by unfold maxLen; omega) (by omega) ?_; intro a7 c7 w7' ho7 hg7 hf7
       have HA7 := Lib.hid (show Own w7' 2 1 (.slice a7 k1 c7) k1 (ints A1) from by simpa using ho7)
       have HC7 := Lib.hid (HCA.out.trans' hg7 (fun b hb => .inr (by have := hc18.size; simp at hb; omega)))
       have rd2 := (HI2.out.rd.chg hg7 (fun b hb hb2 => by have := i2lt b (by simpa using hb); simp at hb2; omega))
       have HQ7 := Lib.hid (HO.out.chg hg7 (fun b hb hb2 => by have := oqlt b (by simpa using hb); simp at hb2; omega))
       have HB7 := Lib.hid (show ∀ b ∈ abl a7, w.heap.size ≤ b from fun b hb => by
         have := hc18.size
         rcases hf7 b hb with h | h
         · simp at h; omega
         · simp at h; omega))
    | (at_builtin; refine wpList_append_src _ rfl (.tmp 79) (.tmp 80) 26 26 rfl 2 _ 1 8 under_ints info_i64 rfl (by decide) (.slice a7 k1 c7) k1 (ints A1) (by simp [Act.eval]) HA7.out (.slice a6 k2 c6) k2 (ints A2) rfl (Src.of_rd under_ints rd2) (ints_oneCell _) (by unfold maxLen; omega) (by omega) ?_; intro a8 c8 w8' ho8 hg8 hf8
       have HA8 := Lib.hid (show Own w8' 2 1 (.slice a8 nb c8) nb (ints BB) from by rw [← ints_append, HBB.out, ← HNL.out] at ho8; exact ho8)
       have HC8 := Lib.hid (HC7.out.trans' hg8 (fun b hb => .inr (HB7.out b (by simpa using hb))))
       have HQ8 := Lib.hid (HQ7.out.chg hg8 (fun b hb hb2 => (HQ7.out.apart HA7.out (by decide) b hb hb2)))))
  rw [← HNL.out]
  have oq := HQ8.out
  have ib := HA8.out
  have hcA := HC8.out
  clear HO HI2 HCA HKB HA7 HC7 HQ7 HB7 rd1 rd2 hg7 hf7 ho7 hg8 hf8 ho8
  go_wp2_with fail
  refine (HPNQ.out w8' am cm oq.rd).mono ?_
  rintro e w9' ⟨x1, y1, rfl, t1, hc9', _⟩
  have oq := oq.chg hc9' (by simp)
  have ib := ib.chg hc9' (by simp)
  have hcA := hcA.trans hc9'
  go_wp2_with fail
  refine (HS2.out w9' x1 y1 t1.rd).mono ?_
  rintro e wa ⟨x2, y2, rfl, t2, hca, _⟩
  have oq := oq.chg hca (by simp)
  have ib := ib.chg hca (by simp)
  have hcA := hcA.trans hca
  by_cases hz : nb = 0
  · have hz2 := HZ.out hz
    have hb1 : ((nb : Int) == 0) = true := by rw [beq_iff_eq]; omega
    have hb2 : ((nq : Int) == 0) = true := by rw [beq_iff_eq]; omega
    clear hz hz2
    go_wp2
    go_ret
    exact ⟨rfl, hcA⟩
  · have hb1 : ((nb : Int) == 0) = false := by rw [beq_eq_false_iff_ne]; omega
    obtain ⟨s0, s1, q1, q2, q3, q4, q5, q6, q7⟩ := HQ.out hz
    obtain ⟨g, o, rfl, hcc⟩ := t2.rd.addr q7
    have HGS := Lib.hid (show (spF 0 Q).length = nq from by have := t2.1; rw [spCells_len] at this; omega)
    have hs0 : 0 < (spF 0 Q).length := by rw [HGS.out]; exact q7
    have hs1 : nq - 1 < (spF 0 Q).length := by rw [HGS.out]; omega
    obtain ⟨c0, cx1, c2'⟩ := sp_at (l := spF 0 Q) (fun j hj => hcc j (by rw [HGS.out] at hj; exact hj)) hs0
    obtain ⟨d0, d1, dx2⟩ := sp_at (l := spF 0 Q) (fun j hj => hcc j (by rw [HGS.out] at hj; exact hj)) hs1
    rw [List.getElem?_eq_getElem hs0, Option.some.injEq] at q1
    rw [List.getElem?_eq_getElem hs1, Option.some.injEq] at q2
    rw [q1] at c0 c2'
    rw [q2] at d0 d1
    rw [q3] at c2'
    rw [q4] at d1
    simp only [Nat.zero_mul, Nat.add_zero] at c0 c2'
    have HU0 := Lib.hid (fun W ao cap hr => HUN.out W ao cap s0.x hr)
    have HU1 := Lib.hid (fun W ao cap hr => HUP.out W ao cap s1.x hr)
    rw [q5] at HU0
    rw [q6] at HU1
    have hnw : (nq : Int) - 1 = ((nq - 1 : Nat) : Int) := by omega
    have hn0 : (0 : Int) ≤ ((nq - 1 : Nat) : Int) := by omega
    have hn1 : ((nq - 1 : Nat) : Int) < (nq : Int) := by omega
    have hnq : (0 : Int) < (nq : Int) := by omega
    clear cx1 dx2
    clear q1 q2 q3 q4 q5 q6 hcc hs0 hs1 HUN HUP HQ HZ hz
    generalize nq - 1 = nl at *
    go_wp2_with fail
    refine (HG.out wa am cm oq.rd).mono ?_
    rintro e wb ⟨rfl, hcb⟩
    rw [EG.out]
    have ib := ib.chg hcb (by simp)
    have t2 := t2.chg hcb (by simp)
    have c0 := hcb.cell c0 (by simp)
    have c2' := hcb.cell c2' (by simp)
    have d0 := hcb.cell d0 (by simp)
    have d1 := hcb.cell d1 (by simp)
    have hcA := hcA.trans hcb
    go_wp2_with fail
    refine (HPSQ.out wb (some ⟨g, o, none⟩) y2 a8 c8 t2.rd ib.rd).mono ?_
    rintro e wc ⟨rfl, hcc⟩
    have ib := ib.chg hcc (by simp)
    have c0 := hcc.cell c0 (by simp)
    have c2' := hcc.cell c2' (by simp)
    have d0 := hcc.cell d0 (by simp)
    have d1 := hcc.cell d1 (by simp)
    have hcA := hcA.trans hcc
    go_wp2_with fail
    refine (HU0.out wc a8 c8 ib.rd).mono ?_
    rintro e wd ⟨rfl, rfl⟩
    go_wp2_with fail
    refine (HU1.out wc a8 c8 ib.rd).mono ?_
    rintro e wd ⟨rfl, rfl⟩
    clear ib t2 t1 oq
    go_wp2
    go_ret
    exact ⟨rfl, hcA⟩
end Go.Proofs.Ytmbalpkeaobfgaa
