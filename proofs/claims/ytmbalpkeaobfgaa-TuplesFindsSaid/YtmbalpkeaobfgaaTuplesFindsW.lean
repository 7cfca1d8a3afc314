/-
  The walk of the law TuplesFinds. Conditions: the form's own reach.
-/
import Derived.Test.YtmbalpkeaobfgaaTuplesPlacesW
namespace Go.Proofs.Ytmbalpkeaobfgaa
open Go.RowKit

def maxG (l : List Tp) : Nat := l.foldl (fun g p => max g (p.st + p.sl)) 0
theorem maxG_step (l : List Tp) (k : Nat) (h : k < l.length) : maxG (l.take (k + 1)) = max (maxG (l.take k)) (l[k].st + l[k].sl) := by
  rw [maxG, List.take_succ_eq_append_getElem h, List.foldl_append]
  rfl
theorem maxG_go (l : List Tp) (g : Nat) : g ≤ l.foldl (fun g p => max g (p.st + p.sl)) g ∧ ∀ p ∈ l, p.st + p.sl ≤ l.foldl (fun g p => max g (p.st + p.sl)) g := by
  induction l generalizing g with
  | nil => simp
  | cons p l ih =>
    rw [List.foldl_cons]
    obtain ⟨h1, h2⟩ := ih (max g (p.st + p.sl))
    refine ⟨by omega, fun q hq => ?_⟩
    rcases List.mem_cons.1 hq with rfl | hq
    · omega
    · exact h2 q hq
theorem maxG_le (l : List Tp) : ∀ p ∈ l, p.st + p.sl ≤ maxG l := (maxG_go l 0).2
theorem maxG_bd (l : List Tp) (n : Nat) (h : ∀ p ∈ l, p.st + p.sl ≤ n) : maxG l ≤ n := by
  have gen : ∀ (l : List Tp) (g : Nat), g ≤ n → (∀ p ∈ l, p.st + p.sl ≤ n) → l.foldl (fun g p => max g (p.st + p.sl)) g ≤ n := by
    intro l
    induction l with
    | nil => intro g hg _; exact hg
    | cons p l ih =>
      intro g hg h
      rw [List.foldl_cons]
      exact ih _ (by have := h p (by simp); omega) (fun q hq => h q (by simp [hq]))
  exact gen l 0 (Nat.zero_le _) h

set_option maxRecDepth 100000 in
set_option maxHeartbeats 4000000 in
theorem law_TuplesFinds (w : World) (ao : Option Addr) (acap : Nat) (la : List Stp) (hra : Rd w 3 (.slice ao la.length acap) la.length (stCells la)) (_hla : la.length * 24 ≤ 140737488351232) (hka : ∀ s ∈ la, s.lim < 18446744073709551616)
    (bo : Option Addr) (bcap : Nat) (lb : List Stp) (hrb : Rd w 3 (.slice bo lb.length bcap) lb.length (stCells lb)) (_hlb : lb.length * 24 ≤ 140737488351232) (hkb : ∀ s ∈ lb, s.lim < 18446744073709551616)
    (t : Nat) (ht : t < 18446744073709551616) (x : Int) (_h0 : -9223372036854775808 ≤ x) (_h1 : x < 9223372036854775808) :
    Calls Try.prog 6 #[.slice ao la.length acap, .slice bo lb.length bcap, .int .u64 t, .int .i64 x] w fun e w' => e = .returned (.bool true) ∧ Chg [] w w' := by
  have HT64 := Lib.hid ht
  clear _h0 _h1 ht
  go_enter Try.func6, Try.ntmps6
  go_wp2_with fail
  refine (law18_alive w).mono ?_
  rintro e w1 ⟨rfl, hc1⟩
  by_cases ha80 : 80 < la.length
  · go_wp2_with fail
    refine (law18_play_long w1 ao acap la.length ha80).mono ?_
    rintro e w2 ⟨rfl, rfl⟩
    clear ha80
    by_cases hb80 : 80 < lb.length
    · go_wp2_with fail
      refine (law18_play_long w1 bo bcap lb.length hb80).mono ?_
      rintro e w2 ⟨rfl, rfl⟩
      clear hb80
      go_wp2
      go_ret
      exact ⟨rfl, hc1⟩
    · have HP := Lib.hid (law18_play w1 bo bcap lb hkb (hrb.chg hc1 (by simp)) (by omega))
      clear hb80
      go_wp2_with fail
      refine HP.out.mono ?_
      rintro e w2 ⟨a1, c1, a2, c2, a3, c3, rfl, _, _, _, hc2, _, _, _⟩
      go_wp2
      go_ret
      exact ⟨rfl, hc1.trans hc2⟩
  have HP := Lib.hid (law18_play w1 ao acap la hka (hra.chg hc1 (by simp)) (by omega))
  by_cases hb80 : 80 < lb.length
  · clear ha80
    go_wp2_with fail
    refine HP.out.mono ?_
    rintro e w2 ⟨a1, c1, a2, c2, a3, c3, rfl, _, _, _, hc2, _, _, _⟩
    go_wp2_with fail
    refine (law18_play_long w2 bo bcap lb.length hb80).mono ?_
    rintro e w3 ⟨rfl, rfl⟩
    clear hb80
    go_wp2
    go_ret
    exact ⟨rfl, hc1.trans hc2⟩
  have HPB := Lib.hid (fun w2 (h : Chg [] w w2) => law18_play w2 bo bcap lb hkb (hrb.chg h (by simp)) (by omega))
  obtain ⟨R1, A1, R2, A2, e1, e2, f1, f2, p1, p2, l1, l2, m1, m2⟩ := both_of la lb 0 (by omega) (by omega)
  rw [e1] at HP
  rw [e2] at HPB
  simp only at HP HPB
  obtain ⟨fm, pm⟩ := merged f1 f2 p1 p2
  have hNN : (A1 ++ A2).length ≤ 160 := by rw [List.length_append]; omega
  have hNl : (A1 ++ A2).length = A1.length + A2.length := List.length_append
  have HM := Lib.hid (fun W ao cap bo bcap h1 h2 => tup_merge W ao cap R1 bo bcap R2 f1.up f2.up h1 h2 (by omega) (by omega) (fun p hp q hq => ⟨f2.pos q hq, by have := f1.le p hp; have := f2.le q hq; omega⟩) (fun p hp q hq => ⟨f1.pos q hq, by have := f2.le p hp; have := f1.le q hq; omega⟩))
  have hMl : (mrgT R1 R2).length ≤ 160 := by rw [mrgT_len]; omega
  have hhm : ∀ s ∈ spF 0 (mrgT R1 R2), s.hi ≤ 9223372036854775807 := fun s hs => by have := fm.high s hs; omega
  have HFI := Lib.hid (fun W ao cap hr => tup_find W ao cap (mrgT R1 R2) t HT64.out hr (by omega) hhm)
  have HRK := Lib.hid (fun W ao cap hr => tup_rank W ao cap (mrgT R1 R2) x hr (by omega) hhm fm.pos)
  have HUN := Lib.hid (fun W ao cap y hr => law18_under W ao cap (A1 ++ A2) y (A1 ++ A2).length rfl hr (by omega))
  have HUP := Lib.hid (fun W ao cap y hr => law18_up W ao cap (A1 ++ A2) y (A1 ++ A2).length rfl hr (by omega))
  have HRO := Lib.hid (rank_ok (A := A1 ++ A2) x (mrgT R1 R2) 0 pm.all (Nat.zero_le _) (fun h => by
    have h2 := pm.none (by rw [h]; rfl)
    rw [h2]
    exact Nat.le_refl _) (fun s hs => ⟨pm.most s hs, by
      have := totS_spF0 (mrgT R1 R2)
      rw [totS, hs] at this
      rw [← fm.total, ← this]⟩))
  have HG1 := Lib.hid (maxG_bd (mrgT R1 R2) 160 (fun p hp => by have := fm.le p hp; omega))
  have HZ := Lib.hid (show (A1 ++ A2).length = 0 → (mrgT R1 R2).length = 0 from fun h => by rw [h] at fm; rw [fm.zero]; rfl)
  have HNZ := Lib.hid (show (A1 ++ A2).length ≠ 0 → 0 < (mrgT R1 R2).length from fun h => by
    have ht := fm.total
    cases hM : mrgT R1 R2 with
    | nil => rw [hM] at ht; exact absurd ht.symm h
    | cons p r => simp)
  have HFC := Lib.hid (show 1 ≤ t → t ≤ (A1 ++ A2).length → unC (A1 ++ A2) (foundX t (mrgT R1 R2)) + 1 ≤ t + maxG (mrgT R1 R2) / 2 ∧ t ≤ upC (A1 ++ A2) (foundX t (mrgT R1 R2)) + maxG (mrgT R1 R2) / 2 ∧ unC (A1 ++ A2) (foundX t (mrgT R1 R2)) < upC (A1 ++ A2) (foundX t (mrgT R1 R2)) from fun h1 h2 => by
    have htot := fm.total
    have hfst := fm.first
    have hg := maxG_le (mrgT R1 R2)
    generalize mrgT R1 R2 = M at *
    cases M with
    | nil =>
      have h3 : tot [] = 0 := rfl
      omega
    | cons p r =>
      rw [foundX_cons]
      exact find_close pm (hfst p rfl) hg h1 (by omega))
  have HUB := Lib.hid (fun y => upC_le (A1 ++ A2) y)
  have HDB := Lib.hid (fun y => unC_le (A1 ++ A2) y)
  have HNL := Lib.hid hNl
  have HFLE := Lib.hid fm.le
  generalize hBB : A1 ++ A2 = BB at *
  have HBB := Lib.hid hBB
  clear hBB f1 f2 p1 p2 fm pm e1 e2 hhm
  generalize hM : mrgT R1 R2 = M at *
  clear hM
  generalize (rankF 0 M x).1 = rlo at *
  generalize (rankF 0 M x).2 = rhi at *
  generalize foundX t M = fx at *
  have HMT : Hid (M.take M.length = M) := Lib.hid List.take_length
  generalize R1.length = n1 at *
  generalize R2.length = n2 at *
  generalize hnm : M.length = nm at *
  have HNM := Lib.hid hnm
  clear hnm
  generalize A1.length = k1 at *
  generalize A2.length = k2 at *
  generalize hNb : BB.length = nb at *
  clear hNb hNl
  go_wp2_with fail
  refine HP.out.mono ?_
  rintro e w2 ⟨a1, c1, a2, c2, a3, c3, rfl, o1, s1, i1, hc2, _, _, _⟩
  have hc2 := hc1.trans hc2
  clear HP
  go_wp2_with fail
  refine (HPB.out w2 hc2).mono ?_
  rintro e w3 ⟨a4, c4, a5, c5, a6, c6, rfl, o2, s2, i2, hc3, _, _, _⟩
  clear HPB
  have o1 := o1.chg hc3 (by simp)
  have i1 := i1.chg hc3 (by simp)
  have hc3 := hc2.trans hc3
  go_wp2_with fail
  refine (HM.out w3 a1 c1 a4 c4 o1.rd o2.rd).mono ?_
  rintro e w4 ⟨am, cm, rfl, om, hc4, hfm⟩
  have i1 := i1.chg hc4 (by simp)
  have i2 := i2.chg hc4 (by simp)
  have hc4 := hc3.trans hc4
  clear o1 o2 s1 s2
  have rd1 : Rd (w4.alloc (.cells #[] 2)) 1 _ _ _ := i1.rd.alloc (.cells #[] 2)
  have HO := Lib.hid (om.alloc (.cells #[] 2))
  have HI2 := Lib.hid (i2.alloc (.cells #[] 2))
  have HCA := Lib.hid (hc4.alloc (.cells #[] 2))
  have hk160 : k1 + k2 ≤ 160 := by omega
  have HKB := Lib.hid (show Own (w4.alloc (.cells #[] 2)) 2 1 (.slice (some ⟨w4.heap.size, 0, none⟩) 0 0) 0 [] from Own.lit w4 2 1 0 #[] rfl (by decide))
  have i2lt := i2.lt
  have oqlt := om.lt
  simp only [blkOf_slice] at i2lt oqlt
  clear i1 i2 om
  go_wp2_with (first
    | (at_builtin; refine wpList_append_src _ rfl (.tmp 54) (.tmp 55) 26 26 rfl 2 _ 1 8 under_ints info_i64 rfl (by decide) (.slice (some ⟨w4.heap.size, 0, none⟩) 0 0) 0 [] rfl HKB.out (.slice a3 k1 c3) k1 (ints A1) rfl (Src.of_rd under_ints rd1) (ints_oneCell _) (by unfold maxLen; omega) (by omega) ?_; intro a7 c7 w7' ho7 hg7 hf7
       have HA7 := Lib.hid (show Own w7' 2 1 (.slice a7 k1 c7) k1 (ints A1) from by simpa using ho7)
       have HC7 := Lib.hid (HCA.out.trans' hg7 (fun b hb => .inr (by have := hc4.size; simp at hb; omega)))
       have rd2 := (HI2.out.rd.chg hg7 (fun b hb hb2 => by have := i2lt b (by simpa using hb); simp at hb2; omega))
       have HQ7 := Lib.hid (HO.out.chg hg7 (fun b hb hb2 => by have := oqlt b (by simpa using hb); simp at hb2; omega))
       have HB7 := Lib.hid (show ∀ b ∈ abl a7, w.heap.size ≤ b from fun b hb => by
         have := hc4.size
         rcases hf7 b hb with h | h
         · simp at h; omega
         · simp at h; omega))
    | (at_builtin; refine wpList_append_src _ rfl (.tmp 56) (.tmp 57) 26 26 rfl 2 _ 1 8 under_ints info_i64 rfl (by decide) (.slice a7 k1 c7) k1 (ints A1) (by simp [Act.eval]) HA7.out (.slice a6 k2 c6) k2 (ints A2) rfl (Src.of_rd under_ints rd2) (ints_oneCell _) (by unfold maxLen; omega) (by omega) ?_; intro a8 c8 w8' ho8 hg8 hf8
       have HA8 := Lib.hid (show Own w8' 2 1 (.slice a8 nb c8) nb (ints BB) from by rw [← ints_append, HBB.out, ← HNL.out] at ho8; exact ho8)
       have HC8 := Lib.hid (HC7.out.trans' hg8 (fun b hb => .inr (HB7.out b (by simpa using hb))))
       have HQ8 := Lib.hid (HQ7.out.chg hg8 (fun b hb hb2 => (HQ7.out.apart HA7.out (by decide) b hb hb2)))))
  rw [← HNL.out]
  have om := HQ8.out
  have ib := HA8.out
  have hcA := HC8.out
  clear HO HI2 HCA HKB HA7 HC7 HQ7 HB7 rd1 rd2 hg7 hf7 ho7 hg8 hf8 ho8
  go_wp2_with fail
  refine (HRK.out w8' am cm om.rd).mono ?_
  rintro e w9 ⟨rfl, hc9⟩
  have om := om.chg hc9 (by simp)
  have ib := ib.chg hc9 (by simp)
  have hcA := hcA.trans hc9
  go_wp2_with fail
  refine (HUP.out w9 a8 c8 x ib.rd).mono ?_
  rintro e wz ⟨rfl, rfl⟩
  go_wp2_with fail
  refine (HFI.out w9 am cm om.rd).mono ?_
  rintro e wa ⟨rfl, hca⟩
  have om := om.chg hca (by simp)
  have ib := ib.chg hca (by simp)
  have hcA := hcA.trans hca
  obtain ⟨r1, r2⟩ := HRO.out
  generalize upC BB x = u at *
  have k1' : decide (u < rlo) = false := decide_eq_false (by omega)
  have k2' : decide (rhi < u) = false := decide_eq_false (by omega)
  clear HRO r1 r2
  by_cases hz : nb = 0
  · have hz2 := HZ.out hz
    have hb1 : decide (0 < nm) = false := decide_eq_false (by omega)
    have hb2 : decide ((0 : Int) < (nb : Int)) = false := decide_eq_false (by omega)
    have hb3 : decide (0 < nb) = false := decide_eq_false (by omega)
    clear hz hz2
    rw [hb1]
    go_wp2
    go_ret
    exact ⟨rfl, hcA⟩
  have hb1 : decide (0 < nm) = true := decide_eq_true (HNZ.out hz)
  have hb2 : decide ((0 : Int) < (nb : Int)) = true := decide_eq_true (by omega)
  have hb3 : decide (0 < nb) = true := decide_eq_true (by omega)
  have hb4 : 0 < nb := by omega
  rw [hb1]
  clear hz HZ HNZ
  by_cases ht1 : t < 1
  · have hd1 : decide (t < 1) = true := decide_eq_true ht1
    have hd2 : decide ((t : Int) < 1) = true := decide_eq_true (by omega)
    have HH := Lib.hid ht1
    clear ht1
    go_wp2
    go_ret
    exact ⟨rfl, hcA⟩
  have hd1 : decide (t < 1) = false := decide_eq_false ht1
  have hd2 : decide ((t : Int) < 1) = false := decide_eq_false (by omega)
  by_cases htn : nb < t
  · have hd3 : decide (nb < t) = true := decide_eq_true htn
    have HH := Lib.hid htn
    clear ht1 htn
    go_wp2
    go_ret
    exact ⟨rfl, hcA⟩
  have hd3 : decide (nb < t) = false := decide_eq_false htn
  obtain ⟨q1, q2, q3⟩ := HFC.out (by omega) (by omega)
  have q4 := HUB.out fx
  have HU1 := Lib.hid (fun W hr => HUP.out W a8 c8 fx hr)
  have HD1 := Lib.hid (fun W hr => HUN.out W a8 c8 fx hr)
  generalize upC BB fx = ux at *
  generalize unC BB fx = dx at *
  have hG1 := HG1.out
  have HQ123 := Lib.hid (And.intro q1 (And.intro q2 q3))
  clear ht1 htn HFC HUB HDB HUP HUN q1 q2 q3
  have HIB := Lib.hid ib
  have HOM := Lib.hid om
  clear ib om
  go_wp2
  go_loopw [24, 104] (fun g iv wx => ∃ k gg : Nat, k ≤ nm ∧ iv = .int .i64 (k : Nat) ∧ g = .int .u64 (gg : Nat) ∧ gg ≤ 160 ∧ Hid (gg = maxG (M.take k)) ∧ Chg [] wa wx) (fun _ iv _ => nm - (intOf iv).toNat)
  case atStart => exact ⟨0, 0, Nat.zero_le _, rfl, rfl, by omega, Lib.hid rfl, Chg.refl _ _⟩
  case round =>
    obtain ⟨k, gg, hk, rfl, rfl, hg160, HGG, hch⟩ := hrel
    by_cases hlt : k < nm
    · obtain ⟨b, o, rfl, hc⟩ := (HOM.out.rd.chg hch (by simp)).addr (by omega)
      have hkl : k < M.length := by have := HNM.out; omega
      obtain ⟨c0, c1', c2'⟩ := tp_at (l := M) (fun j hj => hc j (by rw [HNM.out] at hj; exact hj)) hkl
      have hst := maxG_step M k hkl
      rw [← HGG.out] at hst
      have hle := HFLE.out _ (List.getElem_mem hkl)
      generalize M[k] = p at *
      have hcX := hch.alloc (.cells #[.int .i64 p.x, .int .u64 p.st, .int .u64 p.sl] 54)
      obtain ⟨sm, hsm⟩ : ∃ sm, sm = p.st + p.sl := ⟨_, rfl⟩
      have hw : (p.st : Int) + (p.sl : Int) = (sm : Int) := by omega
      rw [← hsm] at hst
      have HST := Lib.hid hst.symm
      have HCX := Lib.hid hcX
      have hsm160 : sm ≤ 160 := by omega
      clear hc hkl hst hle hsm hcX hch
      by_cases hgs : gg < sm
      · rw [Nat.max_eq_right (by omega)] at HST
        go_wp2
        exact ⟨⟨k + 1, sm, by omega, by go_num, rfl, by omega, HST, HCX.out⟩, by simp [intOf]; omega⟩
      · rw [Nat.max_eq_left (by omega)] at HST
        go_wp2
        exact ⟨⟨k + 1, gg, by omega, by go_num, rfl, by omega, HST, HCX.out⟩, by simp [intOf]; omega⟩
    · obtain rfl : k = nm := by omega
      have hgg : gg = maxG M := by have := HGG.out; rw [this, ← HNM.out, List.take_length]
      obtain ⟨q1, q2, q3⟩ := HQ123.out
      rw [← hgg] at q1 q2
      have ib := HIB.out.chg hch (by simp)
      have HRD := Lib.hid ib.rd
      have hcA := hcA.trans hch
      have hgi : (gg : Int) / 2 = ((gg / 2 : Nat) : Int) := by omega
      have hg2 : gg / 2 ≤ 80 := by omega
      clear hgg HGG ib
      generalize gg / 2 = gh at *
      have ht160 : t ≤ 160 := by
        have h1 := of_decide_eq_false hd3
        omega
      have hux : ux ≤ 160 := by omega
      have hdx : dx ≤ 160 := by omega
      have j1 : decide (dx + 1 ≤ ux) = true := decide_eq_true (by omega)
      have j2 : decide ((dx : Int) + 1 ≤ (ux : Int)) = true := decide_eq_true (by omega)
      have j3 : decide (dx + 1 ≤ t + gh) = true := decide_eq_true (by omega)
      have j4 : decide ((dx : Int) + 1 ≤ (t : Int) + (gh : Int)) = true := decide_eq_true (by omega)
      have j5 : decide (t ≤ ux + gh) = true := decide_eq_true (by omega)
      have j6 : decide ((t : Int) ≤ (ux : Int) + (gh : Int)) = true := decide_eq_true (by omega)
      clear q1 q2 q3
      go_wp2_with fail
      refine (HD1.out wr HRD.out).mono ?_
      rintro e wz ⟨rfl, rfl⟩
      go_wp2_with fail
      refine (HU1.out wr HRD.out).mono ?_
      rintro e wz ⟨rfl, rfl⟩
      go_wp2
      go_ret
      exact ⟨rfl, hcA⟩
end Go.Proofs.Ytmbalpkeaobfgaa
