/-
  The walk of the law TuplesClosest. Conditions: the form's own reach.
-/
import Derived.Test.YtmbalpkeaobfgaaTupFine
import Derived.Test.YtmbalpkeaobfgaaRefMoved
import Derived.Test.YtmbalpkeaobfgaaPlainMerged
namespace Go.Proofs.Ytmbalpkeaobfgaa
open Go.RowKit

set_option maxRecDepth 100000 in
set_option maxHeartbeats 4000000 in
theorem law_TuplesClosest (w : World) (ao : Option Addr) (cap : Nat) (l : List Tp) (hr : Rd w 3 (.slice ao l.length cap) l.length (tpCells l)) (hl : l.length * 24 ≤ 140737488351232) (hk : ∀ p ∈ l, p.ok)
    (t : Nat) (ht : t < 18446744073709551616) (x : Int) (_h0 : -9223372036854775808 ≤ x) (_h1 : x < 9223372036854775808) :
    Calls Try.prog 4 #[.slice ao l.length cap, .int .u64 t, .int .i64 x] w fun e w' => e = .returned (.bool true) ∧ Chg [] w w' := by
  have hst : ∀ p ∈ l, p.st < 18446744073709551616 := fun p hp => (hk p hp).2.2.1
  have HTT := Lib.hid (fun W hr => tup_total W ao cap l hst hr (by omega))
  have HGD := Lib.hid (fun W hr => tup_good W ao cap l hst hr (by omega))
  have HT64 := Lib.hid ht
  clear _h0 _h1 ht hst hk
  go_enter Try.func4, Try.ntmps4
  go_wp2_with fail
  refine (law18_alive w).mono ?_
  rintro e w1 ⟨rfl, hc1⟩
  have HR1 := Lib.hid (hr.chg hc1 (by simp))
  go_wp2_with fail
  refine (HTT.out w1 HR1.out).mono ?_
  rintro e w2 ⟨rfl, hc2⟩
  have HR2 := Lib.hid (HR1.out.chg hc2 (by simp))
  have hc2 := hc1.trans hc2
  clear hc1 HTT HR1
  by_cases hbig : (stps l).sum ≤ 9223372036854775807
  · have HP := Lib.hid (show plusV (stps l) = .tuple #[.int .u64 ((stps l).sum : Nat), .bool true] from if_pos hbig)
    rw [HP.out]
    clear HP
    by_cases h60 : 60 < l.length
    · have hd : decide ((60 : Int) < (l.length : Int)) = true := decide_eq_true (by omega)
      generalize (stps l).sum = n at *
      clear h60
      go_wp2
      go_ret
      exact ⟨rfl, hc2⟩
    have hd : decide ((60 : Int) < (l.length : Int)) = false := decide_eq_false (by omega)
    by_cases h62 : 4611686018427387904 < (stps l).sum
    · have hd2 : decide ((4611686018427387904 : Int) < ((stps l).sum : Int)) = true := decide_eq_true (by omega)
      generalize (stps l).sum = n at *
      clear h62 hbig
      go_wp2
      go_ret
      exact ⟨rfl, hc2⟩
    have hd2 : decide ((4611686018427387904 : Int) < ((stps l).sum : Int)) = false := decide_eq_false (by omega)
    cases hg : goodT l with
    | false =>
      have HG := Lib.hid hg
      generalize (stps l).sum = n at *
      clear h62 hbig hg
      go_wp2_with fail
      refine (HGD.out w2 HR2.out).mono ?_
      rintro e w3 ⟨rfl, hc3⟩
      rw [HG.out]
      go_wp2
      go_ret
      exact ⟨rfl, hc2.trans hc3⟩
    | true =>
      have HG := Lib.hid hg
      have hf := fine_of_good hg
      have hhm : ∀ s ∈ spF 0 l, s.hi ≤ 9223372036854775807 := fun s hs => by have := hf.high s hs; omega
      have HPL := Lib.hid (fun W hr => law18_plain W ao cap l l.length rfl hr (by omega))
      have HSP := Lib.hid (fun W ao cap hr => ref18_spots W ao cap l hr (by omega) hhm)
      have HTO := Lib.hid (fun W ao cap hr => ref18_total' W ao cap (spF 0 l) l.length (by rw [spF_len]) hr (by omega))
      rw [totS_spF0, hf.total] at HTO
      have HFI := Lib.hid (fun W hr => tup_find W ao cap l t HT64.out hr (by omega) hhm)
      have HRK := Lib.hid (fun W hr => tup_rank W ao cap l x hr (by omega) hhm hf.pos)
      have HGF := Lib.hid (goF_first t 18446744073709551615 l (fun p hp => by
        have h1 := hf.first p hp
        have h2 := HT64.out
        rw [h1.1, h1.2, offN]
        omega))
      have HLG := Lib.hid (lowG_rank x l 0 hf.up)
      have HEND := Lib.hid (show (rankF (tot (l.take l.length)) (l.drop l.length) x).2 = (stps l).sum from by rw [List.take_length, List.drop_length]; rfl)
      have HHI := Lib.hid hf.high
      have hlo1 : ∀ s ∈ spF 0 l, 1 ≤ s.lo ∧ s.lo ≤ s.hi := fun s hs => ⟨(spF_rise 0 l hf.pos).1 s hs, (spF_lohi 0 l s hs).2⟩
      have HLO := Lib.hid hlo1
      have HSL := Lib.hid (spF_len 0 l)
      have HFX := Lib.hid (rfl : foundX t l = foundX t l)
      clear hf hhm hg hlo1
      obtain ⟨fx, hfx⟩ : ∃ fx, fx = foundX t l := ⟨_, rfl⟩
      rw [← hfx] at HFI HGF
      obtain ⟨rl, hrl⟩ : ∃ rl, rl = (rankF 0 l x).1 := ⟨_, rfl⟩
      rw [← hrl] at HRK HLG
      obtain ⟨rh, hrh⟩ : ∃ rh, rh = (rankF 0 l x).2 := ⟨_, rfl⟩
      have HRH := Lib.hid hrh
      rw [← hrh] at HRK
      generalize (stps l).sum = n at *
      have h62' : n ≤ 4611686018427387904 := by omega
      clear h62 hbig hfx hrl hrh HFX
      generalize hln : l.length = m at *
      have HLN := Lib.hid hln
      clear hln
      go_wp2_with fail
      refine (HGD.out w2 HR2.out).mono ?_
      rintro e w3 ⟨rfl, hc3⟩
      rw [HG.out]
      have HR3 := Lib.hid (HR2.out.chg hc3 (by simp))
      have hc3 := hc2.trans hc3
      clear HGD HG hc2
      go_wp2_with fail
      refine (HPL.out w3 HR3.out).mono ?_
      rintro e w4 ⟨x1, y1, rfl, t1, hc4, _⟩
      have HR4 := Lib.hid (HR3.out.chg hc4 (by simp))
      have hc4 := hc3.trans hc4
      go_wp2_with fail
      refine (HSP.out w4 x1 y1 t1.rd).mono ?_
      rintro e w5 ⟨x2, y2, rfl, t2, hc5, _⟩
      have HR5 := Lib.hid (HR4.out.chg hc5 (by simp))
      have hc5 := hc4.trans hc5
      go_wp2_with fail
      refine (HTO.out w5 x2 y2 t2.rd).mono ?_
      rintro e w6 ⟨rfl, rfl⟩
      have HT2 := Lib.hid t2.rd
      clear t1 t2 hc3 hc4 HR2 HR3 HR4 hr HPL HSP HTO
      --LOOPS
      have hmax : (18446744073709551615 : Nat) < 18446744073709551616 := by decide
      have HB0 : Hid (∃ b0 : Nat, (18446744073709551615 : Int) = (b0 : Int) ∧ goF t false b0 0 0 l = fx) := Lib.hid ⟨18446744073709551615, rfl, HGF.out⟩
      clear hmax HGF
      go_wp2
      go_loopw [10, 11, 12, 52] (fun bv wv lv iv wx => ∃ (k best low : Nat) (want : Int), k ≤ m ∧ iv = .int .i64 (k : Nat) ∧ bv = .int .u64 (best : Nat) ∧ wv = .int .i64 want ∧ lv = .int .u64 (low : Nat) ∧
        Hid (goF t false best want (tot (l.take k)) (l.drop k) = fx ∧ lowG 0 ((spF 0 l).take k) x = low) ∧ Chg [] w5 wx) (fun _ _ _ iv _ => m - (intOf iv).toNat)
      case atStart =>
        obtain ⟨b0, hb0, hg0⟩ := HB0.out
        exact ⟨0, b0, 0, 0, Nat.zero_le _, rfl, by rw [hb0], rfl, rfl, Lib.hid ⟨hg0, rfl⟩, Chg.refl _ _⟩
      case round =>
        obtain ⟨k, best, low, want, hk, rfl, rfl, rfl, rfl, HGO, hch⟩ := hrel
        by_cases hlt : k < m
        · obtain ⟨b, o, rfl, hc⟩ := (HT2.out.chg hch (by simp)).addr (by omega)
          have hkl : k < l.length := by have := HLN.out; omega
          have hks : k < (spF 0 l).length := by rw [HSL.out]; exact hlt
          obtain ⟨c0, c1, c2⟩ := sp_at (l := spF 0 l) (fun j hj => hc j (by rw [HSL.out] at hj; exact hj)) hks
          have hg1 := spF_get l k hkl hks
          have hhi := HHI.out _ (List.getElem_mem hks)
          have hlo := HLO.out _ (List.getElem_mem hks)
          have hls := lowG_step (spF 0 l) x k hks
          rw [hg1] at c0 c1 c2 hhi hlo hls
          simp only at c0 c1 c2 hhi hlo hls
          have hgo := HGO.out.1
          rw [List.drop_eq_getElem_cons hkl, goF] at hgo
          rw [← tot_step l k hkl] at hgo c1 c2 hhi hlo hls
          rw [HGO.out.2] at hls
          have HLL := Lib.hid hls
          have hfalse : ∀ (q : Prop), ((false : Bool) = true ∨ q) ↔ q := fun q => by simp
          generalize l[k] = p at *
          generalize hlo' : tot (l.take (k + 1)) = lo at *
          obtain ⟨hi, hhi'⟩ : ∃ hi, hi = lo + p.sl := ⟨_, rfl⟩
          rw [← hhi'] at hgo c2 hhi hlo
          have HGY := Lib.hid (show offN t lo hi < best → goF t false (offN t lo hi) p.x (tot (l.take (k + 1))) (l.drop (k + 1)) = fx from fun h => by rw [if_pos (.inr h)] at hgo; rw [hlo']; exact hgo)
          have HGN := Lib.hid (show ¬ offN t lo hi < best → goF t false best want (tot (l.take (k + 1))) (l.drop (k + 1)) = fx from fun h => by rw [if_neg (by rw [hfalse]; exact h)] at hgo; rw [hlo']; exact hgo)
          have HCX := Lib.hid (hch.alloc (.cells #[.int .i64 p.x, .int .u64 lo, .int .u64 hi] 41))
          have ht64 := HT64.out
          have HOF := Lib.hid (show offN t lo hi = max (t - lo) (hi - t) from rfl)
          have hw1 : lo < t → IntKind.u64.wrap ((t : Int) - (lo : Int)) = ((t - lo : Nat) : Int) := fun h => by rw [show (t : Int) - (lo : Int) = ((t - lo : Nat) : Int) from by omega]; exact IntWalk.u64_in _ (by omega)
          have hw2 : t < hi → IntKind.u64.wrap ((hi : Int) - (t : Int)) = ((hi - t : Nat) : Int) := fun h => by rw [show (hi : Int) - (t : Int) = ((hi - t : Nat) : Int) from by omega]; exact IntWalk.u64_in _ (by omega)
          have HW1 := Lib.hid hw1
          have HW2 := Lib.hid hw2
          clear hw1 hw2 ht64 hgo hls hg1 hc hkl hks HGO hhi' hlo' hch hfalse
          generalize offN t lo hi = d at *
          by_cases h1 : lo < t
          · have d1 : decide (lo < t) = true := decide_eq_true h1
            have e1 := HW1.out h1
            by_cases h2 : t < hi
            · have d2 : decide (t < hi) = true := decide_eq_true h2
              have e2 := HW2.out h2
              clear HW1 HW2 h1 h2
              generalize t - lo = u at *
              generalize hi - t = v at *
              by_cases h3 : u < v
              · have hd : v = d := by have := HOF.out; omega
                subst hd
                by_cases hb : v < best
                · have hbd : decide (v < best) = true := decide_eq_true hb
                  have HG2 := Lib.hid (HGY.out hb)
                  clear hb HGY HGN
                  by_cases hxx : p.x ≤ x
                  · have hxd : decide (p.x ≤ x) = true := decide_eq_true hxx
                    have HL2 := Lib.hid (HLL.out.trans (if_pos hxx))
                    clear hxx HLL
                    go_wp2
                    exact ⟨⟨k + 1, v, lo, p.x, by omega, by go_num, rfl, rfl, rfl, Lib.hid ⟨HG2.out, HL2.out⟩, HCX.out⟩, by simp [intOf]; omega⟩
                  · have hxd : decide (p.x ≤ x) = false := decide_eq_false hxx
                    have HL2 := Lib.hid (HLL.out.trans (if_neg hxx))
                    clear hxx HLL
                    go_wp2
                    exact ⟨⟨k + 1, v, low, p.x, by omega, by go_num, rfl, rfl, rfl, Lib.hid ⟨HG2.out, HL2.out⟩, HCX.out⟩, by simp [intOf]; omega⟩
                · have hbd : decide (v < best) = false := decide_eq_false hb
                  have HG2 := Lib.hid (HGN.out hb)
                  clear hb HGY HGN
                  by_cases hxx : p.x ≤ x
                  · have hxd : decide (p.x ≤ x) = true := decide_eq_true hxx
                    have HL2 := Lib.hid (HLL.out.trans (if_pos hxx))
                    clear hxx HLL
                    go_wp2
                    exact ⟨⟨k + 1, best, lo, want, by omega, by go_num, rfl, rfl, rfl, Lib.hid ⟨HG2.out, HL2.out⟩, HCX.out⟩, by simp [intOf]; omega⟩
                  · have hxd : decide (p.x ≤ x) = false := decide_eq_false hxx
                    have HL2 := Lib.hid (HLL.out.trans (if_neg hxx))
                    clear hxx HLL
                    go_wp2
                    exact ⟨⟨k + 1, best, low, want, by omega, by go_num, rfl, rfl, rfl, Lib.hid ⟨HG2.out, HL2.out⟩, HCX.out⟩, by simp [intOf]; omega⟩
              · have hd : u = d := by have := HOF.out; omega
                subst hd
                by_cases hb : u < best
                · have hbd : decide (u < best) = true := decide_eq_true hb
                  have HG2 := Lib.hid (HGY.out hb)
                  clear hb HGY HGN
                  by_cases hxx : p.x ≤ x
                  · have hxd : decide (p.x ≤ x) = true := decide_eq_true hxx
                    have HL2 := Lib.hid (HLL.out.trans (if_pos hxx))
                    clear hxx HLL
                    go_wp2
                    exact ⟨⟨k + 1, u, lo, p.x, by omega, by go_num, rfl, rfl, rfl, Lib.hid ⟨HG2.out, HL2.out⟩, HCX.out⟩, by simp [intOf]; omega⟩
                  · have hxd : decide (p.x ≤ x) = false := decide_eq_false hxx
                    have HL2 := Lib.hid (HLL.out.trans (if_neg hxx))
                    clear hxx HLL
                    go_wp2
                    exact ⟨⟨k + 1, u, low, p.x, by omega, by go_num, rfl, rfl, rfl, Lib.hid ⟨HG2.out, HL2.out⟩, HCX.out⟩, by simp [intOf]; omega⟩
                · have hbd : decide (u < best) = false := decide_eq_false hb
                  have HG2 := Lib.hid (HGN.out hb)
                  clear hb HGY HGN
                  by_cases hxx : p.x ≤ x
                  · have hxd : decide (p.x ≤ x) = true := decide_eq_true hxx
                    have HL2 := Lib.hid (HLL.out.trans (if_pos hxx))
                    clear hxx HLL
                    go_wp2
                    exact ⟨⟨k + 1, best, lo, want, by omega, by go_num, rfl, rfl, rfl, Lib.hid ⟨HG2.out, HL2.out⟩, HCX.out⟩, by simp [intOf]; omega⟩
                  · have hxd : decide (p.x ≤ x) = false := decide_eq_false hxx
                    have HL2 := Lib.hid (HLL.out.trans (if_neg hxx))
                    clear hxx HLL
                    go_wp2
                    exact ⟨⟨k + 1, best, low, want, by omega, by go_num, rfl, rfl, rfl, Lib.hid ⟨HG2.out, HL2.out⟩, HCX.out⟩, by simp [intOf]; omega⟩
            · have d2 : decide (t < hi) = false := decide_eq_false h2
              have hd : t - lo = d := by have := HOF.out; omega
              rw [hd] at e1
              clear HW1 HW2 h1 h2 hd HOF
              by_cases hb : d < best
              · have hbd : decide (d < best) = true := decide_eq_true hb
                have HG2 := Lib.hid (HGY.out hb)
                clear hb HGY HGN
                by_cases hxx : p.x ≤ x
                · have hxd : decide (p.x ≤ x) = true := decide_eq_true hxx
                  have HL2 := Lib.hid (HLL.out.trans (if_pos hxx))
                  clear hxx HLL
                  go_wp2
                  exact ⟨⟨k + 1, d, lo, p.x, by omega, by go_num, rfl, rfl, rfl, Lib.hid ⟨HG2.out, HL2.out⟩, HCX.out⟩, by simp [intOf]; omega⟩
                · have hxd : decide (p.x ≤ x) = false := decide_eq_false hxx
                  have HL2 := Lib.hid (HLL.out.trans (if_neg hxx))
                  clear hxx HLL
                  go_wp2
                  exact ⟨⟨k + 1, d, low, p.x, by omega, by go_num, rfl, rfl, rfl, Lib.hid ⟨HG2.out, HL2.out⟩, HCX.out⟩, by simp [intOf]; omega⟩
              · have hbd : decide (d < best) = false := decide_eq_false hb
                have HG2 := Lib.hid (HGN.out hb)
                clear hb HGY HGN
                by_cases hxx : p.x ≤ x
                · have hxd : decide (p.x ≤ x) = true := decide_eq_true hxx
                  have HL2 := Lib.hid (HLL.out.trans (if_pos hxx))
                  clear hxx HLL
                  go_wp2
                  exact ⟨⟨k + 1, best, lo, want, by omega, by go_num, rfl, rfl, rfl, Lib.hid ⟨HG2.out, HL2.out⟩, HCX.out⟩, by simp [intOf]; omega⟩
                · have hxd : decide (p.x ≤ x) = false := decide_eq_false hxx
                  have HL2 := Lib.hid (HLL.out.trans (if_neg hxx))
                  clear hxx HLL
                  go_wp2
                  exact ⟨⟨k + 1, best, low, want, by omega, by go_num, rfl, rfl, rfl, Lib.hid ⟨HG2.out, HL2.out⟩, HCX.out⟩, by simp [intOf]; omega⟩
          · have d1 : decide (lo < t) = false := decide_eq_false h1
            by_cases h2 : t < hi
            · have d2 : decide (t < hi) = true := decide_eq_true h2
              have e2 := HW2.out h2
              have hd : hi - t = d := by have := HOF.out; omega
              have hdp : 0 < d := by omega
              have hdp2 : (0 : Int) < (d : Int) := by omega
              rw [hd] at e2
              clear HW1 HW2 h1 h2 hd HOF
              by_cases hb : d < best
              · have hbd : decide (d < best) = true := decide_eq_true hb
                have HG2 := Lib.hid (HGY.out hb)
                clear hb HGY HGN
                by_cases hxx : p.x ≤ x
                · have hxd : decide (p.x ≤ x) = true := decide_eq_true hxx
                  have HL2 := Lib.hid (HLL.out.trans (if_pos hxx))
                  clear hxx HLL
                  go_wp2
                  exact ⟨⟨k + 1, d, lo, p.x, by omega, by go_num, rfl, rfl, rfl, Lib.hid ⟨HG2.out, HL2.out⟩, HCX.out⟩, by simp [intOf]; omega⟩
                · have hxd : decide (p.x ≤ x) = false := decide_eq_false hxx
                  have HL2 := Lib.hid (HLL.out.trans (if_neg hxx))
                  clear hxx HLL
                  go_wp2
                  exact ⟨⟨k + 1, d, low, p.x, by omega, by go_num, rfl, rfl, rfl, Lib.hid ⟨HG2.out, HL2.out⟩, HCX.out⟩, by simp [intOf]; omega⟩
              · have hbd : decide (d < best) = false := decide_eq_false hb
                have HG2 := Lib.hid (HGN.out hb)
                clear hb HGY HGN
                by_cases hxx : p.x ≤ x
                · have hxd : decide (p.x ≤ x) = true := decide_eq_true hxx
                  have HL2 := Lib.hid (HLL.out.trans (if_pos hxx))
                  clear hxx HLL
                  go_wp2
                  exact ⟨⟨k + 1, best, lo, want, by omega, by go_num, rfl, rfl, rfl, Lib.hid ⟨HG2.out, HL2.out⟩, HCX.out⟩, by simp [intOf]; omega⟩
                · have hxd : decide (p.x ≤ x) = false := decide_eq_false hxx
                  have HL2 := Lib.hid (HLL.out.trans (if_neg hxx))
                  clear hxx HLL
                  go_wp2
                  exact ⟨⟨k + 1, best, low, want, by omega, by go_num, rfl, rfl, rfl, Lib.hid ⟨HG2.out, HL2.out⟩, HCX.out⟩, by simp [intOf]; omega⟩
            · have d2 : decide (t < hi) = false := decide_eq_false h2
              have hd : d = 0 := by have := HOF.out; omega
              have hbd0 : decide ((0 : Int) < (best : Int)) = decide (d < best) := by rw [hd]; simp
              clear HW1 HW2 h1 h2 HOF
              subst hd
              by_cases hb : 0 < best
              · have hbd : decide (0 < best) = true := decide_eq_true hb
                have HG2 := Lib.hid (HGY.out hb)
                clear hb HGY HGN
                by_cases hxx : p.x ≤ x
                · have hxd : decide (p.x ≤ x) = true := decide_eq_true hxx
                  have HL2 := Lib.hid (HLL.out.trans (if_pos hxx))
                  clear hxx HLL
                  go_wp2
                  exact ⟨⟨k + 1, 0, lo, p.x, by omega, by go_num, rfl, rfl, rfl, Lib.hid ⟨HG2.out, HL2.out⟩, HCX.out⟩, by simp [intOf]; omega⟩
                · have hxd : decide (p.x ≤ x) = false := decide_eq_false hxx
                  have HL2 := Lib.hid (HLL.out.trans (if_neg hxx))
                  clear hxx HLL
                  go_wp2
                  exact ⟨⟨k + 1, 0, low, p.x, by omega, by go_num, rfl, rfl, rfl, Lib.hid ⟨HG2.out, HL2.out⟩, HCX.out⟩, by simp [intOf]; omega⟩
              · have hbd : decide (0 < best) = false := decide_eq_false hb
                have HG2 := Lib.hid (HGN.out hb)
                clear hb HGY HGN
                by_cases hxx : p.x ≤ x
                · have hxd : decide (p.x ≤ x) = true := decide_eq_true hxx
                  have HL2 := Lib.hid (HLL.out.trans (if_pos hxx))
                  clear hxx HLL
                  go_wp2
                  exact ⟨⟨k + 1, best, lo, want, by omega, by go_num, rfl, rfl, rfl, Lib.hid ⟨HG2.out, HL2.out⟩, HCX.out⟩, by simp [intOf]; omega⟩
                · have hxd : decide (p.x ≤ x) = false := decide_eq_false hxx
                  have HL2 := Lib.hid (HLL.out.trans (if_neg hxx))
                  clear hxx HLL
                  go_wp2
                  exact ⟨⟨k + 1, best, low, want, by omega, by go_num, rfl, rfl, rfl, Lib.hid ⟨HG2.out, HL2.out⟩, HCX.out⟩, by simp [intOf]; omega⟩
        · obtain rfl : k = m := by omega
          have hwf : want = fx := by
            have h := HGO.out.1
            rw [← HLN.out, List.drop_length] at h
            exact h
          have hlf : low = rl := by
            have h := HGO.out.2
            rw [← HSL.out, List.take_length, HLG.out] at h
            exact h.symm
          subst hwf hlf
          have HCH := Lib.hid hch
          have hR5 := HT2.out.chg hch (by simp)
          have HT3 := Lib.hid hR5
          have hk0 : k * 24 ≤ 140737488351232 := hl
          clear HGO hR5 HLG HB0 hch
          go_wp2
          go_loopw [13, 17] (fun hv iv wx => ∃ (i : Int) (hgh : Nat), -1 ≤ i ∧ i < (k : Int) ∧ iv = .int .i64 i ∧ hv = .int .u64 (hgh : Nat) ∧ Hid (hgh = (rankF (tot (l.take (i + 1).toNat)) (l.drop (i + 1).toNat) x).2) ∧ Chg [] wr wx) (fun _ iv _ => (intOf iv + 1).toNat)
          case atStart => exact ⟨(k : Int) - 1, n, by omega, by omega, rfl, rfl, Lib.hid (by rw [show ((k : Int) - 1 + 1).toNat = k from by omega]; exact HEND.out.symm), Chg.refl _ _⟩
          case round =>
            rename_i wr0
            obtain ⟨i, hgh, hi1, hi2, rfl, rfl, HHH, hch⟩ := hrel
            by_cases hge : 0 ≤ i
            · obtain ⟨j, rfl⟩ : ∃ j : Nat, i = (j : Int) := ⟨i.toNat, by omega⟩
              have hjk : j < k := by omega
              have hjl : j < l.length := by have := HLN.out; omega
              have hjs : j < (spF 0 l).length := by rw [HSL.out]; exact hjk
              obtain ⟨b, o, rfl, hc⟩ := (HT3.out.chg hch (by simp)).addr (by omega)
              obtain ⟨c0, c1, c2⟩ := sp_at (l := spF 0 l) (fun j hj => hc j (by rw [HSL.out] at hj; exact hj)) hjs
              have hg1 := spF_get l j hjl hjs
              have hhi := HHI.out _ (List.getElem_mem hjs)
              have hlo := HLO.out _ (List.getElem_mem hjs)
              rw [hg1] at c0 c2 hhi hlo
              simp only at c0 c2 hhi hlo
              have hrk := rank_high l x j hjl
              have hdd : decide (0 ≤ (j : Int)) = true := decide_eq_true (by omega)
              generalize l[j] = p at *
              obtain ⟨hi, hhi'⟩ : ∃ hi, hi = tot (l.take j) + p.st + p.sl := ⟨_, rfl⟩
              rw [← hhi'] at hrk c2 hhi hlo
              have hhp : 1 ≤ hi := by omega
              have HRR := Lib.hid hrk
              have HIN := Lib.hid (show ((j : Int) + 1).toNat = j + 1 from by omega)
              have HIN2 := Lib.hid (show ((j : Int) - 1 + 1).toNat = j from by omega)
              clear hrk hg1 hc hjl hjs hhi' hlo c1
              by_cases hxx : x < p.x
              · have hxd : decide (x < p.x) = true := decide_eq_true hxx
                have HR2 := Lib.hid (HRR.out.trans (if_pos hxx))
                have hw : (hi : Int) - 1 = ((hi - 1 : Nat) : Int) := by omega
                clear hxx HRR
                generalize hi - 1 = hm at *
                go_wp2
                exact ⟨⟨(j : Int) - 1, hm, by omega, by omega, rfl, rfl, Lib.hid (by rw [HIN2.out]; exact HR2.out.symm), hch⟩, by first | (simp [intOf]; done) | (simp [intOf]; omega)⟩
              · have hxd : decide (x < p.x) = false := decide_eq_false hxx
                have HR2 := Lib.hid (HRR.out.trans (if_neg hxx))
                clear hxx HRR
                go_wp2
                exact ⟨⟨(j : Int) - 1, hgh, by omega, by omega, rfl, rfl, Lib.hid (by rw [HIN2.out, HR2.out, ← HIN.out]; exact HHH.out), hch⟩, by first | (simp [intOf]; done) | (simp [intOf]; omega)⟩
            · have hdd : decide (0 ≤ i) = false := decide_eq_false hge
              have hrh : hgh = rh := by
                have h := HHH.out
                rw [show (i + 1).toNat = 0 from by omega, List.take_zero, List.drop_zero] at h
                rw [h, HRH.out]
                rfl
              subst hrh
              have HR6 := Lib.hid (HR5.out.chg (HCH.out.trans hch) (by simp))
              have hc6 := hc5.trans (HCH.out.trans hch)
              clear HHH hch HCH hge
              go_wp2_with fail
              refine (HFI.out _ HR6.out).mono ?_
              rintro e w7 ⟨rfl, hc7⟩
              have HR7 := Lib.hid (HR6.out.chg hc7 (by simp))
              have hc7 := hc6.trans hc7
              go_wp2_with fail
              refine (HRK.out w7 HR7.out).mono ?_
              rintro e w8 ⟨rfl, hc8⟩
              have hc8 := hc7.trans hc8
              clear hc6 hc7 hc5
              by_cases hk1 : 0 < k
              · have g1 : decide (0 < k) = true := decide_eq_true hk1
                have g2 : decide ((0 : Int) < (k : Int)) = true := decide_eq_true (by omega)
                go_wp2
                go_ret
                exact ⟨rfl, hc8⟩
              · have g1 : decide (0 < k) = false := decide_eq_false hk1
                have g2 : decide ((0 : Int) < (k : Int)) = false := decide_eq_false (by omega)
                go_wp2
                go_ret
                exact ⟨rfl, hc8⟩
  · have HP := Lib.hid (show plusV (stps l) = .tuple #[.int .u64 0, .bool false] from if_neg hbig)
    rw [HP.out]
    go_wp2
    go_ret
    exact ⟨rfl, hc2⟩
end Go.Proofs.Ytmbalpkeaobfgaa
