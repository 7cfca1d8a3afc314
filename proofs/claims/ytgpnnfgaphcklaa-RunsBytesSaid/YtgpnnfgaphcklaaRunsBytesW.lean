/-
  The walk of the law RunsBytes. Conditions: the form's own reach.
-/
import Derived.Test.YtgpnnfgaphcklaaRunsAlive
import Derived.Test.YtgpnnfgaphcklaaRunsGet
import Derived.Test.YtgpnnfgaphcklaaRefRuns
import Derived.Test.YtgpnnfgaphcklaaRefSame
namespace Go.Proofs.Ytgpnnfgaphcklaa
open Go.RowKit

theorem putB_len (l : List Pr) (hok : ∀ p ∈ l, p.ok) (hl : l.length ≤ 1000) : (putB l).length ≤ 20 * l.length + 10 := by
  have h1 := bodyTo_len l hok l.length (Nat.le_refl _)
  have h2 := natB_len10 (n := l.length) (by omega)
  rw [putB, List.length_append]
  omega
theorem getP_none0 (most : Int) : getP most (some (putB [] ++ [])) = ([], some []) := by
  have e : putB [] = natB 0 := by simp [putB, bodyTo]
  rw [getP, e, eNat_natB (by decide), if_pos (Nat.zero_le _)]
  rfl

set_option maxRecDepth 100000 in
set_option maxHeartbeats 2000000 in
theorem law_RunsBytes (w : World) (ao : Option Addr) (cap : Nat) (l : List Pr) (hok : ∀ p ∈ l, p.ok) (hr : Rd w 2 (.slice ao l.length cap) l.length (prCells l)) (_ho : Old w.heap.size (.slice ao l.length cap) l.length) (hl : l.length * 16 ≤ 140737488351232) (s : List UInt8) (_hs : s.length ≤ 140737488351232) :
    Calls Try.prog 15 #[.slice ao l.length cap, .string ⟨s.toArray⟩] w fun e w' => e = .returned (.bool true) ∧ Chg [] w w' := by
  clear _ho
  go_enter Try.func15, Try.ntmps15
  go_wp2_with fail
  refine (law06_alive w).mono ?_
  rintro e w1 ⟨rfl, hc1⟩
  by_cases h100 : 100 < l.length
  · have hd : decide ((100 : Int) < (l.length : Int)) = true := decide_eq_true (by omega)
    go_wp2
    go_ret
    exact ⟨rfl, hc1⟩
  have hd : decide ((100 : Int) < (l.length : Int)) = false := decide_eq_false (by omega)
  go_wp2_with fail
  refine (ref06_good w1 ao cap l hok (hr.chg hc1 (by simp)) (by omega)).mono ?_
  rintro e w2 ⟨rfl, hc2⟩
  have hc2 := hc1.trans hc2
  have hr2 := hr.chg hc2 (by simp)
  have HR := Lib.hid hr
  clear hc1 hr
  generalize hg : goodP l = g
  cases g
  · go_wp2
    go_ret
    exact ⟨rfl, hc2⟩
  have HG := Lib.hid hg
  clear hg
  by_cases h100s : 100 < s.length
  · have hd2 : decide ((100 : Int) < (s.length : Int)) = true := decide_eq_true (by omega)
    go_wp2
    go_ret
    exact ⟨rfl, hc2⟩
  have hd2 : decide ((100 : Int) < (s.length : Int)) = false := decide_eq_false (by omega)
  have HQ := Lib.hid (new_quill w2)
  have HPL := Lib.hid (putB_len l hok (by omega))
  have HL := Lib.hid (show l.length ≤ 100 by omega)
  have HS := Lib.hid (show s.length ≤ 100 by omega)
  go_wp2_with fail
  refine (runs_put _ w2.heap.size [w2.heap.size] [] ao cap l hok HQ.out (hr2.alloc _) (fun hp b hb => by have := hr2.lt (by omega) b hb; simp; omega) (by simp; omega)).mono ?_
  rintro e w3 ⟨rfl, F3, hq3, hm3⟩
  rw [List.nil_append] at hq3
  have hc3 := hm3.chg_own (hc2.alloc _) (by simp; exact hc2.size)
  have HR3 := Lib.hid (HR.out.chg hc3 (by simp))
  clear hr2
  go_wp2_with fail
  refine (quill_text w3 w2.heap.size F3 _ hq3).mono ?_
  rintro e w4 ⟨rfl, rfl⟩
  have HQ3 := Lib.hid hq3
  clear hq3
  generalize hP : putB l = P at *
  have HP := Lib.hid hP
  clear hP
  have hpl := HPL.out
  have hcat : ¬ 9223372036854775807 < P.length + s.length := by omega
  go_wp2_with fail
  refine (eye_on w3 (P ++ s)).mono ?_
  rintro e w4 ⟨rfl, he4, hc4⟩
  have hq4 := HQ3.out.chg hc4 (by simp)
  have hs3 := hc3.size
  have hs4 := hc4.size
  have he3s := he4.lt
  have hc4 := hc3.trans hc4
  have HF3 := Lib.hid HQ3.out.lt
  clear HQ3 hm3
  go_wp2_with fail
  refine (quill_text w4 w2.heap.size F3 _ hq4).mono ?_
  rintro e w5 ⟨rfl, rfl⟩
  go_wp2_with fail
  refine (eye_on w4 P).mono ?_
  rintro e w5 ⟨rfl, he5, hc5⟩
  have hq5 := hq4.chg hc5 (by simp)
  have hea := he4.chg hc5 (by simp)
  have hs5 := hc5.size
  have he5s := he5.lt
  have hc5 := hc4.trans hc5
  clear hq4 he4
  have HG1 := Lib.hid (getP_put (most := 100) hok HG.out s (by omega) (by omega))
  obtain ⟨st2, hF, hst⟩ : ∃ st2 : Option (List UInt8), getP ((l.length : Int) - 1) (some P) = ([], st2) ∧ (st2.isNone = true ∨ l.length = 0) := by
    have hp := HP.out
    rcases Nat.eq_zero_or_pos l.length with h0 | h0
    · rw [List.length_eq_zero_iff] at h0
      subst h0
      have := getP_none0 (((0 : Nat) : Int) - 1)
      rw [List.append_nil, hp] at this
      exact ⟨some [], this, .inr rfl⟩
    · have := getP_fewer (l := l) [] ((l.length : Int) - 1) (by omega) (by omega) h0
      rw [List.append_nil, hp] at this
      exact ⟨none, this, .inl rfl⟩
  rw [HP.out] at HG1
  have HF := Lib.hid hF
  have HST := Lib.hid hst
  clear hF hst
  go_wp2_with fail
  refine (runs_get w5 w3.heap.size _ 100 (by omega) hea (by intro x hx; cases hx; rw [List.length_append]; omega)).mono ?_
  rw [HG1.out]
  rintro e w6 ⟨ao6, cap6, rfl, ho6, he6, hc6, hab6⟩
  have hq6 := hq5.chg hc6 (by intro b hb; have := HF3.out b hb; simp; omega)
  have heb6 := he5.chg hc6 (by simp; omega)
  have hc6' := hc5.trans' hc6 (by simp; omega)
  have hs6 := hc6.size
  go_wp2_with fail
  refine (runs_get w6 w4.heap.size _ ((l.length : Int) - 1) (by omega) heb6 (by intro x hx; cases hx; omega)).mono ?_
  rw [HF.out]
  rintro e w7 ⟨ao7, cap7, rfl, ho7, he7, hc7, hab7⟩
  have hq7 := hq6.chg hc7 (by intro b hb; have := HF3.out b hb; simp; omega)
  have hea7 := he6.chg hc7 (by simp; omega)
  have ho6 := ho6.rd.chg hc7 (by intro b hb; have := hab6 b (by simpa using hb); simp; omega)
  have hc7' := hc6'.trans' hc7 (by simp; omega)
  have hr7 := HR.out.chg hc7' (by simp)
  clear hq6 hq5 hc6 hc7 hc5 hc4 hc3 hc2 hab6 hab7 ho7 heb6 he6 hea he5 HF3 HR3 HR HPL
  go_wp2_with fail
  refine (quill_text w7 w2.heap.size F3 _ hq7).mono ?_
  rintro e w8 ⟨rfl, rfl⟩
  go_wp2_with fail
  refine (ref06_bytes w7 ao cap l hok hr7 (by omega)).mono ?_
  rintro e w8 ⟨rfl, hc8⟩
  rw [HP.out]
  have hea8 := hea7.chg hc8 (by simp)
  have heb8 := he7.chg hc8 (by simp)
  have ho8 := ho6.chg hc8 (by simp)
  have hr8 := hr7.chg hc8 (by simp)
  have hc8' := hc7'.trans hc8
  go_wp2_with fail
  refine (ref06_same w8 ao6 cap6 ao cap l ho8 hr8 (by omega)).mono ?_
  rintro e w9 ⟨rfl, hc9⟩
  have hea9 := hea8.chg hc9 (by simp)
  have heb9 := heb8.chg hc9 (by simp)
  have hc9' := hc8'.trans hc9
  go_wp2_with fail
  refine (eye_left w9 w3.heap.size _ hea9).mono ?_
  rintro e w10 ⟨rfl, rfl⟩
  go_wp2_with fail
  refine (eye_bad w9 w3.heap.size _ hea9).mono ?_
  rintro e w10 ⟨rfl, rfl⟩
  go_wp2_with fail
  refine (eye_bad w9 w4.heap.size _ heb9).mono ?_
  rintro e w10 ⟨rfl, rfl⟩
  cases st2 with
  | none =>
    simp only [Option.isNone_none]
    go_wp2
    go_ret
    exact ⟨rfl, hc9'⟩
  | some x =>
    have h0 : l.length = 0 := by simpa using HST.out
    have hz : ((l.length : Int) == 0) = true := by simp [h0]
    simp only [Option.isNone_some]
    clear h0
    go_wp2
    go_ret
    exact ⟨rfl, hc9'⟩
end Go.Proofs.Ytgpnnfgaphcklaa
