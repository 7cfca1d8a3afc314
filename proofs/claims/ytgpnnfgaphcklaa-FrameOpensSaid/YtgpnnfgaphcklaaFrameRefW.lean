/-
  The walks of the laws FrameCloses and FrameOpens. Conditions: the form's own reach.
-/
import Derived.Test.YtgpnnfgaphcklaaFrameAlive
import Derived.Test.YtgpnnfgaphcklaaRefOpen
namespace Go.Proofs.Ytgpnnfgaphcklaa
open Go.RowKit

set_option maxRecDepth 100000 in
set_option maxHeartbeats 1000000 in
theorem law_FrameCloses (w : World) (k : UInt8) (t : List UInt8) (_ht : t.length ≤ 140737488351232) :
    Calls Try.prog 10 #[.int .u8 (k.toNat : Nat), .string ⟨t.toArray⟩] w fun e w' => e = .returned (.bool true) ∧ Chg [] w w' := by
  go_enter Try.func10, Try.ntmps10
  go_wp2_with fail
  refine (law05_alive w).mono ?_
  rintro e w1 ⟨rfl, hc1⟩
  by_cases hl : 2048 < t.length
  · have hd : decide ((2048 : Int) < (t.length : Int)) = true := decide_eq_true (by omega)
    go_wp2
    go_ret
    exact ⟨rfl, hc1⟩
  have hd : decide ((2048 : Int) < (t.length : Int)) = false := decide_eq_false (by omega)
  have HO := Lib.hid (openF_close k t (by omega))
  have hcl := closeB_len k t
  have hnl := natB_len10 (n := t.length) (by omega)
  have hcl2 : (closeB k t).length ≤ 10000 := by omega
  clear hcl hnl
  go_wp2_with fail
  refine (frame_close w1 k t (by omega)).mono ?_
  rintro e w2 ⟨rfl, hc2⟩
  have hc2 := hc1.trans hc2
  have HRC := Lib.hid (ref_close · k t (show t.length ≤ 1000000 by omega))
  generalize closeB k t = C at *
  go_wp2_with fail
  refine (frame_open w2 C (by omega)).mono ?_
  rw [HO.out]
  rintro e w3 ⟨rfl, hc3⟩
  have hc3 := hc2.trans hc3
  rw [openV]
  go_wp2_with fail
  refine (frame_sum w3 t (by omega)).mono ?_
  rintro e w4 ⟨rfl, rfl⟩
  go_wp2_with fail
  refine (ref_sum w3 t (by omega)).mono ?_
  rintro e w4 ⟨rfl, rfl⟩
  go_wp2_with fail
  refine (HRC.out w3).mono ?_
  rintro e w4 ⟨rfl, hc4⟩
  have hc4 := hc3.trans hc4
  go_wp2
  go_ret
  exact ⟨by simp, hc4⟩

set_option maxRecDepth 100000 in
set_option maxHeartbeats 1000000 in
theorem law_FrameOpens (w : World) (s : List UInt8) (_hs : s.length ≤ 140737488351232) :
    Calls Try.prog 11 #[.string ⟨s.toArray⟩] w fun e w' => e = .returned (.bool true) ∧ Chg [] w w' := by
  go_enter Try.func11, Try.ntmps11
  go_wp2_with fail
  refine (law05_alive w).mono ?_
  rintro e w1 ⟨rfl, hc1⟩
  by_cases hl : 2048 < s.length
  · have hd : decide ((2048 : Int) < (s.length : Int)) = true := decide_eq_true (by omega)
    go_wp2
    go_ret
    exact ⟨rfl, hc1⟩
  have hd : decide ((2048 : Int) < (s.length : Int)) = false := decide_eq_false (by omega)
  have HF := Lib.hid (frame_open · s (by omega))
  have HR := Lib.hid (ref_open · s (by omega))
  have HE := Lib.hid (openR_eq s)
  cases hO : openF s with
  | none =>
    have HO := Lib.hid hO
    clear hO
    go_wp2_with fail
    refine (HF.out w1).mono ?_
    rw [HO.out]
    rintro e w2 ⟨rfl, hc2⟩
    have hc2 := hc1.trans hc2
    rw [openV]
    go_wp2_with fail
    refine (HR.out w2).mono ?_
    rw [HE.out, HO.out]
    rintro e w3 ⟨rfl, hc3⟩
    have hc3 := hc2.trans hc3
    rw [refV]
    go_wp2
    go_ret
    exact ⟨rfl, hc3⟩
  | some p =>
    obtain ⟨k, t⟩ := p
    obtain ⟨h1, h2⟩ := openF_sound hO
    have HO := Lib.hid hO
    have HS := Lib.hid h1
    clear hO h1
    go_wp2_with fail
    refine (HF.out w1).mono ?_
    rw [HO.out]
    rintro e w2 ⟨rfl, hc2⟩
    have hc2 := hc1.trans hc2
    rw [openV]
    go_wp2_with fail
    refine (HR.out w2).mono ?_
    rw [HE.out, HO.out]
    rintro e w3 ⟨rfl, hc3⟩
    have hc3 := hc2.trans hc3
    rw [refV]
    go_wp2_with fail
    refine (frame_close w3 k t h2).mono ?_
    rintro e w4 ⟨rfl, hc4⟩
    have hc4 := hc3.trans hc4
    rw [← HS.out]
    go_wp2
    go_ret
    exact ⟨by simp, hc4⟩
end Go.Proofs.Ytgpnnfgaphcklaa
