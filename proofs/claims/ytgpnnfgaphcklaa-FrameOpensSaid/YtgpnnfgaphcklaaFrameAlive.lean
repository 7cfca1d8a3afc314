/-
  The walk of the layer's alive, and of the laws FrameUnlike and FrameCuts. Conditions: the form's own reach.
-/
import Derived.Test.YtgpnnfgaphcklaaFrameClose
namespace Go.Proofs.Ytgpnnfgaphcklaa
open Go.RowKit

theorem byte_of {z : Int} (h0 : 0 ≤ z) (h1 : z < 256) : ∃ c : UInt8, z = (c.toNat : Int) := ⟨UInt8.ofNat z.toNat, by rw [toNat_ofNat (by omega)]; omega⟩
theorem sum_alive : crcSum [49, 50, 51, 52, 53, 54, 55, 56, 57] = 3421780262 := by decide +kernel
theorem close_alive : (closeB 7 [108, 111, 97, 100]).length = 13 := by
  rw [closeB_len]
  simp [natB_lt]

set_option maxRecDepth 100000 in
set_option maxHeartbeats 1000000 in
theorem law05_alive (w : World) : Calls Try.prog 22 #[] w fun e w' => e = .returned (.bool true) ∧ Chg [] w w' := by
  have HC := Lib.hid close_alive
  have HS := Lib.hid sum_alive
  go_enter Try.func22, Try.ntmps22
  go_wp2_with fail
  refine (frame_close w 7 [108, 111, 97, 100] (by simp)).mono ?_
  rintro e w1 ⟨rfl, hc1⟩
  have hl := HC.out
  generalize closeB 7 [108, 111, 97, 100] = C at *
  go_wp2_with fail
  refine (frame_sum w1 [49, 50, 51, 52, 53, 54, 55, 56, 57] (by simp)).mono ?_
  rintro e w2 ⟨rfl, rfl⟩
  rw [HS.out]
  go_wp2
  go_ret
  exact ⟨by simp, hc1⟩

theorem close_same (a b : UInt8) (x y : List UInt8) : (closeB a x == closeB b y) = (a == b && x == y) := by
  rw [Bool.eq_iff_iff]
  simp only [beq_iff_eq, Bool.and_eq_true]
  constructor
  · intro h
    obtain ⟨h1, h2, _⟩ := closeB_free (k := a) (k' := b) (t := x) (t' := y) (x := []) (x' := []) (by rw [h])
    exact ⟨h1, h2⟩
  · rintro ⟨rfl, rfl⟩
    rfl

set_option maxRecDepth 100000 in
set_option maxHeartbeats 1000000 in
theorem law_FrameUnlike (w : World) (a : UInt8) (x : List UInt8) (_hx : x.length ≤ 140737488351232) (b : UInt8) (y : List UInt8) (_hy : y.length ≤ 140737488351232) :
    Calls Try.prog 4 #[.int .u8 (a.toNat : Nat), .string ⟨x.toArray⟩, .int .u8 (b.toNat : Nat), .string ⟨y.toArray⟩] w fun e w' => e = .returned (.bool true) ∧ Chg [] w w' := by
  go_enter Try.func4, Try.ntmps4
  go_wp2_with fail
  refine (law05_alive w).mono ?_
  rintro e w1 ⟨rfl, hc1⟩
  by_cases hl : 2048 < x.length + y.length
  · have hd : decide ((2048 : Int) < (x.length : Int) + (y.length : Int)) = true := decide_eq_true (by omega)
    go_wp2
    go_ret
    exact ⟨rfl, hc1⟩
  have hd : decide ((2048 : Int) < (x.length : Int) + (y.length : Int)) = false := decide_eq_false (by omega)
  go_wp2_with fail
  refine (frame_close w1 a x (by omega)).mono ?_
  rintro e w2 ⟨rfl, hc2⟩
  go_wp2_with fail
  refine (frame_close w2 b y (by omega)).mono ?_
  rintro e w3 ⟨rfl, hc3⟩
  have hc3 := (hc1.trans hc2).trans hc3
  have hsm := close_same a b x y
  have hab : ((a.toNat : Int) == (b.toNat : Int)) = (a == b) := by
    rw [Bool.eq_iff_iff, beq_iff_eq, beq_iff_eq]
    exact ⟨fun h => UInt8.toNat_inj.1 (by omega), fun h => by rw [h]⟩
  generalize closeB a x = C at *
  generalize closeB b y = D at *
  by_cases hk : a = b
  · have hkb : (a == b) = true := by simp [hk]
    rw [hkb] at hsm hab
    rw [Bool.true_and] at hsm
    clear hk hkb
    generalize hxy : (x == y) = xy at *
    have HXY := Lib.hid hxy
    clear hxy
    cases xy
    · go_wp2
      go_ret
      exact ⟨by have := HXY.out; simp at this; simp [this], hc3⟩
    · go_wp2
      go_ret
      exact ⟨by have := HXY.out; simp at this; simp [this], hc3⟩
  · have hkb : (a == b) = false := by simpa using hk
    rw [hkb] at hsm hab
    rw [Bool.false_and] at hsm
    clear hk hkb
    go_wp2
    go_ret
    exact ⟨by simp, hc3⟩

theorem cut_eq (c n : Nat) (hc : c < 18446744073709551616) (hn : 0 < n) (hn2 : n < 9223372036854775808) : IntKind.i64.wrap (Int.tmod (c : Int) (n : Int)) = ((c % n : Nat) : Int) := by
  rw [Int.tmod_eq_emod_of_nonneg (by omega), ← Int.natCast_emod]
  exact IntWalk.i64_in _ (by have := Nat.mod_lt c hn; omega)
theorem cut_u (x : Int) (n : Nat) (hn : 0 < n) (hn2 : n < 9223372036854775808) : IntKind.i64.wrap (Int.tmod (IntKind.u64.wrap x) (n : Int)) = (((x % 18446744073709551616).toNat % n : Nat) : Int) := by
  have h : IntKind.u64.wrap x = (((x % 18446744073709551616).toNat : Nat) : Int) := by
    simp [IntKind.wrap, IntKind.bits, IntKind.signed]
    omega
  rw [h]
  exact cut_eq _ _ (by omega) hn hn2
theorem openF_cut (k : UInt8) (t : List UInt8) (c : Nat) (h : c < (closeB k t).length) : openF ((closeB k t).take c) = none := by
  cases h2 : openF ((closeB k t).take c) with
  | none => rfl
  | some p =>
    obtain ⟨k', t'⟩ := p
    obtain ⟨h3, _⟩ := openF_sound h2
    have h4 : closeB k t ++ [] = closeB k' t' ++ (closeB k t).drop c := by rw [← h3, List.take_append_drop, List.append_nil]
    obtain ⟨_, _, h5⟩ := closeB_free h4
    have := congrArg List.length h5
    simp at this
    omega
theorem openF_more (k : UInt8) (t m : List UInt8) (h : m ≠ []) : openF (closeB k t ++ m) = none := by
  cases h2 : openF (closeB k t ++ m) with
  | none => rfl
  | some p =>
    obtain ⟨k', t'⟩ := p
    obtain ⟨h3, _⟩ := openF_sound h2
    obtain ⟨_, _, h5⟩ := closeB_free (x' := []) (h3.trans (List.append_nil _).symm)
    exact absurd h5 h

attribute [local go_sem] ByteArray.extract_mk

set_option maxRecDepth 100000 in
set_option maxHeartbeats 1000000 in
theorem law_FrameCuts (w : World) (k : UInt8) (t : List UInt8) (_ht : t.length ≤ 140737488351232) (cut : Int) (_h0 : -9223372036854775808 ≤ cut) (_h1 : cut < 9223372036854775808) (m : List UInt8) (_hm : m.length ≤ 140737488351232) :
    Calls Try.prog 13 #[.int .u8 (k.toNat : Nat), .string ⟨t.toArray⟩, .int .i64 cut, .string ⟨m.toArray⟩] w fun e w' => e = .returned (.bool true) ∧ Chg [] w w' := by
  clear _h0 _h1
  go_enter Try.func13, Try.ntmps13
  go_wp2_with fail
  refine (law05_alive w).mono ?_
  rintro e w1 ⟨rfl, hc1⟩
  by_cases hl : 2048 < t.length
  · have hd : decide ((2048 : Int) < (t.length : Int)) = true := decide_eq_true (by omega)
    go_wp2
    go_ret
    exact ⟨rfl, hc1⟩
  have hd : decide ((2048 : Int) < (t.length : Int)) = false := decide_eq_false (by omega)
  by_cases hl2 : 100 < m.length
  · have hd2 : decide ((100 : Int) < (m.length : Int)) = true := decide_eq_true (by omega)
    go_wp2
    go_ret
    exact ⟨rfl, hc1⟩
  have hd2 : decide ((100 : Int) < (m.length : Int)) = false := decide_eq_false (by omega)
  by_cases hm0 : m = []
  · subst hm0
    clear hl2 hd2
    go_wp2
    go_ret
    exact ⟨rfl, hc1⟩
  have hmb : (m == []) = false := by simpa using hm0
  have HM := Lib.hid hm0
  clear hm0
  go_wp2_with fail
  refine (frame_close w1 k t (by omega)).mono ?_
  rintro e w2 ⟨rfl, hc2⟩
  have hc2 := hc1.trans hc2
  have hcl := closeB_len k t
  have hnl := natB_len10 (n := t.length) (by omega)
  have HOM := Lib.hid (openF_more k t m HM.out)
  have HOC := Lib.hid (openF_cut k t)
  have hpos : 0 < (closeB k t).length := by omega
  have hsm : (closeB k t).length ≤ 10000 := by omega
  clear hcl hnl
  generalize closeB k t = C at *
  have hcu := cut_u cut C.length hpos (by omega)
  have hlt := Nat.mod_lt (cut % 18446744073709551616).toNat hpos
  generalize (cut % 18446744073709551616).toNat % C.length = c at *
  have hne : ((C.length : Int) == 0) = false := beq_eq_false_iff_ne.2 (by omega)
  have hcat : ¬ 9223372036854775807 < C.length + m.length := by omega
  go_wp2_with fail
  refine (frame_open w2 (C.take c) (by rw [List.length_take]; omega)).mono ?_
  rw [HOC.out c hlt]
  rintro e w3 ⟨rfl, hc3⟩
  have hc3 := hc2.trans hc3
  rw [openV]
  go_wp2_with fail
  refine (frame_open w3 (C ++ m) (by rw [List.length_append]; omega)).mono ?_
  rw [HOM.out]
  rintro e w4 ⟨rfl, hc4⟩
  have hc4 := hc3.trans hc4
  rw [openV]
  go_wp2
  go_ret
  exact ⟨rfl, hc4⟩
end Go.Proofs.Ytgpnnfgaphcklaa
