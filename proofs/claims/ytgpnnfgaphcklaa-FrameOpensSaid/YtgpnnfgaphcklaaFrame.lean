/-
  The walks of package frame. Conditions: the form's own reach.
-/
import Derived.Test.YtgpnnfgaphcklaaPlainCrc
import Derived.Test.YtgpnnfgaphcklaaQuill
import Derived.Laws.BitsAllLaws
namespace Go.Proofs.Ytgpnnfgaphcklaa
open Go.RowKit

theorem and_one32 (c : Nat) (h : c < 4294967296) : bits .and .u32 (c : Int) 1 = ((c % 2 : Nat) : Int) := by
  have := u32_and_nat c 1 h (by omega)
  rw [Nat.and_one_is_mod] at this
  exact this
theorem crcT_odd {c : Nat} (h : c % 2 = 1) (hc : c < 4294967296) : bits .xor .u32 ((c : Int) / 2) 3988292384 = (crcT c : Int) := by
  have := u32_xor_nat (c / 2) 3988292384 (by omega) (by omega)
  rw [crcT, if_pos h]
  simpa using this
theorem crcT_ev {c : Nat} (h : ¬ c % 2 = 1) : (c : Int) / 2 = (crcT c : Int) := by rw [crcT, if_neg h]; simp

set_option maxRecDepth 100000 in
theorem frame_step (w : World) (c : Nat) (b : UInt8) (hc : c < 4294967296) :
    Calls Try.prog 62 #[.int .u32 c, .int .u8 (b.toNat : Nat)] w fun e w' => e = .returned (.int .u32 (crcStep c b : Nat)) ∧ w = w' := by
  have hb := b.toNat_lt
  have hx := u32_xor_nat c b.toNat hc (by omega)
  have hw : IntKind.u32.wrap (b.toNat : Int) = (b.toNat : Int) := by simp [IntKind.wrap, IntKind.bits, IntKind.signed]; omega
  have hlt := xor_byte_lt hc b
  generalize hd : c ^^^ b.toNat = d at *
  rw [crcStep, hd]
  generalize b.toNat = u at *
  clear hd
  go_enter Try.func62, Try.ntmps62
  go_wp2
  go_loopw [0, 9] (fun c i wx => ∃ k, k ≤ 8 ∧ i = .int .i64 (k : Nat) ∧ c = .int .u32 (crcTN k d : Nat) ∧ w = wx) (fun _ i _ => 8 - (intOf i).toNat)
  case atStart => exact ⟨0, by omega, rfl, rfl, rfl⟩
  case round =>
    obtain ⟨k, hk, rfl, rfl, rfl⟩ := hrel
    have hcl := crcTN_lt hlt k
    have hand := and_one32 _ hcl
    have hs : crcTN (k + 1) d = crcT (crcTN k d) := rfl
    by_cases h8 : k < 8
    · by_cases ho : crcTN k d % 2 = 1
      · have hx := crcT_odd ho hcl
        rw [← hs] at hx
        obtain ⟨n2, hn2⟩ : ∃ n2, n2 = crcTN (k + 1) d := ⟨_, rfl⟩
        rw [← hn2] at hx
        have HS := Lib.hid hn2
        clear hs hn2
        generalize crcTN k d = n1 at *
        go_wp2
        exact ⟨⟨k + 1, by omega, by go_num, by rw [HS.out], trivial⟩, by simp [intOf]; omega⟩
      · have hx := crcT_ev ho
        rw [← hs] at hx
        obtain ⟨n2, hn2⟩ : ∃ n2, n2 = crcTN (k + 1) d := ⟨_, rfl⟩
        rw [← hn2] at hx
        have HS := Lib.hid hn2
        clear hs hn2
        generalize crcTN k d = n1 at *
        go_wp2
        exact ⟨⟨k + 1, by omega, by go_num, by rw [HS.out], trivial⟩, by simp [intOf]; omega⟩
    · obtain rfl : k = 8 := by omega
      go_wp2
      go_ret
      exact ⟨rfl, rfl⟩
theorem crc_not (c : Nat) (h : c < 4294967296) : bits .xor .u32 IntKind.u32.max (c : Int) = ((4294967295 - c : Nat) : Int) := by
  have := u32_xor_nat 4294967295 c (by omega) h
  rw [show (4294967295 : Nat) ^^^ c = 4294967295 - c from by
    rw [Nat.xor_comm]
    have h1 : c ^^^ (4294967295 - c) = 4294967295 := xor_ones32 c h
    have h2 := congrArg (c ^^^ ·) h1
    simp only [← Nat.xor_assoc, Nat.xor_self, Nat.zero_xor] at h2
    exact h2.symm] at this
  exact this

set_option maxRecDepth 100000 in
theorem frame_sum (w : World) (s : List UInt8) (hs : s.length ≤ 70368744177664) :
    Calls Try.prog 45 #[.string ⟨s.toArray⟩] w fun e w' => e = .returned (.int .u32 (crcSum s : Nat)) ∧ w = w' := by
  go_enter Try.func45, Try.ntmps45
  go_wp2
  go_loopw [3, 7] (fun c i wx => ∃ k, k ≤ s.length ∧ i = .int .i64 (k : Nat) ∧ c = .int .u32 (crcOf 4294967295 (s.take k) : Nat) ∧ w = wx) (fun _ i _ => s.length - (intOf i).toNat)
  case atStart => exact ⟨0, by omega, rfl, rfl, rfl⟩
  case round =>
    obtain ⟨k, hk, rfl, rfl, rfl⟩ := hrel
    have hcl := crcOf_lt (c := 4294967295) (by omega) (s.take k)
    by_cases hlt : k < s.length
    · have HS := Lib.hid (crcOf_take_succ 4294967295 s k hlt)
      have hg : s.toArray.getD k 0 = s[k] := by simp [hlt]
      generalize crcOf 4294967295 (s.take k) = c at *
      go_wp2_with fail
      refine (frame_step w c s[k] hcl).mono ?_
      rintro e w1 ⟨rfl, rfl⟩
      go_wp2
      exact ⟨⟨k + 1, by omega, by go_num, by rw [HS.out], trivial⟩, by simp [intOf]; omega⟩
    · obtain rfl : k = s.length := by omega
      rw [List.take_length] at hcl ⊢
      have hn := crc_not _ hcl
      rw [show 4294967295 - crcOf 4294967295 s = crcSum s from rfl] at hn
      generalize crcOf 4294967295 s = c at *
      go_wp2
      go_ret
      exact ⟨rfl, rfl⟩
theorem u8_of (x m : Nat) : IntKind.u8.wrap ((x : Int) / (m : Nat)) = ((UInt8.ofNat (x / m % 256)).toNat : Int) := by
  rw [toNat_ofNat (by omega)]
  simp [IntKind.wrap, IntKind.bits, IntKind.signed]
theorem u8_of1 (x : Nat) : IntKind.u8.wrap (x : Int) = ((UInt8.ofNat (x % 256)).toNat : Int) := by
  have := u8_of x 1
  simpa using this

set_option maxRecDepth 100000 in
theorem frame_four (w : World) (c : Nat) :
    Calls Try.prog 58 #[.int .u32 c] w fun e w' => e = .returned (.string ⟨(fourB c).toArray⟩) ∧ Chg [] w w' := by
  have h0 := u8_of1 c
  have h1 : IntKind.u8.wrap ((c : Int) / 256) = _ := u8_of c 256
  have h2 : IntKind.u8.wrap ((c : Int) / 65536) = _ := u8_of c 65536
  have h3 : IntKind.u8.wrap ((c : Int) / 16777216) = _ := u8_of c 16777216
  rw [fourB]
  generalize UInt8.ofNat (c % 256) = b0 at *
  generalize UInt8.ofNat (c / 256 % 256) = b1 at *
  generalize UInt8.ofNat (c / 65536 % 256) = b2 at *
  generalize UInt8.ofNat (c / 16777216 % 256) = b3 at *
  have hr := Rd.lit w #[.int .u8 b0.toNat, .int .u8 b1.toNat, .int .u8 b2.toNat, .int .u8 b3.toNat] 5 1 4 4 (by simp)
  have hcv := run_string_rd (P := Try.prog) (dst := 9) under_bytes under_u8 under_string (l := [b0, b1, b2, b3]) (by simpa [u8s] using hr)
  go_enter Try.func58, Try.ntmps58
  go_wp2
  go_ret
  exact ⟨rfl, (Chg.refl [] w).alloc _⟩
end Go.Proofs.Ytgpnnfgaphcklaa
