/-
  The walks of the reference's frames (ogiveref05). Conditions: the form's own reach.
-/
import Derived.Test.YtgpnnfgaphcklaaFrameClose
namespace Go.Proofs.Ytgpnnfgaphcklaa
open Go.RowKit

/-- The sum behind i bits of a byte, as the reference reckons it. -/
def refBit (b : Nat) : Nat → Nat → Nat
  | 0, c => c
  | i + 1, c => if b / 2 ^ i % 2 ≠ refBit b i c % 2 then (refBit b i c / 2) ^^^ 3988292384 else refBit b i c / 2
theorem refBit_eq (b c i : Nat) : crcTN i (c ^^^ b) = refBit b i c ^^^ b / 2 ^ i := by
  induction i with
  | zero => simp [crcTN, refBit]
  | succ i ih =>
    rw [crcTN, ih, crcT, refBit]
    have hm := @Nat.xor_mod_two_eq_one (refBit b i c) (b / 2 ^ i)
    have hd : (refBit b i c ^^^ b / 2 ^ i) / 2 = refBit b i c / 2 ^^^ b / 2 ^ i / 2 := Nat.xor_div_two
    rw [hd, Nat.pow_succ, ← Nat.div_div_eq_div_mul]
    generalize refBit b i c = r at *
    generalize b / 2 ^ i = y at *
    by_cases h : (r ^^^ y) % 2 = 1
    · rw [if_pos h, if_pos (by rw [hm] at h; omega), Nat.xor_assoc, Nat.xor_assoc, Nat.xor_comm (y / 2)]
    · rw [if_neg h, if_neg (by rw [hm] at h; omega)]
theorem refBit_8 (b : UInt8) (c : Nat) : refBit b.toNat 8 c = crcStep c b := by
  have h := refBit_eq b.toNat c 8
  have hb := b.toNat_lt
  rw [show b.toNat / 2 ^ 8 = 0 from Nat.div_eq_of_lt hb, Nat.xor_zero] at h
  rw [crcStep, h]
theorem refBit_lt (b c i : Nat) (h : c < 4294967296) : refBit b i c < 4294967296 := by
  induction i with
  | zero => exact h
  | succ i ih =>
    rw [refBit]
    split
    · exact Nat.xor_lt_two_pow (n := 32) (by omega) (by omega)
    · omega

theorem bit_bne (u i r : Nat) (hu : u < 256) : ((((u : Int) % 4294967296) / 2 ^ i).tmod 2 != (r : Int) % 2) = decide (u / 2 ^ i % 2 ≠ r % 2) := by
  have h1 : (u : Int) % 4294967296 = (u : Int) := by omega
  have h2 : (u : Int) / 2 ^ i = ((u / 2 ^ i : Nat) : Int) := by simp
  rw [h1, h2]
  generalize u / 2 ^ i = y
  rw [Int.tmod_eq_emod_of_nonneg (by omega), Bool.eq_iff_iff]
  simp only [bne_iff_ne, decide_eq_true_eq]
  omega
set_option maxRecDepth 100000 in
set_option maxHeartbeats 1000000 in
theorem ref_sum (w : World) (s : List UInt8) (hs : s.length ≤ 70368744177664) :
    Calls Try.prog 46 #[.string ⟨s.toArray⟩] w fun e w' => e = .returned (.int .u32 (crcSum s : Nat)) ∧ w = w' := by
  go_enter Try.func46, Try.ntmps46
  go_wp2
  go_loopw [3, 4] (fun c i wx => ∃ k, k ≤ s.length ∧ i = .int .i64 (k : Nat) ∧ c = .int .u32 (crcOf 4294967295 (s.take k) : Nat) ∧ w = wx) (fun _ i _ => s.length - (intOf i).toNat)
  case atStart => exact ⟨0, by omega, rfl, rfl, rfl⟩
  case round =>
    obtain ⟨k, hk, rfl, rfl, rfl⟩ := hrel
    have hcl := crcOf_lt (c := 4294967295) (by omega) (s.take k)
    by_cases hlt : k < s.length
    · have HS := Lib.hid (crcOf_take_succ 4294967295 s k hlt)
      have H8 := Lib.hid (refBit_8 s[k] (crcOf 4294967295 (s.take k)))
      generalize crcOf 4294967295 (s.take k) = c at *
      have HB := Lib.hid (s[k].toNat_lt)
      go_wp2
      go_loopw [3, 5] (fun c' j wx => ∃ i, i ≤ 8 ∧ j = .int .i64 (i : Nat) ∧ c' = .int .u32 (refBit s[k].toNat i c : Nat) ∧ w = wx) (fun _ j _ => 8 - (intOf j).toNat)
      case atStart => exact ⟨0, by omega, rfl, rfl, rfl⟩
      case round =>
        obtain ⟨i, hi, rfl, rfl, rfl⟩ := hrel
        by_cases h8 : i < 8
        · have hrl := refBit_lt s[k].toNat c i hcl
          have hstep : refBit s[k].toNat (i + 1) c = if s[k].toNat / 2 ^ i % 2 ≠ refBit s[k].toNat i c % 2 then (refBit s[k].toNat i c / 2) ^^^ 3988292384 else refBit s[k].toNat i c / 2 := rfl
          obtain ⟨nx, hnx⟩ : ∃ nx, nx = refBit s[k].toNat (i + 1) c := ⟨_, rfl⟩
          rw [← hnx] at hstep
          have HN := Lib.hid hnx
          clear hnx
          generalize refBit s[k].toNat i c = r at *
          have hbb := bit_bne s[k].toNat i r HB.out
          by_cases hq : s[k].toNat / 2 ^ i % 2 ≠ r % 2
          · rw [if_pos hq] at hstep
            rw [decide_eq_true hq] at hbb
            have hx : bits .xor .u32 ((r : Int) / 2) 3988292384 = (nx : Int) := by
              have := u32_xor_nat (r / 2) 3988292384 (by omega) (by omega)
              rw [hstep]
              simpa using this
            clear hq hstep
            go_wp2
            exact ⟨⟨i + 1, by omega, by go_num, by rw [HN.out], trivial⟩, by simp [intOf]; omega⟩
          · rw [if_neg hq] at hstep
            rw [decide_eq_false hq] at hbb
            have hx : (r : Int) / 2 = (nx : Int) := by rw [hstep]; simp
            clear hq hstep
            go_wp2
            exact ⟨⟨i + 1, by omega, by go_num, by rw [HN.out], trivial⟩, by simp [intOf]; omega⟩
        · obtain rfl : i = 8 := by omega
          go_wp2
          exact ⟨⟨k + 1, by omega, by go_num, by rw [HS.out, ← H8.out], trivial⟩, by simp [intOf]; omega⟩
    · obtain rfl : k = s.length := by omega
      rw [List.take_length] at hcl ⊢
      have hn : (4294967295 : Int) - (crcOf 4294967295 s : Nat) = ((crcSum s : Nat) : Int) := by rw [crcSum]; omega
      generalize crcOf 4294967295 s = c at *
      go_wp2
      go_ret
      exact ⟨rfl, rfl⟩

theorem one_byte_at (wx : World) (n : Nat) (k : UInt8) (h : wx.cell? ⟨n, 0, none⟩ = some (.int .u8 (k.toNat : Nat))) :
    (convert 39 9 (.slice (some ⟨n, 0, none⟩) 1 1)).run Try.prog wx = .ok (.string ⟨[k].toArray⟩) wx := by
  refine run_string_rd (P := Try.prog) (dst := 9) (n := 1) under_bytes under_u8 under_string ⟨rfl, _, _, rfl, .inr ⟨_, _, rfl, fun j hj => ?_⟩⟩
  obtain rfl : j = 0 := by omega
  rw [Nat.zero_add, h]
  rfl

end Go.Proofs.Ytgpnnfgaphcklaa
