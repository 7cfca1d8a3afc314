/-
  The walks of bits.Len64, LeadingZeros64 and Mul64. Conditions: none. The division of a number of two words by one: a digit at a time, plainly. Conditions: none.
-/
import Derived.Test.YtmehcfocfljoeaaGreatDoorProg
import Derived.Test.YtmehcfocfljoeaaGreatDoorSlotsErrorsB1
import Derived.Test.YtmehcfocfljoeaaGreatDoorSlotsErrorsLBitLen
import Derived.Lib.Strings
import Derived.Lib.Slices
import Derived.Lib.Small
import Derived.Lib.Walk
import Derived.Lib.BitFns
namespace Go.Proofs.YtmehcfocfljoeaaGreatDoor
open Go.RowKit

/-- How many bits are free above a number. -/
def lzN (y : Nat) : Nat := 64 - Lib.bitLen y
theorem bitLen_bounds : ∀ (k x : Nat), x < 2 ^ k → k ≤ 64 → 0 < x → 2 ^ (Lib.bitLen x - 1) ≤ x ∧ x < 2 ^ Lib.bitLen x ∧ 1 ≤ Lib.bitLen x ∧ Lib.bitLen x ≤ k := by
  intro k
  induction k with
  | zero => intro x h _ h0; simp at h; omega
  | succ k ih =>
    intro x h hk h0
    have h64 : x < 2 ^ 64 := Nat.lt_of_lt_of_le h (Nat.pow_le_pow_right (by omega) hk)
    rw [Lib.bitLen_half x (by omega) h64]
    by_cases h1 : x / 2 = 0
    · have : x = 1 := by omega
      subst this
      have hz : Lib.bitLen (1 / 2) = 0 := by decide
      rw [hz]
      simp
    · have hx2 : x / 2 < 2 ^ k := by rw [Nat.pow_succ] at h; omega
      obtain ⟨a, b, c, d⟩ := ih (x / 2) hx2 (by omega) (by omega)
      generalize Lib.bitLen (x / 2) = n at *
      obtain ⟨m, rfl⟩ : ∃ m, n = m + 1 := ⟨n - 1, by omega⟩
      rw [show 1 + (m + 1) - 1 = m + 1 from by omega, show 1 + (m + 1) = m + 1 + 1 from by omega]
      rw [Nat.pow_succ] at b
      rw [show m + 1 - 1 = m from by omega] at a
      rw [Nat.pow_succ, Nat.pow_succ]
      omega
theorem lz_bounds {y : Nat} (h0 : 0 < y) (h1 : y < 18446744073709551616) : lzN y ≤ 63 ∧ 9223372036854775808 ≤ y * 2 ^ lzN y ∧ y * 2 ^ lzN y < 18446744073709551616 := by
  obtain ⟨a, b, c, d⟩ := bitLen_bounds 64 y h1 (Nat.le_refl _) h0
  unfold lzN
  generalize Lib.bitLen y = n at *
  refine ⟨by omega, ?_, ?_⟩
  · have := Nat.mul_le_mul_right (2 ^ (64 - n)) a
    rw [← Nat.pow_add, show n - 1 + (64 - n) = 63 from by omega] at this
    exact this
  · have := Nat.mul_lt_mul_of_pos_right b (show 0 < 2 ^ (64 - n) from Nat.pow_pos (by omega))
    rw [← Nat.pow_add, show n + (64 - n) = 64 from by omega] at this
    exact this
set_option maxRecDepth 100000 in
theorem bits_lz (w : World) (y : Nat) (h1 : y < 18446744073709551616) :
    Calls Tryz.prog 217 #[.int .u64 y] w fun e w' => e = .returned (.int .i64 (lzN y : Nat)) ∧ w = w' := by
  have l : Lib.bitLen y ≤ 64 := Lib.bitLen_le y 64 (Nat.le_refl _) h1
  have HL := Lib.hid (bits_len64 (y : Int) w (by omega) (by omega))
  rw [Int.toNat_natCast] at HL
  have HZ := Lib.hid (show ((lzN y : Nat) : Int) = 64 - (Lib.bitLen y : Int) from by unfold lzN; omega)
  clear h1
  generalize lzN y = z at *
  generalize Lib.bitLen y = n at *
  go_enter Tryz.func217, Tryz.ntmps217
  go_wp2_with fail
  refine HL.out.mono ?_
  rintro e w' ⟨rfl, rfl⟩
  go_wp2
  go_ret
  rw [HZ.out]
  exact ⟨rfl, rfl⟩

theorem mul_parts (x y : Nat) : x * y = (x / 4294967296) * (y / 4294967296) * 18446744073709551616 + ((x / 4294967296) * (y % 4294967296) + (x % 4294967296) * (y / 4294967296)) * 4294967296 + (x % 4294967296) * (y % 4294967296) := by
  conv => lhs; rw [← Nat.div_add_mod x 4294967296, ← Nat.div_add_mod y 4294967296]
  generalize x / 4294967296 = a
  generalize x % 4294967296 = b
  generalize y / 4294967296 = c
  generalize y % 4294967296 = d
  rw [Nat.add_mul, Nat.mul_add, Nat.mul_add, Nat.add_mul]
  have e1 : 4294967296 * a * (4294967296 * c) = a * c * 18446744073709551616 := by
    rw [Nat.mul_assoc, Nat.mul_left_comm a, ← Nat.mul_assoc, Nat.mul_comm _ (a * c)]
  have e2 : 4294967296 * a * d = a * d * 4294967296 := by rw [Nat.mul_assoc, Nat.mul_comm]
  have e3 : b * (4294967296 * c) = b * c * 4294967296 := by rw [Nat.mul_left_comm, Nat.mul_comm]
  omega
theorem half_mul {a b : Nat} (ha : a < 4294967296) (hb : b < 4294967296) : a * b ≤ 18446744065119617025 := Nat.mul_le_mul (show a ≤ 4294967295 by omega) (show b ≤ 4294967295 by omega)
theorem and_mask32 (z : Nat) (h : z < 18446744073709551616) : bits .and .u64 (z : Int) 4294967295 = ((z % 4294967296 : Nat) : Int) := by
  have h1 := u64_and_nat z 4294967295 h (by omega)
  have h2 : z &&& 4294967295 = z % 4294967296 := Nat.and_two_pow_sub_one_eq_mod z 32
  rw [h2] at h1
  exact h1
set_option maxRecDepth 100000 in
set_option maxHeartbeats 1000000 in
theorem bits_mul (w : World) (x y : Nat) (hx : x < 18446744073709551616) (hy : y < 18446744073709551616) :
    Calls Tryz.prog 211 #[.int .u64 x, .int .u64 y] w fun e w' => e = .returned (.tuple #[.int .u64 (x * y / 18446744073709551616 : Nat), .int .u64 (x * y % 18446744073709551616 : Nat)]) ∧ w = w' := by
  have hp := mul_parts x y
  have b1 := half_mul (Nat.mod_lt x (show 0 < 4294967296 by omega)) (Nat.mod_lt y (show 0 < 4294967296 by omega))
  have b2 := half_mul (show x / 4294967296 < 4294967296 by omega) (Nat.mod_lt y (show 0 < 4294967296 by omega))
  have b3 := half_mul (Nat.mod_lt x (show 0 < 4294967296 by omega)) (show y / 4294967296 < 4294967296 by omega)
  have b4 := half_mul (show x / 4294967296 < 4294967296 by omega) (show y / 4294967296 < 4294967296 by omega)
  have hx0 := and_mask32 x hx
  have hy0 := and_mask32 y hy
  have hx1 : (x : Int) / 4294967296 = ((x / 4294967296 : Nat) : Int) := by omega
  have hy1 : (y : Int) / 4294967296 = ((y / 4294967296 : Nat) : Int) := by omega
  have hlo : IntKind.u64.wrap ((x : Int) * (y : Int)) = ((x * y % 18446744073709551616 : Nat) : Int) := by
    rw [← Int.natCast_mul, IntKind.wrap_u64]
    omega
  have mA : ((x % 4294967296 : Nat) : Int) * ((y % 4294967296 : Nat) : Int) = (((x % 4294967296) * (y % 4294967296) : Nat) : Int) := (Int.natCast_mul _ _).symm
  have mB : ((x / 4294967296 : Nat) : Int) * ((y % 4294967296 : Nat) : Int) = (((x / 4294967296) * (y % 4294967296) : Nat) : Int) := (Int.natCast_mul _ _).symm
  have mC : ((x % 4294967296 : Nat) : Int) * ((y / 4294967296 : Nat) : Int) = (((x % 4294967296) * (y / 4294967296) : Nat) : Int) := (Int.natCast_mul _ _).symm
  have mD : ((x / 4294967296 : Nat) : Int) * ((y / 4294967296 : Nat) : Int) = (((x / 4294967296) * (y / 4294967296) : Nat) : Int) := (Int.natCast_mul _ _).symm
  generalize (x % 4294967296) * (y % 4294967296) = A at *
  generalize (x / 4294967296) * (y % 4294967296) = B at *
  generalize (x % 4294967296) * (y / 4294967296) = C at *
  generalize (x / 4294967296) * (y / 4294967296) = D at *
  have hXlt : x * y < 340282366920938463463374607431768211456 := by omega
  generalize x * y = XY at *
  obtain ⟨T, hT⟩ : ∃ T, T = B + A / 4294967296 := ⟨_, rfl⟩
  obtain ⟨S, hS⟩ : ∃ S, S = T % 4294967296 + C := ⟨_, rfl⟩
  have hT64 : T < 18446744073709551616 := by omega
  have hS64 : S < 18446744073709551616 := by omega
  have hHI : D + T / 4294967296 + S / 4294967296 = XY / 18446744073709551616 := by omega
  have hTi : (B : Int) + (A : Int) / 4294967296 = (T : Int) := by omega
  have hTa := and_mask32 T hT64
  have hSi : ((T % 4294967296 : Nat) : Int) + (C : Int) = (S : Int) := by omega
  have hT1 : (T : Int) / 4294967296 = ((T / 4294967296 : Nat) : Int) := by omega
  have hS1 : (S : Int) / 4294967296 = ((S / 4294967296 : Nat) : Int) := by omega
  have hHi64 : XY / 18446744073709551616 < 18446744073709551616 := by omega
  have hHIi : (D : Int) + ((T / 4294967296 : Nat) : Int) + ((S / 4294967296 : Nat) : Int) = ((XY / 18446744073709551616 : Nat) : Int) := by omega
  generalize XY / 18446744073709551616 = HI at *
  generalize XY % 18446744073709551616 = LO at *
  clear hp hXlt
  have hTb : T / 4294967296 < 4294967296 := by omega
  have hSb : S / 4294967296 < 4294967296 := by omega
  have hT0 : T % 4294967296 < 4294967296 := by omega
  clear hHI hT hS
  generalize T / 4294967296 = T1 at *
  generalize S / 4294967296 = S1 at *
  generalize T % 4294967296 = T0 at *
  generalize x / 4294967296 = x1 at *
  generalize y / 4294967296 = y1 at *
  generalize x % 4294967296 = x0 at *
  generalize y % 4294967296 = y0 at *
  go_enter Tryz.func211, Tryz.ntmps211
  go_wp2
  go_ret2
  exact ⟨rfl, rfl⟩
end Go.Proofs.YtmehcfocfljoeaaGreatDoor

namespace Go.Proofs.YtmehcfocfljoeaaGreatDoor

/-- A digit that was guessed too great. -/
theorem kn_more {X d y1 y0 y b q qh rh : Nat} (hy : y = y1 * b + y0) (hX : qh * y1 + rh = X) (hq1 : q * y ≤ X * b + d) (hq2 : q < b) (hc : b ≤ qh ∨ b * rh + d < qh * y0) : q < qh := by
  rcases Nat.lt_or_ge q qh with h | h
  · exact h
  · rcases hc with hc | hc
    · omega
    · have h1 : qh * y ≤ q * y := Nat.mul_le_mul_right y h
      have h2 : qh * y = qh * y1 * b + qh * y0 := by rw [hy, Nat.mul_add, Nat.mul_assoc]
      have h3 : X * b = qh * y1 * b + b * rh := by rw [← hX, Nat.add_mul, Nat.mul_comm rh b]
      omega
/-- One that is right. -/
theorem kn_done {X d y1 y0 y b q qh rh : Nat} (hy : y = y1 * b + y0) (hX : qh * y1 + rh = X) (hq : X * b + d < (q + 1) * y) (hle : q ≤ qh) (hc : qh * y0 ≤ b * rh + d) : qh = q := by
  have h2 : qh * y = qh * y1 * b + qh * y0 := by rw [hy, Nat.mul_add, Nat.mul_assoc]
  have h3 : X * b = qh * y1 * b + b * rh := by rw [← hX, Nat.add_mul, Nat.mul_comm rh b]
  have h4 : qh * y < (q + 1) * y := by omega
  have h5 := Nat.lt_of_mul_lt_mul_right h4
  omega
/-- The first guess: not too small, and at most one above the base. -/
theorem kn_first {X d y1 y0 y b q : Nat} (hy : y = y1 * b + y0) (h0 : y0 < b) (hb : b ≤ 2 * y1) (_hb0 : 0 < b) (hX : X < y) (hd : d < b) (hq1 : q * y ≤ X * b + d) : q ≤ X / y1 ∧ X / y1 ≤ b + 1 := by
  have hy1 : 0 < y1 := by omega
  constructor
  · rw [Nat.le_div_iff_mul_le hy1]
    have h2 : q * y = q * y1 * b + q * y0 := by rw [hy, Nat.mul_add, Nat.mul_assoc]
    have h3 : q * y1 * b < (X + 1) * b := by rw [Nat.add_mul]; omega
    have := Nat.lt_of_mul_lt_mul_right h3
    omega
  · have : X / y1 < b + 2 := by
      rw [Nat.div_lt_iff_lt_mul hy1]
      have : (b + 2) * y1 = y1 * b + 2 * y1 := by rw [Nat.add_mul, Nat.mul_comm b y1]
      omega
    omega
theorem kn_digit {X d y b : Nat} (hX : X < y) (hd : d < b) : (X * b + d) / y < b := by
  have hy : 0 < y := by omega
  rw [Nat.div_lt_iff_lt_mul hy]
  have : (X + 1) * b ≤ y * b := Nat.mul_le_mul_right b (by omega)
  rw [Nat.add_mul, Nat.one_mul] at this
  rw [Nat.mul_comm b y]
  omega
/-- Two digits are the whole of it. -/
theorem kn_two {U y b X d1 d0 B : Nat} (hB : B = b * b) (hy : 0 < y) (hU : U = X * B + d1 * b + d0) :
    let q1 := (X * b + d1) / y
    let r1 := (X * b + d1) % y
    q1 * b + (r1 * b + d0) / y = U / y ∧ (r1 * b + d0) % y = U % y := by
  subst hB
  intro q1 r1
  have h1 : X * b + d1 = y * q1 + r1 := (Nat.div_add_mod _ _).symm
  have h2 : U = y * (q1 * b) + (r1 * b + d0) := by
    have : (X * b + d1) * b = (y * q1 + r1) * b := by rw [h1]
    rw [Nat.add_mul, Nat.add_mul, Nat.mul_assoc X, Nat.mul_assoc y] at this
    omega
  constructor
  · rw [h2, Nat.mul_add_div hy]
  · rw [h2, Nat.mul_add_mod]
/-- .. shifted. -/
theorem kn_shift {N y p : Nat} (hp : 0 < p) : N * p / (y * p) = N / y ∧ N * p % (y * p) / p = N % y := by
  constructor
  · exact Nat.mul_div_mul_right N y hp
  · rw [Nat.mul_mod_mul_right, Nat.mul_div_cancel _ hp]
end Go.Proofs.YtmehcfocfljoeaaGreatDoor
