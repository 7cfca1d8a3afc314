/-
  Plain laws on a number's bytes: natB, seven bits in each, the lowest first. Conditions: none.
-/
import Derived.WalkKit
import Derived.Laws.BitsAllLaws
namespace Go.Proofs.YtmehcfocfljoeaaGreatDoor
open Go.RowKit

def natB (n : Nat) : List UInt8 := if n < 128 then [UInt8.ofNat n] else UInt8.ofNat (128 + n % 128) :: natB (n / 128)
termination_by n
decreasing_by omega

theorem natB_lt {n : Nat} (h : n < 128) : natB n = [UInt8.ofNat n] := by rw [natB, if_pos h]
theorem natB_ge {n : Nat} (h : 128 ≤ n) : natB n = UInt8.ofNat (128 + n % 128) :: natB (n / 128) := by rw [natB, if_neg (by omega)]

theorem natB_pos (n : Nat) : 0 < (natB n).length := by
  by_cases h : n < 128
  · rw [natB_lt h]; simp
  · rw [natB_ge (by omega)]; simp

theorem natB_len (k : Nat) : ∀ n, n < 128 ^ (k + 1) → (natB n).length ≤ k + 1 := by
  induction k with
  | zero => intro n h; rw [natB_lt (by omega)]; simp
  | succ k ih =>
    intro n h
    by_cases h1 : n < 128
    · rw [natB_lt h1]; simp
    · rw [natB_ge (by omega)]
      have := ih (n / 128) (by
        rw [Nat.pow_succ] at h
        exact Nat.div_lt_of_lt_mul (by omega))
      simp
      omega

theorem natB_len10 {n : Nat} (h : n < 2 ^ 64) : (natB n).length ≤ 10 := natB_len 9 n (by
  have : (2 : Nat) ^ 64 < 128 ^ 10 := by decide
  omega)
theorem toNat_ofNat {n : Nat} (h : n < 256) : (UInt8.ofNat n).toNat = n := by simp; omega

/-- 'byte(u) | 0x80', as the model reckons it. -/
theorem or_128 (m : Nat) : bits .or .u8 ((m : Int) % 256) 128 = ((UInt8.ofNat (128 + m % 128)).toNat : Int) := by
  have h : ∀ k : Nat, k < 256 → bits .or .u8 (k : Int) 128 = ((UInt8.ofNat (128 + k % 128)).toNat : Int) := by decide +kernel
  have := h (m % 256) (by omega)
  rw [show ((m % 256 : Nat) : Int) = (m : Int) % 256 from by omega, show m % 256 % 128 = m % 128 from by omega] at this
  exact this
theorem byte_lt (m : Nat) (h : m < 128) : (m : Int) % 256 = ((UInt8.ofNat m).toNat : Int) := by
  rw [toNat_ofNat (by omega)]; omega
/-- A value with a sign as a number without, small magnitudes small; and back. -/
def zig (x : Int) : Nat := if x < 0 then (-2 * x - 1).toNat else (2 * x).toNat
def zag (u : Nat) : Int := if u % 2 = 0 then (u / 2 : Nat) else -((u / 2 : Nat) : Int) - 1

theorem zig_lt {x : Int} (h0 : -9223372036854775808 ≤ x) (h1 : x < 9223372036854775808) : zig x < 2 ^ 64 := by unfold zig; split <;> omega
theorem zag_zig (x : Int) : zag (zig x) = x := by unfold zig zag; split <;> split <;> omega
theorem zig_zag (u : Nat) : zig (zag u) = u := by unfold zig zag; split <;> split <;> omega
theorem zag_range {u : Nat} (h : u < 2 ^ 64) : -9223372036854775808 ≤ zag u ∧ zag u < 9223372036854775808 := by unfold zag; split <;> omega

theorem xor_ones_u64 (a : Nat) (ha : a < 18446744073709551616) : bits .xor .u64 (a : Int) 18446744073709551615 = 18446744073709551615 - (a : Int) := by
  show IntKind.u64.wrap ((BitVec.ofInt 64 (a : Int) ^^^ BitVec.ofInt 64 18446744073709551615).toNat : Int) = _
  have h1 : BitVec.ofInt 64 18446744073709551615 = BitVec.allOnes 64 := by decide
  rw [h1, BitVec.xor_allOnes, BitVec.toNat_not, ofInt_u64 a ha]
  simp [IntKind.wrap, IntKind.bits, IntKind.signed]
  omega
theorem xor_zero_u64 (a : Nat) (ha : a < 18446744073709551616) : bits .xor .u64 (a : Int) 0 = (a : Int) := by
  rw [u64_xor _ _ (by omega) (by omega) (by omega) (by omega)]
  simp
theorem wrap_u64' (n : Int) : IntKind.u64.wrap n = n % 18446744073709551616 := by simp [IntKind.wrap, IntKind.bits, IntKind.signed]

/-- 'uint64(x)<<1 ^ uint64(x>>63)', as the model reckons it. -/
theorem zig_bits (x : Int) (h0 : -9223372036854775808 ≤ x) (h1 : x < 9223372036854775808) :
    bits .xor .u64 (IntKind.u64.wrap (IntKind.u64.wrap x * 2)) (IntKind.u64.wrap (x / 9223372036854775808)) = (zig x : Int) := by
  simp only [wrap_u64']
  by_cases hx : x < 0
  · have e1 : x / 9223372036854775808 % 18446744073709551616 = 18446744073709551615 := by omega
    obtain ⟨a, ha⟩ := Int.eq_ofNat_of_zero_le (show 0 ≤ x % 18446744073709551616 * 2 % 18446744073709551616 by omega)
    rw [e1, ha, xor_ones_u64 a (by omega)]
    unfold zig
    rw [if_pos hx]
    omega
  · have e1 : x / 9223372036854775808 % 18446744073709551616 = 0 := by omega
    obtain ⟨a, ha⟩ := Int.eq_ofNat_of_zero_le (show 0 ≤ x % 18446744073709551616 * 2 % 18446744073709551616 by omega)
    rw [e1, ha, xor_zero_u64 a (by omega)]
    unfold zig
    rw [if_neg hx]
    omega

theorem xor_neg1_i64 (a : Nat) (ha : a < 9223372036854775808) : bits .xor .i64 (a : Int) (-1) = -1 - (a : Int) := by
  show IntKind.i64.wrap ((BitVec.ofInt 64 (a : Int) ^^^ BitVec.ofInt 64 (-1)).toNat : Int) = _
  have h1 : BitVec.ofInt 64 (-1) = BitVec.allOnes 64 := by decide
  rw [h1, BitVec.xor_allOnes, BitVec.toNat_not, ofInt_u64 a (by omega)]
  simp [IntKind.wrap, IntKind.bits, IntKind.signed]
  omega
theorem xor_zero_i64 (a : Nat) (ha : a < 9223372036854775808) : bits .xor .i64 (a : Int) 0 = (a : Int) := by
  show IntKind.i64.wrap ((BitVec.ofInt 64 (a : Int) ^^^ BitVec.ofInt 64 0).toNat : Int) = _
  have h1 : BitVec.ofInt 64 0 = 0#64 := by decide
  rw [h1, BitVec.xor_zero, ofInt_u64 a (by omega)]
  simp [IntKind.wrap, IntKind.bits, IntKind.signed]
  omega

/-- 'int64(u>>1) ^ -int64(u&1)', as the model reckons it. -/
theorem zag_bits (u : Nat) (h : u < 18446744073709551616) :
    bits .xor .i64 ((u : Int) / 2) (wrap64 (-wrap64 (bits .and .u64 (u : Int) 1))) = zag u := by
  rw [u64_and _ _ (by omega) (by omega) (by omega) (by omega)]
  have e1 : ((u : Int).toNat &&& (1 : Int).toNat : Nat) = u % 2 := by
    show u &&& 1 = u % 2
    exact Nat.and_one_is_mod u
  rw [e1]
  have e2 : (u : Int) / 2 = ((u / 2 : Nat) : Int) := by omega
  rw [e2]
  unfold zag
  rcases Nat.mod_two_eq_zero_or_one u with h2 | h2
  · rw [h2, if_pos rfl]
    have : wrap64 (-wrap64 ((0 : Nat) : Int)) = 0 := by unfold wrap64; omega
    rw [this, xor_zero_i64 _ (by omega)]
  · rw [h2, if_neg (by omega)]
    have : wrap64 (-wrap64 ((1 : Nat) : Int)) = -1 := by unfold wrap64; omega
    rw [this, xor_neg1_i64 _ (by omega)]
    omega
theorem pow128 (i : Nat) : (128 : Nat) ^ i = 2 ^ (7 * i) := by rw [Nat.pow_mul]

/-- 'u |= uint64(c&0x7f) << shift', as the model reckons it. -/
theorem or_shl (u i c : Nat) (hi : i ≤ 9) (hc : c < 256) (h9 : i = 9 → c % 128 ≤ 1) (hu : u < 128 ^ i) :
    bits .or .u64 (u : Int) (IntKind.u64.wrap (IntKind.u64.wrap (bits .and .u8 (c : Int) 127) * 2 ^ (7 * i))) = ((u + c % 128 * 128 ^ i : Nat) : Int) := by
  have hand : bits .and .u8 (c : Int) 127 = ((c % 128 : Nat) : Int) := by
    have h : ∀ k : Nat, k < 256 → bits .and .u8 (k : Int) 127 = ((k % 128 : Nat) : Int) := by decide +kernel
    exact h c hc
  have hp : (128 : Nat) ^ i ≤ 2 ^ 63 := by rw [pow128]; exact Nat.pow_le_pow_right (by decide) (by omega)
  have hlt : c % 128 * 128 ^ i < 18446744073709551616 := by
    by_cases h : i = 9
    · subst h
      have := h9 rfl
      omega
    · have hp : (128 : Nat) ^ i ≤ 128 ^ 8 := Nat.pow_le_pow_right (by decide) (by omega)
      have : c % 128 * 128 ^ i ≤ 127 * 128 ^ 8 := Nat.mul_le_mul (by omega) hp
      omega
  rw [hand, wrap_u64' ((c % 128 : Nat) : Int), wrap_u64']
  have e1 : (((c % 128 : Nat) : Int) % 18446744073709551616 * 2 ^ (7 * i)) % 18446744073709551616 = ((c % 128 * 128 ^ i : Nat) : Int) := by
    have : ((c % 128 : Nat) : Int) % 18446744073709551616 = ((c % 128 : Nat) : Int) := by omega
    rw [this, pow128, show ((2 : Int) ^ (7 * i)) = ((2 ^ (7 * i) : Nat) : Int) from by norm_cast, ← Int.natCast_mul, ← pow128]
    omega
  rw [e1, u64_or_nat _ _ (by omega) hlt, pow128, ← Nat.shiftLeft_eq, Nat.or_comm, ← Nat.shiftLeft_add_eq_or_of_lt (by rw [← pow128]; exact hu), Nat.add_comm]

/-- What an eye does: on the bytes that are left, or bad (none). -/
def eRaw (n : Int) : Option (List UInt8) → List UInt8 × Option (List UInt8)
  | none => ([], none)
  | some l => if 0 ≤ n ∧ n ≤ l.length then (l.take n.toNat, some (l.drop n.toNat)) else ([], none)

/-- A number at the head of bytes, at its i-th one: the number, and what is left. -/
def leb : Nat → List UInt8 → Option (Nat × List UInt8)
  | _, [] => none
  | i, b :: r =>
    if i = 9 ∧ 1 < b.toNat ∨ b.toNat = 0 ∧ 0 < i then none
    else if 128 ≤ b.toNat then (leb (i + 1) r).map fun p => (b.toNat % 128 + 128 * p.1, p.2)
    else some (b.toNat, r)

def eNat (most : Nat) : Option (List UInt8) → Nat × Option (List UInt8)
  | none => (0, none)
  | some l => match leb 0 l with
    | some (v, r) => if v ≤ most then (v, some r) else (0, none)
    | none => (0, none)
theorem eNat_le (most : Nat) (st : Option (List UInt8)) : (eNat most st).1 ≤ most := by
  cases st with
  | none => simp [eNat]
  | some l =>
    unfold eNat
    cases hl : leb 0 l with
    | none => simp [hl]
    | some p =>
      simp only [hl]
      split
      · assumption
      · simp
end Go.Proofs.YtmehcfocfljoeaaGreatDoor
