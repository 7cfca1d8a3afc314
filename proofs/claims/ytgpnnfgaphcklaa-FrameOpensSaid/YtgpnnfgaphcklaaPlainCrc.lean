/-
  The sums of frames, plainly: a step is linear, and tells every two states apart; what stands behind its own sum leaves one state. Conditions: none.
-/
import Derived.Test.YtgpnnfgaphcklaaPlainTaken
namespace Go.Proofs.Ytgpnnfgaphcklaa

/-- A sum behind one bit more. -/
def crcT (c : Nat) : Nat := if c % 2 = 1 then (c / 2) ^^^ 3988292384 else c / 2
def crcTN : Nat → Nat → Nat
  | 0, c => c
  | n + 1, c => crcT (crcTN n c)
def crcStep (c : Nat) (b : UInt8) : Nat := crcTN 8 (c ^^^ b.toNat)
def crcOf (c : Nat) (l : List UInt8) : Nat := l.foldl crcStep c
def crcSum (l : List UInt8) : Nat := 4294967295 - crcOf 4294967295 l
def fourB (c : Nat) : List UInt8 := [UInt8.ofNat (c % 256), UInt8.ofNat (c / 256 % 256), UInt8.ofNat (c / 65536 % 256), UInt8.ofNat (c / 16777216 % 256)]

theorem crcT_lt {c : Nat} (h : c < 4294967296) : crcT c < 4294967296 := by
  unfold crcT
  split
  · exact Nat.xor_lt_two_pow (n := 32) (by omega) (by omega)
  · omega
theorem crcTN_lt {c : Nat} (h : c < 4294967296) (n : Nat) : crcTN n c < 4294967296 := by
  induction n with
  | zero => exact h
  | succ n ih => exact crcT_lt ih
theorem xor_byte_lt {c : Nat} (h : c < 4294967296) (b : UInt8) : c ^^^ b.toNat < 4294967296 := Nat.xor_lt_two_pow (n := 32) (by omega) (by have := b.toNat_lt; omega)
theorem crcStep_lt {c : Nat} (h : c < 4294967296) (b : UInt8) : crcStep c b < 4294967296 := crcTN_lt (xor_byte_lt h b) 8
theorem crcOf_lt {c : Nat} (h : c < 4294967296) (l : List UInt8) : crcOf c l < 4294967296 := by
  induction l generalizing c with
  | nil => exact h
  | cons b l ih => exact ih (crcStep_lt h b)
theorem crcSum_lt (l : List UInt8) : crcSum l < 4294967296 := by unfold crcSum; omega
theorem crcOf_append (c : Nat) (x y : List UInt8) : crcOf c (x ++ y) = crcOf (crcOf c x) y := List.foldl_append
theorem crcOf_take_succ (c : Nat) (l : List UInt8) (k : Nat) (h : k < l.length) : crcOf c (l.take (k + 1)) = crcStep (crcOf c (l.take k)) l[k] := by
  rw [List.take_succ_eq_append_getElem h, crcOf_append]
  rfl

theorem crcT_xor (a b : Nat) : crcT (a ^^^ b) = crcT a ^^^ crcT b := by
  have hm : (a ^^^ b) % 2 = (a + b) % 2 := by
    have := @Nat.xor_mod_two_eq_one a b
    omega
  have hd : (a ^^^ b) / 2 = a / 2 ^^^ b / 2 := Nat.xor_div_two
  unfold crcT
  rw [hm, hd]
  generalize a / 2 = p
  generalize b / 2 = q
  rcases Nat.mod_two_eq_zero_or_one a with ha | ha <;> rcases Nat.mod_two_eq_zero_or_one b with hb | hb
  · rw [if_neg (by omega), if_neg (by omega), if_neg (by omega)]
  · rw [if_pos (by omega), if_neg (by omega), if_pos (by omega), Nat.xor_assoc]
  · rw [if_pos (by omega), if_pos (by omega), if_neg (by omega), Nat.xor_assoc, Nat.xor_assoc, Nat.xor_comm q]
  · rw [if_neg (by omega), if_pos (by omega), if_pos (by omega)]
    rw [Nat.xor_assoc, Nat.xor_comm 3988292384 (q ^^^ 3988292384), Nat.xor_assoc, Nat.xor_self, Nat.xor_zero]
theorem crcTN_xor (n a b : Nat) : crcTN n (a ^^^ b) = crcTN n a ^^^ crcTN n b := by
  induction n with
  | zero => rfl
  | succ n ih => simp only [crcTN, ih, crcT_xor]
theorem crcT_even (m : Nat) : crcT (2 * m) = m := by
  unfold crcT
  rw [if_neg (by omega)]
  omega
theorem crcTN_shift (n m : Nat) : crcTN n (2 ^ n * m) = m := by
  induction n generalizing m with
  | zero => simp [crcTN]
  | succ n ih =>
    rw [crcTN, show 2 ^ (n + 1) * m = 2 ^ n * (2 * m) from by rw [Nat.pow_succ, Nat.mul_assoc], ih, crcT_even]
theorem crcTN_add (m n c : Nat) : crcTN m (crcTN n c) = crcTN (m + n) c := by
  induction m with
  | zero => simp [crcTN]
  | succ m ih => rw [show m + 1 + n = (m + n) + 1 from by omega, crcTN, crcTN, ih]
theorem crcT_inj {a b : Nat} (ha : a < 4294967296) (hb : b < 4294967296) (h : crcT a = crcT b) : a = b := by
  have top : ∀ x, x < 2147483648 → 2147483648 ≤ x ^^^ 3988292384 := fun x hx => by
    have h1 : (x ^^^ 3988292384) / 2147483648 = 1 := by
      have := Nat.xor_div_two_pow (a := x) (b := 3988292384) (n := 31)
      rw [show (2 : Nat) ^ 31 = 2147483648 from by decide] at this
      rw [this, Nat.div_eq_of_lt hx]
      decide
    omega
  unfold crcT at h
  by_cases h1 : a % 2 = 1 <;> by_cases h2 : b % 2 = 1
  · rw [if_pos h1, if_pos h2] at h
    have := congrArg (· ^^^ 3988292384) h
    simp only [Nat.xor_assoc, Nat.xor_self, Nat.xor_zero] at this
    omega
  · rw [if_pos h1, if_neg h2] at h
    have := top (a / 2) (by omega)
    omega
  · rw [if_neg h1, if_pos h2] at h
    have := top (b / 2) (by omega)
    omega
  · rw [if_neg h1, if_neg h2] at h
    omega
theorem crcTN_inj {n a b : Nat} (ha : a < 4294967296) (hb : b < 4294967296) (h : crcTN n a = crcTN n b) : a = b := by
  induction n with
  | zero => exact h
  | succ n ih => exact ih (crcT_inj (crcTN_lt ha n) (crcTN_lt hb n) h)
theorem xor_cancel_right {a b c : Nat} (h : a ^^^ c = b ^^^ c) : a = b := by
  have := congrArg (· ^^^ c) h
  simpa only [Nat.xor_assoc, Nat.xor_self, Nat.xor_zero] using this
theorem xor_cancel_left {a b c : Nat} (h : c ^^^ a = c ^^^ b) : a = b := by
  rw [Nat.xor_comm c, Nat.xor_comm c] at h
  exact xor_cancel_right h
theorem crcOf_inj {a b : Nat} (ha : a < 4294967296) (hb : b < 4294967296) (l : List UInt8) (h : crcOf a l = crcOf b l) : a = b := by
  induction l generalizing a b with
  | nil => exact h
  | cons x l ih => exact xor_cancel_right (crcTN_inj (xor_byte_lt ha x) (xor_byte_lt hb x) (ih (crcStep_lt ha x) (crcStep_lt hb x) h))

theorem xor_ones32 (b : Nat) (hb : b < 4294967296) : b ^^^ (4294967295 - b) = 4294967295 := by
  apply Nat.eq_of_testBit_eq
  intro i
  rw [Nat.testBit_xor, show 4294967295 - b = 2 ^ 32 - (b + 1) from by omega, Nat.testBit_two_pow_sub_succ (by omega), show (4294967295 : Nat) = 2 ^ 32 - 1 from rfl, Nat.testBit_two_pow_sub_one]
  by_cases h : i < 32
  · simp [h]
  · simp [h]
    exact Nat.testBit_lt_two_pow (Nat.lt_of_lt_of_le (show b < 2 ^ 32 from hb) (Nat.pow_le_pow_right (by omega) (by omega)))

/-- Four bytes, as one number, the lowest first. -/
def word4 (a b c d : UInt8) : Nat := a.toNat ^^^ (256 * b.toNat ^^^ (65536 * c.toNat ^^^ 16777216 * d.toNat))
theorem crcOf_four (s : Nat) (a b c d : UInt8) : crcOf s [a, b, c, d] = crcTN 32 (s ^^^ word4 a b c d) := by
  have sh : ∀ (y n : Nat) (x : Nat), crcTN n y ^^^ x = crcTN n (y ^^^ 2 ^ n * x) := fun y n x => by rw [crcTN_xor, crcTN_shift]
  show crcStep (crcStep (crcStep (crcStep s a) b) c) d = _
  simp only [crcStep]
  rw [sh _ 8 b.toNat, crcTN_add, sh _ (8 + 8) c.toNat, crcTN_add, sh _ (8 + (8 + 8)) d.toNat, crcTN_add]
  rw [word4]
  simp only [Nat.xor_assoc, Nat.reduceAdd, Nat.reducePow]
end Go.Proofs.Ytgpnnfgaphcklaa
