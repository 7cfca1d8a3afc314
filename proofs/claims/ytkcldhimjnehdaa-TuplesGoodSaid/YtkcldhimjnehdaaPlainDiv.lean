/-
  The division of a number of two words by one: a digit at a time, plainly. Conditions: none.
-/
namespace Go.Proofs.Ytkcldhimjnehdaa

/-- A digit that was guessed too great. -/
theorem kn_more {X d y1 y0 y b q qh rh : Nat} (hy : y = y1 * b + y0) (hX : qh * y1 + rh = X) (hq1 : q * y ≤ X * b + d) (hq2 : q < b) (hc : b ≤ qh ∨ b * rh + d < qh * y0) : q < qh := by
  rcases Nat.lt_or_ge q qh with h | h
  · exact h
  · rcases hc with hc | hc
    · omega
    · have h1 : qh * y ≤ q * y := Nat.mul_le_mul_right y h
      have h2 : qh * y = qh * y1 * b + qh * y0 := by rw [hy, Nat.mul_add, Nat.mul_assoc]
      have h3 : X * b = qh * y1 * b + b * rh := by rw [← hX, Nat.add_mul, Nat.mul_comm rh b]
      omega
/-- One that is right. -/
theorem kn_done {X d y1 y0 y b q qh rh : Nat} (hy : y = y1 * b + y0) (hX : qh * y1 + rh = X) (hq : X * b + d < (q + 1) * y) (hle : q ≤ qh) (hc : qh * y0 ≤ b * rh + d) : qh = q := by
  have h2 : qh * y = qh * y1 * b + qh * y0 := by rw [hy, Nat.mul_add, Nat.mul_assoc]
  have h3 : X * b = qh * y1 * b + b * rh := by rw [← hX, Nat.add_mul, Nat.mul_comm rh b]
  have h4 : qh * y < (q + 1) * y := by omega
  have h5 := Nat.lt_of_mul_lt_mul_right h4
  omega
/-- The first guess: not too small, and at most one above the base. -/
theorem kn_first {X d y1 y0 y b q : Nat} (hy : y = y1 * b + y0) (h0 : y0 < b) (hb : b ≤ 2 * y1) (_hb0 : 0 < b) (hX : X < y) (hd : d < b) (hq1 : q * y ≤ X * b + d) : q ≤ X / y1 ∧ X / y1 ≤ b + 1 := by
  have hy1 : 0 < y1 := by omega
  constructor
  · rw [Nat.le_div_iff_mul_le hy1]
    have h2 : q * y = q * y1 * b + q * y0 := by rw [hy, Nat.mul_add, Nat.mul_assoc]
    have h3 : q * y1 * b < (X + 1) * b := by rw [Nat.add_mul]; omega
    have := Nat.lt_of_mul_lt_mul_right h3
    omega
  · have : X / y1 < b + 2 := by
      rw [Nat.div_lt_iff_lt_mul hy1]
      have : (b + 2) * y1 = y1 * b + 2 * y1 := by rw [Nat.add_mul, Nat.mul_comm b y1]
      omega
    omega
theorem kn_digit {X d y b : Nat} (hX : X < y) (hd : d < b) : (X * b + d) / y < b := by
  have hy : 0 < y := by omega
  rw [Nat.div_lt_iff_lt_mul hy]
  have : (X + 1) * b ≤ y * b := Nat.mul_le_mul_right b (by omega)
  rw [Nat.add_mul, Nat.one_mul] at this
  rw [Nat.mul_comm b y]
  omega
/-- Two digits are the whole of it. -/
theorem kn_two {U y b X d1 d0 B : Nat} (hB : B = b * b) (hy : 0 < y) (hU : U = X * B + d1 * b + d0) :
    let q1 := (X * b + d1) / y
    let r1 := (X * b + d1) % y
    q1 * b + (r1 * b + d0) / y = U / y ∧ (r1 * b + d0) % y = U % y := by
  subst hB
  intro q1 r1
  have h1 : X * b + d1 = y * q1 + r1 := (Nat.div_add_mod _ _).symm
  have h2 : U = y * (q1 * b) + (r1 * b + d0) := by
    have : (X * b + d1) * b = (y * q1 + r1) * b := by rw [h1]
    rw [Nat.add_mul, Nat.add_mul, Nat.mul_assoc X, Nat.mul_assoc y] at this
    omega
  constructor
  · rw [h2, Nat.mul_add_div hy]
  · rw [h2, Nat.mul_add_mod]
/-- .. shifted. -/
theorem kn_shift {N y p : Nat} (hp : 0 < p) : N * p / (y * p) = N / y ∧ N * p % (y * p) / p = N % y := by
  constructor
  · exact Nat.mul_div_mul_right N y hp
  · rw [Nat.mul_mod_mul_right, Nat.mul_div_cancel _ hp]
end Go.Proofs.Ytkcldhimjnehdaa
