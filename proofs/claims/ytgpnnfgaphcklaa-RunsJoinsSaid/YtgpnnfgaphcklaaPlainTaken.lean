/-
  Plain laws: a number's bytes are read again, and only these; what the reference's Taken comes to. Conditions: none.
-/
import Derived.Test.YtgpnnfgaphcklaaPlainQuill
namespace Go.Proofs.Ytgpnnfgaphcklaa
open Go.RowKit

/-- What the low seven bits of each byte come to. -/
def valB (l : List UInt8) : Nat := l.foldr (fun b acc => b.toNat % 128 + 128 * acc) 0
theorem valB_cons (b : UInt8) (l : List UInt8) : valB (b :: l) = b.toNat % 128 + 128 * valB l := rfl

theorem natB_induct {P : Nat → Prop} (h0 : ∀ n, n < 128 → P n) (h1 : ∀ n, 128 ≤ n → P (n / 128) → P n) (n : Nat) : P n := by
  induction n using Nat.strongRecOn with
  | _ n ih =>
    by_cases h : n < 128
    · exact h0 n h
    · exact h1 n (by omega) (ih (n / 128) (by omega))

theorem valB_natB (n : Nat) : valB (natB n) = n := by
  induction n using natB_induct with
  | h0 n h => rw [natB_lt h, valB_cons, toNat_ofNat (by omega)]; simp [valB]; omega
  | h1 n h ih => rw [natB_ge h, valB_cons, ih, toNat_ofNat (by omega)]; omega

/-- All bytes of a number but the last one are 128 at least; the last one is below. -/
def shaped (l : List UInt8) : Prop := ∃ a b, l = a ++ [b] ∧ (∀ c ∈ a, 128 ≤ c.toNat) ∧ b.toNat < 128
theorem natB_shaped (n : Nat) : shaped (natB n) := by
  induction n using natB_induct with
  | h0 n h => rw [natB_lt h]; exact ⟨[], _, rfl, by simp, by rw [toNat_ofNat (by omega)]; omega⟩
  | h1 n h ih =>
    obtain ⟨a, b, e, h2, h3⟩ := ih
    rw [natB_ge h, e]
    refine ⟨UInt8.ofNat (128 + n % 128) :: a, b, rfl, fun c hc => ?_, h3⟩
    rcases List.mem_cons.1 hc with rfl | hc
    · rw [toNat_ofNat (by omega)]; omega
    · exact h2 c hc

/-- Two texts, each begun by shaped bytes: these are one. -/
theorem shaped_unique : ∀ (x y r s : List UInt8), shaped x → shaped y → x ++ r = y ++ s → x = y := by
  have gen : ∀ (a1 a2 : List UInt8) (b1 b2 : UInt8) (r s : List UInt8), (∀ c ∈ a1, 128 ≤ c.toNat) → (∀ c ∈ a2, 128 ≤ c.toNat) → b1.toNat < 128 → b2.toNat < 128 → a1 ++ b1 :: r = a2 ++ b2 :: s → a1 ++ [b1] = a2 ++ [b2] := by
    intro a1
    induction a1 with
    | nil =>
      intro a2 b1 b2 r s _ h2 hb1 _ he
      cases a2 with
      | nil => simp at he; simp [he.1]
      | cons c t =>
        simp at he
        have := h2 c (by simp)
        rw [← he.1] at this
        omega
    | cons d t ih =>
      intro a2 b1 b2 r s h1 h2 hb1 hb2 he
      cases a2 with
      | nil =>
        simp at he
        have := h1 d (by simp)
        rw [he.1] at this
        omega
      | cons c t' =>
        simp at he
        have := ih t' b1 b2 r s (fun c hc => h1 c (by simp [hc])) (fun c hc => h2 c (by simp [hc])) hb1 hb2 he.2
        simp [he.1, this]
  rintro x y r s ⟨a1, b1, rfl, h1, hb1⟩ ⟨a2, b2, rfl, h2, hb2⟩ he
  exact gen a1 a2 b1 b2 r s h1 h2 hb1 hb2 (by simpa using he)

theorem leb_natB (v : Nat) : ∀ (i : Nat) (r : List UInt8), i ≤ 9 → v < 2 ^ (64 - 7 * i) → (0 < i → 0 < v) → leb i (natB v ++ r) = some (v, r) := by
  induction v using natB_induct with
  | h0 n h =>
    intro i r hi hv h0
    rw [natB_lt h]
    have hc : (UInt8.ofNat n).toNat = n := toNat_ofNat (by omega)
    simp only [List.cons_append, List.nil_append, leb, hc]
    rw [if_neg, if_neg (by omega)]
    rintro (⟨rfl, h1⟩ | ⟨rfl, h1⟩)
    · simp at hv; omega
    · have := h0 h1; omega
  | h1 n h ih =>
    intro i r hi hv h0
    rw [natB_ge h]
    have hc : (UInt8.ofNat (128 + n % 128)).toNat = 128 + n % 128 := toNat_ofNat (by omega)
    simp only [List.cons_append, leb, hc]
    have hi9 : i < 9 := by
      rcases Nat.lt_or_ge i 9 with h9 | h9
      · exact h9
      · obtain rfl : i = 9 := by omega
        simp at hv; omega
    have hp : (2 : Nat) ^ (64 - 7 * i) = 128 * 2 ^ (64 - 7 * (i + 1)) := by
      rw [show 64 - 7 * i = 7 + (64 - 7 * (i + 1)) from by omega, Nat.pow_add]
    rw [if_neg (by omega), if_pos (by omega), ih (i + 1) r (by omega) (by rw [hp] at hv; omega) (by omega)]
    simp
    omega

theorem leb_sound : ∀ (l : List UInt8) (i v : Nat) (r : List UInt8), i ≤ 9 → leb i l = some (v, r) → l = natB v ++ r ∧ v < 2 ^ (64 - 7 * i) ∧ (0 < i → 0 < v) := by
  intro l
  induction l with
  | nil => intro i v r _ h; simp [leb] at h
  | cons b t ih =>
    intro i v r hi h
    have hb := b.toNat_lt
    simp only [leb] at h
    split at h
    · cases h
    · rename_i h1
      split at h
      · rename_i h2
        cases hl : leb (i + 1) t with
        | none => simp [hl] at h
        | some p =>
          simp [hl] at h
          obtain ⟨rfl, rfl⟩ := h
          have hi9 : i < 9 := by omega
          obtain ⟨e, hv, h0⟩ := ih (i + 1) p.1 p.2 (by omega) hl
          have hp0 := h0 (by omega)
          have hp : (2 : Nat) ^ (64 - 7 * i) = 128 * 2 ^ (64 - 7 * (i + 1)) := by
            rw [show 64 - 7 * i = 7 + (64 - 7 * (i + 1)) from by omega, Nat.pow_add]
          refine ⟨?_, by rw [hp]; omega, by omega⟩
          rw [natB_ge (n := b.toNat % 128 + 128 * p.1) (by omega), show (b.toNat % 128 + 128 * p.1) / 128 = p.1 from by omega, show 128 + (b.toNat % 128 + 128 * p.1) % 128 = b.toNat from by omega]
          rw [List.cons_append, ← e]
          simp
      · rename_i h2
        simp at h
        obtain ⟨rfl, rfl⟩ := h
        refine ⟨?_, ?_, by omega⟩
        · rw [natB_lt (by omega)]; simp
        · by_cases h9 : i = 9
          · subst h9; simp; omega
          · have : (2 : Nat) ^ 7 ≤ 2 ^ (64 - 7 * i) := Nat.pow_le_pow_right (by decide) (by omega)
            omega

/-- What Taken answers. -/
def takenP (most : Nat) (l : List UInt8) : Nat × Nat :=
  match leb 0 l with
  | some (v, r) => if v ≤ most then (v, l.length - r.length) else (0, 0)
  | none => (0, 0)

theorem takenP_hit {most n k : Nat} {l : List UInt8} (hk : k ≤ l.length) (hn : n < 2 ^ 64) (h : natB n = l.take k) : takenP most l = if n ≤ most then (n, k) else (0, 0) := by
  have e : leb 0 l = some (n, l.drop k) := by
    have := leb_natB n 0 (l.drop k) (by omega) (by simpa using hn) (by omega)
    rw [h, List.take_append_drop] at this
    exact this
  simp only [takenP, e, List.length_drop]
  rw [show l.length - (l.length - k) = k from by omega]

theorem takenP_none {most : Nat} {l : List UInt8} (h : ∀ v r, v < 2 ^ 64 → l ≠ natB v ++ r) : takenP most l = (0, 0) := by
  unfold takenP
  cases e : leb 0 l with
  | none => rfl
  | some p =>
    obtain ⟨e1, e2, _⟩ := leb_sound l 0 p.1 p.2 (by omega) e
    exact absurd e1 (h _ _ (by simpa using e2))

theorem takenP_miss {most k : Nat} {l : List UInt8} (hk : k < l.length) (hb : ∀ j, (hj : j < k) → 128 ≤ (l[j]'(by omega)).toNat) (hl : (l[k]).toNat < 128) (h : natB (valB (l.take (k + 1)) % 18446744073709551616) ≠ l.take (k + 1)) : takenP most l = (0, 0) := by
  refine takenP_none fun v r hv he => h ?_
  have hs : shaped (l.take (k + 1)) := by
    refine ⟨l.take k, l[k], List.take_succ_eq_append_getElem hk, fun c hc => ?_, hl⟩
    obtain ⟨j, hj, rfl⟩ := List.mem_take_iff_getElem.1 hc
    exact hb j (by omega)
  have e := shaped_unique (l.take (k + 1)) (natB v) (l.drop (k + 1)) r hs (natB_shaped v) (by rw [List.take_append_drop]; exact he)
  rw [e, valB_natB, Nat.mod_eq_of_lt hv]

theorem takenP_out {most k : Nat} {l : List UInt8} (hb : ∀ j, j < k → (hj : j < l.length) → 128 ≤ l[j].toNat) (h : 10 ≤ k ∨ l.length ≤ k) : takenP most l = (0, 0) := by
  refine takenP_none fun v r hv he => ?_
  obtain ⟨a, b, e, h1, h2⟩ := natB_shaped v
  have hlen := natB_len10 hv
  rw [e] at hlen he
  have hal : a.length < l.length := by rw [he]; simp
  have := hb a.length (by rcases h with h | h; simp at hlen; omega; omega) hal
  have hx : l[a.length] = b := by
    simp only [he]
    rw [List.getElem_append_left (by simp), List.getElem_append_right (by omega)]
    simp
  rw [hx] at this
  omega
theorem taken_step (v b : Nat) (hb : b < 256) : IntKind.u64.wrap (IntKind.u64.wrap ((v : Int) % 18446744073709551616 * 128) + (IntKind.u64.wrap (b : Int)).tmod 128) = (((b % 128 + 128 * v) % 18446744073709551616 : Nat) : Int) := by
  rw [Int.tmod_eq_emod_of_nonneg (by rw [wrap_u64']; omega)]
  simp only [wrap_u64']
  omega
end Go.Proofs.Ytgpnnfgaphcklaa
