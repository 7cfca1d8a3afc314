/-
  The walks of package frame. Conditions: the form's own reach.
  Frames, plainly: what is opened is just what is closed; no frame begins another one; four bytes in a row that are turned are found. Conditions: none.
-/
import Derived.Test.YtlcoibhbdgdfcaaGreatDoorCoreLumpsB35
import Derived.Test.YtlcoibhbdgdfcaaGreatDoorCoreLumpsB9
import Derived.Laws.BitsAllLaws
import Derived.Test.YtlcoibhbdgdfcaaGreatDoorCoreLumpsB12
namespace Go.Proofs.YtlcoibhbdgdfcaaGreatDoor
open Go.RowKit

theorem and_one32 (c : Nat) (h : c < 4294967296) : bits .and .u32 (c : Int) 1 = ((c % 2 : Nat) : Int) := by
  have := u32_and_nat c 1 h (by omega)
  rw [Nat.and_one_is_mod] at this
  exact this
theorem crcT_odd {c : Nat} (h : c % 2 = 1) (hc : c < 4294967296) : bits .xor .u32 ((c : Int) / 2) 3988292384 = (crcT c : Int) := by
  have := u32_xor_nat (c / 2) 3988292384 (by omega) (by omega)
  rw [crcT, if_pos h]
  simpa using this
theorem crcT_ev {c : Nat} (h : ¬ c % 2 = 1) : (c : Int) / 2 = (crcT c : Int) := by rw [crcT, if_neg h]; simp

set_option maxRecDepth 100000 in
theorem frame_step (w : World) (c : Nat) (b : UInt8) (hc : c < 4294967296) :
    Calls Tryz.prog 72 #[.int .u32 c, .int .u8 (b.toNat : Nat)] w fun e w' => e = .returned (.int .u32 (crcStep c b : Nat)) ∧ w = w' := by
  have hb := b.toNat_lt
  have hx := u32_xor_nat c b.toNat hc (by omega)
  have hw : IntKind.u32.wrap (b.toNat : Int) = (b.toNat : Int) := by simp [IntKind.wrap, IntKind.bits, IntKind.signed]; omega
  have hlt := xor_byte_lt hc b
  generalize hd : c ^^^ b.toNat = d at *
  rw [crcStep, hd]
  generalize b.toNat = u at *
  clear hd
  go_enter Tryz.func72, Tryz.ntmps72
  go_wp2
  go_loopw [0, 9] (fun c i wx => ∃ k, k ≤ 8 ∧ i = .int .i64 (k : Nat) ∧ c = .int .u32 (crcTN k d : Nat) ∧ w = wx) (fun _ i _ => 8 - (intOf i).toNat)
  case atStart => exact ⟨0, by omega, rfl, rfl, rfl⟩
  case round =>
    obtain ⟨k, hk, rfl, rfl, rfl⟩ := hrel
    have hcl := crcTN_lt hlt k
    have hand := and_one32 _ hcl
    have hs : crcTN (k + 1) d = crcT (crcTN k d) := rfl
    by_cases h8 : k < 8
    · by_cases ho : crcTN k d % 2 = 1
      · have hx := crcT_odd ho hcl
        rw [← hs] at hx
        obtain ⟨n2, hn2⟩ : ∃ n2, n2 = crcTN (k + 1) d := ⟨_, rfl⟩
        rw [← hn2] at hx
        have HS := Lib.hid hn2
        clear hs hn2
        generalize crcTN k d = n1 at *
        go_wp2
        exact ⟨⟨k + 1, by omega, by go_num, by rw [HS.out], trivial⟩, by simp [intOf]; omega⟩
      · have hx := crcT_ev ho
        rw [← hs] at hx
        obtain ⟨n2, hn2⟩ : ∃ n2, n2 = crcTN (k + 1) d := ⟨_, rfl⟩
        rw [← hn2] at hx
        have HS := Lib.hid hn2
        clear hs hn2
        generalize crcTN k d = n1 at *
        go_wp2
        exact ⟨⟨k + 1, by omega, by go_num, by rw [HS.out], trivial⟩, by simp [intOf]; omega⟩
    · obtain rfl : k = 8 := by omega
      go_wp2
      go_ret
      exact ⟨rfl, rfl⟩
theorem crc_not (c : Nat) (h : c < 4294967296) : bits .xor .u32 IntKind.u32.max (c : Int) = ((4294967295 - c : Nat) : Int) := by
  have := u32_xor_nat 4294967295 c (by omega) h
  rw [show (4294967295 : Nat) ^^^ c = 4294967295 - c from by
    rw [Nat.xor_comm]
    have h1 : c ^^^ (4294967295 - c) = 4294967295 := xor_ones32 c h
    have h2 := congrArg (c ^^^ ·) h1
    simp only [← Nat.xor_assoc, Nat.xor_self, Nat.zero_xor] at h2
    exact h2.symm] at this
  exact this

set_option maxRecDepth 100000 in
theorem frame_sum (w : World) (s : List UInt8) (hs : s.length ≤ 70368744177664) :
    Calls Tryz.prog 56 #[.string ⟨s.toArray⟩] w fun e w' => e = .returned (.int .u32 (crcSum s : Nat)) ∧ w = w' := by
  go_enter Tryz.func56, Tryz.ntmps56
  go_wp2
  go_loopw [3, 7] (fun c i wx => ∃ k, k ≤ s.length ∧ i = .int .i64 (k : Nat) ∧ c = .int .u32 (crcOf 4294967295 (s.take k) : Nat) ∧ w = wx) (fun _ i _ => s.length - (intOf i).toNat)
  case atStart => exact ⟨0, by omega, rfl, rfl, rfl⟩
  case round =>
    obtain ⟨k, hk, rfl, rfl, rfl⟩ := hrel
    have hcl := crcOf_lt (c := 4294967295) (by omega) (s.take k)
    by_cases hlt : k < s.length
    · have HS := Lib.hid (crcOf_take_succ 4294967295 s k hlt)
      have hg : s.toArray.getD k 0 = s[k] := by simp [hlt]
      generalize crcOf 4294967295 (s.take k) = c at *
      go_wp2_with fail
      refine (frame_step w c s[k] hcl).mono ?_
      rintro e w1 ⟨rfl, rfl⟩
      go_wp2
      exact ⟨⟨k + 1, by omega, by go_num, by rw [HS.out], trivial⟩, by simp [intOf]; omega⟩
    · obtain rfl : k = s.length := by omega
      rw [List.take_length] at hcl ⊢
      have hn := crc_not _ hcl
      rw [show 4294967295 - crcOf 4294967295 s = crcSum s from rfl] at hn
      generalize crcOf 4294967295 s = c at *
      go_wp2
      go_ret
      exact ⟨rfl, rfl⟩
theorem u8_of (x m : Nat) : IntKind.u8.wrap ((x : Int) / (m : Nat)) = ((UInt8.ofNat (x / m % 256)).toNat : Int) := by
  rw [toNat_ofNat (by omega)]
  simp [IntKind.wrap, IntKind.bits, IntKind.signed]
theorem u8_of1 (x : Nat) : IntKind.u8.wrap (x : Int) = ((UInt8.ofNat (x % 256)).toNat : Int) := by
  have := u8_of x 1
  simpa using this

set_option maxRecDepth 100000 in
theorem frame_four (w : World) (c : Nat) :
    Calls Tryz.prog 55 #[.int .u32 c] w fun e w' => e = .returned (.string ⟨(fourB c).toArray⟩) ∧ Chg [] w w' := by
  have h0 := u8_of1 c
  have h1 : IntKind.u8.wrap ((c : Int) / 256) = _ := u8_of c 256
  have h2 : IntKind.u8.wrap ((c : Int) / 65536) = _ := u8_of c 65536
  have h3 : IntKind.u8.wrap ((c : Int) / 16777216) = _ := u8_of c 16777216
  rw [fourB]
  generalize UInt8.ofNat (c % 256) = b0 at *
  generalize UInt8.ofNat (c / 256 % 256) = b1 at *
  generalize UInt8.ofNat (c / 65536 % 256) = b2 at *
  generalize UInt8.ofNat (c / 16777216 % 256) = b3 at *
  have hr := Rd.lit w #[.int .u8 b0.toNat, .int .u8 b1.toNat, .int .u8 b2.toNat, .int .u8 b3.toNat] 5 1 4 4 (by simp)
  have hcv := run_string_rd (P := Tryz.prog) (dst := 9) under_bytes under_u8 under_string (l := [b0, b1, b2, b3]) (by simpa [u8s] using hr)
  go_enter Tryz.func55, Tryz.ntmps55
  go_wp2
  go_ret
  exact ⟨rfl, (Chg.refl [] w).alloc _⟩
end Go.Proofs.YtlcoibhbdgdfcaaGreatDoor

namespace Go.Proofs.YtlcoibhbdgdfcaaGreatDoor

theorem xor_up (a m : Nat) (h : a < 256) : a ^^^ 256 * m = a + 256 * m := by
  have h1 := @Nat.xor_mod_two_pow a (256 * m) 8
  have h2 := @Nat.xor_div_two_pow a (256 * m) 8
  simp only [show (2 : Nat) ^ 8 = 256 from rfl] at h1 h2
  rw [Nat.mul_mod_right, Nat.xor_zero, Nat.mod_eq_of_lt h] at h1
  rw [Nat.mul_div_cancel_left _ (by omega : 0 < 256), Nat.div_eq_of_lt h, Nat.zero_xor] at h2
  omega
theorem word4_eq (a b c d : UInt8) : word4 a b c d = a.toNat + 256 * b.toNat + 65536 * c.toNat + 16777216 * d.toNat := by
  have ha := a.toNat_lt
  have hb := b.toNat_lt
  have hc := c.toNat_lt
  have sh : ∀ x y : Nat, 256 * x ^^^ 256 * y = 256 * (x ^^^ y) := fun x y => by
    have h1 := @Nat.xor_mod_two_pow (256 * x) (256 * y) 8
    have h2 := @Nat.xor_div_two_pow (256 * x) (256 * y) 8
    simp only [show (2 : Nat) ^ 8 = 256 from rfl] at h1 h2
    rw [Nat.mul_mod_right, Nat.mul_mod_right, Nat.xor_self] at h1
    rw [Nat.mul_div_cancel_left _ (by omega : 0 < 256), Nat.mul_div_cancel_left _ (by omega : 0 < 256)] at h2
    omega
  have e : word4 a b c d = a.toNat ^^^ 256 * (b.toNat ^^^ 256 * (c.toNat ^^^ 256 * d.toNat)) := by
    unfold word4
    rw [show 65536 * c.toNat = 256 * (256 * c.toNat) from by omega, show 16777216 * d.toNat = 256 * (256 * (256 * d.toNat)) from by omega, sh, sh, sh]
  rw [e, xor_up _ _ hc, xor_up _ _ hb, xor_up _ _ ha]
  omega
theorem word4_four {x : Nat} (h : x < 4294967296) : word4 (UInt8.ofNat (x % 256)) (UInt8.ofNat (x / 256 % 256)) (UInt8.ofNat (x / 65536 % 256)) (UInt8.ofNat (x / 16777216 % 256)) = x := by
  rw [word4_eq, toNat_ofNat (by omega), toNat_ofNat (by omega), toNat_ofNat (by omega), toNat_ofNat (by omega)]
  omega
theorem word4_inj {a b c d a' b' c' d' : UInt8} (h : word4 a b c d = word4 a' b' c' d') : a = a' ∧ b = b' ∧ c = c' ∧ d = d' := by
  rw [word4_eq, word4_eq] at h
  have := a.toNat_lt; have := b.toNat_lt; have := c.toNat_lt; have := d.toNat_lt
  have := a'.toNat_lt; have := b'.toNat_lt; have := c'.toNat_lt; have := d'.toNat_lt
  exact ⟨UInt8.toNat_inj.1 (by omega), UInt8.toNat_inj.1 (by omega), UInt8.toNat_inj.1 (by omega), UInt8.toNat_inj.1 (by omega)⟩
theorem crc_residue (x : List UInt8) : crcOf 4294967295 (x ++ fourB (crcSum x)) = crcTN 32 4294967295 := by
  rw [crcOf_append, fourB, crcOf_four, word4_four (crcSum_lt x), crcSum, xor_ones32 _ (crcOf_lt (by omega) x)]
theorem crc_burst (s : Nat) (hs : s < 4294967296) (p r : List UInt8) (a b c d a' b' c' d' : UInt8) (h : crcOf s (p ++ [a, b, c, d] ++ r) = crcOf s (p ++ [a', b', c', d'] ++ r)) : a = a' ∧ b = b' ∧ c = c' ∧ d = d' := by
  rw [crcOf_append, crcOf_append, crcOf_append, crcOf_append] at h
  have h1 := crcOf_lt hs p
  have lt4 : ∀ l, crcOf (crcOf s p) l < 4294967296 := fun l => crcOf_lt h1 l
  have h2 := crcOf_inj (lt4 _) (lt4 _) r h
  rw [crcOf_four, crcOf_four] at h2
  have wl : ∀ a b c d : UInt8, word4 a b c d < 4294967296 := fun a b c d => by
    rw [word4_eq]
    have := a.toNat_lt; have := b.toNat_lt; have := c.toNat_lt; have := d.toNat_lt
    omega
  exact word4_inj (xor_cancel_left (crcTN_inj (Nat.xor_lt_two_pow (n := 32) h1 (wl ..)) (Nat.xor_lt_two_pow (n := 32) h1 (wl ..)) h2))

def markB : List UInt8 := [79, 71, 1]
def headF (k : UInt8) (t : List UInt8) : List UInt8 := markB ++ [k] ++ natB t.length ++ t
def closeB (k : UInt8) (t : List UInt8) : List UInt8 := headF k t ++ fourB (crcSum (headF k t))
def openF (s : List UInt8) : Option (UInt8 × List UInt8) :=
  let a := eRaw 3 (some s)
  if a.1 ≠ markB then none
  else
    let b := eRaw 1 a.2
    let n := eNat 262144 b.2
    let t := eRaw n.1 n.2
    let u := eRaw 4 t.2
    if u.2 = some [] ∧ fourB (crcSum (s.take (s.length - 4))) = u.1 then some (b.1.headD 0, t.1) else none

theorem eRaw_sound {n : Int} {st : Option (List UInt8)} {x r : List UInt8} (h : eRaw n st = (x, some r)) : st = some (x ++ r) ∧ 0 ≤ n ∧ x.length = n.toNat := by
  cases st with
  | none => simp [eRaw] at h
  | some l =>
    simp only [eRaw] at h
    split at h
    · next hn =>
      simp only [Prod.mk.injEq, Option.some.injEq] at h
      obtain ⟨rfl, rfl⟩ := h
      exact ⟨by rw [List.take_append_drop], hn.1, by rw [List.length_take]; omega⟩
    · simp at h
theorem eRaw_app (x r : List UInt8) (n : Int) (hn : n = (x.length : Nat)) : eRaw n (some (x ++ r)) = (x, some r) := by
  subst hn
  simp only [eRaw]
  rw [if_pos (by rw [List.length_append]; omega)]
  simp
theorem headF_len (k : UInt8) (t : List UInt8) : (headF k t).length = 4 + (natB t.length).length + t.length := by
  simp [headF, markB]
  omega
theorem closeB_len (k : UInt8) (t : List UInt8) : (closeB k t).length = 8 + (natB t.length).length + t.length := by
  rw [closeB, List.length_append, headF_len]
  simp [fourB]
  omega
theorem openF_close (k : UInt8) (t : List UInt8) (ht : t.length ≤ 262144) : openF (closeB k t) = some (k, t) := by
  have e : closeB k t = markB ++ ([k] ++ (natB t.length ++ (t ++ (fourB (crcSum (headF k t)) ++ [])))) := by simp [closeB, headF]
  have e2 : (closeB k t).take ((closeB k t).length - 4) = headF k t := by
    rw [closeB_len, closeB, show 8 + (natB t.length).length + t.length - 4 = (headF k t).length from by rw [headF_len]; omega, List.take_left]
  unfold openF
  rw [e2, e]
  have r1 : eRaw 3 (some (markB ++ ([k] ++ (natB t.length ++ (t ++ (fourB (crcSum (headF k t)) ++ [])))))) = (markB, some ([k] ++ (natB t.length ++ (t ++ (fourB (crcSum (headF k t)) ++ []))))) := eRaw_app _ _ _ rfl
  have r2 : eRaw 1 (some ([k] ++ (natB t.length ++ (t ++ (fourB (crcSum (headF k t)) ++ []))))) = ([k], some (natB t.length ++ (t ++ (fourB (crcSum (headF k t)) ++ [])))) := eRaw_app _ _ _ rfl
  have r3 := eNat_natB (n := t.length) (most := 262144) (by omega) (t ++ (fourB (crcSum (headF k t)) ++ []))
  rw [if_pos ht] at r3
  have r4 : eRaw (t.length : Nat) (some (t ++ (fourB (crcSum (headF k t)) ++ []))) = (t, some (fourB (crcSum (headF k t)) ++ [])) := eRaw_app _ _ _ rfl
  have r5 : eRaw 4 (some (fourB (crcSum (headF k t)) ++ [])) = (fourB (crcSum (headF k t)), some []) := eRaw_app _ _ _ rfl
  simp only [r1, r2, r3, r4, r5]
  simp
theorem openF_sound {s : List UInt8} {k : UInt8} {t : List UInt8} (h : openF s = some (k, t)) : s = closeB k t ∧ t.length ≤ 262144 := by
  unfold openF at h
  simp only at h
  split at h
  · simp at h
  · next h1 =>
    split at h
    · next h2 =>
      obtain ⟨h2, h3⟩ := h2
      simp only [Option.some.injEq, Prod.mk.injEq] at h
      obtain ⟨hk, ht⟩ := h
      obtain ⟨q5, _, l5⟩ := eRaw_sound (pair_eq h2)
      obtain ⟨q4, _, l4⟩ := eRaw_sound (pair_eq q5)
      cases hb : (eRaw 1 (eRaw 3 (some s)).2).2 with
      | none => rw [hb] at q4; simp [eNat] at q4
      | some s2 =>
        have q3 := pair_eq q4
        rw [hb] at q3 q4 l4 ht h3 l5
        obtain ⟨q3, n3, _⟩ := eNat_sound q3
        obtain ⟨q2, _, l2⟩ := eRaw_sound (pair_eq hb)
        obtain ⟨q1, _, l1⟩ := eRaw_sound (pair_eq q2)
        rw [Decidable.not_not.1 h1] at q1
        rw [← ht]
        generalize (eNat 262144 (some s2)).1 = n at *
        generalize (eRaw 1 (eRaw 3 (some s)).2).1 = kk at *
        generalize (eRaw (↑n) (eNat 262144 (some s2)).2).1 = tt at *
        generalize (eRaw 4 (eRaw (↑n) (eNat 262144 (some s2)).2).2).1 = uu at *
        match kk, l2 with
        | [c], _ =>
          simp only [List.headD_cons] at hk
          subst hk
          have ln : tt.length = n := by omega
          have es : s = headF c tt ++ uu := by
            simp only [Option.some.injEq] at q1
            rw [q1, q3, headF, ln]
            simp
          have el : s.length - 4 = (headF c tt).length := by
            rw [es, List.length_append]
            omega
          rw [el, es, List.take_left] at h3
          exact ⟨by rw [es, closeB, h3], by omega⟩
    · simp at h
theorem closeB_free {k k' : UInt8} {t t' x x' : List UInt8} (h : closeB k t ++ x = closeB k' t' ++ x') : k = k' ∧ t = t' ∧ x = x' := by
  have e : ∀ k t x, closeB k t ++ x = markB ++ ([k] ++ (natB t.length ++ (t ++ (fourB (crcSum (headF k t)) ++ x)))) := fun k t x => by simp [closeB, headF]
  rw [e, e] at h
  have h1 := List.append_cancel_left h
  obtain ⟨hk, h2⟩ := List.append_inj h1 rfl
  have hs := shaped_unique _ _ _ _ (natB_shaped t.length) (natB_shaped t'.length) h2
  have hl : t.length = t'.length := by rw [← valB_natB t.length, hs, valB_natB]
  rw [hs] at h2
  obtain ⟨ht, h4⟩ := List.append_inj (List.append_cancel_left h2) hl
  obtain ⟨_, h5⟩ := List.append_inj h4 rfl
  exact ⟨by simpa using hk, ht, h5⟩
def openR (s : List UInt8) : Option (UInt8 × List UInt8) :=
  if s.length < 9 then none
  else if (takenP 262144 (s.drop 4)).2 = 0 ∨ s.length ≠ 8 + (takenP 262144 (s.drop 4)).2 + (takenP 262144 (s.drop 4)).1 then none
  else if closeB (s.getD 3 0) ((s.drop (4 + (takenP 262144 (s.drop 4)).2)).take (takenP 262144 (s.drop 4)).1) ≠ s then none
  else some (s.getD 3 0, (s.drop (4 + (takenP 262144 (s.drop 4)).2)).take (takenP 262144 (s.drop 4)).1)
theorem takenP_le (most : Nat) (l : List UInt8) : (takenP most l).1 ≤ most := by
  unfold takenP
  split
  · split
    · assumption
    · simp
  · simp
theorem openR_eq (s : List UInt8) : openR s = openF s := by
  have snd : ∀ k t, openR s = some (k, t) → s = closeB k t ∧ t.length ≤ 262144 := fun k t h => by
    unfold openR at h
    split at h
    · simp at h
    · split at h
      · simp at h
      · split at h
        · simp at h
        · next h3 =>
          simp only [Option.some.injEq, Prod.mk.injEq] at h
          obtain ⟨rfl, rfl⟩ := h
          have := takenP_le 262144 (s.drop 4)
          exact ⟨(Decidable.not_not.1 h3).symm, by rw [List.length_take]; omega⟩
  have cmp : ∀ k t, s = closeB k t → t.length ≤ 262144 → openR s = some (k, t) := fun k t h ht => by
    subst h
    have hp := natB_pos t.length
    have hl := closeB_len k t
    have e4 : (closeB k t).drop 4 = natB t.length ++ (t ++ fourB (crcSum (headF k t))) := by simp [closeB, headF, markB]
    have et : takenP 262144 ((closeB k t).drop 4) = (t.length, (natB t.length).length) := by
      have := leb_natB t.length 0 (t ++ fourB (crcSum (headF k t))) (by omega) (by simp; omega) (by omega)
      rw [e4, takenP, this]
      simp only
      rw [if_pos ht]
      simp
    have e3 : (closeB k t).getD 3 0 = k := by simp [closeB, headF, markB]
    have ed : ((closeB k t).drop (4 + (natB t.length).length)).take t.length = t := by
      rw [← List.drop_drop, e4, List.drop_left, List.take_left]
    unfold openR
    rw [et, e3]
    simp only
    rw [ed, if_neg (by omega), if_neg (by omega), if_neg (by simp)]
  cases h : openF s with
  | some p =>
    obtain ⟨k, t⟩ := p
    obtain ⟨h1, h2⟩ := openF_sound h
    exact cmp k t h1 h2
  | none =>
    cases h2 : openR s with
    | none => rfl
    | some p =>
      obtain ⟨k, t⟩ := p
      obtain ⟨h1, h3⟩ := snd k t h2
      have := openF_close k t h3
      rw [← h1, h] at this
      simp at this
end Go.Proofs.YtlcoibhbdgdfcaaGreatDoor
