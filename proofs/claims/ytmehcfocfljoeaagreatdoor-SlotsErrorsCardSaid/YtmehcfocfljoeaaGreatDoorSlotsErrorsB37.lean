/-
  The walk of (*quill.Eye).Nat, which jumps back to a label: it reads what 'eNat' says. Conditions: the bytes fit into memory.
  Plain laws: a number's bytes are read again, and only these; what the reference's Taken comes to. Conditions: none.
  The walks of the references of layer 4 (and 2): Nat, Int, Zig, Taken. Conditions: the bytes fit into memory.
  The walks of what the laws of layer 4 share: alive, great, put. Conditions: the form's own reach.
  The walk of the law QuillNumbers. Conditions: the form's own reach.
  Rows of pairs: their cells, their bytes. Conditions: none.
-/
import Derived.Test.YtmehcfocfljoeaaGreatDoorSlotsErrorsB36
import Derived.Test.YtmehcfocfljoeaaGreatDoorSlotsErrorsB22
import Derived.Test.YtmehcfocfljoeaaGreatDoorSlotsErrorsB12
import Derived.Test.YtmehcfocfljoeaaGreatDoorSlotsErrorsB2
import Derived.Test.YtmehcfocfljoeaaGreatDoorSlotsErrorsB4
import Derived.Test.YtmehcfocfljoeaaGreatDoorSlotsErrorsB1
namespace Go.Proofs.YtmehcfocfljoeaaGreatDoor
open Go.RowKit

def finNat (i u most : Nat) (l : List UInt8) : Nat × Option (List UInt8) :=
  match leb i l with
  | some (v, r) => if u + v * 128 ^ i ≤ most then (u + v * 128 ^ i, some r) else (0, none)
  | none => (0, none)

/-- The frame at the labels. -/
def natFrame (e most u : Nat) (sh : Value) (f : Nat → Value) : Act :=
  { tmps := #[.pointer (some ⟨e, 0, none⟩), .int .u64 most, undef, undef, .int .u64 0, .int .u64 u, sh, f 7, f 8, f 9, f 10, f 11, f 12, f 13, f 14, f 15, f 16, f 17, f 18, f 19, f 20, f 21, f 22, f 23, f 24, f 25, f 26, f 27, f 28, f 29, f 30, f 31, f 32, f 33, f 34, f 35, f 36, f 37, f 38, f 39, f 40, f 41, f 42, f 43, f 44, f 45, f 46, f 47, f 48], defers := [] }

def natJ (w : World) (e most : Nat) (st : Option (List UInt8)) : Nat → Act → World → Prop
  | 0, a, wr => ∃ (i u : Nat) (l : List UInt8), i ≤ 9 ∧ u < 128 ^ i ∧ l.length ≤ 70368744177664 ∧ EyeAt wr e (some l) ∧ Chg [e] w wr ∧
      a = natFrame e most u (.int .i64 (7 * (i : Int))) (fun k => a.tmps.getD k undef) ∧ finNat i u most l = eNat most st
  | 1, a, wr => ∃ (u : Nat) (sh : Value) (st' : Option (List UInt8)), EyeAt wr e st' ∧ Chg [e] w wr ∧ a = natFrame e most u sh (fun k => a.tmps.getD k undef) ∧ eNat most st = (0, none)
  | _, _, _ => False
def natM : Nat → Act → World → Nat
  | 0, a, _ => 100 - (intOf (a.tmps.getD 6 undef)).toNat
  | _, _, _ => 0

theorem finNat_zero (most : Nat) (l : List UInt8) : finNat 0 0 most l = eNat most (some l) := by
  unfold finNat eNat
  cases hl : leb 0 l <;> simp [hl]
theorem finNat_nil (i u most : Nat) : finNat i u most [] = (0, none) := by simp [finNat, leb]
theorem finNat_bad {i u most : Nat} {c : UInt8} {r : List UInt8} (h : i = 9 ∧ 1 < c.toNat ∨ c.toNat = 0 ∧ 0 < i) : finNat i u most (c :: r) = (0, none) := by
  simp only [finNat, leb, if_pos h]
theorem finNat_more {i u most : Nat} {c : UInt8} {r : List UInt8} (h : ¬ (i = 9 ∧ 1 < c.toNat ∨ c.toNat = 0 ∧ 0 < i)) (h1 : 128 ≤ c.toNat) :
    finNat i u most (c :: r) = finNat (i + 1) (u + c.toNat % 128 * 128 ^ i) most r := by
  simp only [finNat, leb, if_neg h, if_pos h1]
  cases hl : leb (i + 1) r with
  | none => rfl
  | some p =>
    have e : u + (c.toNat % 128 + 128 * p.1) * 128 ^ i = u + c.toNat % 128 * 128 ^ i + p.1 * 128 ^ (i + 1) := by
      rw [Nat.pow_succ, Nat.add_mul, Nat.add_assoc, Nat.mul_comm 128 p.1, Nat.mul_assoc, Nat.mul_comm 128 (128 ^ i)]
    simp only [Option.map_some, e]
theorem finNat_last {i u most : Nat} {c : UInt8} {r : List UInt8} (h : ¬ (i = 9 ∧ 1 < c.toNat ∨ c.toNat = 0 ∧ 0 < i)) (h1 : ¬ 128 ≤ c.toNat) :
    finNat i u most (c :: r) = if u + c.toNat % 128 * 128 ^ i ≤ most then (u + c.toNat % 128 * 128 ^ i, some r) else (0, none) := by
  simp only [finNat, leb, if_neg h, if_neg h1]
  rw [Nat.mod_eq_of_lt (by omega)]

set_option maxRecDepth 100000 in
set_option maxHeartbeats 2000000 in
theorem eye_nat (w : World) (e most : Nat) (st : Option (List UInt8)) (_hmost : most < 18446744073709551616) (he : EyeAt w e st) (hl : ∀ l, st = some l → l.length ≤ 70368744177664) :
    Calls Tryz.prog 107 #[.pointer (some ⟨e, 0, none⟩), .int .u64 most] w fun r w' => r = .returned (.int .u64 (eNat most st).1) ∧ EyeAt w' e (eNat most st).2 ∧ Chg [e] w w' := by
  go_enter Tryz.func107, Tryz.ntmps107
  go_wp2
  refine (fun pass => wp_scope_labels (natJ w e most st) natM ?_ pass) ?_
  · go_wp2
    rename_i K hK
    refine wp_label (hK _ _ ?_)
    cases st with
    | none =>
      clear pass hK hl
      go_wp2_with fail
      refine (eye_raw w e none 1 he (by simp)).mono ?_
      rintro r w1 ⟨rfl, he1, hc1⟩
      have e1 : eRaw 1 none = ([], none) := rfl
      rw [e1] at he1 ⊢
      go_wp2
      go_step3
      exact ⟨0, _, none, he1, hc1, rfl, rfl⟩
    | some l =>
      obtain ⟨R, hf, hp⟩ := pass 0 (natFrame e most 0 (.int .i64 (7 * ((0 : Nat) : Int))) (fun _ => undef)) w ⟨0, 0, l, by omega, by omega, hl l rfl, he, Chg.refl _ _, rfl, finNat_zero most l⟩
      obtain rfl := (Code.seq.inj (Option.some.inj hf)).2
      refine wp_mono hp (fun ex a1 w1 hq => ?_)
      cases ex <;> first | exact hq.1 | exact hq
  · intro lb a wr hJ
    match lb with
    | 0 =>
      obtain ⟨i, u, l, hi, hu, hll, hel, hch, ha, hfin⟩ := hJ
      generalize (fun k => a.tmps.getD k undef) = f at ha
      subst ha
      refine ⟨_, rfl, ?_⟩
      have HFin := Lib.hid hfin
      clear hfin hl he
      unfold natFrame
      go_wp2_with fail
      refine (eye_raw wr e (some l) 1 hel (by intro l' h; cases h; exact hll)).mono ?_
      rintro r w1 ⟨rfl, he1, hc1⟩
      have hch1 := hch.trans hc1
      clear hc1 hch hel
      cases l with
      | nil =>
        have e1 : eRaw 1 (some []) = ([], none) := rfl
        rw [e1] at he1 ⊢
        go_wp2
        go_step3
        exact ⟨⟨u, _, none, he1, hch1, rfl, HFin.out.symm.trans (finNat_nil _ _ _)⟩, by simp [natM, intOf]; omega⟩
      | cons c rest =>
        have e1 : eRaw 1 (some (c :: rest)) = ([c], some rest) := by show (if _ then _ else _) = _; rw [if_pos (by simp; omega)]; rfl
        rw [e1] at he1 ⊢
        clear e1
        have hc256 := c.toNat_lt
        have hll' : rest.length ≤ 70368744177664 := by simp at hll; omega
        clear hll
        by_cases h9 : i = 9 ∧ 1 < c.toNat ∨ c.toNat = 0 ∧ 0 < i
        · have HB := Lib.hid (HFin.out.symm.trans (finNat_bad h9))
          clear HFin
          rcases h9 with ⟨h91, h92⟩ | ⟨h91, h92⟩
          · subst h91
            go_wp2
            go_step3
            exact ⟨⟨u, _, some rest, he1, hch1, rfl, HB.out⟩, by simp [natM, intOf]⟩
          · have h93 : ((c.toNat : Int) == 0) = true := by simp; omega
            clear h91
            go_wp2
            all_goals go_step3
            all_goals exact ⟨⟨u, _, some rest, he1, hch1, rfl, HB.out⟩, by simp [natM, intOf]; omega⟩
        · have hcb : i = 9 → c.toNat % 128 ≤ 1 := by omega
          have hor := or_shl u i c.toNat hi (by omega) hcb hu
          have hu2 : u + c.toNat % 128 * 128 ^ i < 128 ^ (i + 1) := by
            have : c.toNat % 128 * 128 ^ i ≤ 127 * 128 ^ i := Nat.mul_le_mul_right _ (by omega)
            rw [Nat.pow_succ]
            omega
          by_cases h128 : 128 ≤ c.toNat
          · have HB := Lib.hid ((finNat_more h9 h128).symm.trans HFin.out)
            clear HFin
            have hi9 : i < 9 := by omega
            clear h9 hcb
            generalize u + c.toNat % 128 * 128 ^ i = u2 at *
            go_wp2
            go_step3
            exact ⟨⟨i + 1, u2, rest, by omega, hu2, hll', he1, hch1, by rw [show 7 * ((i + 1 : Nat) : Int) = 7 * (i : Int) + 7 from by omega]; rfl, HB.out⟩, by simp [natM, intOf]; omega⟩
          · have HB := Lib.hid (HFin.out.symm.trans (finNat_last h9 h128))
            clear HFin
            generalize u + c.toNat % 128 * 128 ^ i = u2 at *
            by_cases h99 : i = 9
            · subst h99
              have hc1 : (c.toNat : Int) ≤ 1 := by omega
              have hor' : bits .or .u64 (u : Int) (IntKind.u64.wrap (IntKind.u64.wrap (bits .and .u8 (c.toNat : Int) 127) * 9223372036854775808)) = (u2 : Int) := hor
              clear hor
              have hc0 : ((c.toNat : Int) == 0) = false := by simp; omega
              clear h9 hcb
              go_wp2
              all_goals first
                | (have hle : u2 ≤ most := by assumption
                   go_ret
                   rw [HB.out, if_pos hle]
                   exact ⟨rfl, he1, hch1⟩)
                | (have hle : ¬ u2 ≤ most := by assumption
                   have HE := Lib.hid (HB.out.trans (if_neg hle))
                   clear HB
                   go_step3
                   go_wp2_with fail
                   refine (eye_shut w1 e _ he1).mono ?_
                   rintro r w2 ⟨rfl, he2, hc2⟩
                   go_wp2
                   go_ret
                   rw [HE.out]
                   exact ⟨rfl, he2, hch1.trans hc2⟩)
            · by_cases hc : c.toNat = 0
              · obtain rfl : i = 0 := by omega
                have hc0 : ((c.toNat : Int) == 0) = true := by simp; omega
                rw [show ((2 : Int) ^ (7 * 0)) = 1 from rfl, Int.mul_one] at hor
                clear h9 hcb h99 hc
                go_wp2
                all_goals first
                  | (have hle : u2 ≤ most := by assumption
                     go_ret
                     rw [HB.out, if_pos hle]
                     exact ⟨rfl, he1, hch1⟩)
                  | (have hle : ¬ u2 ≤ most := by assumption
                     have HE := Lib.hid (HB.out.trans (if_neg hle))
                     clear HB
                     go_step3
                     go_wp2_with fail
                     refine (eye_shut w1 e _ he1).mono ?_
                     rintro r w2 ⟨rfl, he2, hc2⟩
                     go_wp2
                     go_ret
                     rw [HE.out]
                     exact ⟨rfl, he2, hch1.trans hc2⟩)
              · have hc0 : ((c.toNat : Int) == 0) = false := by simp; omega
                have h70 : ((7 * (i : Int)) == 63) = false := by simp; omega
                clear h9 hcb h99 hc
                go_wp2
                all_goals first
                  | (have hle : u2 ≤ most := by assumption
                     go_ret
                     rw [HB.out, if_pos hle]
                     exact ⟨rfl, he1, hch1⟩)
                  | (have hle : ¬ u2 ≤ most := by assumption
                     have HE := Lib.hid (HB.out.trans (if_neg hle))
                     clear HB
                     go_step3
                     go_wp2_with fail
                     refine (eye_shut w1 e _ he1).mono ?_
                     rintro r w2 ⟨rfl, he2, hc2⟩
                     go_wp2
                     go_ret
                     rw [HE.out]
                     exact ⟨rfl, he2, hch1.trans hc2⟩)
    | 1 =>
      obtain ⟨u, sh, st', hel, hch, ha, hfin⟩ := hJ
      generalize (fun k => a.tmps.getD k undef) = f at ha
      subst ha
      refine ⟨_, rfl, ?_⟩
      have HFin := Lib.hid hfin
      clear hfin hl he
      unfold natFrame
      go_wp2_with fail
      refine (eye_shut wr e st' hel).mono ?_
      rintro r w1 ⟨rfl, he1, hc1⟩
      go_wp2
      go_ret
      rw [HFin.out]
      exact ⟨rfl, he1, hch.trans hc1⟩
    | _ + 2 => exact hJ.elim
theorem eye_nat_nil (w : World) (most : Nat) (_hmost : most < 18446744073709551616) :
    Calls Tryz.prog 107 #[.pointer none, .int .u64 most] w fun r w' => r = .returned (.int .u64 0) ∧ w = w' := by
  go_enter Tryz.func107, Tryz.ntmps107
  go_wp2
  refine wp_scope_labels (fun l a w' => l = 1 ∧ w = w' ∧ ∃ f : Nat → Value, a = { tmps := #[.pointer none, .int .u64 most, undef, undef, .int .u64 0, .int .u64 0, .int .i64 0, f 7, f 8, f 9, f 10, f 11, f 12, f 13, f 14, f 15, f 16, f 17, f 18, f 19, f 20, f 21, f 22, f 23, f 24, f 25, f 26, f 27, f 28, f 29, f 30, f 31, f 32, f 33, f 34, f 35, f 36, f 37, f 38, f 39, f 40, f 41, f 42, f 43, f 44, f 45, f 46, f 47, f 48], defers := [] }) (fun _ _ _ => 0) ?_ ?_
  · go_wp2
    go_step3
    go_wp2_with fail
    refine (eye_raw_nil w 1).mono ?_
    rintro r w1 ⟨rfl, rfl⟩
    go_wp2
    go_step3
    exact ⟨rfl, rfl, fun k => (#[undef, undef, undef, undef, undef, undef, undef, .string ⟨#[]⟩, .pointer none, .string ⟨#[]⟩, .string ⟨#[]⟩, .bool true, .bool true, undef, undef, undef, undef, undef, undef, undef, .bool true, .bool true, undef, undef, undef, undef, undef, undef, undef, .bool true] : Array Value).getD k undef, by rfl⟩
  · rintro l a w' ⟨rfl, rfl, f, rfl⟩
    refine ⟨_, rfl, ?_⟩
    go_wp2_with fail
    refine (eye_shut_nil w).mono ?_
    rintro r w1 ⟨rfl, rfl⟩
    go_wp2
    go_ret
    exact ⟨rfl, rfl⟩

theorem eye_int (w : World) (e : Nat) (st : Option (List UInt8)) (he : EyeAt w e st) (hl : ∀ l, st = some l → l.length ≤ 70368744177664) :
    Calls Tryz.prog 109 #[.pointer (some ⟨e, 0, none⟩)] w fun r w' => r = .returned (.int .i64 (zag (eNat 18446744073709551615 st).1)) ∧ EyeAt w' e (eNat 18446744073709551615 st).2 ∧ Chg [e] w w' := by
  have hb := eNat_le 18446744073709551615 st
  go_enter Tryz.func109, Tryz.ntmps109
  go_wp2_with fail
  refine (eye_nat w e 18446744073709551615 st (by omega) he hl).mono ?_
  rintro r w1 ⟨rfl, he1, hc1⟩
  generalize hst : eNat 18446744073709551615 st = p at *
  have HST := Lib.hid hst
  clear hst
  go_wp2_with fail
  refine (sign_zag w1 p.1 (by omega)).mono ?_
  rintro r w2 ⟨rfl, rfl⟩
  go_wp2
  go_ret
  rw [HST.out]
  exact ⟨rfl, he1, hc1⟩
theorem eye_int_nil (w : World) :
    Calls Tryz.prog 109 #[.pointer none] w fun r w' => r = .returned (.int .i64 0) ∧ w = w' := by
  go_enter Tryz.func109, Tryz.ntmps109
  go_wp2_with fail
  refine (eye_nat_nil w 18446744073709551615 (by omega)).mono ?_
  rintro r w1 ⟨rfl, rfl⟩
  go_wp2_with fail
  refine (sign_zag w 0 (by omega)).mono ?_
  rintro r w2 ⟨rfl, rfl⟩
  go_wp2
  go_ret
  exact ⟨rfl, rfl⟩

set_option maxRecDepth 100000 in
theorem eye_small (w : World) (e : Nat) (st : Option (List UInt8)) (most : Int) (hm : most < 9223372036854775808) (he : EyeAt w e st) (hl : ∀ l, st = some l → l.length ≤ 70368744177664) :
    Calls Tryz.prog 74 #[.pointer (some ⟨e, 0, none⟩), .int .i64 most] w fun r w' => r = .returned (.int .i64 (eNat most.toNat st).1) ∧ EyeAt w' e (eNat most.toNat st).2 ∧ Chg [e] w w' := by
  have hb := eNat_le most.toNat st
  rcases Int.lt_or_le most 0 with h | h
  · have e0 : most.toNat = 0 := by omega
    rw [e0] at hb ⊢
    have hb2 : (eNat 0 st).1 < 9223372036854775808 := by omega
    clear hb e0
    go_enter Tryz.func74, Tryz.ntmps74
    go_wp2_with fail
    try rw [show max most 0 = 0 from by omega]
    refine (eye_nat w e 0 st (by omega) he hl).mono ?_
    rintro r w1 ⟨rfl, he1, hc1⟩
    go_wp2
    go_ret
    exact ⟨rfl, he1, hc1⟩
  · obtain ⟨m, rfl⟩ := Int.eq_ofNat_of_zero_le h
    have hb2 : (eNat m st).1 < 9223372036854775808 := by simp only [Int.toNat_natCast] at hb; omega
    rw [Int.toNat_natCast]
    clear hb
    go_enter Tryz.func74, Tryz.ntmps74
    go_wp2_with fail
    try rw [show max (m : Int) 0 = m from by omega]
    refine (eye_nat w e m st (by omega) he hl).mono ?_
    rintro r w1 ⟨rfl, he1, hc1⟩
    go_wp2
    go_ret
    exact ⟨rfl, he1, hc1⟩
theorem eye_small_nil (w : World) (most : Int) (hm : most < 9223372036854775808) (hm0 : 0 ≤ most) :
    Calls Tryz.prog 74 #[.pointer none, .int .i64 most] w fun r w' => r = .returned (.int .i64 0) ∧ w = w' := by
  obtain ⟨m, rfl⟩ := Int.eq_ofNat_of_zero_le hm0
  go_enter Tryz.func74, Tryz.ntmps74
  go_wp2_with fail
  refine (eye_nat_nil w m (by omega)).mono ?_
  rintro r w1 ⟨rfl, rfl⟩
  go_wp2
  go_ret
  exact ⟨rfl, rfl⟩

/-- A number from 1 to 2^63 - 1: else the eye is bad. -/
def eCount (st : Option (List UInt8)) : Nat × Option (List UInt8) := if (eNat 9223372036854775807 st).1 = 0 then (0, none) else eNat 9223372036854775807 st
theorem eye_count (w : World) (e : Nat) (st : Option (List UInt8)) (he : EyeAt w e st) (hl : ∀ l, st = some l → l.length ≤ 70368744177664) :
    Calls Tryz.prog 117 #[.pointer (some ⟨e, 0, none⟩)] w fun r w' => r = .returned (.int .u64 (eCount st).1) ∧ EyeAt w' e (eCount st).2 ∧ Chg [e] w w' := by
  have hb := eNat_le 9223372036854775807 st
  go_enter Tryz.func117, Tryz.ntmps117
  go_wp2_with fail
  refine (eye_nat w e 9223372036854775807 st (by omega) he hl).mono ?_
  rintro r w1 ⟨rfl, he1, hc1⟩
  have HC := Lib.hid (show eCount st = if (eNat 9223372036854775807 st).1 = 0 then (0, none) else eNat 9223372036854775807 st from rfl)
  generalize eNat 9223372036854775807 st = p at *
  obtain ⟨n, st'⟩ := p
  simp only at *
  by_cases hn : n = 0
  · subst hn
    go_wp2_with fail
    refine (eye_shut w1 e st' he1).mono ?_
    rintro r w2 ⟨rfl, he2, hc2⟩
    go_wp2
    go_ret
    rw [HC.out]
    simp only [if_true]
    exact ⟨rfl, he2, hc1.trans hc2⟩
  · have hn' : ((n : Int) == 0) = false := by simp; omega
    have HN := Lib.hid hn
    clear hn
    go_wp2
    go_ret
    rw [HC.out, if_neg HN.out]
    exact ⟨rfl, he1, hc1⟩
theorem eye_count_nil (w : World) :
    Calls Tryz.prog 117 #[.pointer none] w fun r w' => r = .returned (.int .u64 0) ∧ w = w' := by
  go_enter Tryz.func117, Tryz.ntmps117
  go_wp2_with fail
  refine (eye_nat_nil w 9223372036854775807 (by omega)).mono ?_
  rintro r w1 ⟨rfl, rfl⟩
  go_wp2_with fail
  refine (eye_shut_nil w).mono ?_
  rintro r w1 ⟨rfl, rfl⟩
  go_wp2
  go_ret
  exact ⟨rfl, rfl⟩
end Go.Proofs.YtmehcfocfljoeaaGreatDoor

namespace Go.Proofs.YtmehcfocfljoeaaGreatDoor
open Go.RowKit

/-- What the low seven bits of each byte come to. -/
def valB (l : List UInt8) : Nat := l.foldr (fun b acc => b.toNat % 128 + 128 * acc) 0
theorem valB_cons (b : UInt8) (l : List UInt8) : valB (b :: l) = b.toNat % 128 + 128 * valB l := rfl

theorem natB_induct {P : Nat → Prop} (h0 : ∀ n, n < 128 → P n) (h1 : ∀ n, 128 ≤ n → P (n / 128) → P n) (n : Nat) : P n := by
  induction n using Nat.strongRecOn with
  | _ n ih =>
    by_cases h : n < 128
    · exact h0 n h
    · exact h1 n (by omega) (ih (n / 128) (by omega))

theorem valB_natB (n : Nat) : valB (natB n) = n := by
  induction n using natB_induct with
  | h0 n h => rw [natB_lt h, valB_cons, toNat_ofNat (by omega)]; simp [valB]; omega
  | h1 n h ih => rw [natB_ge h, valB_cons, ih, toNat_ofNat (by omega)]; omega

/-- All bytes of a number but the last one are 128 at least; the last one is below. -/
def shaped (l : List UInt8) : Prop := ∃ a b, l = a ++ [b] ∧ (∀ c ∈ a, 128 ≤ c.toNat) ∧ b.toNat < 128
theorem natB_shaped (n : Nat) : shaped (natB n) := by
  induction n using natB_induct with
  | h0 n h => rw [natB_lt h]; exact ⟨[], _, rfl, by simp, by rw [toNat_ofNat (by omega)]; omega⟩
  | h1 n h ih =>
    obtain ⟨a, b, e, h2, h3⟩ := ih
    rw [natB_ge h, e]
    refine ⟨UInt8.ofNat (128 + n % 128) :: a, b, rfl, fun c hc => ?_, h3⟩
    rcases List.mem_cons.1 hc with rfl | hc
    · rw [toNat_ofNat (by omega)]; omega
    · exact h2 c hc

/-- Two texts, each begun by shaped bytes: these are one. -/
theorem shaped_unique : ∀ (x y r s : List UInt8), shaped x → shaped y → x ++ r = y ++ s → x = y := by
  have gen : ∀ (a1 a2 : List UInt8) (b1 b2 : UInt8) (r s : List UInt8), (∀ c ∈ a1, 128 ≤ c.toNat) → (∀ c ∈ a2, 128 ≤ c.toNat) → b1.toNat < 128 → b2.toNat < 128 → a1 ++ b1 :: r = a2 ++ b2 :: s → a1 ++ [b1] = a2 ++ [b2] := by
    intro a1
    induction a1 with
    | nil =>
      intro a2 b1 b2 r s _ h2 hb1 _ he
      cases a2 with
      | nil => simp at he; simp [he.1]
      | cons c t =>
        simp at he
        have := h2 c (by simp)
        rw [← he.1] at this
        omega
    | cons d t ih =>
      intro a2 b1 b2 r s h1 h2 hb1 hb2 he
      cases a2 with
      | nil =>
        simp at he
        have := h1 d (by simp)
        rw [he.1] at this
        omega
      | cons c t' =>
        simp at he
        have := ih t' b1 b2 r s (fun c hc => h1 c (by simp [hc])) (fun c hc => h2 c (by simp [hc])) hb1 hb2 he.2
        simp [he.1, this]
  rintro x y r s ⟨a1, b1, rfl, h1, hb1⟩ ⟨a2, b2, rfl, h2, hb2⟩ he
  exact gen a1 a2 b1 b2 r s h1 h2 hb1 hb2 (by simpa using he)

theorem leb_natB (v : Nat) : ∀ (i : Nat) (r : List UInt8), i ≤ 9 → v < 2 ^ (64 - 7 * i) → (0 < i → 0 < v) → leb i (natB v ++ r) = some (v, r) := by
  induction v using natB_induct with
  | h0 n h =>
    intro i r hi hv h0
    rw [natB_lt h]
    have hc : (UInt8.ofNat n).toNat = n := toNat_ofNat (by omega)
    simp only [List.cons_append, List.nil_append, leb, hc]
    rw [if_neg, if_neg (by omega)]
    rintro (⟨rfl, h1⟩ | ⟨rfl, h1⟩)
    · simp at hv; omega
    · have := h0 h1; omega
  | h1 n h ih =>
    intro i r hi hv h0
    rw [natB_ge h]
    have hc : (UInt8.ofNat (128 + n % 128)).toNat = 128 + n % 128 := toNat_ofNat (by omega)
    simp only [List.cons_append, leb, hc]
    have hi9 : i < 9 := by
      rcases Nat.lt_or_ge i 9 with h9 | h9
      · exact h9
      · obtain rfl : i = 9 := by omega
        simp at hv; omega
    have hp : (2 : Nat) ^ (64 - 7 * i) = 128 * 2 ^ (64 - 7 * (i + 1)) := by
      rw [show 64 - 7 * i = 7 + (64 - 7 * (i + 1)) from by omega, Nat.pow_add]
    rw [if_neg (by omega), if_pos (by omega), ih (i + 1) r (by omega) (by rw [hp] at hv; omega) (by omega)]
    simp
    omega

theorem leb_sound : ∀ (l : List UInt8) (i v : Nat) (r : List UInt8), i ≤ 9 → leb i l = some (v, r) → l = natB v ++ r ∧ v < 2 ^ (64 - 7 * i) ∧ (0 < i → 0 < v) := by
  intro l
  induction l with
  | nil => intro i v r _ h; simp [leb] at h
  | cons b t ih =>
    intro i v r hi h
    have hb := b.toNat_lt
    simp only [leb] at h
    split at h
    · cases h
    · rename_i h1
      split at h
      · rename_i h2
        cases hl : leb (i + 1) t with
        | none => simp [hl] at h
        | some p =>
          simp [hl] at h
          obtain ⟨rfl, rfl⟩ := h
          have hi9 : i < 9 := by omega
          obtain ⟨e, hv, h0⟩ := ih (i + 1) p.1 p.2 (by omega) hl
          have hp0 := h0 (by omega)
          have hp : (2 : Nat) ^ (64 - 7 * i) = 128 * 2 ^ (64 - 7 * (i + 1)) := by
            rw [show 64 - 7 * i = 7 + (64 - 7 * (i + 1)) from by omega, Nat.pow_add]
          refine ⟨?_, by rw [hp]; omega, by omega⟩
          rw [natB_ge (n := b.toNat % 128 + 128 * p.1) (by omega), show (b.toNat % 128 + 128 * p.1) / 128 = p.1 from by omega, show 128 + (b.toNat % 128 + 128 * p.1) % 128 = b.toNat from by omega]
          rw [List.cons_append, ← e]
          simp
      · rename_i h2
        simp at h
        obtain ⟨rfl, rfl⟩ := h
        refine ⟨?_, ?_, by omega⟩
        · rw [natB_lt (by omega)]; simp
        · by_cases h9 : i = 9
          · subst h9; simp; omega
          · have : (2 : Nat) ^ 7 ≤ 2 ^ (64 - 7 * i) := Nat.pow_le_pow_right (by decide) (by omega)
            omega

/-- What Taken answers. -/
def takenP (most : Nat) (l : List UInt8) : Nat × Nat :=
  match leb 0 l with
  | some (v, r) => if v ≤ most then (v, l.length - r.length) else (0, 0)
  | none => (0, 0)

theorem takenP_hit {most n k : Nat} {l : List UInt8} (hk : k ≤ l.length) (hn : n < 2 ^ 64) (h : natB n = l.take k) : takenP most l = if n ≤ most then (n, k) else (0, 0) := by
  have e : leb 0 l = some (n, l.drop k) := by
    have := leb_natB n 0 (l.drop k) (by omega) (by simpa using hn) (by omega)
    rw [h, List.take_append_drop] at this
    exact this
  simp only [takenP, e, List.length_drop]
  rw [show l.length - (l.length - k) = k from by omega]

theorem takenP_none {most : Nat} {l : List UInt8} (h : ∀ v r, v < 2 ^ 64 → l ≠ natB v ++ r) : takenP most l = (0, 0) := by
  unfold takenP
  cases e : leb 0 l with
  | none => rfl
  | some p =>
    obtain ⟨e1, e2, _⟩ := leb_sound l 0 p.1 p.2 (by omega) e
    exact absurd e1 (h _ _ (by simpa using e2))

theorem takenP_miss {most k : Nat} {l : List UInt8} (hk : k < l.length) (hb : ∀ j, (hj : j < k) → 128 ≤ (l[j]'(by omega)).toNat) (hl : (l[k]).toNat < 128) (h : natB (valB (l.take (k + 1)) % 18446744073709551616) ≠ l.take (k + 1)) : takenP most l = (0, 0) := by
  refine takenP_none fun v r hv he => h ?_
  have hs : shaped (l.take (k + 1)) := by
    refine ⟨l.take k, l[k], List.take_succ_eq_append_getElem hk, fun c hc => ?_, hl⟩
    obtain ⟨j, hj, rfl⟩ := List.mem_take_iff_getElem.1 hc
    exact hb j (by omega)
  have e := shaped_unique (l.take (k + 1)) (natB v) (l.drop (k + 1)) r hs (natB_shaped v) (by rw [List.take_append_drop]; exact he)
  rw [e, valB_natB, Nat.mod_eq_of_lt hv]

theorem takenP_out {most k : Nat} {l : List UInt8} (hb : ∀ j, j < k → (hj : j < l.length) → 128 ≤ l[j].toNat) (h : 10 ≤ k ∨ l.length ≤ k) : takenP most l = (0, 0) := by
  refine takenP_none fun v r hv he => ?_
  obtain ⟨a, b, e, h1, h2⟩ := natB_shaped v
  have hlen := natB_len10 hv
  rw [e] at hlen he
  have hal : a.length < l.length := by rw [he]; simp
  have := hb a.length (by rcases h with h | h; simp at hlen; omega; omega) hal
  have hx : l[a.length] = b := by
    simp only [he]
    rw [List.getElem_append_left (by simp), List.getElem_append_right (by omega)]
    simp
  rw [hx] at this
  omega
theorem taken_step (v b : Nat) (hb : b < 256) : IntKind.u64.wrap (IntKind.u64.wrap ((v : Int) % 18446744073709551616 * 128) + (IntKind.u64.wrap (b : Int)).tmod 128) = (((b % 128 + 128 * v) % 18446744073709551616 : Nat) : Int) := by
  rw [Int.tmod_eq_emod_of_nonneg (by rw [wrap_u64']; omega)]
  simp only [wrap_u64']
  omega
end Go.Proofs.YtmehcfocfljoeaaGreatDoor

namespace Go.Proofs.YtmehcfocfljoeaaGreatDoor
open Go.RowKit

/-- 'string([]byte{x})'. -/
theorem run_one_byte (w : World) (x : Int) (c : UInt8) (hx : x = (c.toNat : Int)) :
    (convert 52 9 (.slice (some ⟨w.heap.size, 0, none⟩) 1 1)).run Tryz.prog (w.alloc (.cells #[.int .u8 x] 5)) = .ok (.string ⟨[c].toArray⟩) (w.alloc (.cells #[.int .u8 x] 5)) := by
  subst hx
  exact run_string_rd under_bytes under_u8 under_string (l := [c]) (Rd.lit1 w (.int .u8 c.toNat) 5 1)

attribute [local go_sem] ByteArray.extract_mk

end Go.Proofs.YtmehcfocfljoeaaGreatDoor

namespace Go.Proofs.YtmehcfocfljoeaaGreatDoor
open Go.RowKit

/-- An item that is written: its kind, a number, a value, a text. -/
structure Itm4 where
  k : Int
  u : Nat
  x : Int
  s : List UInt8
def Itm4.cells (i : Itm4) : List Value := [.int .i64 i.k, .int .u64 i.u, .int .i64 i.x, .string ⟨i.s.toArray⟩]
def Itm4.ok (i : Itm4) : Prop := -9223372036854775808 ≤ i.k ∧ i.k < 9223372036854775808 ∧ i.u < 18446744073709551616 ∧ -9223372036854775808 ≤ i.x ∧ i.x < 9223372036854775808 ∧ i.s.length ≤ 140737488351232
/-- An item's bytes. -/
def Itm4.enc (i : Itm4) : List UInt8 := if i.k = 0 then natB i.u else if i.k = 1 then natB (zig i.x) else if i.k = 2 then i.s else []
def itmCells (l : List Itm4) : List Value := (l.map Itm4.cells).flatten
def itmTot (l : List Itm4) : Nat := (l.map fun i => i.s.length).sum
def itmEnc (l : List Itm4) : List UInt8 := (l.map Itm4.enc).flatten

theorem itmCells_len (l : List Itm4) : (itmCells l).length = l.length * 4 := by
  induction l with
  | nil => rfl
  | cons a r ih => simp only [itmCells, List.map_cons, List.flatten_cons, List.length_append, List.length_cons] at *; rw [ih]; simp [Itm4.cells]; omega
theorem itmCells_get (l : List Itm4) (k j : Nat) (hk : k < l.length) (hj : j < 4) : (itmCells l)[k * 4 + j]? = (l[k].cells)[j]? := by
  induction l generalizing k with
  | nil => simp at hk
  | cons a r ih =>
    cases k with
    | zero =>
      simp only [itmCells, List.map_cons, List.flatten_cons, Nat.zero_mul, Nat.zero_add, List.getElem_cons_zero]
      rw [List.getElem?_append_left (by simpa [Itm4.cells] using hj)]
    | succ k =>
      have := ih k (by simpa using hk)
      simp only [itmCells, List.map_cons, List.flatten_cons, List.getElem_cons_succ] at *
      rw [List.getElem?_append_right (by simp [Itm4.cells]; omega), ← this]
      congr 1
      simp [Itm4.cells]
      omega

theorem itmTot_take (l : List Itm4) (k : Nat) (h : k < l.length) : itmTot (l.take (k + 1)) = itmTot (l.take k) + (l[k]).s.length := by
  rw [List.take_succ_eq_append_getElem h]
  simp only [itmTot, List.map_append, List.sum_append, List.map_cons, List.map_nil, List.sum_cons, List.sum_nil, Nat.add_zero]
theorem itmTot_mono (l : List Itm4) (k : Nat) : itmTot (l.take k) ≤ itmTot l := by
  have : itmTot l = itmTot (l.take k) + itmTot (l.drop k) := by
    conv => lhs; rw [← List.take_append_drop k l]
    simp only [itmTot, List.map_append, List.sum_append]
  omega

theorem itm_at {w : World} {b o k : Nat} {l : List Itm4} (hc : ∀ j, j < l.length * 4 → w.cell? ⟨b, o + j, none⟩ = (itmCells l)[j]?) (h : k < l.length) :
    w.cell? ⟨b, o + k * 4, none⟩ = some (.int .i64 l[k].k) ∧ w.cell? ⟨b, o + k * 4 + 1, none⟩ = some (.int .u64 l[k].u) ∧
    w.cell? ⟨b, o + k * 4 + 2, none⟩ = some (.int .i64 l[k].x) ∧ w.cell? ⟨b, o + k * 4 + 3, none⟩ = some (.string ⟨l[k].s.toArray⟩) := by
  have g : ∀ j, j < 4 → w.cell? ⟨b, o + k * 4 + j, none⟩ = (l[k].cells)[j]? := fun j hj => by
    rw [← itmCells_get l k j h hj, ← hc (k * 4 + j) (by omega), Nat.add_assoc]
  exact ⟨g 0 (by omega), g 1 (by omega), g 2 (by omega), g 3 (by omega)⟩

theorem itmCells_oneCell (l : List Itm4) : ∀ y ∈ itmCells l, y.oneCell' = true := by
  intro y hy
  simp only [itmCells, List.mem_flatten, List.mem_map] at hy
  obtain ⟨x, ⟨i, _, rfl⟩, hy⟩ := hy
  simp only [Itm4.cells, List.mem_cons, List.not_mem_nil, or_false] at hy
  rcases hy with rfl | rfl | rfl | rfl <;> rfl
theorem itmCells_append (a b : List Itm4) : itmCells (a ++ b) = itmCells a ++ itmCells b := by simp [itmCells]
theorem itmEnc_append (a b : List Itm4) : itmEnc (a ++ b) = itmEnc a ++ itmEnc b := by simp [itmEnc]
theorem itmTot_append (a b : List Itm4) : itmTot (a ++ b) = itmTot a + itmTot b := by simp [itmTot]

theorem enc_len (i : Itm4) (h : i.ok) : i.enc.length ≤ 10 + i.s.length := by
  unfold Itm4.enc
  split
  · have := natB_len10 (n := i.u) h.2.2.1; omega
  · split
    · have := natB_len10 (zig_lt h.2.2.2.1 h.2.2.2.2.1); omega
    · split
      · omega
      · simp
theorem itmEnc_len (l : List Itm4) (h : ∀ i ∈ l, i.ok) : (itmEnc l).length ≤ 10 * l.length + itmTot l := by
  induction l with
  | nil => simp [itmEnc]
  | cons a r ih =>
    have h1 := enc_len a (h a (by simp))
    have h2 := ih (fun i hi => h i (by simp [hi]))
    simp only [itmEnc, itmTot, List.map_cons, List.flatten_cons, List.length_append, List.length_cons, List.sum_cons] at *
    omega
theorem itmEnc_take (l : List Itm4) (k : Nat) (h : k < l.length) : itmEnc (l.take (k + 1)) = itmEnc (l.take k) ++ (l[k]).enc := by
  rw [List.take_succ_eq_append_getElem h]
  simp only [itmEnc, List.map_append, List.flatten_append, List.map_cons, List.map_nil, List.flatten_cons, List.flatten_nil, List.append_nil]

theorem natB_300 : natB 300 = [172, 2] := by rw [natB_ge (by omega), natB_lt (by omega)]; rfl

end Go.Proofs.YtmehcfocfljoeaaGreatDoor

namespace Go.Proofs.YtmehcfocfljoeaaGreatDoor
open Go.RowKit

/-- What an eye reads is what the reference takes. -/
theorem eNat_some (most : Nat) (l : List UInt8) : eNat most (some l) = match leb 0 l with
    | some (v, r) => if v ≤ most then (v, some r) else (0, none)
    | none => (0, none) := rfl
theorem eNat_taken (most : Nat) (l : List UInt8) : (eNat most (some l)).1 = (takenP most l).1 ∧ (eNat most (some l)).2.isNone = decide ((takenP most l).2 = 0) := by
  cases h : leb 0 l with
  | none => simp [eNat_some, takenP, h]
  | some p =>
    obtain ⟨v, r⟩ := p
    obtain ⟨e, _, _⟩ := leb_sound l 0 v r (by omega) h
    have := natB_pos v
    have hl : l.length = (natB v).length + r.length := by rw [e, List.length_append]
    by_cases hv : v ≤ most
    · simp [eNat_some, takenP, h, hv]; omega
    · simp [eNat_some, takenP, h, hv]

theorem eNat_natB {n most : Nat} (hn : n < 2 ^ 64) (r : List UInt8) : eNat most (some (natB n ++ r)) = if n ≤ most then (n, some r) else (0, none) := by
  rw [eNat_some, leb_natB n 0 r (by omega) (by simpa using hn) (by omega)]

theorem quill_natn (w : World) (q : Nat) (F : List Nat) (l : List UInt8) (us : List Nat) (hus : ∀ u ∈ us, u < 2 ^ 64) (hq : Qul w q F l) (n b0 : Nat) (hn : n = us.length) (hb0 : b0 = w.heap.size) (hroom : l.length + 10 * us.length ≤ 70368744177664) :
    Calls Tryz.prog 64 #[.pointer (some ⟨q, 0, none⟩), .slice (some ⟨b0, 0, none⟩) n n] (w.alloc (.cells (u64s us).toArray 23)) fun e w' => e = .returned (.tuple #[]) ∧
      ∃ F', Qul w' q F' (l ++ us.flatMap natB) ∧ Mv F w F' w' := by
  subst hn hb0
  refine (quill_nat (w.alloc (.cells (u64s us).toArray 23)) q F l (some ⟨w.heap.size, 0, none⟩) us.length us hus (hq.alloc _) ?_ (fun b hb => ?_) hroom).mono ?_
  · have := Rd.lit w (u64s us).toArray 23 1 us.length us.length (by simp)
    simpa using this
  · have hlt := hq.lt
    simp only [abl_some, List.mem_singleton] at hb
    intro hF
    have := hlt b hF
    omega
  · rintro e w' ⟨rfl, F', h1, h2⟩
    exact ⟨rfl, F', h1, (Mv.alloc F w _).trans h2⟩

theorem new_quill (w : World) : Qul (w.alloc (.cells #[.slice none 0 0] 97)) w.heap.size [w.heap.size] [] := ⟨none, 0, rfl, Blk.alloc_new _ _ _, Own.nil _ _ _⟩

end Go.Proofs.YtmehcfocfljoeaaGreatDoor

namespace Go.Proofs.YtmehcfocfljoeaaGreatDoor
open Go.RowKit

instance : Inhabited Pr := ⟨⟨0, 0⟩⟩
/-- How far one index is behind the one ahead, less 1, as the program reckons it. -/
def gapN (p q : Int) : Nat := ((p - q - 1) % 18446744073709551616).toNat
theorem gapN_lt (p q : Int) : gapN p q < 18446744073709551616 := by unfold gapN; omega
/-- The bytes of the pair at a place of a row. -/
def pairB (l : List Pr) (k : Nat) : List UInt8 := (if k = 0 then natB (zig (l.getD k default).i) else natB (gapN (l.getD k default).i (l.getD (k - 1) default).i)) ++ natB (l.getD k default).c
def bodyTo (l : List Pr) (k : Nat) : List UInt8 := ((List.range k).map (pairB l)).flatten
def putB (l : List Pr) : List UInt8 := natB l.length ++ bodyTo l l.length
theorem bodyTo_succ (l : List Pr) (k : Nat) : bodyTo l (k + 1) = bodyTo l k ++ pairB l k := by
  simp [bodyTo, List.range_succ]

theorem pairB_len (l : List Pr) (hok : ∀ p ∈ l, p.ok) (k : Nat) (h : k < l.length) : (pairB l k).length ≤ 20 := by
  have hg : l.getD k default = l[k] := by simp [List.getD, h]
  have hp := hok l[k] (List.getElem_mem _)
  unfold pairB
  rw [hg, List.length_append]
  have h1 := natB_len10 (n := l[k].c) (by have := hp.2.2; omega)
  split
  · have := natB_len10 (zig_lt hp.1 hp.2.1); omega
  · have := natB_len10 (n := gapN l[k].i (l.getD (k - 1) default).i) (by have := gapN_lt l[k].i (l.getD (k - 1) default).i; omega)
    omega
theorem bodyTo_len (l : List Pr) (hok : ∀ p ∈ l, p.ok) (k : Nat) (h : k ≤ l.length) : (bodyTo l k).length ≤ 20 * k := by
  induction k with
  | zero => simp [bodyTo]
  | succ k ih =>
    have := ih (by omega)
    have := pairB_len l hok k (by omega)
    rw [bodyTo_succ, List.length_append]
    omega

end Go.Proofs.YtmehcfocfljoeaaGreatDoor
