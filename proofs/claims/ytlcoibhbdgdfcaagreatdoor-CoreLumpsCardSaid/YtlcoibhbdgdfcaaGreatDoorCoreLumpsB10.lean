/-
  A scope with labels, to which the run may jump back and forth: what holds at every jump, and a measure that every pass lowers. Conditions: none.
  The walk of (*quill.Eye).Nat, which jumps back to a label: it reads what 'eNat' says. Conditions: the bytes fit into memory.
-/
import Derived.WalkKit
import Derived.ScopeJumps
import Derived.Test.YtlcoibhbdgdfcaaGreatDoorCoreLumpsB9
namespace Go.Proofs.YtlcoibhbdgdfcaaGreatDoor
open Go.RowKit

/-- By a goto to label l: J l; else as Q. -/
def jumps (J : Nat → Act → World → Prop) (Q : Exit → Act → World → Prop) : Exit → Act → World → Prop
  | .goto l, a, w => J l a w
  | e, a, w => Q e a w
section
variable {J : Nat → Act → World → Prop} {Q : Exit → Act → World → Prop} {a : Act} {w : World}
@[go_sem] theorem jumps_goto (l : Nat) : jumps J Q (.goto l) a w = J l a w := rfl
@[go_sem] theorem jumps_normal : jumps J Q .normal a w = Q .normal a w := rfl
@[go_sem] theorem jumps_exit (id : Nat) : jumps J Q (.exit id) a w = Q (.exit id) a w := rfl
@[go_sem] theorem jumps_ret : jumps J Q .ret a w = Q .ret a w := rfl
@[go_sem] theorem jumps_panic (ch : List PanicEntry) : jumps J Q (.panic ch) a w = Q (.panic ch) a w := rfl

theorem wp_scope_labels {P : Program} {c : Code} (J : Nat → Act → World → Prop) (μ : Nat → Act → World → Nat)
    (first : c.wp P (jumps J Q) a w)
    (pass : ∀ l a w, J l a w → ∃ R, findLabel c l = some (.seq .skip R) ∧ R.wp P (jumps (fun l' a' w' => J l' a' w' ∧ μ l' a' w' < μ l a w) Q) a w) : (Code.scope c).wp P Q a w := by
  intro b k cs
  have hg : ∀ l rest, findLabel c l = some rest → gotoIn l (.inScope c :: k) = some (.code rest :: .inScope c :: k) := fun l rest hf => by simp [gotoIn, hf]
  have key : ∀ n l a w rest, μ l a w = n → J l a w → findLabel c l = some rest → ∃ e a' w', Q e a' w' ∧ Arrives P (lone (b.at a (.code rest :: .inScope c :: k)) cs w) b k cs e a' w' := by
    intro n
    induction n using Nat.strongRecOn with
    | _ n ih =>
      intro l a w rest hn hJ hf
      obtain ⟨R, hf', hp0⟩ := pass l a w hJ
      rw [hf] at hf'
      obtain rfl := Option.some.inj hf'
      have hp := wp_seq (x := Code.skip) (y := R) (wp_skip (P := P) (Q := Exit.then (R.wp P _) _) (a := a) (w := w) hp0)
      obtain ⟨e, a₁, w₁, hq, harr⟩ := hp b (.inScope c :: k) cs
      cases e with
      | normal => exact ⟨.normal, a₁, w₁, hq, Steps.trans harr (.one step_inScope)⟩
      | exit id => exact ⟨.exit id, a₁, w₁, hq, fun k' hk => harr k' (by simp [exitTo, hk])⟩
      | goto l' =>
        obtain ⟨hJ', hlt⟩ := hq
        obtain ⟨rest2, hf2, _⟩ := pass l' a₁ w₁ hJ'
        obtain ⟨e₂, a₂, w₂, hq₂, harr₂⟩ := ih _ (by omega) l' a₁ w₁ _ rfl hJ' hf2
        exact ⟨e₂, a₂, w₂, hq₂, .of_steps (harr _ (hg l' _ hf2)) harr₂⟩
      | ret => exact ⟨_, a₁, w₁, hq, harr⟩
      | panic ch => exact ⟨_, a₁, w₁, hq, harr⟩
      | outgrown => exact ⟨_, a₁, w₁, hq, harr⟩
  obtain ⟨e, a₁, w₁, hq, harr⟩ := first b (.inScope c :: k) cs
  cases e with
  | normal => exact ⟨.normal, a₁, w₁, hq, .head step_scope (Steps.trans harr (.one step_inScope))⟩
  | exit id => exact ⟨.exit id, a₁, w₁, hq, fun k' hk => .head step_scope (harr k' (by simp [exitTo, hk]))⟩
  | goto l' =>
    obtain ⟨rest2, hf2, _⟩ := pass l' a₁ w₁ hq
    obtain ⟨e₂, a₂, w₂, hq₂, harr₂⟩ := key _ l' a₁ w₁ _ rfl hq hf2
    exact ⟨e₂, a₂, w₂, hq₂, .of_steps (.head step_scope (harr _ (hg l' _ hf2))) harr₂⟩
  | ret => exact ⟨_, a₁, w₁, hq, .of_steps (.one step_scope) harr⟩
  | panic ch => exact ⟨_, a₁, w₁, hq, .of_steps (.one step_scope) harr⟩
  | outgrown => exact ⟨_, a₁, w₁, hq, .of_steps (.one step_scope) harr⟩
end
end Go.Proofs.YtlcoibhbdgdfcaaGreatDoor

namespace Go.Proofs.YtlcoibhbdgdfcaaGreatDoor
open Go.RowKit

def finNat (i u most : Nat) (l : List UInt8) : Nat × Option (List UInt8) :=
  match leb i l with
  | some (v, r) => if u + v * 128 ^ i ≤ most then (u + v * 128 ^ i, some r) else (0, none)
  | none => (0, none)

/-- The frame at the labels. -/
def natFrame (e most u : Nat) (sh : Value) (f : Nat → Value) : Act :=
  { tmps := #[.pointer (some ⟨e, 0, none⟩), .int .u64 most, undef, undef, .int .u64 0, .int .u64 u, sh, f 7, f 8, f 9, f 10, f 11, f 12, f 13, f 14, f 15, f 16, f 17, f 18, f 19, f 20, f 21, f 22, f 23, f 24, f 25, f 26, f 27, f 28, f 29, f 30, f 31, f 32, f 33, f 34, f 35, f 36, f 37, f 38, f 39, f 40, f 41, f 42, f 43, f 44, f 45, f 46, f 47, f 48], defers := [] }

def natJ (w : World) (e most : Nat) (st : Option (List UInt8)) : Nat → Act → World → Prop
  | 0, a, wr => ∃ (i u : Nat) (l : List UInt8), i ≤ 9 ∧ u < 128 ^ i ∧ l.length ≤ 70368744177664 ∧ EyeAt wr e (some l) ∧ Chg [e] w wr ∧
      a = natFrame e most u (.int .i64 (7 * (i : Int))) (fun k => a.tmps.getD k undef) ∧ finNat i u most l = eNat most st
  | 1, a, wr => ∃ (u : Nat) (sh : Value) (st' : Option (List UInt8)), EyeAt wr e st' ∧ Chg [e] w wr ∧ a = natFrame e most u sh (fun k => a.tmps.getD k undef) ∧ eNat most st = (0, none)
  | _, _, _ => False
def natM : Nat → Act → World → Nat
  | 0, a, _ => 100 - (intOf (a.tmps.getD 6 undef)).toNat
  | _, _, _ => 0

theorem finNat_zero (most : Nat) (l : List UInt8) : finNat 0 0 most l = eNat most (some l) := by
  unfold finNat eNat
  cases hl : leb 0 l <;> simp [hl]
theorem finNat_nil (i u most : Nat) : finNat i u most [] = (0, none) := by simp [finNat, leb]
theorem finNat_bad {i u most : Nat} {c : UInt8} {r : List UInt8} (h : i = 9 ∧ 1 < c.toNat ∨ c.toNat = 0 ∧ 0 < i) : finNat i u most (c :: r) = (0, none) := by
  simp only [finNat, leb, if_pos h]
theorem finNat_more {i u most : Nat} {c : UInt8} {r : List UInt8} (h : ¬ (i = 9 ∧ 1 < c.toNat ∨ c.toNat = 0 ∧ 0 < i)) (h1 : 128 ≤ c.toNat) :
    finNat i u most (c :: r) = finNat (i + 1) (u + c.toNat % 128 * 128 ^ i) most r := by
  simp only [finNat, leb, if_neg h, if_pos h1]
  cases hl : leb (i + 1) r with
  | none => rfl
  | some p =>
    have e : u + (c.toNat % 128 + 128 * p.1) * 128 ^ i = u + c.toNat % 128 * 128 ^ i + p.1 * 128 ^ (i + 1) := by
      rw [Nat.pow_succ, Nat.add_mul, Nat.add_assoc, Nat.mul_comm 128 p.1, Nat.mul_assoc, Nat.mul_comm 128 (128 ^ i)]
    simp only [Option.map_some, e]
theorem finNat_last {i u most : Nat} {c : UInt8} {r : List UInt8} (h : ¬ (i = 9 ∧ 1 < c.toNat ∨ c.toNat = 0 ∧ 0 < i)) (h1 : ¬ 128 ≤ c.toNat) :
    finNat i u most (c :: r) = if u + c.toNat % 128 * 128 ^ i ≤ most then (u + c.toNat % 128 * 128 ^ i, some r) else (0, none) := by
  simp only [finNat, leb, if_neg h, if_neg h1]
  rw [Nat.mod_eq_of_lt (by omega)]

set_option maxRecDepth 100000 in
set_option maxHeartbeats 2000000 in
theorem eye_nat (w : World) (e most : Nat) (st : Option (List UInt8)) (_hmost : most < 18446744073709551616) (he : EyeAt w e st) (hl : ∀ l, st = some l → l.length ≤ 70368744177664) :
    Calls Tryz.prog 71 #[.pointer (some ⟨e, 0, none⟩), .int .u64 most] w fun r w' => r = .returned (.int .u64 (eNat most st).1) ∧ EyeAt w' e (eNat most st).2 ∧ Chg [e] w w' := by
  go_enter Tryz.func71, Tryz.ntmps71
  go_wp2
  refine (fun pass => wp_scope_labels (natJ w e most st) natM ?_ pass) ?_
  · go_wp2
    rename_i K hK
    refine wp_label (hK _ _ ?_)
    cases st with
    | none =>
      clear pass hK hl
      go_wp2_with fail
      refine (eye_raw w e none 1 he (by simp)).mono ?_
      rintro r w1 ⟨rfl, he1, hc1⟩
      have e1 : eRaw 1 none = ([], none) := rfl
      rw [e1] at he1 ⊢
      go_wp2
      go_step3
      exact ⟨0, _, none, he1, hc1, rfl, rfl⟩
    | some l =>
      obtain ⟨R, hf, hp⟩ := pass 0 (natFrame e most 0 (.int .i64 (7 * ((0 : Nat) : Int))) (fun _ => undef)) w ⟨0, 0, l, by omega, by omega, hl l rfl, he, Chg.refl _ _, rfl, finNat_zero most l⟩
      obtain rfl := (Code.seq.inj (Option.some.inj hf)).2
      refine wp_mono hp (fun ex a1 w1 hq => ?_)
      cases ex <;> first | exact hq.1 | exact hq
  · intro lb a wr hJ
    match lb with
    | 0 =>
      obtain ⟨i, u, l, hi, hu, hll, hel, hch, ha, hfin⟩ := hJ
      generalize (fun k => a.tmps.getD k undef) = f at ha
      subst ha
      refine ⟨_, rfl, ?_⟩
      have HFin := Lib.hid hfin
      clear hfin hl he
      unfold natFrame
      go_wp2_with fail
      refine (eye_raw wr e (some l) 1 hel (by intro l' h; cases h; exact hll)).mono ?_
      rintro r w1 ⟨rfl, he1, hc1⟩
      have hch1 := hch.trans hc1
      clear hc1 hch hel
      cases l with
      | nil =>
        have e1 : eRaw 1 (some []) = ([], none) := rfl
        rw [e1] at he1 ⊢
        go_wp2
        go_step3
        exact ⟨⟨u, _, none, he1, hch1, rfl, HFin.out.symm.trans (finNat_nil _ _ _)⟩, by simp [natM, intOf]; omega⟩
      | cons c rest =>
        have e1 : eRaw 1 (some (c :: rest)) = ([c], some rest) := by show (if _ then _ else _) = _; rw [if_pos (by simp; omega)]; rfl
        rw [e1] at he1 ⊢
        clear e1
        have hc256 := c.toNat_lt
        have hll' : rest.length ≤ 70368744177664 := by simp at hll; omega
        clear hll
        by_cases h9 : i = 9 ∧ 1 < c.toNat ∨ c.toNat = 0 ∧ 0 < i
        · have HB := Lib.hid (HFin.out.symm.trans (finNat_bad h9))
          clear HFin
          rcases h9 with ⟨h91, h92⟩ | ⟨h91, h92⟩
          · subst h91
            go_wp2
            go_step3
            exact ⟨⟨u, _, some rest, he1, hch1, rfl, HB.out⟩, by simp [natM, intOf]⟩
          · have h93 : ((c.toNat : Int) == 0) = true := by simp; omega
            clear h91
            go_wp2
            all_goals go_step3
            all_goals exact ⟨⟨u, _, some rest, he1, hch1, rfl, HB.out⟩, by simp [natM, intOf]; omega⟩
        · have hcb : i = 9 → c.toNat % 128 ≤ 1 := by omega
          have hor := or_shl u i c.toNat hi (by omega) hcb hu
          have hu2 : u + c.toNat % 128 * 128 ^ i < 128 ^ (i + 1) := by
            have : c.toNat % 128 * 128 ^ i ≤ 127 * 128 ^ i := Nat.mul_le_mul_right _ (by omega)
            rw [Nat.pow_succ]
            omega
          by_cases h128 : 128 ≤ c.toNat
          · have HB := Lib.hid ((finNat_more h9 h128).symm.trans HFin.out)
            clear HFin
            have hi9 : i < 9 := by omega
            clear h9 hcb
            generalize u + c.toNat % 128 * 128 ^ i = u2 at *
            go_wp2
            go_step3
            exact ⟨⟨i + 1, u2, rest, by omega, hu2, hll', he1, hch1, by rw [show 7 * ((i + 1 : Nat) : Int) = 7 * (i : Int) + 7 from by omega]; rfl, HB.out⟩, by simp [natM, intOf]; omega⟩
          · have HB := Lib.hid (HFin.out.symm.trans (finNat_last h9 h128))
            clear HFin
            generalize u + c.toNat % 128 * 128 ^ i = u2 at *
            by_cases h99 : i = 9
            · subst h99
              have hc1 : (c.toNat : Int) ≤ 1 := by omega
              have hor' : bits .or .u64 (u : Int) (IntKind.u64.wrap (IntKind.u64.wrap (bits .and .u8 (c.toNat : Int) 127) * 9223372036854775808)) = (u2 : Int) := hor
              clear hor
              have hc0 : ((c.toNat : Int) == 0) = false := by simp; omega
              clear h9 hcb
              go_wp2
              all_goals first
                | (have hle : u2 ≤ most := by assumption
                   go_ret
                   rw [HB.out, if_pos hle]
                   exact ⟨rfl, he1, hch1⟩)
                | (have hle : ¬ u2 ≤ most := by assumption
                   have HE := Lib.hid (HB.out.trans (if_neg hle))
                   clear HB
                   go_step3
                   go_wp2_with fail
                   refine (eye_shut w1 e _ he1).mono ?_
                   rintro r w2 ⟨rfl, he2, hc2⟩
                   go_wp2
                   go_ret
                   rw [HE.out]
                   exact ⟨rfl, he2, hch1.trans hc2⟩)
            · by_cases hc : c.toNat = 0
              · obtain rfl : i = 0 := by omega
                have hc0 : ((c.toNat : Int) == 0) = true := by simp; omega
                rw [show ((2 : Int) ^ (7 * 0)) = 1 from rfl, Int.mul_one] at hor
                clear h9 hcb h99 hc
                go_wp2
                all_goals first
                  | (have hle : u2 ≤ most := by assumption
                     go_ret
                     rw [HB.out, if_pos hle]
                     exact ⟨rfl, he1, hch1⟩)
                  | (have hle : ¬ u2 ≤ most := by assumption
                     have HE := Lib.hid (HB.out.trans (if_neg hle))
                     clear HB
                     go_step3
                     go_wp2_with fail
                     refine (eye_shut w1 e _ he1).mono ?_
                     rintro r w2 ⟨rfl, he2, hc2⟩
                     go_wp2
                     go_ret
                     rw [HE.out]
                     exact ⟨rfl, he2, hch1.trans hc2⟩)
              · have hc0 : ((c.toNat : Int) == 0) = false := by simp; omega
                have h70 : ((7 * (i : Int)) == 63) = false := by simp; omega
                clear h9 hcb h99 hc
                go_wp2
                all_goals first
                  | (have hle : u2 ≤ most := by assumption
                     go_ret
                     rw [HB.out, if_pos hle]
                     exact ⟨rfl, he1, hch1⟩)
                  | (have hle : ¬ u2 ≤ most := by assumption
                     have HE := Lib.hid (HB.out.trans (if_neg hle))
                     clear HB
                     go_step3
                     go_wp2_with fail
                     refine (eye_shut w1 e _ he1).mono ?_
                     rintro r w2 ⟨rfl, he2, hc2⟩
                     go_wp2
                     go_ret
                     rw [HE.out]
                     exact ⟨rfl, he2, hch1.trans hc2⟩)
    | 1 =>
      obtain ⟨u, sh, st', hel, hch, ha, hfin⟩ := hJ
      generalize (fun k => a.tmps.getD k undef) = f at ha
      subst ha
      refine ⟨_, rfl, ?_⟩
      have HFin := Lib.hid hfin
      clear hfin hl he
      unfold natFrame
      go_wp2_with fail
      refine (eye_shut wr e st' hel).mono ?_
      rintro r w1 ⟨rfl, he1, hc1⟩
      go_wp2
      go_ret
      rw [HFin.out]
      exact ⟨rfl, he1, hch.trans hc1⟩
    | _ + 2 => exact hJ.elim
theorem eye_nat_nil (w : World) (most : Nat) (_hmost : most < 18446744073709551616) :
    Calls Tryz.prog 71 #[.pointer none, .int .u64 most] w fun r w' => r = .returned (.int .u64 0) ∧ w = w' := by
  go_enter Tryz.func71, Tryz.ntmps71
  go_wp2
  refine wp_scope_labels (fun l a w' => l = 1 ∧ w = w' ∧ ∃ f : Nat → Value, a = { tmps := #[.pointer none, .int .u64 most, undef, undef, .int .u64 0, .int .u64 0, .int .i64 0, f 7, f 8, f 9, f 10, f 11, f 12, f 13, f 14, f 15, f 16, f 17, f 18, f 19, f 20, f 21, f 22, f 23, f 24, f 25, f 26, f 27, f 28, f 29, f 30, f 31, f 32, f 33, f 34, f 35, f 36, f 37, f 38, f 39, f 40, f 41, f 42, f 43, f 44, f 45, f 46, f 47, f 48], defers := [] }) (fun _ _ _ => 0) ?_ ?_
  · go_wp2
    go_step3
    go_wp2_with fail
    refine (eye_raw_nil w 1).mono ?_
    rintro r w1 ⟨rfl, rfl⟩
    go_wp2
    go_step3
    exact ⟨rfl, rfl, fun k => (#[undef, undef, undef, undef, undef, undef, undef, .string ⟨#[]⟩, .pointer none, .string ⟨#[]⟩, .string ⟨#[]⟩, .bool true, .bool true, undef, undef, undef, undef, undef, undef, undef, .bool true, .bool true, undef, undef, undef, undef, undef, undef, undef, .bool true] : Array Value).getD k undef, by rfl⟩
  · rintro l a w' ⟨rfl, rfl, f, rfl⟩
    refine ⟨_, rfl, ?_⟩
    go_wp2_with fail
    refine (eye_shut_nil w).mono ?_
    rintro r w1 ⟨rfl, rfl⟩
    go_wp2
    go_ret
    exact ⟨rfl, rfl⟩

theorem eye_int (w : World) (e : Nat) (st : Option (List UInt8)) (he : EyeAt w e st) (hl : ∀ l, st = some l → l.length ≤ 70368744177664) :
    Calls Tryz.prog 74 #[.pointer (some ⟨e, 0, none⟩)] w fun r w' => r = .returned (.int .i64 (zag (eNat 18446744073709551615 st).1)) ∧ EyeAt w' e (eNat 18446744073709551615 st).2 ∧ Chg [e] w w' := by
  have hb := eNat_le 18446744073709551615 st
  go_enter Tryz.func74, Tryz.ntmps74
  go_wp2_with fail
  refine (eye_nat w e 18446744073709551615 st (by omega) he hl).mono ?_
  rintro r w1 ⟨rfl, he1, hc1⟩
  generalize hst : eNat 18446744073709551615 st = p at *
  have HST := Lib.hid hst
  clear hst
  go_wp2_with fail
  refine (sign_zag w1 p.1 (by omega)).mono ?_
  rintro r w2 ⟨rfl, rfl⟩
  go_wp2
  go_ret
  rw [HST.out]
  exact ⟨rfl, he1, hc1⟩
theorem eye_int_nil (w : World) :
    Calls Tryz.prog 74 #[.pointer none] w fun r w' => r = .returned (.int .i64 0) ∧ w = w' := by
  go_enter Tryz.func74, Tryz.ntmps74
  go_wp2_with fail
  refine (eye_nat_nil w 18446744073709551615 (by omega)).mono ?_
  rintro r w1 ⟨rfl, rfl⟩
  go_wp2_with fail
  refine (sign_zag w 0 (by omega)).mono ?_
  rintro r w2 ⟨rfl, rfl⟩
  go_wp2
  go_ret
  exact ⟨rfl, rfl⟩

set_option maxRecDepth 100000 in
theorem eye_small (w : World) (e : Nat) (st : Option (List UInt8)) (most : Int) (hm : most < 9223372036854775808) (he : EyeAt w e st) (hl : ∀ l, st = some l → l.length ≤ 70368744177664) :
    Calls Tryz.prog 54 #[.pointer (some ⟨e, 0, none⟩), .int .i64 most] w fun r w' => r = .returned (.int .i64 (eNat most.toNat st).1) ∧ EyeAt w' e (eNat most.toNat st).2 ∧ Chg [e] w w' := by
  have hb := eNat_le most.toNat st
  rcases Int.lt_or_le most 0 with h | h
  · have e0 : most.toNat = 0 := by omega
    rw [e0] at hb ⊢
    have hb2 : (eNat 0 st).1 < 9223372036854775808 := by omega
    clear hb e0
    go_enter Tryz.func54, Tryz.ntmps54
    go_wp2_with fail
    try rw [show max most 0 = 0 from by omega]
    refine (eye_nat w e 0 st (by omega) he hl).mono ?_
    rintro r w1 ⟨rfl, he1, hc1⟩
    go_wp2
    go_ret
    exact ⟨rfl, he1, hc1⟩
  · obtain ⟨m, rfl⟩ := Int.eq_ofNat_of_zero_le h
    have hb2 : (eNat m st).1 < 9223372036854775808 := by simp only [Int.toNat_natCast] at hb; omega
    rw [Int.toNat_natCast]
    clear hb
    go_enter Tryz.func54, Tryz.ntmps54
    go_wp2_with fail
    try rw [show max (m : Int) 0 = m from by omega]
    refine (eye_nat w e m st (by omega) he hl).mono ?_
    rintro r w1 ⟨rfl, he1, hc1⟩
    go_wp2
    go_ret
    exact ⟨rfl, he1, hc1⟩
theorem eye_small_nil (w : World) (most : Int) (hm : most < 9223372036854775808) (hm0 : 0 ≤ most) :
    Calls Tryz.prog 54 #[.pointer none, .int .i64 most] w fun r w' => r = .returned (.int .i64 0) ∧ w = w' := by
  obtain ⟨m, rfl⟩ := Int.eq_ofNat_of_zero_le hm0
  go_enter Tryz.func54, Tryz.ntmps54
  go_wp2_with fail
  refine (eye_nat_nil w m (by omega)).mono ?_
  rintro r w1 ⟨rfl, rfl⟩
  go_wp2
  go_ret
  exact ⟨rfl, rfl⟩

/-- A number from 1 to 2^63 - 1: else the eye is bad. -/
def eCount (st : Option (List UInt8)) : Nat × Option (List UInt8) := if (eNat 9223372036854775807 st).1 = 0 then (0, none) else eNat 9223372036854775807 st
theorem eye_count (w : World) (e : Nat) (st : Option (List UInt8)) (he : EyeAt w e st) (hl : ∀ l, st = some l → l.length ≤ 70368744177664) :
    Calls Tryz.prog 82 #[.pointer (some ⟨e, 0, none⟩)] w fun r w' => r = .returned (.int .u64 (eCount st).1) ∧ EyeAt w' e (eCount st).2 ∧ Chg [e] w w' := by
  have hb := eNat_le 9223372036854775807 st
  go_enter Tryz.func82, Tryz.ntmps82
  go_wp2_with fail
  refine (eye_nat w e 9223372036854775807 st (by omega) he hl).mono ?_
  rintro r w1 ⟨rfl, he1, hc1⟩
  have HC := Lib.hid (show eCount st = if (eNat 9223372036854775807 st).1 = 0 then (0, none) else eNat 9223372036854775807 st from rfl)
  generalize eNat 9223372036854775807 st = p at *
  obtain ⟨n, st'⟩ := p
  simp only at *
  by_cases hn : n = 0
  · subst hn
    go_wp2_with fail
    refine (eye_shut w1 e st' he1).mono ?_
    rintro r w2 ⟨rfl, he2, hc2⟩
    go_wp2
    go_ret
    rw [HC.out]
    simp only [if_true]
    exact ⟨rfl, he2, hc1.trans hc2⟩
  · have hn' : ((n : Int) == 0) = false := by simp; omega
    have HN := Lib.hid hn
    clear hn
    go_wp2
    go_ret
    rw [HC.out, if_neg HN.out]
    exact ⟨rfl, he1, hc1⟩
theorem eye_count_nil (w : World) :
    Calls Tryz.prog 82 #[.pointer none] w fun r w' => r = .returned (.int .u64 0) ∧ w = w' := by
  go_enter Tryz.func82, Tryz.ntmps82
  go_wp2_with fail
  refine (eye_nat_nil w 9223372036854775807 (by omega)).mono ?_
  rintro r w1 ⟨rfl, rfl⟩
  go_wp2_with fail
  refine (eye_shut_nil w).mono ?_
  rintro r w1 ⟨rfl, rfl⟩
  go_wp2
  go_ret
  exact ⟨rfl, rfl⟩
end Go.Proofs.YtlcoibhbdgdfcaaGreatDoor
