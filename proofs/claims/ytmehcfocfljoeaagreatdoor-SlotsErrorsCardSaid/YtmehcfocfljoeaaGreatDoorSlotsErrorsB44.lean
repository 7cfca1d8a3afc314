/-
  The walks of frame.Close and frame.Open. Conditions: the form's own reach.
  The walk of suite's Decode, of any kind whose bytes are read in a known way. Conditions: the form's own reach.
  The walk of suite's readLumps. Conditions: the form's own reach.
-/
import Derived.Test.YtmehcfocfljoeaaGreatDoorSlotsErrorsB43
import Derived.OwnWalk
import Derived.Test.YtmehcfocfljoeaaGreatDoorSlotsErrorsB37
import Derived.Test.YtmehcfocfljoeaaGreatDoorSlotsErrorsB34
import Derived.Test.YtmehcfocfljoeaaGreatDoorSlotsErrorsB42
namespace Go.Proofs.YtmehcfocfljoeaaGreatDoor
open Go.RowKit

set_option maxRecDepth 100000 in
set_option maxHeartbeats 1000000 in
theorem frame_close (w : World) (k : UInt8) (t : List UInt8) (ht : t.length ≤ 262144) :
    Calls Tryz.prog 42 #[.int .u8 (k.toNat : Nat), .string ⟨t.toArray⟩] w fun e w' => e = .returned (.tuple #[.string ⟨(closeB k t).toArray⟩, .int .i64 0]) ∧ Chg [] w w' := by
  have hd : decide ((262144 : Int) < (t.length : Int)) = false := decide_eq_false (by omega)
  have HL := Lib.hid (natB_len10 (n := t.length) (by omega))
  have HQ := Lib.hid (new_quill w)
  go_enter Tryz.func42, Tryz.ntmps42
  go_wp2_with fail
  refine (quill_raw _ w.heap.size [w.heap.size] [] [79, 71, 1] HQ.out (by simp)).mono ?_
  rintro e w1 ⟨rfl, F1, hq1, hm1⟩
  have hc1 := hm1.chg_own ((Chg.refl [] w).alloc _) (by simp)
  have hF1 := hm1.own ((Chg.refl [] w).alloc _) (by simp)
  have hcv := run_one_byte w1 _ k rfl
  clear hm1
  go_wp2_with fail
  refine (quill_raw _ w.heap.size F1 _ [k] (hq1.alloc _) (by simp)).mono ?_
  rintro e w2 ⟨rfl, F2, hq2, hm2⟩
  have hc2 := hm2.chg_own (hc1.alloc _) hF1
  have hF2 := hm2.own (hc1.alloc _) hF1
  clear hm2 hcv hq1
  go_wp2_with fail
  refine (quill_nat1 w2 w.heap.size F2 _ t.length (by omega) hq2 _ (by simp) (by simp)).mono ?_
  rintro e w3 ⟨rfl, F3, hq3, hm3⟩
  have hc3 := hm3.chg_own hc2 hF2
  have hF3 := hm3.own hc2 hF2
  clear hm3 hq2
  have hl3 : (([] : List UInt8) ++ [79, 71, 1] ++ [k] ++ natB t.length).length + t.length ≤ 300000 := by have := HL.out; simp; omega
  go_wp2_with fail
  refine (quill_raw _ w.heap.size F3 _ t hq3 (by omega)).mono ?_
  rintro e w4 ⟨rfl, F4, hq4, hm4⟩
  have hc4 := hm4.chg_own hc3 hF3
  have hF4 := hm4.own hc3 hF3
  have hl4 : (headF k t).length ≤ 300000 := by simpa [headF, markB, Nat.add_assoc, Nat.add_comm, Nat.add_left_comm] using hl3
  have hq4 : Qul w4 w.heap.size F4 (headF k t) := by simpa [headF, markB] using hq4
  clear hm4 hq3
  have HCL := Lib.hid (show closeB k t = headF k t ++ fourB (crcSum (headF k t)) from rfl)
  generalize headF k t = H at *
  go_wp2_with fail
  refine (quill_text w4 w.heap.size F4 _ hq4).mono ?_
  rintro e w5 ⟨rfl, rfl⟩
  go_wp2_with fail
  refine (frame_sum w4 H (by omega)).mono ?_
  rintro e w5 ⟨rfl, rfl⟩
  go_wp2_with fail
  refine (frame_four w4 (crcSum H)).mono ?_
  rintro e w5 ⟨rfl, hc5⟩
  have hl5 : (fourB (crcSum H)).length = 4 := rfl
  go_wp2_with fail
  refine (quill_raw w5 w.heap.size F4 _ _ (hq4.chg hc5 (by simp)) (by omega)).mono ?_
  rintro e w6 ⟨rfl, F6, hq6, hm6⟩
  have hc6 := hm6.chg_own (hc4.trans hc5) hF4
  rw [← HCL.out] at hq6
  go_wp2_with fail
  refine (quill_text w6 w.heap.size F6 _ hq6).mono ?_
  rintro e w7 ⟨rfl, rfl⟩
  go_wp2
  go_ret2
  exact ⟨rfl, hc6⟩

theorem frame_close_long (w : World) (k : UInt8) (t : List UInt8) (ht : 262144 < t.length) :
    Calls Tryz.prog 42 #[.int .u8 (k.toNat : Nat), .string ⟨t.toArray⟩] w fun e w' => e = .returned (.tuple #[.string ⟨#[]⟩, .int .i64 3]) ∧ w = w' := by
  have hd : decide ((262144 : Int) < (t.length : Int)) = true := decide_eq_true (by omega)
  go_enter Tryz.func42, Tryz.ntmps42
  go_wp2
  go_ret2
  exact ⟨rfl, rfl⟩

def openV : Option (UInt8 × List UInt8) → Value
  | none => .tuple #[.int .u8 0, .string ⟨#[]⟩, .int .i64 4]
  | some (k, t) => .tuple #[.int .u8 (k.toNat : Nat), .string ⟨t.toArray⟩, .int .i64 0]
theorem openF_eq {s kk t u : List UInt8} {n : Nat} {st1 st2 st3 st4 st5 : Option (List UInt8)} (hA : eRaw 3 (some s) = (markB, st1)) (hB : eRaw 1 st1 = (kk, st2)) (hN : eNat 262144 st2 = (n, st3)) (hT : eRaw n st3 = (t, st4)) (hU : eRaw 4 st4 = (u, st5)) :
    openF s = if st5 = some [] ∧ fourB (crcSum (s.take (s.length - 4))) = u then some (kk.headD 0, t) else none := by
  simp [openF, hA, hB, hN, hT, hU]
theorem openF_mark {s x : List UInt8} {st1 : Option (List UInt8)} (hA : eRaw 3 (some s) = (x, st1)) (h : x ≠ markB) : openF s = none := by
  simp [openF, hA, h]
theorem open_parts {s x kk t u : List UInt8} {n : Nat} {st1 st2 st3 st4 : Option (List UInt8)} (hA : eRaw 3 (some s) = (x, st1)) (hB : eRaw 1 st1 = (kk, st2)) (hN : eNat 262144 st2 = (n, st3)) (hT : eRaw n st3 = (t, st4)) (hU : eRaw 4 st4 = (u, some [])) :
    4 ≤ s.length ∧ ∃ c, kk = [c] := by
  obtain ⟨q5, _, l5⟩ := eRaw_sound hU
  subst q5
  obtain ⟨q4, _, l4⟩ := eRaw_sound hT
  subst q4
  cases st2 with
  | none => simp [eNat] at hN
  | some s2 =>
    obtain ⟨q2, _, l2⟩ := eRaw_sound hB
    subst q2
    obtain ⟨q1, _, l1⟩ := eRaw_sound hA
    obtain ⟨e3, _, _⟩ := eNat_sound hN
    simp only [Option.some.injEq] at q1
    subst e3 q1
    constructor
    · simp only [List.length_append]; omega
    · match kk, l2 with
      | [c], _ => exact ⟨c, rfl⟩
theorem eRaw_short {n : Int} {st st' : Option (List UInt8)} {x : List UInt8} (h : eRaw n st = (x, st')) (hl : ∀ l, st = some l → l.length ≤ 70368744177664) : ∀ l, st' = some l → l.length ≤ 70368744177664 := by
  intro l hl'
  subst hl'
  obtain ⟨h1, _, _⟩ := eRaw_sound h
  have := hl _ h1
  rw [List.length_append] at this
  omega
theorem eNat_short {most v : Nat} {st st' : Option (List UInt8)} (h : eNat most st = (v, st')) (hl : ∀ l, st = some l → l.length ≤ 70368744177664) : ∀ l, st' = some l → l.length ≤ 70368744177664 := by
  intro l hl'
  subst hl'
  cases st with
  | none => simp [eNat] at h
  | some s =>
    obtain ⟨h1, _, _⟩ := eNat_sound h
    have := hl _ rfl
    rw [h1, List.length_append] at this
    omega
attribute [local go_sem] ByteArray.extract_mk

set_option maxRecDepth 100000 in
set_option maxHeartbeats 1000000 in
theorem frame_open (w : World) (s : List UInt8) (hs : s.length ≤ 1000000) :
    Calls Tryz.prog 46 #[.string ⟨s.toArray⟩] w fun e w' => e = .returned (openV (openF s)) ∧ Chg [] w w' := by
  go_enter Tryz.func46, Tryz.ntmps46
  go_wp2_with fail
  refine (eye_on w s).mono ?_
  rintro e w1 ⟨rfl, he1, hc1⟩
  go_wp2_with fail
  refine (eye_raw w1 w.heap.size _ 3 he1 (by intro l h; cases h; omega)).mono ?_
  rintro e w2 ⟨rfl, he2, hc2⟩
  have hc2 := hc1.trans' hc2 (by simp)
  generalize hA : eRaw 3 (some s) = A at *
  obtain ⟨x, st1⟩ := A
  simp only at he2 ⊢
  have HA := Lib.hid hA
  clear hA he1
  have HS1 := Lib.hid (eRaw_short HA.out (by intro l h; cases h; omega))
  by_cases hx : x = markB
  · have hxe : (x == [79, 71, 1]) = true := by simp [hx, markB]
    go_wp2_with fail
    refine (eye_raw w2 w.heap.size _ 1 he2 HS1.out).mono ?_
    rintro e w3 ⟨rfl, he3, hc3⟩
    have hc3 := hc2.trans' hc3 (by simp)
    generalize hB : eRaw 1 st1 = B at *
    obtain ⟨kk, st2⟩ := B
    simp only at he3 ⊢
    have HB := Lib.hid hB
    have HS2 := Lib.hid (eRaw_short hB HS1.out)
    clear hB he2
    go_wp2_with fail
    refine (eye_small w3 w.heap.size st2 262144 (by omega) he3 HS2.out).mono ?_
    rintro e w4 ⟨rfl, he4, hc4⟩
    have hc4 := hc3.trans' hc4 (by simp)
    rw [show Int.toNat 262144 = 262144 from rfl] at he4 ⊢
    generalize hN : eNat 262144 st2 = N at *
    obtain ⟨n, st3⟩ := N
    simp only at he4 ⊢
    have HN := Lib.hid hN
    have HS3 := Lib.hid (eNat_short hN HS2.out)
    clear hN he3
    go_wp2_with fail
    refine (eye_raw w4 w.heap.size _ (n : Nat) he4 HS3.out).mono ?_
    rintro e w5 ⟨rfl, he5, hc5⟩
    have hc5 := hc4.trans' hc5 (by simp)
    generalize hT : eRaw (n : Nat) st3 = T at *
    obtain ⟨t, st4⟩ := T
    simp only at he5 ⊢
    have HT := Lib.hid hT
    have HS4 := Lib.hid (eRaw_short hT HS3.out)
    clear hT he4
    go_wp2_with fail
    refine (eye_raw w5 w.heap.size _ 4 he5 HS4.out).mono ?_
    rintro e w6 ⟨rfl, he6, hc6⟩
    have hc6 := hc5.trans' hc6 (by simp)
    generalize hU : eRaw 4 st4 = U at *
    obtain ⟨u, st5⟩ := U
    simp only at he6 ⊢
    have HU := Lib.hid hU
    clear hU he5
    go_wp2_with fail
    refine (eye_over w6 w.heap.size _ he6).mono ?_
    rintro e w7 ⟨rfl, rfl⟩
    have HX := HA.out
    rw [hx] at HX
    have HO := Lib.hid (openF_eq HX HB.out HN.out HT.out HU.out)
    clear HX hx
    by_cases h5 : st5 = some []
    · subst h5
      obtain ⟨hs4, c, hc⟩ := open_parts HA.out HB.out HN.out HT.out HU.out
      subst hc
      have hsub : (s.length : Int) - 4 = ((s.length - 4 : Nat) : Int) := by omega
      have hsl : (s.take (s.length - 4)).length ≤ 70368744177664 := by rw [List.length_take]; omega
      rw [show ((some [] : Option (List UInt8)) == some []) = true from rfl]
      go_wp2_with fail
      refine (frame_sum w6 (s.take (s.length - 4)) hsl).mono ?_
      rintro e w7 ⟨rfl, rfl⟩
      have HSL := Lib.hid (show openF s = if fourB (crcSum (s.take (s.length - 4))) = u then some (c, t) else none from by rw [HO.out]; simp)
      generalize crcSum (s.take (s.length - 4)) = cs at *
      go_wp2_with fail
      refine (frame_four w6 cs).mono ?_
      rintro e w7 ⟨rfl, hc7⟩
      have hc7 := hc6.trans hc7
      generalize fourB cs = f4 at *
      by_cases hf : f4 = u
      · have hfb : (f4 == u) = true := by simp [hf]
        have HO2 := Lib.hid (show openF s = some (c, t) from by rw [HSL.out, if_pos hf])
        clear hf
        go_wp2
        go_ret3
        exact ⟨by rw [HO2.out]; rfl, hc7⟩
      · have hfb : (f4 == u) = false := by simpa using hf
        have HO2 := Lib.hid (show openF s = none from by rw [HSL.out, if_neg hf])
        clear hf
        go_wp2
        go_ret3
        exact ⟨by rw [HO2.out]; rfl, hc7⟩
    · have h5b : (st5 == some []) = false := by simpa using h5
      have HO2 := Lib.hid (show openF s = none from by rw [HO.out, if_neg (fun h => h5 h.1)])
      rw [h5b]
      clear h5 h5b
      go_wp2
      go_ret3
      exact ⟨by rw [HO2.out]; rfl, hc6⟩
  · have hxe : (x == [79, 71, 1]) = false := by simpa [markB] using hx
    have HO := Lib.hid (openF_mark HA.out hx)
    clear hx
    go_wp2
    go_ret3
    exact ⟨by rw [HO.out]; rfl, hc2⟩
end Go.Proofs.YtmehcfocfljoeaaGreatDoor

namespace Go.Proofs.YtmehcfocfljoeaaGreatDoor
open Go.RowKit

/-- What is read of a load: a config, a core, whether it can be; what there is then: the core's type and value, and its blocks. -/
def ReadP (u w' : World) (c : Cf) (ok : Bool) (O : Nat → Value → World → List Nat → Prop) (r : Ending) : Prop :=
  ∃ d, r = .returned (.tuple #[c.val, d, .bool ok]) ∧ (ok = true → ∃ T x G, d = .iface T x ∧ O T x w' G ∧ ∀ b ∈ G, u.heap.size ≤ b)
/-- What is decoded. -/
def DecP (w w' : World) (c : Cf) (ok : Bool) (O : Nat → Value → World → List Nat → Prop) (e : Ending) : Prop :=
  (ok = false ∧ e = .returned (.tuple #[.pointer none, .int .i64 4]) ∧ Chg [] w w') ∨
  (ok = true ∧ ∃ s T x G, e = .returned (.tuple #[.pointer (some ⟨s, 0, none⟩), .int .i64 0]) ∧ Blk w' s (c.cells ++ #[.iface T x]) 101 ∧ O T x w' G ∧ s ∉ G ∧ (∀ b ∈ G, w.heap.size ≤ b) ∧ w.heap.size ≤ s ∧ Chg [] w w')
/-- What keeps to its blocks. -/
structure Keeps (O : Nat → Value → World → List Nat → Prop) : Prop where
  chg : ∀ {T x w w' F G}, O T x w G → Chg F w w' → (∀ b ∈ G, b ∉ F) → O T x w' G
  lt : ∀ {T x w G}, O T x w G → ∀ b ∈ G, b < w.heap.size
set_option maxRecDepth 100000 in
set_option maxHeartbeats 4000000 in
theorem decode_none (w : World) (b : List UInt8) (hb : b.length ≤ 1000000) (ho : openF b = none) :
    Calls Tryz.prog 36 #[.string ⟨b.toArray⟩] w fun e w' => e = .returned (.tuple #[.pointer none, .int .i64 4]) ∧ Chg [] w w' := by
  have HO := Lib.hid (show ∀ u, Calls Tryz.prog 46 #[.string ⟨b.toArray⟩] u fun e w' => e = .returned (.tuple #[.int .u8 0, .string ⟨#[]⟩, .int .i64 4]) ∧ Chg [] u w' from fun u => by have := frame_open u b hb; rw [ho] at this; exact this)
  clear ho hb
  go_enter Tryz.func36, Tryz.ntmps36
  go_wp2_with fail
  refine (HO.out w).mono ?_
  rintro e w1 ⟨rfl, hc⟩
  have HC := Lib.hid hc
  clear hc HO
  go_wp2
  go_ret2
  exact ⟨rfl, HC.out⟩
set_option maxRecDepth 100000 in
set_option maxHeartbeats 4000000 in
theorem decode_some (w : World) (b : List UInt8) (hb : b.length ≤ 1000000) (k : UInt8) (t : List UInt8) (ho : openF b = some (k, t)) (c : Cf) (ok1 : Bool) (O : Nat → Value → World → List Nat → Prop) (hO : Keeps O) (st2 : Option (List UInt8)) (ok : Bool) (hok : ok = (ok1 && (st2 == some [])))
    (HR0 : ∀ u e, EyeAt u e (some t) → Calls Tryz.prog 48 #[.int .i64 (k.toNat : Nat), .pointer (some ⟨e, 0, none⟩)] u fun r w' => ReadP u w' c ok1 O r ∧ EyeAt w' e st2 ∧ Chg [e] u w') :
    Calls Tryz.prog 36 #[.string ⟨b.toArray⟩] w fun e w' => DecP w w' c ok O e := by
  have HO := Lib.hid (show ∀ u, Calls Tryz.prog 46 #[.string ⟨b.toArray⟩] u fun e w' => e = .returned (.tuple #[.int .u8 (k.toNat : Nat), .string ⟨t.toArray⟩, .int .i64 0]) ∧ Chg [] u w' from fun u => by have := frame_open u b hb; rw [ho] at this; exact this)
  have HR := Lib.hid HR0
  have HOK := Lib.hid hok
  have HK := Lib.hid hO
  have hk := k.toNat_lt
  have hwk : wrap64 (k.toNat : Int) = (k.toNat : Int) := by unfold wrap64; omega
  clear ho hb HR0 hok hO
  obtain ⟨ck, cnum, cden, cside, cmost, cdig, clim, cdep, cfac, cwid, cword⟩ := c
  go_enter Tryz.func36, Tryz.ntmps36
  go_wp2_with fail
  refine (HO.out w).mono ?_
  rintro e w1 ⟨rfl, hc⟩
  have HC := Lib.hid hc
  clear hc HO
  go_wp2_with fail
  refine (eye_on w1 t).mono ?_
  rintro e w2 ⟨rfl, he2, hc2⟩
  obtain ⟨q, hq⟩ : ∃ q, q = w1.heap.size := ⟨_, rfl⟩
  rw [← hq] at he2 ⊢
  have HE2 := Lib.hid he2
  have HC2 := Lib.hid (HC.out.trans hc2)
  have HQ := Lib.hid (show w.heap.size ≤ q from by have := HC.out.size; omega)
  clear hc2 HC hq he2
  go_wp2_with fail
  refine (HR.out w2 q HE2.out).mono ?_
  rintro e w3 ⟨⟨d, rfl, hd⟩, he3, hc3⟩
  have HD := Lib.hid hd
  have HE3 := Lib.hid he3
  have HC3 := Lib.hid (HC2.out.trans' hc3 (fun b hb => by rw [List.mem_singleton.1 hb]; exact .inr HQ.out))
  have HS23 := Lib.hid (show w.heap.size ≤ w2.heap.size from HC2.out.size)
  clear hd he3 hc3 HE2 HC2 HR hk hwk
  obtain ⟨B, hB⟩ : ∃ B, B = (st2 == some []) := ⟨_, rfl⟩
  obtain ⟨b8, hb8⟩ : ∃ z, z = w3.heap.size := ⟨_, rfl⟩
  have HY := Lib.hid (show Blk (w3.alloc (.cells (⟨ck, cnum, cden, cside, cmost, cdig, clim, cdep, cfac, cwid, cword⟩ : Cf).cells 28)) b8 (⟨ck, cnum, cden, cside, cmost, cdig, clim, cdep, cfac, cwid, cword⟩ : Cf).cells 28 from by rw [hb8]; exact Blk.alloc_new _ _ _)
  have HC4 := Lib.hid (HC3.out.alloc (.cells (⟨ck, cnum, cden, cside, cmost, cdig, clim, cdep, cfac, cwid, cword⟩ : Cf).cells 28))
  have HE4 := Lib.hid (show EyeAt (w3.alloc (.cells (⟨ck, cnum, cden, cside, cmost, cdig, clim, cdep, cfac, cwid, cword⟩ : Cf).cells 28)) q st2 from Blk.alloc HE3.out _)
  have HEO := Lib.hid (fun u (hu : EyeAt u q st2) => show Calls Tryz.prog 49 #[.pointer (some ⟨q, 0, none⟩)] u fun r w' => r = .returned (.bool B) ∧ u = w' from by rw [hB]; exact eye_over u q st2 hu)
  rw [← hB] at HOK
  clear hB
  simp only [Cf.val, Cf.cells] at HY HC4 HE4 ⊢
  cases ok1 with
  | false =>
    have hf : ok = false := by rw [HOK.out]; rfl
    go_wp2
    go_ret2
    exact .inl ⟨hf, rfl, HC4.out⟩
  | true =>
    obtain ⟨T, x, G, rfl, hx, hG⟩ := HD.out rfl
    have HX := Lib.hid (HK.out.chg (F := []) hx ((Chg.refl [] w3).alloc (.cells (⟨ck, cnum, cden, cside, cmost, cdig, clim, cdep, cfac, cwid, cword⟩ : Cf).cells 28)) (by simp))
    have HG := Lib.hid (show (∀ b ∈ G, w.heap.size ≤ b) from fun b hb => Nat.le_trans HS23.out (hG b hb))
    simp only [Cf.cells] at HX
    clear hx hG
    go_wp2_with fail
    rw [← hb8]
    clear hb8
    generalize w3.alloc (.cells #[.int .i64 ck, .int .u64 cnum, .int .u64 cden, .int .i64 cside, .int .i64 cmost, .int .i64 cdig, .int .u64 clim, .int .i64 cdep, .int .i64 cfac, .int .i64 cwid, .int .u64 cword] 28) = w4 at *
    refine (HEO.out w4 HE4.out).mono ?_
    rintro e w' ⟨rfl, rfl⟩
    cases B with
    | false =>
      have hf : ok = false := by rw [HOK.out]; rfl
      go_wp2
      go_ret2
      exact .inl ⟨hf, rfl, HC4.out⟩
    | true =>
      have hf := Lib.hid (show ok = true from by rw [HOK.out]; rfl)
      obtain ⟨z0, z1, z2, z3, z4, z5, z6, z7, z8, z9, z10⟩ := cf_cells (c := ⟨ck, cnum, cden, cside, cmost, cdig, clim, cdep, cfac, cwid, cword⟩) (b := b8) HY.out
      simp only at z0 z1 z2 z3 z4 z5 z6 z7 z8 z9 z10
      go_wp2
      go_ret2
      refine .inr ⟨hf.out, w4.heap.size, T, x, G, rfl, Blk.alloc_new _ _ _, HK.out.chg (F := []) HX.out ((Chg.refl [] w4).alloc _) (by simp), fun e' => absurd (HK.out.lt HX.out _ e') (by omega), HG.out, HC4.out.size, HC4.out.alloc _⟩
end Go.Proofs.YtmehcfocfljoeaaGreatDoor

namespace Go.Proofs.YtmehcfocfljoeaaGreatDoor
open Go.RowKit

theorem eNat_shortL {most : Nat} {st : Option (List UInt8)} (hl : ∀ l, st = some l → l.length ≤ 70368744177664) : ∀ l, (eNat most st).2 = some l → l.length ≤ 70368744177664 :=
  eNat_short (most := most) (v := (eNat most st).1) (st' := (eNat most st).2) rfl hl
theorem eCount_shortL {st : Option (List UInt8)} (hl : ∀ l, st = some l → l.length ≤ 70368744177664) : ∀ l, (eCountL st).2 = some l → l.length ≤ 70368744177664 := by
  unfold eCountL
  split
  · intro l h; simp at h
  · exact eNat_shortL hl
theorem eCountL_le (st : Option (List UInt8)) : (eCountL st).1 ≤ 9223372036854775807 := by
  unfold eCountL
  split
  · simp
  · exact eNat_le _ _
theorem getLumps_fit (n : Nat) : ∀ (acc : List Lp) (st : Option (List UInt8)), (∀ p ∈ acc, p.n < 18446744073709551616) → ∀ p ∈ (getLumps n acc st).1, p.n < 18446744073709551616 := by
  induction n with
  | zero => intro acc st h; exact h
  | succ n ih =>
    intro acc st h
    rw [getLumps]
    refine ih _ _ (fun p hp => ?_)
    rcases List.mem_append.1 hp with hp | hp
    · exact h p hp
    · rw [List.mem_singleton.1 hp]
      have := eCountL_le (eInt (eInt st).2).2
      show (eCountL (eInt (eInt st).2).2).1 < _
      omega
theorem eCountL_eq (st : Option (List UInt8)) : eCountL st = eCount st := rfl
/-- What readLumps answers. -/
def ReadLm (w w' : World) (W : Nat) (L : List Lp) (r : Ending) : Prop :=
  (¬ okLm (W : Int) L ∧ r = .returned (.tuple #[({ Cf.none 6 with most := (W : Nat) } : Cf).val, .iface 174 (.agg #[.pointer none]), .bool false])) ∨
  (okLm (W : Int) L ∧ ∃ p rv, r = .returned (.tuple #[({ Cf.none 6 with most := (W : Nat) } : Cf).val, .iface 174 (.agg #[.pointer (some ⟨p, 0, none⟩)]), .bool true]) ∧ Lms w' p rv (W : Int) L (totL L) ∧ ∀ b ∈ fpL p rv, w.heap.size ≤ b)
set_option maxRecDepth 100000 in
set_option maxHeartbeats 8000000 in
theorem read_lumps (w : World) (e : Nat) (st : Option (List UInt8)) (he : EyeAt w e st) (hl : ∀ l, st = some l → l.length ≤ 70368744177664) (W : Nat) (L : List Lp) (st2 : Option (List UInt8)) (hR : getLm st = ((W, L), st2)) :
    Calls Tryz.prog 80 #[.pointer (some ⟨e, 0, none⟩)] w fun r w' => ReadLm w w' W L r ∧ EyeAt w' e st2 ∧ Chg [e] w w' := by
  obtain ⟨sa, hsa⟩ : ∃ s, s = (eNat 64 st).2 := ⟨_, rfl⟩
  obtain ⟨n, hn⟩ : ∃ n, n = (eNat 64 sa).1 := ⟨_, rfl⟩
  obtain ⟨sb, hsb⟩ : ∃ s, s = (eNat 64 sa).2 := ⟨_, rfl⟩
  have hW : W = (eNat 64 st).1 := by
    have := congrArg (fun x => x.1.1) hR
    simp only [getLm] at this
    exact this.symm
  have hG : getLumps n [] sb = (L, st2) := by
    have h1 := congrArg (fun x => x.1.2) hR
    have h2 := congrArg (fun x => x.2) hR
    simp only [getLm] at h1 h2
    rw [hn, hsb, hsa]
    rw [← h1, ← h2]
  have l1 : ∀ l, sa = some l → l.length ≤ 70368744177664 := by rw [hsa]; exact eNat_shortL hl
  have l2 : ∀ l, sb = some l → l.length ≤ 70368744177664 := by rw [hsb]; exact eNat_shortL l1
  have n1 : W ≤ 64 := by rw [hW]; exact eNat_le 64 st
  have n2 : n ≤ 64 := by rw [hn]; exact eNat_le 64 sa
  have HA := Lib.hid (show ∀ u, EyeAt u e st → Calls Tryz.prog 74 #[.pointer (some ⟨e, 0, none⟩), .int .i64 64] u fun r w' => r = .returned (.int .i64 (W : Nat)) ∧ EyeAt w' e sa ∧ Chg [e] u w' from fun u hu => by have := eye_small u e st 64 (by omega) hu hl; simp only [show (64 : Int).toNat = 64 from rfl] at this; rw [← hW, ← hsa] at this; exact this)
  have HBq := Lib.hid (show ∀ u, EyeAt u e sa → Calls Tryz.prog 74 #[.pointer (some ⟨e, 0, none⟩), .int .i64 64] u fun r w' => r = .returned (.int .i64 (n : Nat)) ∧ EyeAt w' e sb ∧ Chg [e] u w' from fun u hu => by have := eye_small u e sa 64 (by omega) hu l1; simp only [show (64 : Int).toNat = 64 from rfl] at this; rw [← hn, ← hsb] at this; exact this)
  have HG := Lib.hid hG
  have HL2 := Lib.hid l2
  have HEL := Lib.hid (show e < w.heap.size from Blk.lt he)
  clear hW hsa hn hsb hG l1 l2 hR hl
  obtain ⟨b2, hb2⟩ : ∃ z, z = w.heap.size := ⟨_, rfl⟩
  have HZ0 := Lib.hid (show Blk (w.alloc (.cells #[.int .i64 0, .int .u64 0, .int .u64 0, .int .i64 0, .int .i64 0, .int .i64 0, .int .u64 0, .int .i64 0, .int .i64 0, .int .i64 0, .int .u64 0] 28)) b2 #[.int .i64 0, .int .u64 0, .int .u64 0, .int .i64 0, .int .i64 0, .int .i64 0, .int .u64 0, .int .i64 0, .int .i64 0, .int .i64 0, .int .u64 0] 28 from by rw [hb2]; exact Blk.alloc_new _ _ _)
  have HC0 := Lib.hid ((Chg.refl [e] w).alloc (.cells #[.int .i64 0, .int .u64 0, .int .u64 0, .int .i64 0, .int .i64 0, .int .i64 0, .int .u64 0, .int .i64 0, .int .i64 0, .int .i64 0, .int .u64 0] 28))
  have HE0 := Lib.hid (show EyeAt (w.alloc (.cells #[.int .i64 0, .int .u64 0, .int .u64 0, .int .i64 0, .int .i64 0, .int .i64 0, .int .u64 0, .int .i64 0, .int .i64 0, .int .i64 0, .int .u64 0] 28)) e st from Blk.alloc he _)
  have HB2 := Lib.hid (show e ≠ b2 ∧ w.heap.size ≤ b2 from by have := HEL.out; omega)
  clear he
  go_enter Tryz.func80, Tryz.ntmps80
  go_wp2_with fail
  rw [← hb2]
  clear hb2
  generalize w.alloc (.cells #[.int .i64 0, .int .u64 0, .int .u64 0, .int .i64 0, .int .i64 0, .int .i64 0, .int .u64 0, .int .i64 0, .int .i64 0, .int .i64 0, .int .u64 0] 28) = w0 at *
  refine (HA.out w0 HE0.out).mono ?_
  rintro r w1 ⟨rfl, he1, hc1⟩
  have HZ1 := Lib.hid (HZ0.out.chg hc1 (by simpa using HB2.out.1.symm))
  have HC1 := Lib.hid (HC0.out.trans hc1)
  obtain ⟨b5, hb5⟩ : ∃ z, z = w1.heap.size := ⟨_, rfl⟩
  have HY2 := Lib.hid (show Blk (w1.alloc (.cells #[.int .i64 6, .int .u64 0, .int .u64 0, .int .i64 0, .int .i64 (W : Nat), .int .i64 0, .int .u64 0, .int .i64 0, .int .i64 0, .int .i64 0, .int .u64 0] 28)) b5 #[.int .i64 6, .int .u64 0, .int .u64 0, .int .i64 0, .int .i64 (W : Nat), .int .i64 0, .int .u64 0, .int .i64 0, .int .i64 0, .int .i64 0, .int .u64 0] 28 from by rw [hb5]; exact Blk.alloc_new _ _ _)
  have HE2 := Lib.hid (show EyeAt (w1.alloc (.cells #[.int .i64 6, .int .u64 0, .int .u64 0, .int .i64 0, .int .i64 (W : Nat), .int .i64 0, .int .u64 0, .int .i64 0, .int .i64 0, .int .i64 0, .int .u64 0] 28)) e sa from Blk.alloc he1 _)
  have HC2 := Lib.hid (HC1.out.alloc (.cells #[.int .i64 6, .int .u64 0, .int .u64 0, .int .i64 0, .int .i64 (W : Nat), .int .i64 0, .int .u64 0, .int .i64 0, .int .i64 0, .int .i64 0, .int .u64 0] 28))
  have HZ2 := Lib.hid (HZ1.out.alloc (.cells #[.int .i64 6, .int .u64 0, .int .u64 0, .int .i64 0, .int .i64 (W : Nat), .int .i64 0, .int .u64 0, .int .i64 0, .int .i64 0, .int .i64 0, .int .u64 0] 28))
  have HB5 := Lib.hid (show e ≠ b5 ∧ w.heap.size ≤ b5 ∧ b2 ≠ b5 from by have h1 := Blk.lt he1; have h2 := HC1.out.size; have h4 := HZ1.out.lt; omega)
  clear he1 hc1 HE0 HC0 HC1 HZ0 HZ1 HA
  go_wp2_with fail
  rw [← hb5]
  clear hb5
  generalize w1.alloc (.cells #[.int .i64 6, .int .u64 0, .int .u64 0, .int .i64 0, .int .i64 (W : Nat), .int .i64 0, .int .u64 0, .int .i64 0, .int .i64 0, .int .i64 0, .int .u64 0] 28) = w3 at *
  refine (HBq.out w3 HE2.out).mono ?_
  rintro r w4 ⟨rfl, he4, hc4⟩
  have HE4 := Lib.hid he4
  have HC4 := Lib.hid (HC2.out.trans hc4)
  have HZ4 := Lib.hid (HZ2.out.chg hc4 (by simpa using HB2.out.1.symm))
  have HY4 := Lib.hid (HY2.out.chg hc4 (by simpa using HB5.out.1.symm))
  clear he4 hc4 HE2 HC2 HZ2 HY2 HBq
  go_wp2_with fail
  go_loopw [6, 14] (fun x i wx => ∃ (k : Nat) (acc : List Lp) (s : Option (List UInt8)) (ro : Option Addr) (rc : Nat), k ≤ n ∧ i = .int .i64 (k : Nat) ∧ x = .slice ro k rc ∧ Hid (k = acc.length ∧ getLumps (n - k) acc s = (L, st2)) ∧ EyeAt wx e s ∧ Hid (∀ l, s = some l → l.length ≤ 70368744177664) ∧ Hid (Own wx 256 3 (.slice ro k rc) k (lpCells acc)) ∧ Hid (Chg [e] w4 wx) ∧ Hid (∀ b ∈ abl ro, w4.heap.size ≤ b)) (fun _ i _ => n - (intOf i).toNat)
  case atStart => exact ⟨0, [], sb, none, 0, Nat.zero_le _, rfl, rfl, Lib.hid ⟨rfl, HG.out⟩, HE4.out, HL2, Lib.hid (Own.nil _ _ _), Lib.hid (Chg.refl _ _), Lib.hid (by simp)⟩
  case round =>
    obtain ⟨k, acc, s, ro, rc, hk, rfl, rfl, HJ, he', HLK, HO, HC, HF⟩ := hrel
    have HE' := Lib.hid he'
    clear he'
    by_cases hlt : k < n
    · obtain ⟨lo, hlo⟩ : ∃ x, x = (eInt s).1 := ⟨_, rfl⟩
      obtain ⟨s1, hs1⟩ : ∃ x, x = (eInt s).2 := ⟨_, rfl⟩
      obtain ⟨hi, hhi⟩ : ∃ x, x = (eInt s1).1 := ⟨_, rfl⟩
      obtain ⟨s2, hs2⟩ : ∃ x, x = (eInt s1).2 := ⟨_, rfl⟩
      obtain ⟨c, hcc⟩ : ∃ x, x = (eCountL s2).1 := ⟨_, rfl⟩
      obtain ⟨s3, hs3⟩ : ∃ x, x = (eCountL s2).2 := ⟨_, rfl⟩
      have q1 : ∀ l, s1 = some l → l.length ≤ 70368744177664 := by rw [hs1]; exact eNat_shortL HLK.out
      have q2 : ∀ l, s2 = some l → l.length ≤ 70368744177664 := by rw [hs2]; exact eNat_shortL q1
      have q3 : ∀ l, s3 = some l → l.length ≤ 70368744177664 := by rw [hs3]; exact eCount_shortL q2
      have hgl : getLump s = (⟨c, lo, hi⟩, s3) := by rw [getLump, hcc, hs3, hs2, hs1, hlo, hhi, hs1]
      have H1 := Lib.hid (show ∀ u, EyeAt u e s → Calls Tryz.prog 109 #[.pointer (some ⟨e, 0, none⟩)] u fun r w' => r = .returned (.int .i64 lo) ∧ EyeAt w' e s1 ∧ Chg [e] u w' from fun u hu => by have := eye_int u e s hu HLK.out; rw [hlo, hs1]; exact this)
      have H2 := Lib.hid (show ∀ u, EyeAt u e s1 → Calls Tryz.prog 109 #[.pointer (some ⟨e, 0, none⟩)] u fun r w' => r = .returned (.int .i64 hi) ∧ EyeAt w' e s2 ∧ Chg [e] u w' from fun u hu => by have := eye_int u e s1 hu q1; rw [hhi, hs2]; exact this)
      have H3 := Lib.hid (show ∀ u, EyeAt u e s2 → Calls Tryz.prog 117 #[.pointer (some ⟨e, 0, none⟩)] u fun r w' => r = .returned (.int .u64 (c : Nat)) ∧ EyeAt w' e s3 ∧ Chg [e] u w' from fun u hu => by have := eye_count u e s2 hu q2; rw [hcc, hs3, eCountL_eq]; exact this)
      have HGL := Lib.hid hgl
      have HL3 := Lib.hid q3
      have HNK := Lib.hid (show n - k = (n - (k + 1)) + 1 from by omega)
      clear hlo hs1 hhi hs2 hcc hs3 q1 q2 q3 hgl
      go_wp2_with fail
      refine (H1.out wr HE'.out).mono ?_
      rintro q w5 ⟨rfl, he5, hc5⟩
      have HE5 := Lib.hid he5
      have HC5 := Lib.hid hc5
      clear he5 hc5 HE' H1
      go_wp2_with fail
      refine (H2.out w5 HE5.out).mono ?_
      rintro q w6 ⟨rfl, he6, hc6⟩
      have HE6 := Lib.hid he6
      have HC6 := Lib.hid (HC5.out.trans hc6)
      clear he6 hc6 HE5 HC5 H2
      go_wp2_with fail
      refine (H3.out w6 HE6.out).mono ?_
      rintro q w7 ⟨rfl, he7, hc7⟩
      have HE7 := Lib.hid he7
      have HC7 := Lib.hid (HC6.out.trans hc7)
      have HRO := Lib.hid (HO.out.chg (HC6.out.trans hc7) (fun b hb e' => by simp at e'; subst e'; have h1 := HF.out b (by simpa using hb); have h2 := HEL.out; have h3 := HC4.out.size; omega))
      clear he7 hc7 HE6 HC6 H3
      go_wp2_with (at_builtin; go_must (refine wpList_append_src _ rfl (.tmp 16) (.tmp 24) 235 235 rfl 256 _ 3 24 under_lumps info_lump rfl (by decide) (.slice ro k rc) k (lpCells acc) rfl (HRO.out.chg (F := []) ((Chg.refl [] _).alloc _) (by simp)) (.slice (some ⟨w7.heap.size, 0, none⟩) 1 1) 1 (lpCells [⟨c, lo, hi⟩]) rfl (Src.of_rd under_lumps (Rd.lit w7 #[.int .u64 (c : Nat), .int .i64 lo, .int .i64 hi] 256 3 1 1 rfl)) (lpCells_oneCell _) (by unfold maxLen; omega) (by omega) ?_; intro a8 c8 w8 ho8 hg8 hf8))
      have hg8' : Chg (abl ro) (w7.alloc (.cells #[.int .u64 (c : Nat), .int .i64 lo, .int .i64 hi] 256)) w8 := hg8.mono (fun b hb => .inl (by simpa using hb))
      have hk8 : Chg (abl ro) w7 w8 := (((Chg.refl [] w7).alloc _).nil).trans hg8'
      have hwr := HC.out.size
      have h7r := HC7.out.size
      refine ⟨⟨k + 1, acc ++ [⟨c, lo, hi⟩], s3, a8, c8, hlt, by go_num, rfl, Lib.hid ⟨by rw [List.length_append, ← HJ.out.1]; rfl, ?_⟩, ?_, HL3, Lib.hid (by rw [lpCells_append]; exact ho8), Lib.hid ((HC.out.trans HC7.out).trans' hk8 (fun b hb => .inr (HF.out b hb))), Lib.hid (fun b hb => ?_)⟩, by simp [intOf]; omega⟩
      · have h1 := HJ.out.2
        rw [HNK.out, getLumps, HGL.out] at h1
        exact h1
      · exact Blk.chg HE7.out hk8 (fun e' => by have h1 := HF.out e e'; have h2 := HEL.out; have h3 := HC4.out.size; omega)
      · rcases hf8 b hb with h1 | h1
        · exact HF.out b (by simpa using h1)
        · simp only [World.size_alloc] at h1
          omega
    · obtain rfl : k = n := by omega
      have hY := HY4.out.chg HC.out (by simpa using HB5.out.1.symm)
      have y3 := hY.cell 4
      simp only [List.getElem?_toArray, List.getElem?_cons_zero, List.getElem?_cons_succ] at y3
      have hacc : acc = L ∧ s = st2 := by
        have h1 := HJ.out.2
        rw [Nat.sub_self, getLumps] at h1
        simp only [Prod.mk.injEq] at h1
        exact h1
      obtain ⟨rfl, rfl⟩ := hacc
      have hfit : ∀ p ∈ acc, p.n < 18446744073709551616 := by
        have := getLumps_fit k [] sb (by simp)
        rw [HG.out] at this
        exact this
      have HLD := Lib.hid (lump_load wr (W : Int) ro rc k acc HJ.out.1 HO.out.rd (by omega) hfit)
      have HY := Lib.hid hY
      have HZ := Lib.hid (HZ4.out.chg HC.out (by simpa using HB2.out.1.symm))
      have HCC := Lib.hid (HC4.out.trans HC.out)
      clear hfit hY HO HF
      go_wp2_with fail
      refine HLD.out.mono ?_
      rintro q w8 (⟨hno, rfl, hc8⟩ | ⟨hok, p, rv, rfl, ht8, hc8, hf8⟩)
      · have HC8 := Lib.hid (HCC.out.trans' hc8 (by simp))
        have HE8 := Lib.hid (Blk.chg HE'.out hc8 (by simp))
        have hY8 := HY.out.chg hc8 (by simp)
        have hZ8 := HZ.out.chg hc8 (by simp)
        obtain ⟨z0, z1, z2, z3, z4, z5, z6, z7, z8, z9, z10⟩ := cf_cells (c := { Cf.none 6 with most := (W : Nat) }) (b := b5) hY8
        obtain ⟨x0, x1, x2, x3, x4, x5, x6, x7, x8, x9, x10⟩ := cf_cells (c := Cf.none 0) (b := b2) hZ8
        have f2 := hZ8.free
        have hl8 := hZ8.lt
        simp only [Cf.none] at z0 z1 z2 z3 z4 z5 z6 z7 z8 z9 z10 x0 x1 x2 x3 x4 x5 x6 x7 x8 x9 x10
        clear y3 hY8 HY HZ HLD HE'
        have HST := Lib.hid (cfStore_ok (d := Cf.none 0) hZ8 { Cf.none 6 with most := (W : Nat) })
        obtain ⟨w9, hw9⟩ : ∃ z, z = cfStore w8 b2 { Cf.none 6 with most := (W : Nat) } := ⟨_, rfl⟩
        rw [← hw9] at HST
        have HW9 := Lib.hid hw9
        clear hw9 hZ8
        go_wp2_with fail
        have hww := HW9.out
        simp only [cfStore, Cf.none, Int.natCast_zero] at hww
        rw [← hww]
        clear hww
        have HE9 : EyeAt w9 e s := Blk.chg HE8.out HST.out.2 (by simpa using HB2.out.1)
        have HC9 : Chg [e] w w9 := HC8.out.trans' HST.out.2 (fun b hb => by rw [List.mem_singleton.1 hb]; exact .inr HB2.out.2)
        obtain ⟨x0, x1, x2, x3, x4, x5, x6, x7, x8, x9, x10⟩ := cf_cells HST.out.1
        simp only [Cf.none] at x0 x1 x2 x3 x4 x5 x6 x7 x8 x9 x10
        refine bodyPost_ret (v := .tuple #[({ Cf.none 6 with most := (W : Nat) } : Cf).val, .iface 174 (.agg #[.pointer none]), .bool false]) (by simp [results, Tryz.results80, go_sem, x0, x1, x2, x3, x4, x5, x6, x7, x8, x9, x10, Cf.val, Cf.cells, Cf.none]) rfl ?_
        exact ⟨.inl ⟨hno, rfl⟩, HE9, HC9⟩
      · have HC8 := Lib.hid (HCC.out.trans' hc8 (by simp))
        have HE8 := Lib.hid (Blk.chg HE'.out hc8 (by simp))
        have hY8 := HY.out.chg hc8 (by simp)
        have hZ8 := HZ.out.chg hc8 (by simp)
        obtain ⟨z0, z1, z2, z3, z4, z5, z6, z7, z8, z9, z10⟩ := cf_cells (c := { Cf.none 6 with most := (W : Nat) }) (b := b5) hY8
        obtain ⟨x0, x1, x2, x3, x4, x5, x6, x7, x8, x9, x10⟩ := cf_cells (c := Cf.none 0) (b := b2) hZ8
        have f2 := hZ8.free
        have hl8 := hZ8.lt
        simp only [Cf.none] at z0 z1 z2 z3 z4 z5 z6 z7 z8 z9 z10 x0 x1 x2 x3 x4 x5 x6 x7 x8 x9 x10
        have HTF := Lib.hid (And.intro ht8 hf8)
        have HF2 := Lib.hid (show ∀ b ∈ fpL p rv, b ≠ b2 from fun b hb e' => by have h1 := hf8 b hb; have h2 := HZ.out.lt; omega)
        have HOK := Lib.hid hok
        clear ht8 hf8 hok
        clear y3 hY8 HY HZ HLD HE'
        have HST := Lib.hid (cfStore_ok (d := Cf.none 0) hZ8 { Cf.none 6 with most := (W : Nat) })
        obtain ⟨w9, hw9⟩ : ∃ z, z = cfStore w8 b2 { Cf.none 6 with most := (W : Nat) } := ⟨_, rfl⟩
        rw [← hw9] at HST
        have HW9 := Lib.hid hw9
        clear hw9 hZ8
        go_wp2_with fail
        have hww := HW9.out
        simp only [cfStore, Cf.none, Int.natCast_zero] at hww
        rw [← hww]
        clear hww
        have HE9 : EyeAt w9 e s := Blk.chg HE8.out HST.out.2 (by simpa using HB2.out.1)
        have HC9 : Chg [e] w w9 := HC8.out.trans' HST.out.2 (fun b hb => by rw [List.mem_singleton.1 hb]; exact .inr HB2.out.2)
        obtain ⟨x0, x1, x2, x3, x4, x5, x6, x7, x8, x9, x10⟩ := cf_cells HST.out.1
        simp only [Cf.none] at x0 x1 x2 x3 x4 x5 x6 x7 x8 x9 x10
        refine bodyPost_ret (v := .tuple #[({ Cf.none 6 with most := (W : Nat) } : Cf).val, .iface 174 (.agg #[.pointer (some ⟨p, 0, none⟩)]), .bool true]) (by simp [results, Tryz.results80, go_sem, x0, x1, x2, x3, x4, x5, x6, x7, x8, x9, x10, Cf.val, Cf.cells, Cf.none]) rfl ?_
        exact ⟨.inr ⟨HOK.out, p, rv, rfl, HTF.out.1.chg HST.out.2 (fun b hb => by simpa using HF2.out b hb), fun b hb => Nat.le_trans HCC.out.size (HTF.out.2 b hb)⟩, HE9, HC9⟩
end Go.Proofs.YtmehcfocfljoeaaGreatDoor
