/-
  The walks of frame.Close and frame.Open. Conditions: the form's own reach.
  Frames of loads of any length; how an empty quill begins. Conditions: the form's own reach.
  The walk of (*suite.Sketch).Encode at the kind Req, given what is written of it. Conditions: the form's own reach.
-/
import Derived.Test.YtlcoibhbdgdfcaaGreatDoorCoreCoinsB32
import Derived.OwnWalk
import Derived.Test.YtlcoibhbdgdfcaaGreatDoorCoreCoinsB26
import Derived.Test.YtlcoibhbdgdfcaaGreatDoorCoreCoinsB24
import Derived.Test.YtlcoibhbdgdfcaaGreatDoorCoreCoinsB6
import Derived.Shelf.Abstract
import Derived.Test.YtlcoibhbdgdfcaaGreatDoorCoreCoinsB4
namespace Go.Proofs.YtlcoibhbdgdfcaaGreatDoor
open Go.RowKit

set_option maxRecDepth 100000 in
set_option maxHeartbeats 1000000 in
theorem frame_close (w : World) (k : UInt8) (t : List UInt8) (ht : t.length ≤ 262144) :
    Calls Tryz.prog 47 #[.int .u8 (k.toNat : Nat), .string ⟨t.toArray⟩] w fun e w' => e = .returned (.tuple #[.string ⟨(closeB k t).toArray⟩, .int .i64 0]) ∧ Chg [] w w' := by
  have hd : decide ((262144 : Int) < (t.length : Int)) = false := decide_eq_false (by omega)
  have HL := Lib.hid (natB_len10 (n := t.length) (by omega))
  have HQ := Lib.hid (new_quill w)
  go_enter Tryz.func47, Tryz.ntmps47
  go_wp2_with fail
  refine (quill_raw _ w.heap.size [w.heap.size] [] [79, 71, 1] HQ.out (by simp)).mono ?_
  rintro e w1 ⟨rfl, F1, hq1, hm1⟩
  have hc1 := hm1.chg_own ((Chg.refl [] w).alloc _) (by simp)
  have hF1 := hm1.own ((Chg.refl [] w).alloc _) (by simp)
  have hcv := run_one_byte w1 _ k rfl
  clear hm1
  go_wp2_with fail
  refine (quill_raw _ w.heap.size F1 _ [k] (hq1.alloc _) (by simp)).mono ?_
  rintro e w2 ⟨rfl, F2, hq2, hm2⟩
  have hc2 := hm2.chg_own (hc1.alloc _) hF1
  have hF2 := hm2.own (hc1.alloc _) hF1
  clear hm2 hcv hq1
  go_wp2_with fail
  refine (quill_nat1 w2 w.heap.size F2 _ t.length (by omega) hq2 _ (by simp) (by simp)).mono ?_
  rintro e w3 ⟨rfl, F3, hq3, hm3⟩
  have hc3 := hm3.chg_own hc2 hF2
  have hF3 := hm3.own hc2 hF2
  clear hm3 hq2
  have hl3 : (([] : List UInt8) ++ [79, 71, 1] ++ [k] ++ natB t.length).length + t.length ≤ 300000 := by have := HL.out; simp; omega
  go_wp2_with fail
  refine (quill_raw _ w.heap.size F3 _ t hq3 (by omega)).mono ?_
  rintro e w4 ⟨rfl, F4, hq4, hm4⟩
  have hc4 := hm4.chg_own hc3 hF3
  have hF4 := hm4.own hc3 hF3
  have hl4 : (headF k t).length ≤ 300000 := by simpa [headF, markB, Nat.add_assoc, Nat.add_comm, Nat.add_left_comm] using hl3
  have hq4 : Qul w4 w.heap.size F4 (headF k t) := by simpa [headF, markB] using hq4
  clear hm4 hq3
  have HCL := Lib.hid (show closeB k t = headF k t ++ fourB (crcSum (headF k t)) from rfl)
  generalize headF k t = H at *
  go_wp2_with fail
  refine (quill_text w4 w.heap.size F4 _ hq4).mono ?_
  rintro e w5 ⟨rfl, rfl⟩
  go_wp2_with fail
  refine (frame_sum w4 H (by omega)).mono ?_
  rintro e w5 ⟨rfl, rfl⟩
  go_wp2_with fail
  refine (frame_four w4 (crcSum H)).mono ?_
  rintro e w5 ⟨rfl, hc5⟩
  have hl5 : (fourB (crcSum H)).length = 4 := rfl
  go_wp2_with fail
  refine (quill_raw w5 w.heap.size F4 _ _ (hq4.chg hc5 (by simp)) (by omega)).mono ?_
  rintro e w6 ⟨rfl, F6, hq6, hm6⟩
  have hc6 := hm6.chg_own (hc4.trans hc5) hF4
  rw [← HCL.out] at hq6
  go_wp2_with fail
  refine (quill_text w6 w.heap.size F6 _ hq6).mono ?_
  rintro e w7 ⟨rfl, rfl⟩
  go_wp2
  go_ret2
  exact ⟨rfl, hc6⟩

theorem frame_close_long (w : World) (k : UInt8) (t : List UInt8) (ht : 262144 < t.length) :
    Calls Tryz.prog 47 #[.int .u8 (k.toNat : Nat), .string ⟨t.toArray⟩] w fun e w' => e = .returned (.tuple #[.string ⟨#[]⟩, .int .i64 3]) ∧ w = w' := by
  have hd : decide ((262144 : Int) < (t.length : Int)) = true := decide_eq_true (by omega)
  go_enter Tryz.func47, Tryz.ntmps47
  go_wp2
  go_ret2
  exact ⟨rfl, rfl⟩

def openV : Option (UInt8 × List UInt8) → Value
  | none => .tuple #[.int .u8 0, .string ⟨#[]⟩, .int .i64 4]
  | some (k, t) => .tuple #[.int .u8 (k.toNat : Nat), .string ⟨t.toArray⟩, .int .i64 0]
theorem openF_eq {s kk t u : List UInt8} {n : Nat} {st1 st2 st3 st4 st5 : Option (List UInt8)} (hA : eRaw 3 (some s) = (markB, st1)) (hB : eRaw 1 st1 = (kk, st2)) (hN : eNat 262144 st2 = (n, st3)) (hT : eRaw n st3 = (t, st4)) (hU : eRaw 4 st4 = (u, st5)) :
    openF s = if st5 = some [] ∧ fourB (crcSum (s.take (s.length - 4))) = u then some (kk.headD 0, t) else none := by
  simp [openF, hA, hB, hN, hT, hU]
theorem openF_mark {s x : List UInt8} {st1 : Option (List UInt8)} (hA : eRaw 3 (some s) = (x, st1)) (h : x ≠ markB) : openF s = none := by
  simp [openF, hA, h]
theorem open_parts {s x kk t u : List UInt8} {n : Nat} {st1 st2 st3 st4 : Option (List UInt8)} (hA : eRaw 3 (some s) = (x, st1)) (hB : eRaw 1 st1 = (kk, st2)) (hN : eNat 262144 st2 = (n, st3)) (hT : eRaw n st3 = (t, st4)) (hU : eRaw 4 st4 = (u, some [])) :
    4 ≤ s.length ∧ ∃ c, kk = [c] := by
  obtain ⟨q5, _, l5⟩ := eRaw_sound hU
  subst q5
  obtain ⟨q4, _, l4⟩ := eRaw_sound hT
  subst q4
  cases st2 with
  | none => simp [eNat] at hN
  | some s2 =>
    obtain ⟨q2, _, l2⟩ := eRaw_sound hB
    subst q2
    obtain ⟨q1, _, l1⟩ := eRaw_sound hA
    obtain ⟨e3, _, _⟩ := eNat_sound hN
    simp only [Option.some.injEq] at q1
    subst e3 q1
    constructor
    · simp only [List.length_append]; omega
    · match kk, l2 with
      | [c], _ => exact ⟨c, rfl⟩
theorem eRaw_short {n : Int} {st st' : Option (List UInt8)} {x : List UInt8} (h : eRaw n st = (x, st')) (hl : ∀ l, st = some l → l.length ≤ 70368744177664) : ∀ l, st' = some l → l.length ≤ 70368744177664 := by
  intro l hl'
  subst hl'
  obtain ⟨h1, _, _⟩ := eRaw_sound h
  have := hl _ h1
  rw [List.length_append] at this
  omega
theorem eNat_short {most v : Nat} {st st' : Option (List UInt8)} (h : eNat most st = (v, st')) (hl : ∀ l, st = some l → l.length ≤ 70368744177664) : ∀ l, st' = some l → l.length ≤ 70368744177664 := by
  intro l hl'
  subst hl'
  cases st with
  | none => simp [eNat] at h
  | some s =>
    obtain ⟨h1, _, _⟩ := eNat_sound h
    have := hl _ rfl
    rw [h1, List.length_append] at this
    omega
attribute [local go_sem] ByteArray.extract_mk

set_option maxRecDepth 100000 in
set_option maxHeartbeats 1000000 in
theorem frame_open (w : World) (s : List UInt8) (hs : s.length ≤ 1000000) :
    Calls Tryz.prog 41 #[.string ⟨s.toArray⟩] w fun e w' => e = .returned (openV (openF s)) ∧ Chg [] w w' := by
  go_enter Tryz.func41, Tryz.ntmps41
  go_wp2_with fail
  refine (eye_on w s).mono ?_
  rintro e w1 ⟨rfl, he1, hc1⟩
  go_wp2_with fail
  refine (eye_raw w1 w.heap.size _ 3 he1 (by intro l h; cases h; omega)).mono ?_
  rintro e w2 ⟨rfl, he2, hc2⟩
  have hc2 := hc1.trans' hc2 (by simp)
  generalize hA : eRaw 3 (some s) = A at *
  obtain ⟨x, st1⟩ := A
  simp only at he2 ⊢
  have HA := Lib.hid hA
  clear hA he1
  have HS1 := Lib.hid (eRaw_short HA.out (by intro l h; cases h; omega))
  by_cases hx : x = markB
  · have hxe : (x == [79, 71, 1]) = true := by simp [hx, markB]
    go_wp2_with fail
    refine (eye_raw w2 w.heap.size _ 1 he2 HS1.out).mono ?_
    rintro e w3 ⟨rfl, he3, hc3⟩
    have hc3 := hc2.trans' hc3 (by simp)
    generalize hB : eRaw 1 st1 = B at *
    obtain ⟨kk, st2⟩ := B
    simp only at he3 ⊢
    have HB := Lib.hid hB
    have HS2 := Lib.hid (eRaw_short hB HS1.out)
    clear hB he2
    go_wp2_with fail
    refine (eye_small w3 w.heap.size st2 262144 (by omega) he3 HS2.out).mono ?_
    rintro e w4 ⟨rfl, he4, hc4⟩
    have hc4 := hc3.trans' hc4 (by simp)
    rw [show Int.toNat 262144 = 262144 from rfl] at he4 ⊢
    generalize hN : eNat 262144 st2 = N at *
    obtain ⟨n, st3⟩ := N
    simp only at he4 ⊢
    have HN := Lib.hid hN
    have HS3 := Lib.hid (eNat_short hN HS2.out)
    clear hN he3
    go_wp2_with fail
    refine (eye_raw w4 w.heap.size _ (n : Nat) he4 HS3.out).mono ?_
    rintro e w5 ⟨rfl, he5, hc5⟩
    have hc5 := hc4.trans' hc5 (by simp)
    generalize hT : eRaw (n : Nat) st3 = T at *
    obtain ⟨t, st4⟩ := T
    simp only at he5 ⊢
    have HT := Lib.hid hT
    have HS4 := Lib.hid (eRaw_short hT HS3.out)
    clear hT he4
    go_wp2_with fail
    refine (eye_raw w5 w.heap.size _ 4 he5 HS4.out).mono ?_
    rintro e w6 ⟨rfl, he6, hc6⟩
    have hc6 := hc5.trans' hc6 (by simp)
    generalize hU : eRaw 4 st4 = U at *
    obtain ⟨u, st5⟩ := U
    simp only at he6 ⊢
    have HU := Lib.hid hU
    clear hU he5
    go_wp2_with fail
    refine (eye_over w6 w.heap.size _ he6).mono ?_
    rintro e w7 ⟨rfl, rfl⟩
    have HX := HA.out
    rw [hx] at HX
    have HO := Lib.hid (openF_eq HX HB.out HN.out HT.out HU.out)
    clear HX hx
    by_cases h5 : st5 = some []
    · subst h5
      obtain ⟨hs4, c, hc⟩ := open_parts HA.out HB.out HN.out HT.out HU.out
      subst hc
      have hsub : (s.length : Int) - 4 = ((s.length - 4 : Nat) : Int) := by omega
      have hsl : (s.take (s.length - 4)).length ≤ 70368744177664 := by rw [List.length_take]; omega
      rw [show ((some [] : Option (List UInt8)) == some []) = true from rfl]
      go_wp2_with fail
      refine (frame_sum w6 (s.take (s.length - 4)) hsl).mono ?_
      rintro e w7 ⟨rfl, rfl⟩
      have HSL := Lib.hid (show openF s = if fourB (crcSum (s.take (s.length - 4))) = u then some (c, t) else none from by rw [HO.out]; simp)
      generalize crcSum (s.take (s.length - 4)) = cs at *
      go_wp2_with fail
      refine (frame_four w6 cs).mono ?_
      rintro e w7 ⟨rfl, hc7⟩
      have hc7 := hc6.trans hc7
      generalize fourB cs = f4 at *
      by_cases hf : f4 = u
      · have hfb : (f4 == u) = true := by simp [hf]
        have HO2 := Lib.hid (show openF s = some (c, t) from by rw [HSL.out, if_pos hf])
        clear hf
        go_wp2
        go_ret3
        exact ⟨by rw [HO2.out]; rfl, hc7⟩
      · have hfb : (f4 == u) = false := by simpa using hf
        have HO2 := Lib.hid (show openF s = none from by rw [HSL.out, if_neg hf])
        clear hf
        go_wp2
        go_ret3
        exact ⟨by rw [HO2.out]; rfl, hc7⟩
    · have h5b : (st5 == some []) = false := by simpa using h5
      have HO2 := Lib.hid (show openF s = none from by rw [HO.out, if_neg (fun h => h5 h.1)])
      rw [h5b]
      clear h5 h5b
      go_wp2
      go_ret3
      exact ⟨by rw [HO2.out]; rfl, hc6⟩
  · have hxe : (x == [79, 71, 1]) = false := by simpa [markB] using hx
    have HO := Lib.hid (openF_mark HA.out hx)
    clear hx
    go_wp2
    go_ret3
    exact ⟨by rw [HO.out]; rfl, hc2⟩
end Go.Proofs.YtlcoibhbdgdfcaaGreatDoor

namespace Go.Proofs.YtlcoibhbdgdfcaaGreatDoor
open Go.RowKit

/-- What is told of a load of a kind: its bytes, none if there are too many; the error. -/
def encS (k : UInt8) (X : List UInt8) : List UInt8 := if X.length ≤ 262144 then closeB k X else []
def encE (X : List UInt8) : Int := if X.length ≤ 262144 then 0 else 3
theorem frame_closeV (w : World) (k : UInt8) (t : List UInt8) (S : List UInt8) (E : Int) (hS : S = encS k t) (hE : E = encE t) :
    Calls Tryz.prog 47 #[.int .u8 (k.toNat : Nat), .string ⟨t.toArray⟩] w fun e w' => e = .returned (.tuple #[.string ⟨S.toArray⟩, .int .i64 E]) ∧ Chg [] w w' := by
  subst hS hE
  by_cases h : t.length ≤ 262144
  · rw [encS, if_pos h, encE, if_pos h]
    exact frame_close w k t h
  · rw [encS, if_neg h, encE, if_neg h]
    refine (frame_close_long w k t (by omega)).mono ?_
    rintro e w' ⟨rfl, rfl⟩
    exact ⟨rfl, Chg.refl _ _⟩
theorem Qul.new (w : World) : Qul (w.alloc (.cells #[.slice none 0 0] 116)) w.heap.size [w.heap.size] [] :=
  ⟨none, 0, rfl, Blk.alloc_new _ _ _, Own.nil _ _ _⟩
theorem enters_etext : ∀ (args : Array Value) (w : World), (callFunc 48 args).run Tryz.prog w = .ok (.enter 48 args) w := enters_of Tryz.func48 (by kernel_rfl) rfl
theorem enters_eclose : ∀ (args : Array Value) (w : World), (callFunc 47 args).run Tryz.prog w = .ok (.enter 47 args) w := enters_of Tryz.func47 (by kernel_rfl) rfl
theorem u8_kind {k : Int} {kk : UInt8} (h : k = (kk.toNat : Nat)) : IntKind.u8.wrap k = (kk.toNat : Int) := by
  have := kk.toNat_lt
  have e : ∀ n : Int, IntKind.u8.wrap n = n % 256 := fun n => by simp [IntKind.wrap, IntKind.bits, IntKind.signed]
  rw [h, e]
  omega
end Go.Proofs.YtlcoibhbdgdfcaaGreatDoor

namespace Go.Proofs.YtlcoibhbdgdfcaaGreatDoor
open Go.RowKit

set_option maxRecDepth 100000 in
set_option maxHeartbeats 4000000 in
theorem sk_enc_req (w : World) (s p : Nat) (c : Cf) (h : Sk w s c 167 p) (kk : UInt8) (hkk : c.kind = (kk.toNat : Nat)) (X : List UInt8)
    (HW0 : ∀ u q F, Chg [] w u → Qul u q F [] → (∀ b ∈ F, w.heap.size ≤ b) → Calls Tryz.prog 368 #[.agg #[.pointer (some ⟨p, 0, none⟩)], .pointer (some ⟨q, 0, none⟩)] u fun e w' => e = .returned (.tuple #[]) ∧ ∃ F', Qul w' q F' X ∧ Mv F u F' w') :
    Calls Tryz.prog 28 #[.pointer (some ⟨s, 0, none⟩)] w fun e w' => e = .returned (.tuple #[.string ⟨(encS kk X).toArray⟩, .int .i64 (encE X)]) ∧ Chg [] w w' := by
  obtain ⟨S, hS⟩ : ∃ S, S = encS kk X := ⟨_, rfl⟩
  obtain ⟨E, hE⟩ : ∃ E, E = encE X := ⟨_, rfl⟩
  have HFC := Lib.hid (fun u => frame_closeV u kk X S E hS hE)
  rw [← hS, ← hE]
  clear hS hE
  have HW := Lib.hid HW0
  have hwk := u8_kind hkk
  have HS := Lib.hid (fun u (hu : Chg [] w u) => (⟨(h.nil hu).kind, (h.nil hu).core⟩ : _ ∧ _))
  obtain ⟨k, hk⟩ : ∃ k, k = c.kind := ⟨_, rfl⟩
  rw [← hk] at HS hwk
  obtain ⟨q, hq⟩ : ∃ q, q = w.heap.size := ⟨_, rfl⟩
  have HQ0 := Lib.hid (show Qul (w.alloc (.cells #[.slice none 0 0] 116)) q [q] [] from by rw [hq]; exact Qul.new w)
  have HC0 := Lib.hid ((Chg.refl [] w).alloc (.cells #[.slice none 0 0] 116))
  have HQN := Lib.hid (show ∀ b ∈ [q], w.heap.size ≤ b from by intro b hb; rw [List.mem_singleton.1 hb, hq]; exact Nat.le_refl _)
  obtain ⟨-, c11⟩ := HS.out _ HC0.out
  clear HW0 h hkk hk
  go_enter Tryz.func28, Tryz.ntmps28
  go_wp2_with fail
  rw [← hq]
  clear hq
  generalize w.alloc (.cells #[.slice none 0 0] 116) = w0 at *
  refine (HW.out w0 q [q] HC0.out HQ0.out HQN.out).mono ?_
  rintro e w1 ⟨rfl, F1, hq1, hm1⟩
  have HQ1 := Lib.hid hq1
  have HC1 := Lib.hid (hm1.chg_own HC0.out HQN.out)
  clear hq1 hm1 HQ0 HC0 HQN HW c11
  obtain ⟨c0, -⟩ := HS.out _ HC1.out
  go_wp2_with fail
  have hSS : w1.drew.cell? ⟨s, 0, none⟩ = some (.int .i64 k) := c0
  refine startN (S := fun wx => wx.cell? ⟨s, 0, none⟩ = some (.int .i64 k)) (by kernel_rfl) hSS (fun hHeld => ?_)
  refine takeN (i := 0) (v := ?va0) rfl (by kernel_rfl) (by kernel_rfl) (by kernel_rfl) (fun _ _ _ h => h) (Or.inl ⟨by rfl, ?ya0⟩) hSS ?ra0
  case ya0 => (intro w hSw; (try dsimp only at hSw); go_simp; first | done | with_reducible rfl)
  try simp only [Act.put, List.setIfInBounds_toArray, List.set_cons_zero, List.set_cons_succ]
  refine takeN (i := 1) (v := ?va1) rfl (by kernel_rfl) (by kernel_rfl) (by kernel_rfl) (fun _ _ _ h => h) (Or.inl ⟨by rfl, ?ya1⟩) hSS ?ra1
  case ya1 => (intro w hSw; (try dsimp only at hSw); go_simp; first | done | with_reducible rfl)
  try simp only [Act.put, List.setIfInBounds_toArray, List.set_cons_zero, List.set_cons_succ]
  refine takeN (i := 2) (v := ?va2) rfl (by kernel_rfl) (by kernel_rfl) (by kernel_rfl) (fun _ _ _ h => h) (Or.inl ⟨by rfl, ?ya2⟩) hSS ?ra2
  case ya2 => (intro w hSw; (try dsimp only at hSw); go_simp; first | done | with_reducible rfl)
  try simp only [Act.put, List.setIfInBounds_toArray, List.set_cons_zero, List.set_cons_succ]
  refine takeN (i := 3) (v := ?va3) rfl (by kernel_rfl) (by kernel_rfl) (by kernel_rfl) (fun _ _ _ h => h) (Or.inl ⟨by rfl, ?ya3⟩) hSS ?ra3
  case ya3 => (intro w hSw; (try dsimp only at hSw); go_simp; first | done | with_reducible rfl)
  try simp only [Act.put, List.setIfInBounds_toArray, List.set_cons_zero, List.set_cons_succ]
  refine takeN (i := 4) (v := ?va4) rfl (by kernel_rfl) (by kernel_rfl) (by kernel_rfl) (fun _ _ _ h => h) (Or.inl ⟨by rfl, ?ya4⟩) hSS ?ra4
  case ya4 => (intro w hSw; (try dsimp only at hSw); go_simp; first | done | with_reducible rfl)
  try simp only [Act.put, List.setIfInBounds_toArray, List.set_cons_zero, List.set_cons_succ]
  refine takeN (i := 5) (v := ?va5) rfl (by kernel_rfl) (by kernel_rfl) (by kernel_rfl) (fun _ _ _ h => h) (Or.inl ⟨by rfl, ?ya5⟩) hSS ?ra5
  case ya5 => (intro w hSw; (try dsimp only at hSw); go_simp; first | done | with_reducible rfl)
  try simp only [Act.put, List.setIfInBounds_toArray, List.set_cons_zero, List.set_cons_succ]
  refine takeN (i := 6) (v := ?va6) rfl (by kernel_rfl) (by kernel_rfl) (by kernel_rfl) (fun _ _ _ h => h) (Or.inl ⟨by rfl, ?ya6⟩) hSS ?ra6
  case ya6 => (intro w hSw; (try dsimp only at hSw); go_simp; first | done | with_reducible rfl)
  try simp only [Act.put, List.setIfInBounds_toArray, List.set_cons_zero, List.set_cons_succ]
  refine readyN (rs := [7]) (by kernel_rfl) (by simp) (consN rfl (fun K hK => ?_) nilN)
  refine step_callsG (by rfl) 48 _ _ rfl enters_etext _ #[.pointer (some ⟨q, 0, none⟩)] (by simp [Act.eval]) (quill_text _ q F1 X (HQ1.out.chg (G := []) ((Chg.refl [] _).drew) (by simp))) ?_; rintro e w' ⟨rfl, rfl⟩; refine ⟨_, rfl, ?_⟩
  refine hK.out _ _ hSS (fun hHeld => ?_)
  clear hK K hHeld
  try simp only [Act.put, List.setIfInBounds_toArray, List.set_cons_zero, List.set_cons_succ]
  refine readyN (rs := [8]) (by kernel_rfl) (by simp) (consN rfl (fun K hK => ?_) nilN)
  refine step_callsG (by rfl) 47 _ _ rfl enters_eclose _ #[.int .u8 (kk.toNat : Nat), .string ⟨X.toArray⟩] (by simp [Act.eval]) (HFC.out _) ?_; rintro e w2 ⟨rfl, hc2⟩; refine ⟨_, rfl, ?_⟩
  have hS2 : w2.cell? ⟨s, 0, none⟩ = some (.int .i64 k) := hc2.cell hSS (by simp)
  have HC2 := Lib.hid (HC1.out.drew.trans hc2)
  clear hc2
  refine hK.out _ _ hS2 (fun hHeld => ?_)
  clear hK K hHeld
  try simp only [Act.put, List.setIfInBounds_toArray, List.set_cons_zero, List.set_cons_succ]
  refine takeN (i := 9) (v := ?va9) rfl (by kernel_rfl) (by kernel_rfl) (by kernel_rfl) (fun _ _ _ h => h) (Or.inl ⟨by rfl, ?ya9⟩) hS2 ?ra9
  case ya9 => (intro w hSw; (try dsimp only at hSw); go_simp; first | done | with_reducible rfl)
  try simp only [Act.put, List.setIfInBounds_toArray, List.set_cons_zero, List.set_cons_succ]
  refine takeN (i := 10) (v := ?va10) rfl (by kernel_rfl) (by kernel_rfl) (by kernel_rfl) (fun _ _ _ h => h) (Or.inl ⟨by rfl, ?ya10⟩) hS2 ?ra10
  case ya10 => (intro w hSw; (try dsimp only at hSw); go_simp; first | done | with_reducible rfl)
  try simp only [Act.put, List.setIfInBounds_toArray, List.set_cons_zero, List.set_cons_succ]
  refine takeN (i := 11) (v := ?va11) rfl (by kernel_rfl) (by kernel_rfl) (by kernel_rfl) (fun _ _ _ h => h) (Or.inl ⟨by rfl, ?ya11⟩) hS2 ?ra11
  case ya11 => (intro w hSw; (try dsimp only at hSw); go_simp; first | done | with_reducible rfl)
  try simp only [Act.put, List.setIfInBounds_toArray, List.set_cons_zero, List.set_cons_succ]
  refine takeN (i := 12) (v := ?va12) rfl (by kernel_rfl) (by kernel_rfl) (by kernel_rfl) (fun _ _ _ h => h) (Or.inl ⟨by rfl, ?ya12⟩) hS2 ?ra12
  case ya12 => (intro w hSw; (try dsimp only at hSw); go_simp; first | done | with_reducible rfl)
  try simp only [Act.put, List.setIfInBounds_toArray, List.set_cons_zero, List.set_cons_succ]
  refine doneN (by kernel_rfl) ?_ _
  go_wp2_with fail
  go_ret2
  exact ⟨rfl, HC2.out⟩
set_option maxRecDepth 100000 in
theorem bytes_req (w : World) (s p : Nat) (c : Cf) (h : Sk w s c 167 p) (kk : UInt8) (hkk : c.kind = (kk.toNat : Nat)) (X : List UInt8)
    (HW0 : ∀ u q F, Chg [] w u → Qul u q F [] → (∀ b ∈ F, w.heap.size ≤ b) → Calls Tryz.prog 368 #[.agg #[.pointer (some ⟨p, 0, none⟩)], .pointer (some ⟨q, 0, none⟩)] u fun e w' => e = .returned (.tuple #[]) ∧ ∃ F', Qul w' q F' X ∧ Mv F u F' w') :
    Calls Tryz.prog 22 #[.pointer (some ⟨s, 0, none⟩)] w fun e w' => e = .returned (.string ⟨(encS kk X).toArray⟩) ∧ Chg [] w w' := by
  have HE := Lib.hid (sk_enc_req w s p c h kk hkk X HW0)
  generalize encS kk X = S at *
  generalize encE X = E at *
  clear h hkk HW0
  go_enter Tryz.func22, Tryz.ntmps22
  go_wp2_with fail
  refine HE.out.mono ?_
  rintro e w1 ⟨rfl, hc⟩
  have HC := Lib.hid hc
  clear hc HE
  go_wp2
  go_ret
  exact ⟨rfl, HC.out⟩
end Go.Proofs.YtlcoibhbdgdfcaaGreatDoor
