/-
  Frames of loads of any length; how an empty quill begins. Conditions: the form's own reach.
  The walk of (*suite.Sketch).Encode at the kind Lumps, given what is written of it. Conditions: the form's own reach.
  The walk of suite's reads at the kind Lumps. Conditions: the form's own reach.
  ogivetop's made, over whatever a sketch of a kind keeps to. Conditions: the form's own reach.
  What suite's sketches of the kind Lumps keep to. Conditions: the form's own reach.
  suite's Copy of lumps, and Total. Conditions: the form's own reach.
  The walk of layer 24's alive: an engine with lumps. Conditions: the form's own reach.
-/
import Derived.Test.YtmehcfocfljoeaaGreatDoorSlotsErrorsB44
import Derived.Test.YtmehcfocfljoeaaGreatDoorSlotsErrorsB36
import Derived.Test.YtmehcfocfljoeaaGreatDoorSlotsErrorsB11
import Derived.Shelf.Abstract
import Derived.Test.YtmehcfocfljoeaaGreatDoorSlotsErrorsB4
import Derived.Test.YtmehcfocfljoeaaGreatDoorSlotsErrorsB3
import Derived.Test.YtmehcfocfljoeaaGreatDoorSlotsErrorsB26
import Derived.Test.YtmehcfocfljoeaaGreatDoorSlotsErrorsB41
import Derived.Test.YtmehcfocfljoeaaGreatDoorSlotsErrorsB43
import Derived.Test.YtmehcfocfljoeaaGreatDoorSlotsErrorsB35
namespace Go.Proofs.YtmehcfocfljoeaaGreatDoor
open Go.RowKit

/-- What is told of a load of a kind: its bytes, none if there are too many; the error. -/
def encS (k : UInt8) (X : List UInt8) : List UInt8 := if X.length ≤ 262144 then closeB k X else []
def encE (X : List UInt8) : Int := if X.length ≤ 262144 then 0 else 3
theorem frame_closeV (w : World) (k : UInt8) (t : List UInt8) (S : List UInt8) (E : Int) (hS : S = encS k t) (hE : E = encE t) :
    Calls Tryz.prog 42 #[.int .u8 (k.toNat : Nat), .string ⟨t.toArray⟩] w fun e w' => e = .returned (.tuple #[.string ⟨S.toArray⟩, .int .i64 E]) ∧ Chg [] w w' := by
  subst hS hE
  by_cases h : t.length ≤ 262144
  · rw [encS, if_pos h, encE, if_pos h]
    exact frame_close w k t h
  · rw [encS, if_neg h, encE, if_neg h]
    refine (frame_close_long w k t (by omega)).mono ?_
    rintro e w' ⟨rfl, rfl⟩
    exact ⟨rfl, Chg.refl _ _⟩
theorem Qul.new (w : World) : Qul (w.alloc (.cells #[.slice none 0 0] 97)) w.heap.size [w.heap.size] [] :=
  ⟨none, 0, rfl, Blk.alloc_new _ _ _, Own.nil _ _ _⟩
theorem enters_etext : ∀ (args : Array Value) (w : World), (callFunc 43 args).run Tryz.prog w = .ok (.enter 43 args) w := enters_of Tryz.func43 (by kernel_rfl) rfl
theorem enters_eclose : ∀ (args : Array Value) (w : World), (callFunc 42 args).run Tryz.prog w = .ok (.enter 42 args) w := enters_of Tryz.func42 (by kernel_rfl) rfl
theorem u8_kind {k : Int} {kk : UInt8} (h : k = (kk.toNat : Nat)) : IntKind.u8.wrap k = (kk.toNat : Int) := by
  have := kk.toNat_lt
  have e : ∀ n : Int, IntKind.u8.wrap n = n % 256 := fun n => by simp [IntKind.wrap, IntKind.bits, IntKind.signed]
  rw [h, e]
  omega
end Go.Proofs.YtmehcfocfljoeaaGreatDoor

namespace Go.Proofs.YtmehcfocfljoeaaGreatDoor
open Go.RowKit

set_option maxRecDepth 100000 in
set_option maxHeartbeats 4000000 in
theorem sk_enc_lumps (w : World) (s p : Nat) (c : Cf) (h : Sk w s c 174 p) (kk : UInt8) (hkk : c.kind = (kk.toNat : Nat)) (X : List UInt8)
    (HW0 : ∀ u q F, Chg [] w u → Qul u q F [] → (∀ b ∈ F, w.heap.size ≤ b) → Calls Tryz.prog 451 #[.agg #[.pointer (some ⟨p, 0, none⟩)], .pointer (some ⟨q, 0, none⟩)] u fun e w' => e = .returned (.tuple #[]) ∧ ∃ F', Qul w' q F' X ∧ Mv F u F' w') :
    Calls Tryz.prog 24 #[.pointer (some ⟨s, 0, none⟩)] w fun e w' => e = .returned (.tuple #[.string ⟨(encS kk X).toArray⟩, .int .i64 (encE X)]) ∧ Chg [] w w' := by
  obtain ⟨S, hS⟩ : ∃ S, S = encS kk X := ⟨_, rfl⟩
  obtain ⟨E, hE⟩ : ∃ E, E = encE X := ⟨_, rfl⟩
  have HFC := Lib.hid (fun u => frame_closeV u kk X S E hS hE)
  rw [← hS, ← hE]
  clear hS hE
  have HW := Lib.hid HW0
  have hwk := u8_kind hkk
  have HS := Lib.hid (fun u (hu : Chg [] w u) => (⟨(h.nil hu).kind, (h.nil hu).core⟩ : _ ∧ _))
  obtain ⟨k, hk⟩ : ∃ k, k = c.kind := ⟨_, rfl⟩
  rw [← hk] at HS hwk
  obtain ⟨q, hq⟩ : ∃ q, q = w.heap.size := ⟨_, rfl⟩
  have HQ0 := Lib.hid (show Qul (w.alloc (.cells #[.slice none 0 0] 97)) q [q] [] from by rw [hq]; exact Qul.new w)
  have HC0 := Lib.hid ((Chg.refl [] w).alloc (.cells #[.slice none 0 0] 97))
  have HQN := Lib.hid (show ∀ b ∈ [q], w.heap.size ≤ b from by intro b hb; rw [List.mem_singleton.1 hb, hq]; exact Nat.le_refl _)
  obtain ⟨-, c11⟩ := HS.out _ HC0.out
  clear HW0 h hkk hk
  go_enter Tryz.func24, Tryz.ntmps24
  go_wp2_with fail
  rw [← hq]
  clear hq
  generalize w.alloc (.cells #[.slice none 0 0] 97) = w0 at *
  refine (HW.out w0 q [q] HC0.out HQ0.out HQN.out).mono ?_
  rintro e w1 ⟨rfl, F1, hq1, hm1⟩
  have HQ1 := Lib.hid hq1
  have HC1 := Lib.hid (hm1.chg_own HC0.out HQN.out)
  clear hq1 hm1 HQ0 HC0 HQN HW c11
  obtain ⟨c0, -⟩ := HS.out _ HC1.out
  go_wp2_with fail
  have hSS : w1.drew.cell? ⟨s, 0, none⟩ = some (.int .i64 k) := c0
  refine startN (S := fun wx => wx.cell? ⟨s, 0, none⟩ = some (.int .i64 k)) (by kernel_rfl) hSS (fun hHeld => ?_)
  refine takeN (i := 0) (v := ?va0) rfl (by kernel_rfl) (by kernel_rfl) (by kernel_rfl) (fun _ _ _ h => h) (Or.inl ⟨by rfl, ?ya0⟩) hSS ?ra0
  case ya0 => (intro w hSw; (try dsimp only at hSw); go_simp; first | done | with_reducible rfl)
  try simp only [Act.put, List.setIfInBounds_toArray, List.set_cons_zero, List.set_cons_succ]
  refine takeN (i := 1) (v := ?va1) rfl (by kernel_rfl) (by kernel_rfl) (by kernel_rfl) (fun _ _ _ h => h) (Or.inl ⟨by rfl, ?ya1⟩) hSS ?ra1
  case ya1 => (intro w hSw; (try dsimp only at hSw); go_simp; first | done | with_reducible rfl)
  try simp only [Act.put, List.setIfInBounds_toArray, List.set_cons_zero, List.set_cons_succ]
  refine takeN (i := 2) (v := ?va2) rfl (by kernel_rfl) (by kernel_rfl) (by kernel_rfl) (fun _ _ _ h => h) (Or.inl ⟨by rfl, ?ya2⟩) hSS ?ra2
  case ya2 => (intro w hSw; (try dsimp only at hSw); go_simp; first | done | with_reducible rfl)
  try simp only [Act.put, List.setIfInBounds_toArray, List.set_cons_zero, List.set_cons_succ]
  refine takeN (i := 3) (v := ?va3) rfl (by kernel_rfl) (by kernel_rfl) (by kernel_rfl) (fun _ _ _ h => h) (Or.inl ⟨by rfl, ?ya3⟩) hSS ?ra3
  case ya3 => (intro w hSw; (try dsimp only at hSw); go_simp; first | done | with_reducible rfl)
  try simp only [Act.put, List.setIfInBounds_toArray, List.set_cons_zero, List.set_cons_succ]
  refine takeN (i := 4) (v := ?va4) rfl (by kernel_rfl) (by kernel_rfl) (by kernel_rfl) (fun _ _ _ h => h) (Or.inl ⟨by rfl, ?ya4⟩) hSS ?ra4
  case ya4 => (intro w hSw; (try dsimp only at hSw); go_simp; first | done | with_reducible rfl)
  try simp only [Act.put, List.setIfInBounds_toArray, List.set_cons_zero, List.set_cons_succ]
  refine takeN (i := 5) (v := ?va5) rfl (by kernel_rfl) (by kernel_rfl) (by kernel_rfl) (fun _ _ _ h => h) (Or.inl ⟨by rfl, ?ya5⟩) hSS ?ra5
  case ya5 => (intro w hSw; (try dsimp only at hSw); go_simp; first | done | with_reducible rfl)
  try simp only [Act.put, List.setIfInBounds_toArray, List.set_cons_zero, List.set_cons_succ]
  refine takeN (i := 6) (v := ?va6) rfl (by kernel_rfl) (by kernel_rfl) (by kernel_rfl) (fun _ _ _ h => h) (Or.inl ⟨by rfl, ?ya6⟩) hSS ?ra6
  case ya6 => (intro w hSw; (try dsimp only at hSw); go_simp; first | done | with_reducible rfl)
  try simp only [Act.put, List.setIfInBounds_toArray, List.set_cons_zero, List.set_cons_succ]
  refine readyN (rs := [7]) (by kernel_rfl) (by simp) (consN rfl (fun K hK => ?_) nilN)
  refine step_callsG (by rfl) 43 _ _ rfl enters_etext _ #[.pointer (some ⟨q, 0, none⟩)] (by simp [Act.eval]) (quill_text _ q F1 X (HQ1.out.chg (G := []) ((Chg.refl [] _).drew) (by simp))) ?_; rintro e w' ⟨rfl, rfl⟩; refine ⟨_, rfl, ?_⟩
  refine hK.out _ _ hSS (fun hHeld => ?_)
  clear hK K hHeld
  try simp only [Act.put, List.setIfInBounds_toArray, List.set_cons_zero, List.set_cons_succ]
  refine readyN (rs := [8]) (by kernel_rfl) (by simp) (consN rfl (fun K hK => ?_) nilN)
  refine step_callsG (by rfl) 42 _ _ rfl enters_eclose _ #[.int .u8 (kk.toNat : Nat), .string ⟨X.toArray⟩] (by simp [Act.eval]) (HFC.out _) ?_; rintro e w2 ⟨rfl, hc2⟩; refine ⟨_, rfl, ?_⟩
  have hS2 : w2.cell? ⟨s, 0, none⟩ = some (.int .i64 k) := hc2.cell hSS (by simp)
  have HC2 := Lib.hid (HC1.out.drew.trans hc2)
  clear hc2
  refine hK.out _ _ hS2 (fun hHeld => ?_)
  clear hK K hHeld
  try simp only [Act.put, List.setIfInBounds_toArray, List.set_cons_zero, List.set_cons_succ]
  refine takeN (i := 9) (v := ?va9) rfl (by kernel_rfl) (by kernel_rfl) (by kernel_rfl) (fun _ _ _ h => h) (Or.inl ⟨by rfl, ?ya9⟩) hS2 ?ra9
  case ya9 => (intro w hSw; (try dsimp only at hSw); go_simp; first | done | with_reducible rfl)
  try simp only [Act.put, List.setIfInBounds_toArray, List.set_cons_zero, List.set_cons_succ]
  refine takeN (i := 10) (v := ?va10) rfl (by kernel_rfl) (by kernel_rfl) (by kernel_rfl) (fun _ _ _ h => h) (Or.inl ⟨by rfl, ?ya10⟩) hS2 ?ra10
  case ya10 => (intro w hSw; (try dsimp only at hSw); go_simp; first | done | with_reducible rfl)
  try simp only [Act.put, List.setIfInBounds_toArray, List.set_cons_zero, List.set_cons_succ]
  refine takeN (i := 11) (v := ?va11) rfl (by kernel_rfl) (by kernel_rfl) (by kernel_rfl) (fun _ _ _ h => h) (Or.inl ⟨by rfl, ?ya11⟩) hS2 ?ra11
  case ya11 => (intro w hSw; (try dsimp only at hSw); go_simp; first | done | with_reducible rfl)
  try simp only [Act.put, List.setIfInBounds_toArray, List.set_cons_zero, List.set_cons_succ]
  refine takeN (i := 12) (v := ?va12) rfl (by kernel_rfl) (by kernel_rfl) (by kernel_rfl) (fun _ _ _ h => h) (Or.inl ⟨by rfl, ?ya12⟩) hS2 ?ra12
  case ya12 => (intro w hSw; (try dsimp only at hSw); go_simp; first | done | with_reducible rfl)
  try simp only [Act.put, List.setIfInBounds_toArray, List.set_cons_zero, List.set_cons_succ]
  refine doneN (by kernel_rfl) ?_ _
  go_wp2_with fail
  go_ret2
  exact ⟨rfl, HC2.out⟩
end Go.Proofs.YtmehcfocfljoeaaGreatDoor

namespace Go.Proofs.YtmehcfocfljoeaaGreatDoor
open Go.RowKit

set_option maxRecDepth 100000 in
set_option maxHeartbeats 4000000 in
theorem reads_lumps (w : World) (e : Nat) (st : Option (List UInt8)) (he : EyeAt w e st) (c : Cf) (ok : Bool) (O : Nat → Value → World → List Nat → Prop) (hO : Keeps O) (st2 : Option (List UInt8))
    (HR0 : ∀ u, EyeAt u e st → Calls Tryz.prog 80 #[.pointer (some ⟨e, 0, none⟩)] u fun r w' => ReadP u w' c ok O r ∧ EyeAt w' e st2 ∧ Chg [e] u w') :
    Calls Tryz.prog 48 #[.int .i64 6, .pointer (some ⟨e, 0, none⟩)] w fun r w' => ReadP w w' c ok O r ∧ EyeAt w' e st2 ∧ Chg [e] w w' := by
  have HR := Lib.hid HR0
  have HK := Lib.hid hO
  obtain ⟨b4, hb4⟩ : ∃ z, z = w.heap.size := ⟨_, rfl⟩
  have HZ0 := Lib.hid (show Blk (w.alloc (.cells #[.int .i64 0, .int .u64 0, .int .u64 0, .int .i64 0, .int .i64 0, .int .i64 0, .int .u64 0, .int .i64 0, .int .i64 0, .int .i64 0, .int .u64 0] 28)) b4 #[.int .i64 0, .int .u64 0, .int .u64 0, .int .i64 0, .int .i64 0, .int .i64 0, .int .u64 0, .int .i64 0, .int .i64 0, .int .i64 0, .int .u64 0] 28 from by rw [hb4]; exact Blk.alloc_new _ _ _)
  have HC0 := Lib.hid ((Chg.refl [e] w).alloc (.cells #[.int .i64 0, .int .u64 0, .int .u64 0, .int .i64 0, .int .i64 0, .int .i64 0, .int .u64 0, .int .i64 0, .int .i64 0, .int .i64 0, .int .u64 0] 28))
  have HE0 := Lib.hid (show EyeAt (w.alloc (.cells #[.int .i64 0, .int .u64 0, .int .u64 0, .int .i64 0, .int .i64 0, .int .i64 0, .int .u64 0, .int .i64 0, .int .i64 0, .int .i64 0, .int .u64 0] 28)) e st from Blk.alloc he _)
  have HNE := Lib.hid (show e ≠ b4 ∧ w.heap.size ≤ b4 from by have := Blk.lt he; omega)
  clear HR0 hO he
  obtain ⟨ck, cnum, cden, cside, cmost, cdig, clim, cdep, cfac, cwid, cword⟩ := c
  go_enter Tryz.func48, Tryz.ntmps48
  go_wp2_with fail
  rw [← hb4]
  clear hb4
  generalize w.alloc (.cells #[.int .i64 0, .int .u64 0, .int .u64 0, .int .i64 0, .int .i64 0, .int .i64 0, .int .u64 0, .int .i64 0, .int .i64 0, .int .i64 0, .int .u64 0] 28) = w0 at *
  refine (HR.out w0 HE0.out).mono ?_
  rintro r w1 ⟨⟨d, rfl, hd⟩, he1, hc1⟩
  have HD := Lib.hid hd
  have HE1 := Lib.hid he1
  have HC1 := Lib.hid (HC0.out.trans hc1)
  have hZ := HZ0.out.chg hc1 (by simpa using HNE.out.1.symm)
  have HST := Lib.hid (cfStore_ok (d := Cf.none 0) hZ ⟨ck, cnum, cden, cside, cmost, cdig, clim, cdep, cfac, cwid, cword⟩)
  obtain ⟨w9, hw9⟩ : ∃ z, z = cfStore w1 b4 ⟨ck, cnum, cden, cside, cmost, cdig, clim, cdep, cfac, cwid, cword⟩ := ⟨_, rfl⟩
  rw [← hw9] at HST
  have HW9 := Lib.hid hw9
  obtain ⟨x0, x1, x2, x3, x4, x5, x6, x7, x8, x9, x10⟩ := cf_cells (c := Cf.none 0) (b := b4) hZ
  have f2 := hZ.free
  have hl8 := hZ.lt
  have HL0 := Lib.hid HZ0.out.lt
  have HS0 := Lib.hid HC0.out.size
  simp only [Cf.none] at x0 x1 x2 x3 x4 x5 x6 x7 x8 x9 x10
  simp only [Cf.val, Cf.cells]
  clear hd he1 hc1 hw9 hZ HZ0 HC0 HE0 HR
  go_wp2_with fail
  have hww := HW9.out
  simp only [cfStore] at hww
  rw [← hww]
  clear hww
  have hE9 : EyeAt w9 e st2 := Blk.chg HE1.out HST.out.2 (by simpa using HNE.out.1)
  have hC9 : Chg [e] w w9 := HC1.out.trans' HST.out.2 (fun b hb => by rw [List.mem_singleton.1 hb]; exact .inr HNE.out.2)
  obtain ⟨x0, x1, x2, x3, x4, x5, x6, x7, x8, x9, x10⟩ := cf_cells HST.out.1
  simp only at x0 x1 x2 x3 x4 x5 x6 x7 x8 x9 x10
  refine bodyPost_ret (v := .tuple #[(⟨ck, cnum, cden, cside, cmost, cdig, clim, cdep, cfac, cwid, cword⟩ : Cf).val, d, .bool ok]) (by simp [results, Tryz.results48, go_sem, x0, x1, x2, x3, x4, x5, x6, x7, x8, x9, x10, Cf.val, Cf.cells]) rfl ?_
  refine ⟨⟨d, rfl, fun h => ?_⟩, hE9, hC9⟩
  obtain ⟨T, x, G, h1, h2, h3⟩ := HD.out h
  exact ⟨T, x, G, h1, HK.out.chg h2 HST.out.2 (fun b hb e' => by rw [List.mem_singleton.1 e'] at hb; have h4 := h3 b4 hb; have h5 := HL0.out; omega), fun b hb => Nat.le_trans HS0.out (h3 b hb)⟩
end Go.Proofs.YtmehcfocfljoeaaGreatDoor

namespace Go.Proofs.YtmehcfocfljoeaaGreatDoor
open Go.RowKit

end Go.Proofs.YtmehcfocfljoeaaGreatDoor

namespace Go.Proofs.YtmehcfocfljoeaaGreatDoor
open Go.RowKit

/-- Lumps behind an interface. -/
def lmO (W : Nat) (L : List Lp) (T : Nat) (x : Value) (w : World) (G : List Nat) : Prop := T = 174 ∧ ∃ p rv, x = .agg #[.pointer (some ⟨p, 0, none⟩)] ∧ Lms w p rv (W : Int) L (totL L) ∧ G = fpL p rv
theorem lmO_keeps (W : Nat) (L : List Lp) : Keeps (lmO W L) where
  chg := fun ⟨h1, p, rv, h2, h3, h4⟩ k hF => by subst h4; exact ⟨h1, p, rv, h2, h3.chg k hF, rfl⟩
  lt := fun ⟨h1, p, rv, h2, h3, h4⟩ b hb => by subst h4; exact h3.lt b hb
/-- Whether lumps can be loaded. -/
noncomputable def okLmb (W : Nat) (L : List Lp) : Bool := @decide (okLm (W : Int) L) (Classical.propDecidable _)
theorem okLmb_iff (W : Nat) (L : List Lp) : okLmb W L = true ↔ okLm (W : Int) L := by
  unfold okLmb
  exact @decide_eq_true_iff _ (Classical.propDecidable _)
def cfLm (W : Nat) : Cf := { Cf.none 6 with most := (W : Nat) }
theorem dec_lump (w : World) (b : List UInt8) (hb : b.length ≤ 1000000) (t : List UInt8) (ho : openF b = some (6, t)) (W : Nat) (L : List Lp) (st2 : Option (List UInt8)) (hR : getLm (some t) = ((W, L), st2)) :
    Calls Tryz.prog 36 #[.string ⟨b.toArray⟩] w fun e w' => DecP w w' (cfLm W) (okLmb W L && (st2 == some [])) (lmO W L) e := by
  have ht := (openF_sound ho).2
  refine decode_some w b hb 6 t ho (cfLm W) (okLmb W L) (lmO W L) (lmO_keeps _ _) st2 _ rfl (fun u e he => ?_)
  refine reads_lumps u e (some t) he (cfLm W) (okLmb W L) (lmO W L) (lmO_keeps _ _) st2 (fun v hv => (read_lumps v e (some t) hv (by intro l hl; simp only [Option.some.injEq] at hl; subst hl; omega) W L st2 hR).mono ?_)
  rintro r w' ⟨h1, h2, h3⟩
  refine ⟨?_, h2, h3⟩
  rcases h1 with ⟨hno, rfl⟩ | ⟨hok, p, rv, rfl, ht, hf⟩
  · have hf : okLmb W L = false := by
      cases h : okLmb W L with
      | false => rfl
      | true => exact absurd ((okLmb_iff W L).1 h) hno
    rw [hf]
    exact ⟨_, rfl, fun h => absurd h (by decide)⟩
  · have hf' : okLmb W L = true := (okLmb_iff W L).2 hok
    rw [hf']
    exact ⟨_, rfl, fun _ => ⟨_, _, _, rfl, ⟨rfl, p, rv, rfl, ht, rfl⟩, hf⟩⟩
/-- Bytes that tell of such lumps. -/
def lmE (most : Nat) (b : List UInt8) (B : Nat) (m : List Vl) : Prop := ∃ D : LmD, D.most = most ∧ D.ok ∧ OfL D.l m ∧ sumS m ≤ B ∧ b = closeB 6 (putLm D.most D.l)
theorem lm_rank (c : Cf) (most : Nat) (w : World) (s : Nat) (F : List Nat) (B : Nat) (m : List Vl) (h : LmP c most w s F B m) (x : Int) :
    ∃ D : LmD, D.ok ∧ OfL D.l m ∧ Calls Tryz.prog 26 #[.pointer (some ⟨s, 0, none⟩), .int .i64 x] w fun e w' => e = .returned (.tuple #[.int .u64 (rankLoL D.l x : Nat), .int .u64 (rankHiL D.l x : Nat)]) ∧ Chg [] w w' := by
  obtain ⟨p, rv, D, hs, ht, hd, hok, hof, hsum, rfl, hnm⟩ := h
  exact ⟨D, hok, hof, sk_rank_lumps w s p c hs x _ _ (fun u hu => lump_rank u p rv (D.most : Int) D.l (totL D.l) (ht.chg hu (by simp)) (by have h1 := hok.few; have h2 := hok.m2; omega) (by have := hok.tot; omega) x _ _ rfl rfl)⟩
theorem lm_quant (c : Cf) (most : Nat) (w : World) (s : Nat) (F : List Nat) (B : Nat) (m : List Vl) (h : LmP c most w s F B m) :
    ∃ D : LmD, D.ok ∧ OfL D.l m ∧ ∀ u, Chg [] w u → ∀ (num den : Nat), num < 18446744073709551616 → den < 18446744073709551616 → Calls Tryz.prog 25 #[.pointer (some ⟨s, 0, none⟩), .agg #[.int .u64 (num : Nat), .int .u64 (den : Nat)]] u fun e w' => e = .returned (.tuple #[.int .i64 (if placeE num den (totL D.l) = 0 then quantL D.l (placeT num den (totL D.l)) else 0), .int .i64 (placeE num den (totL D.l) : Nat)]) ∧ Chg [] u w' := by
  obtain ⟨p, rv, D, hs, ht, hd, hok, hof, hsum, rfl, hnm⟩ := h
  exact ⟨D, hok, hof, fun u hu num den hn hd => sk_quant_lumps u s p c (hs.nil hu) num den _ _ (fun v hv => lump_quantile v p rv (D.most : Int) D.l (totL D.l) (ht.chg (hu.trans hv) (by simp)) (by have h1 := hok.few; have h2 := hok.m2; omega) rfl (by have := hok.tot; omega) num den hn hd _ _ rfl rfl _ rfl)⟩
end Go.Proofs.YtmehcfocfljoeaaGreatDoor

namespace Go.Proofs.YtmehcfocfljoeaaGreatDoor
open Go.RowKit

theorem dec_lmE (c : Cf) (most : Nat) (hc : LmC c most) (b : List UInt8) (B : Nat) (m : List Vl) (h : lmE most b B m) (w : World) : Calls Tryz.prog 36 #[.string ⟨b.toArray⟩] w fun e w' =>
    ∃ s F, e = .returned (.tuple #[.pointer (some ⟨s, 0, none⟩), .int .i64 0]) ∧ LmP c most w' s F B m ∧ Chg [] w w' ∧ ∀ b ∈ F, w.heap.size ≤ b := by
  obtain ⟨D, hd, hok, hof, hsum, rfl⟩ := h
  have hlen := putLm_len hok.m2 (by have h1 := hok.few; have h2 := hok.m2; omega) hok.fit
  have hn := natB_len10 (n := (putLm D.most D.l).length) (by omega)
  have hg := getLm_hit hok.m2 (by have h1 := hok.few; have h2 := hok.m2; omega) hok.fit []
  rw [List.append_nil] at hg
  refine (dec_lump w _ (by rw [closeB_len]; omega) (putLm D.most D.l) (openF_close 6 _ (by omega)) D.most D.l (some []) hg).mono ?_
  rintro e w' (⟨hf, -, -⟩ | ⟨-, s, T, x, G, rfl, hb, ⟨rfl, p, rv, rfl, ht, rfl⟩, hn, hG, hs, hk⟩)
  · rw [(okLmb_iff _ _).2 hok.loads] at hf
    exact absurd hf (by decide)
  · refine ⟨s, _, rfl, ⟨p, rv, D, ?_, ht, hd, hok, hof, by omega, rfl, hn⟩, hk, fun b hb => ?_⟩
    · have e : c = cfLm D.most := by rw [hc.eq, cfLm, hd]
      rw [e]
      exact hb
    · rcases List.mem_cons.1 hb with rfl | hb
      · exact hs
      · exact hG b hb
theorem enc_lmP (c : Cf) (most : Nat) (hc : LmC c most) (w : World) (s : Nat) (F : List Nat) (B : Nat) (m : List Vl) (h : LmP c most w s F B m) :
    ∃ b : List UInt8, lmE most b B m ∧ Calls Tryz.prog 24 #[.pointer (some ⟨s, 0, none⟩)] w fun e w' => e = .returned (.tuple #[.string ⟨b.toArray⟩, .int .i64 0]) ∧ Chg [] w w' := by
  obtain ⟨p, rv, D, hs, ht, hd, hok, hof, hsum, rfl, hnm⟩ := h
  have hlen := putLm_len hok.m2 (by have h1 := hok.few; have h2 := hok.m2; omega) hok.fit
  refine ⟨encS 6 (putLm D.most D.l), ⟨D, hd, hok, hof, hsum, by rw [encS, if_pos (by omega)]⟩, ?_⟩
  have := sk_enc_lumps w s p c hs 6 (by rw [hc.eq]; rfl) (putLm D.most D.l) (fun u q F hu hql hF => lump_write u p rv D (ht.chg hu (by simp)) hok q F [] (by simp) hql)
  rw [show encE (putLm D.most D.l) = 0 from by rw [encE, if_pos (by omega)]] at this
  exact this
/-- A sketch's Copy, given its bytes and what they are decoded to. -/
theorem sk_copy (w : World) (s : Nat) (b : List UInt8) (R : World → World → Nat → Prop) (hR : ∀ u v v' s, Chg [] u v → R v v' s → R u v' s)
    (HE0 : Calls Tryz.prog 24 #[.pointer (some ⟨s, 0, none⟩)] w fun e w' => e = .returned (.tuple #[.string ⟨b.toArray⟩, .int .i64 0]) ∧ Chg [] w w')
    (HD0 : ∀ u, Calls Tryz.prog 36 #[.string ⟨b.toArray⟩] u fun e w' => ∃ s2, e = .returned (.tuple #[.pointer (some ⟨s2, 0, none⟩), .int .i64 0]) ∧ R u w' s2 ∧ Chg [] u w') :
    Calls Tryz.prog 33 #[.pointer (some ⟨s, 0, none⟩)] w fun e w' => ∃ s2, e = .returned (.tuple #[.pointer (some ⟨s2, 0, none⟩), .int .i64 0]) ∧ R w w' s2 ∧ Chg [] w w' := by
  have HE := Lib.hid HE0
  have HD := Lib.hid HD0
  have HR := Lib.hid hR
  clear HE0 HD0 hR
  go_enter Tryz.func33, Tryz.ntmps33
  go_wp2_with fail
  refine HE.out.mono ?_
  rintro e w1 ⟨rfl, hc⟩
  have HC := Lib.hid hc
  clear hc HE
  go_wp2_with fail
  refine (HD.out w1).mono ?_
  rintro e w2 ⟨s2, rfl, hr, hc2⟩
  have HC2 := Lib.hid (And.intro (HR.out _ _ _ _ HC.out hr) (HC.out.trans hc2))
  clear hr hc2 HD HC HR
  go_wp2
  go_ret2
  exact ⟨s2, rfl, HC2.out.1, HC2.out.2⟩
theorem lm_copy (c : Cf) (most : Nat) (hc : LmC c most) (w : World) (s : Nat) (F : List Nat) (B : Nat) (m : List Vl) (h : LmP c most w s F B m) :
    Calls Tryz.prog 33 #[.pointer (some ⟨s, 0, none⟩)] w fun e w' => ∃ s2, e = .returned (.tuple #[.pointer (some ⟨s2, 0, none⟩), .int .i64 0]) ∧ (∃ F2, LmP c most w' s2 F2 B m ∧ ∀ b ∈ F2, w.heap.size ≤ b) ∧ Chg [] w w' := by
  obtain ⟨b, hb, he⟩ := enc_lmP c most hc w s F B m h
  refine sk_copy w s b (fun u w' s2 => ∃ F2, LmP c most w' s2 F2 B m ∧ ∀ b ∈ F2, u.heap.size ≤ b) ?_ he (fun u => (dec_lmE c most hc b B m hb u).mono ?_)
  · rintro u v v' s2 hu ⟨F2, h1, h2⟩
    exact ⟨F2, h1, fun b hb => Nat.le_trans hu.size (h2 b hb)⟩
  · rintro e w' ⟨s2, F2, rfl, h1, h2, h3⟩
    exact ⟨s2, rfl, ⟨F2, h1, h3⟩, h2⟩
theorem lm_total (c : Cf) (most : Nat) (w : World) (s : Nat) (F : List Nat) (B : Nat) (m : List Vl) (h : LmP c most w s F B m) :
    Calls Tryz.prog 27 #[.pointer (some ⟨s, 0, none⟩)] w fun e w' => e = .returned (.int .u64 (sumS m : Nat)) ∧ Chg [] w w' := by
  obtain ⟨p, rv, D, hs, ht, hd, hok, hof, hsum, rfl, hnm⟩ := h
  rw [← hof.tot]
  exact sk_total_lumps w s p c hs _ (fun u hu => lump_total u p rv _ _ _ (ht.chg hu (by simp)))
theorem lm_put_ok (c : Cf) (most : Nat) (w : World) (s : Nat) (F : List Nat) (B : Nat) (m : List Vl) (h : LmP c most w s F B m) (hB : B ≤ 1000000000) (x : Int) (hxr : InR x) (n : Nat) (h1n : 1 ≤ n) (hn : n ≤ 1000000000) :
    Calls Tryz.prog 34 #[.pointer (some ⟨s, 0, none⟩), .int .i64 x, .int .u64 (n : Nat)] w fun e w' =>
      ∃ (F' : List Nat), e = .returned (.int .i64 0) ∧ Mv F w F' w' ∧ LmP c most w' s F' (B + n) (m ++ [⟨x, n⟩]) := by
  obtain ⟨p, rv, D, hs, ht, hd, hok, hof, hsum, rfl, hnm⟩ := h
  have htot := hof.tot
  refine sk_put_lumps w s p c hs x n _ ?_
  obtain ⟨k1, k2⟩ := LmD.put_ok hok hxr (n := n) (by omega) (by omega)
  refine (lump_put w p rv D ht hok x n (by omega) (by omega)).mono ?_
  rintro e w' ⟨rfl, rv', ht', hm'⟩
  exact ⟨0, rfl, _, rfl, mv_sk hm', lm_next hs hnm hm' ht' hd k1 ((hof.put x (by omega)).press (by have := hok.m1; omega)) (by rw [sumS_app]; simp only [sumS]; omega)⟩
theorem lm_new_ok (w : World) (c : Cf) (most : Nat) (hc : LmC c most) : Calls Tryz.prog 30 #[c.val] w fun e w' =>
    ∃ s F, e = .returned (.tuple #[.pointer (some ⟨s, 0, none⟩), .int .i64 0]) ∧ LmP c most w' s F 0 [] ∧ Chg [] w w' ∧ ∀ b ∈ F, w.heap.size ≤ b := by
  have hk : c.kind = 6 := by rw [hc.eq]; rfl
  have hm : c.most = (most : Int) := by rw [hc.eq]
  have h1 := hc.m1
  have h2 := hc.m2
  refine (suite_newK w c _ (fun u => bare_lump u c hk) (FreshL c w.heap.size) (fun u hu => (fresh_lump u c hk).mono ?_)).mono ?_
  · rintro e w' ⟨T, d, k, rfl, ⟨rfl, h⟩, hc⟩
    refine ⟨_, d, k, rfl, ⟨rfl, ?_⟩, hc⟩
    rcases h with h | ⟨h1, h2, p, h3, h4, h5⟩
    · exact .inl h
    · exact .inr ⟨h1, h2, p, h3, h4, Nat.le_trans hu.size h5⟩
  · have hsame : c.same { Cf.none 6 with most := c.most } = true := by
      rw [hm]
      rw [hc.eq]
      simp [Cf.same, Cf.none]
    rintro e w' (⟨h, -, -⟩ | ⟨-, T, d, k, w1, ⟨rfl, h⟩, hc1, ⟨hk, rfl, rfl⟩ | ⟨rfl, rfl, rfl⟩⟩)
    · rw [hsame] at h
      exact absurd h (by decide)
    · rcases h with ⟨-, hno⟩ | ⟨h0, -⟩
      · exact absurd ⟨by omega, by omega⟩ hno
      · exact absurd h0 hk
    · rcases h with ⟨h1, -⟩ | ⟨-, hg, p, rfl, ht, hf⟩
      · exact absurd h1 (by decide)
      · have hk1 : Chg [] w1 (w1.alloc (.cells (c.cells ++ #[.iface 174 (.agg #[.pointer (some ⟨p, 0, none⟩)])]) 101)) := (Chg.refl _ _).alloc _
        have em : c.most.toNat = most := by omega
        rw [em] at ht
        refine ⟨w1.heap.size, _, rfl, ⟨p, _, _, Blk.alloc_new _ _ _, ht.chg hk1 (by simp), rfl, LmD.new_ok (by omega) (by omega), OfL.new, by simp [sumS], rfl, fun e => absurd (ht.lt _ e) (by omega)⟩, hc1.trans hk1, fun b hb => ?_⟩
        simp only [fpL, blkOf_none, List.mem_cons, List.not_mem_nil, or_false] at hb
        rcases hb with rfl | rfl
        · exact hc1.size
        · exact hf
end Go.Proofs.YtmehcfocfljoeaaGreatDoor

namespace Go.Proofs.YtmehcfocfljoeaaGreatDoor
open Go.RowKit

def liveC : Cf := { Cf.none 6 with most := 2 }
theorem liveC_ok : LmC liveC 2 := ⟨rfl, by decide, by decide⟩
def liveP (w : World) (s : Nat) (F : List Nat) (m : List Vl) : Prop := LmP liveC 2 w s F m.length m ∧ m.length ≤ 100
def liveSt (m : List Vl) (x k : Int) (m' : List Vl) : Prop := k = 0 ∧ m' = m ++ [⟨x, 1⟩]
theorem live_runs {l : List Int} {d0 d : List Vl} (h : Runs liveSt d0 l d) : d = d0 ++ l.map (fun x => ⟨x, 1⟩) := by
  induction h with
  | nil => simp
  | snoc _ h2 ih => rw [h2.2, ih]; simp
theorem live_make (w : World) (g : Nat) (ps : List (Option Addr)) (fs : List Bool) (h : Eng w g ps fs) :
    Calls Tryz.prog 12 #[.pointer (some ⟨g, 0, none⟩), .int .i64 0, .agg #[.int .i64 6, .int .u64 0, .int .u64 0, .int .i64 0, .int .i64 2, .int .i64 0, .int .u64 0, .int .i64 0, .int .i64 0, .int .i64 0, .int .u64 0]] w fun e w' =>
      e = .returned (.int .i64 0) ∧ ∃ s F, liveP w' s F [] ∧ (∀ b ∈ F, w.heap.size ≤ b) ∧ Chg [g] w w' ∧ Eng w' g (ps.set 0 (some ⟨s, 0, none⟩)) (fs.set 0 false) := by
  have hlt := Blk.lt h.blk
  refine (show Calls _ _ _ _ _ from eng_make w g ps fs h 0 (by decide) liveC (fun w' s => ∃ F, LmP liveC 2 w' s F 0 [] ∧ ∀ b ∈ F, w.heap.size ≤ b) (fun u hu => (lm_new_ok u liveC 2 liveC_ok).mono ?_)).mono ?_
  · rintro e w' ⟨s, F, rfl, h1, h2, h3⟩
    exact ⟨s, rfl, ⟨F, h1, fun b hb => Nat.le_trans hu.size (h3 b hb)⟩, hu.trans h2⟩
  · rintro e w' ⟨rfl, s, w1, ⟨F, h1, h2⟩, hc1, hc2, hE⟩
    refine ⟨rfl, s, F, ⟨h1.chg hc2 (fun b hb e => ?_), by simp⟩, h2, (hc1.mono (fun b hb => by simp at hb)).trans hc2, hE⟩
    have h3 := h2 b hb
    rw [List.mem_singleton.1 e] at h3
    omega
theorem live_put (w : World) (g : Nat) (ps : List (Option Addr)) (fs : List Bool) (h : Eng w g ps fs) (s : Nat) (hs : ps.getD 0 none = some ⟨s, 0, none⟩) (F : List Nat) (hP : liveP w s F []) (ao : Option Addr) (ca : Nat) (hr : Rd w 1 (.slice ao 2 ca) 2 (ints [5, 6])) :
    Calls Tryz.prog 15 #[.pointer (some ⟨g, 0, none⟩), .int .i64 0, .int .u64 1, .slice ao 2 ca] w fun e w' =>
      e = .returned (.int .i64 0) ∧ ∃ s F, liveP w' s F [⟨5, 1⟩, ⟨6, 1⟩] ∧ (∀ b ∈ F, w.heap.size ≤ b) ∧ Chg [g] w w' ∧ Eng w' g (ps.set 0 (some ⟨s, 0, none⟩)) fs := by
  have hlt := Blk.lt h.blk
  refine (show Calls _ _ _ _ _ from eng_put (fun _ => False) liveP liveSt 1 w g ps fs h 0 (by decide) s hs [] ((lm_copy liveC 2 liveC_ok w s F _ _ hP.1).mono ?_) ao ca 2 [5, 6] rfl (by decide) hr (fun u s F d hd k hk pre hpre hpe => ?_)).mono ?_
  · rintro e w' ⟨s2, rfl, ⟨F2, h1, h2⟩, h3⟩
    exact .inr ⟨s2, F2, rfl, ⟨h1, by simp⟩, h3, h2⟩
  · have hl : d.length ≤ 1 := by
      rw [hpe, live_runs hpre]
      simp only [List.nil_append, List.length_map, List.length_take]
      simp only [List.length_cons, List.length_nil] at hk ⊢
      omega
    refine (lm_put_ok liveC 2 u s F d.length d hd.1 (by omega) ([5, 6])[k] ?_ 1 (by decide) (by decide)).mono ?_
    · match k, hk with
      | 0, _ => exact (show InR 5 from ⟨by decide, by decide⟩)
      | 1, _ => exact (show InR 6 from ⟨by decide, by decide⟩)
    · rintro e w' ⟨F', rfl, hm, hp⟩
      refine ⟨0, F', d ++ [⟨([5, 6])[k], 1⟩], rfl, hm, ⟨rfl, rfl⟩, ?_, by simp; omega⟩
      simpa using hp
  · rintro e w' (⟨k, hk, hce, -, -⟩ | ⟨rfl, s2, F2, d, w1, hru, hp, hf, hc1, hc2, hE⟩)
    · rcases hce with h | ⟨j, x, d, d', -, -, h0, -⟩
      · exact h.elim
      · exact absurd h0 hk
    · rw [live_runs hru] at hp
      refine ⟨rfl, s2, F2, ⟨LmP.chg hp.1 hc2 (fun b hb e => ?_), by simp⟩, hf, (hc1.mono (fun b hb => by simp at hb)).trans hc2, hE⟩
      have h3 := hf b hb
      rw [List.mem_singleton.1 e] at h3
      omega
theorem live_copy (w : World) (g : Nat) (ps : List (Option Addr)) (fs : List Bool) (h : Eng w g ps fs) (s : Nat) (hs : ps.getD 0 none = some ⟨s, 0, none⟩) (F : List Nat) (m : List Vl) (hP : liveP w s F m) :
    Calls Tryz.prog 17 #[.pointer (some ⟨g, 0, none⟩), .int .i64 1, .int .i64 0] w fun e w' =>
      e = .returned (.int .i64 0) ∧ ∃ s F, liveP w' s F m ∧ (∀ b ∈ F, w.heap.size ≤ b) ∧ Chg [g] w w' ∧ Eng w' g (ps.set 1 (some ⟨s, 0, none⟩)) (fs.set 1 (fs.getD 0 false)) := by
  have hlt := Blk.lt h.blk
  refine (show Calls _ _ _ _ _ from eng_copy w g ps fs h 1 (by decide) 0 (by decide) s hs (fun w' s2 => ∃ F2, LmP liveC 2 w' s2 F2 m.length m ∧ ∀ b ∈ F2, w.heap.size ≤ b) (lm_copy liveC 2 liveC_ok w s F _ _ hP.1)).mono ?_
  rintro e w' ⟨rfl, s, w1, ⟨F, h1, h2⟩, hc1, hc2, hE⟩
  refine ⟨rfl, s, F, ⟨h1.chg hc2 (fun b hb e => ?_), hP.2⟩, h2, (hc1.mono (fun b hb => by simp at hb)).trans hc2, hE⟩
  have h3 := h2 b hb
  rw [List.mem_singleton.1 e] at h3
  omega
theorem live_total (w : World) (g : Nat) (ps : List (Option Addr)) (fs : List Bool) (h : Eng w g ps fs) (s : Nat) (hs : ps.getD 1 none = some ⟨s, 0, none⟩) (F : List Nat) (hP : liveP w s F [⟨5, 1⟩, ⟨6, 1⟩]) :
    Calls Tryz.prog 9 #[.pointer (some ⟨g, 0, none⟩), .int .i64 1] w fun e w' => e = .returned (.tuple #[.int .u64 2, .int .i64 0]) ∧ Chg [] w w' :=
  eng_total w g ps fs h 1 (by decide) s hs 2 (lm_total liveC 2 w s F _ _ hP.1)
set_option maxRecDepth 100000 in
set_option maxHeartbeats 4000000 in
theorem law24_alive (w : World) : Calls Tryz.prog 5 #[] w fun e w' => e = .returned (.bool true) ∧ Chg [] w w' := by
  have HNW := Lib.hid slots_new
  have HMK := Lib.hid live_make
  have HPU := Lib.hid live_put
  have HCO := Lib.hid live_copy
  have HTO := Lib.hid live_total
  go_enter Tryz.func5, Tryz.ntmps5
  go_wp2_with fail
  refine (HNW.out w).mono ?_
  rintro e w1 ⟨g, rfl, hE, hc1, hg⟩
  have HE1 := Lib.hid hE
  have HC1 := Lib.hid hc1
  have HG := Lib.hid hg
  clear hE hc1 hg HNW
  go_wp2_with fail
  refine (HMK.out _ g _ _ HE1.out).mono ?_
  rintro e w2 ⟨rfl, s, F, hP, hf, hc2, hE⟩
  have HE2 := Lib.hid hE
  have HP2 := Lib.hid hP
  have HC2 := Lib.hid (HC1.out.trans' hc2 (fun b hb => by rw [List.mem_singleton.1 hb]; exact .inr HG.out))
  clear hE hP hf hc2 HMK HE1 HC1
  go_wp2_with fail
  have ka : Chg [] w2 (w2.alloc (.cells #[.int .i64 5, .int .i64 6] 2)) := (Chg.refl _ _).alloc _
  refine (HPU.out _ g _ _ (HE2.out.chg ka (by simp)) s rfl F ⟨LmP.chg HP2.out.1 ka (by simp), HP2.out.2⟩ _ _ (Rd.lit w2 #[.int .i64 5, .int .i64 6] 2 1 2 2 rfl)).mono ?_
  rintro e w3 ⟨rfl, s3, F3, hP, -, hc3, hE⟩
  have HE3 := Lib.hid hE
  have HP3 := Lib.hid hP
  have HC3 := Lib.hid ((HC2.out.trans ka).trans' hc3 (fun b hb => by rw [List.mem_singleton.1 hb]; exact .inr HG.out))
  clear hE hP hc3 HPU HE2 HC2 HP2 ka
  go_wp2_with fail
  refine (HCO.out _ g _ _ HE3.out s3 rfl F3 _ HP3.out).mono ?_
  rintro e w4 ⟨rfl, s4, F4, hP, -, hc4, hE⟩
  have HE4 := Lib.hid hE
  have HP4 := Lib.hid hP
  have HC4 := Lib.hid (HC3.out.trans' hc4 (fun b hb => by rw [List.mem_singleton.1 hb]; exact .inr HG.out))
  clear hE hP hc4 HCO HE3 HC3 HP3
  go_wp2_with fail
  refine (HTO.out _ g _ _ HE4.out s4 rfl F4 HP4.out).mono ?_
  rintro e w5 ⟨rfl, hc5⟩
  have HC5 := Lib.hid (HC4.out.trans hc5)
  clear hc5 HTO HE4 HC4 HP4
  go_wp2
  go_ret
  exact ⟨rfl, HC5.out⟩
end Go.Proofs.YtmehcfocfljoeaaGreatDoor
