/-
  The walk of (*suite.Sketch).Encode at the kind Lumps, given what is written of it. Conditions: the form's own reach.
  The walk of suite's reads at the kind Lumps. Conditions: the form's own reach.
  What suite's sketches of the kind Lumps keep to. Conditions: the form's own reach.
  A config of which there is no sketch. Conditions: none.
-/
import Derived.Test.YtlcoibhbdgdfcaaGreatDoorCoreLumpsB4
import Derived.Test.YtlcoibhbdgdfcaaGreatDoorCoreLumpsB38
import Derived.Test.YtlcoibhbdgdfcaaGreatDoorCoreLumpsB37
import Derived.Test.YtlcoibhbdgdfcaaGreatDoorCoreLumpsB33
import Derived.Test.YtlcoibhbdgdfcaaGreatDoorCoreLumpsB35
import Derived.Test.YtlcoibhbdgdfcaaGreatDoorCoreLumpsB5
namespace Go.Proofs.YtlcoibhbdgdfcaaGreatDoor
open Go.RowKit

set_option maxRecDepth 100000 in
set_option maxHeartbeats 4000000 in
theorem sk_enc_lumps (w : World) (s p : Nat) (c : Cf) (h : Sk w s c 169 p) (kk : UInt8) (hkk : c.kind = (kk.toNat : Nat)) (X : List UInt8)
    (HW0 : ∀ u q F, Chg [] w u → Qul u q F [] → (∀ b ∈ F, w.heap.size ≤ b) → Calls Tryz.prog 379 #[.agg #[.pointer (some ⟨p, 0, none⟩)], .pointer (some ⟨q, 0, none⟩)] u fun e w' => e = .returned (.tuple #[]) ∧ ∃ F', Qul w' q F' X ∧ Mv F u F' w') :
    Calls Tryz.prog 28 #[.pointer (some ⟨s, 0, none⟩)] w fun e w' => e = .returned (.tuple #[.string ⟨(encS kk X).toArray⟩, .int .i64 (encE X)]) ∧ Chg [] w w' := by
  obtain ⟨S, hS⟩ : ∃ S, S = encS kk X := ⟨_, rfl⟩
  obtain ⟨E, hE⟩ : ∃ E, E = encE X := ⟨_, rfl⟩
  have HFC := Lib.hid (fun u => frame_closeV u kk X S E hS hE)
  rw [← hS, ← hE]
  clear hS hE
  have HW := Lib.hid HW0
  have hwk := u8_kind hkk
  have HS := Lib.hid (fun u (hu : Chg [] w u) => (⟨(h.nil hu).kind, (h.nil hu).core⟩ : _ ∧ _))
  obtain ⟨k, hk⟩ : ∃ k, k = c.kind := ⟨_, rfl⟩
  rw [← hk] at HS hwk
  obtain ⟨q, hq⟩ : ∃ q, q = w.heap.size := ⟨_, rfl⟩
  have HQ0 := Lib.hid (show Qul (w.alloc (.cells #[.slice none 0 0] 116)) q [q] [] from by rw [hq]; exact Qul.new w)
  have HC0 := Lib.hid ((Chg.refl [] w).alloc (.cells #[.slice none 0 0] 116))
  have HQN := Lib.hid (show ∀ b ∈ [q], w.heap.size ≤ b from by intro b hb; rw [List.mem_singleton.1 hb, hq]; exact Nat.le_refl _)
  obtain ⟨-, c11⟩ := HS.out _ HC0.out
  clear HW0 h hkk hk
  go_enter Tryz.func28, Tryz.ntmps28
  go_wp2_with fail
  rw [← hq]
  clear hq
  generalize w.alloc (.cells #[.slice none 0 0] 116) = w0 at *
  refine (HW.out w0 q [q] HC0.out HQ0.out HQN.out).mono ?_
  rintro e w1 ⟨rfl, F1, hq1, hm1⟩
  have HQ1 := Lib.hid hq1
  have HC1 := Lib.hid (hm1.chg_own HC0.out HQN.out)
  clear hq1 hm1 HQ0 HC0 HQN HW c11
  obtain ⟨c0, -⟩ := HS.out _ HC1.out
  go_wp2_with fail
  have hSS : w1.drew.cell? ⟨s, 0, none⟩ = some (.int .i64 k) := c0
  refine startN (S := fun wx => wx.cell? ⟨s, 0, none⟩ = some (.int .i64 k)) (by kernel_rfl) hSS (fun hHeld => ?_)
  refine takeN (i := 0) (v := ?va0) rfl (by kernel_rfl) (by kernel_rfl) (by kernel_rfl) (fun _ _ _ h => h) (Or.inl ⟨by rfl, ?ya0⟩) hSS ?ra0
  case ya0 => (intro w hSw; (try dsimp only at hSw); go_simp; first | done | with_reducible rfl)
  try simp only [Act.put, List.setIfInBounds_toArray, List.set_cons_zero, List.set_cons_succ]
  refine takeN (i := 1) (v := ?va1) rfl (by kernel_rfl) (by kernel_rfl) (by kernel_rfl) (fun _ _ _ h => h) (Or.inl ⟨by rfl, ?ya1⟩) hSS ?ra1
  case ya1 => (intro w hSw; (try dsimp only at hSw); go_simp; first | done | with_reducible rfl)
  try simp only [Act.put, List.setIfInBounds_toArray, List.set_cons_zero, List.set_cons_succ]
  refine takeN (i := 2) (v := ?va2) rfl (by kernel_rfl) (by kernel_rfl) (by kernel_rfl) (fun _ _ _ h => h) (Or.inl ⟨by rfl, ?ya2⟩) hSS ?ra2
  case ya2 => (intro w hSw; (try dsimp only at hSw); go_simp; first | done | with_reducible rfl)
  try simp only [Act.put, List.setIfInBounds_toArray, List.set_cons_zero, List.set_cons_succ]
  refine takeN (i := 3) (v := ?va3) rfl (by kernel_rfl) (by kernel_rfl) (by kernel_rfl) (fun _ _ _ h => h) (Or.inl ⟨by rfl, ?ya3⟩) hSS ?ra3
  case ya3 => (intro w hSw; (try dsimp only at hSw); go_simp; first | done | with_reducible rfl)
  try simp only [Act.put, List.setIfInBounds_toArray, List.set_cons_zero, List.set_cons_succ]
  refine takeN (i := 4) (v := ?va4) rfl (by kernel_rfl) (by kernel_rfl) (by kernel_rfl) (fun _ _ _ h => h) (Or.inl ⟨by rfl, ?ya4⟩) hSS ?ra4
  case ya4 => (intro w hSw; (try dsimp only at hSw); go_simp; first | done | with_reducible rfl)
  try simp only [Act.put, List.setIfInBounds_toArray, List.set_cons_zero, List.set_cons_succ]
  refine takeN (i := 5) (v := ?va5) rfl (by kernel_rfl) (by kernel_rfl) (by kernel_rfl) (fun _ _ _ h => h) (Or.inl ⟨by rfl, ?ya5⟩) hSS ?ra5
  case ya5 => (intro w hSw; (try dsimp only at hSw); go_simp; first | done | with_reducible rfl)
  try simp only [Act.put, List.setIfInBounds_toArray, List.set_cons_zero, List.set_cons_succ]
  refine takeN (i := 6) (v := ?va6) rfl (by kernel_rfl) (by kernel_rfl) (by kernel_rfl) (fun _ _ _ h => h) (Or.inl ⟨by rfl, ?ya6⟩) hSS ?ra6
  case ya6 => (intro w hSw; (try dsimp only at hSw); go_simp; first | done | with_reducible rfl)
  try simp only [Act.put, List.setIfInBounds_toArray, List.set_cons_zero, List.set_cons_succ]
  refine readyN (rs := [7]) (by kernel_rfl) (by simp) (consN rfl (fun K hK => ?_) nilN)
  refine step_callsG (by rfl) 48 _ _ rfl enters_etext _ #[.pointer (some ⟨q, 0, none⟩)] (by simp [Act.eval]) (quill_text _ q F1 X (HQ1.out.chg (G := []) ((Chg.refl [] _).drew) (by simp))) ?_; rintro e w' ⟨rfl, rfl⟩; refine ⟨_, rfl, ?_⟩
  refine hK.out _ _ hSS (fun hHeld => ?_)
  clear hK K hHeld
  try simp only [Act.put, List.setIfInBounds_toArray, List.set_cons_zero, List.set_cons_succ]
  refine readyN (rs := [8]) (by kernel_rfl) (by simp) (consN rfl (fun K hK => ?_) nilN)
  refine step_callsG (by rfl) 47 _ _ rfl enters_eclose _ #[.int .u8 (kk.toNat : Nat), .string ⟨X.toArray⟩] (by simp [Act.eval]) (HFC.out _) ?_; rintro e w2 ⟨rfl, hc2⟩; refine ⟨_, rfl, ?_⟩
  have hS2 : w2.cell? ⟨s, 0, none⟩ = some (.int .i64 k) := hc2.cell hSS (by simp)
  have HC2 := Lib.hid (HC1.out.drew.trans hc2)
  clear hc2
  refine hK.out _ _ hS2 (fun hHeld => ?_)
  clear hK K hHeld
  try simp only [Act.put, List.setIfInBounds_toArray, List.set_cons_zero, List.set_cons_succ]
  refine takeN (i := 9) (v := ?va9) rfl (by kernel_rfl) (by kernel_rfl) (by kernel_rfl) (fun _ _ _ h => h) (Or.inl ⟨by rfl, ?ya9⟩) hS2 ?ra9
  case ya9 => (intro w hSw; (try dsimp only at hSw); go_simp; first | done | with_reducible rfl)
  try simp only [Act.put, List.setIfInBounds_toArray, List.set_cons_zero, List.set_cons_succ]
  refine takeN (i := 10) (v := ?va10) rfl (by kernel_rfl) (by kernel_rfl) (by kernel_rfl) (fun _ _ _ h => h) (Or.inl ⟨by rfl, ?ya10⟩) hS2 ?ra10
  case ya10 => (intro w hSw; (try dsimp only at hSw); go_simp; first | done | with_reducible rfl)
  try simp only [Act.put, List.setIfInBounds_toArray, List.set_cons_zero, List.set_cons_succ]
  refine takeN (i := 11) (v := ?va11) rfl (by kernel_rfl) (by kernel_rfl) (by kernel_rfl) (fun _ _ _ h => h) (Or.inl ⟨by rfl, ?ya11⟩) hS2 ?ra11
  case ya11 => (intro w hSw; (try dsimp only at hSw); go_simp; first | done | with_reducible rfl)
  try simp only [Act.put, List.setIfInBounds_toArray, List.set_cons_zero, List.set_cons_succ]
  refine takeN (i := 12) (v := ?va12) rfl (by kernel_rfl) (by kernel_rfl) (by kernel_rfl) (fun _ _ _ h => h) (Or.inl ⟨by rfl, ?ya12⟩) hS2 ?ra12
  case ya12 => (intro w hSw; (try dsimp only at hSw); go_simp; first | done | with_reducible rfl)
  try simp only [Act.put, List.setIfInBounds_toArray, List.set_cons_zero, List.set_cons_succ]
  refine doneN (by kernel_rfl) ?_ _
  go_wp2_with fail
  go_ret2
  exact ⟨rfl, HC2.out⟩
set_option maxRecDepth 100000 in
theorem bytes_lumps (w : World) (s p : Nat) (c : Cf) (h : Sk w s c 169 p) (kk : UInt8) (hkk : c.kind = (kk.toNat : Nat)) (X : List UInt8)
    (HW0 : ∀ u q F, Chg [] w u → Qul u q F [] → (∀ b ∈ F, w.heap.size ≤ b) → Calls Tryz.prog 379 #[.agg #[.pointer (some ⟨p, 0, none⟩)], .pointer (some ⟨q, 0, none⟩)] u fun e w' => e = .returned (.tuple #[]) ∧ ∃ F', Qul w' q F' X ∧ Mv F u F' w') :
    Calls Tryz.prog 22 #[.pointer (some ⟨s, 0, none⟩)] w fun e w' => e = .returned (.string ⟨(encS kk X).toArray⟩) ∧ Chg [] w w' := by
  have HE := Lib.hid (sk_enc_lumps w s p c h kk hkk X HW0)
  generalize encS kk X = S at *
  generalize encE X = E at *
  clear h hkk HW0
  go_enter Tryz.func22, Tryz.ntmps22
  go_wp2_with fail
  refine HE.out.mono ?_
  rintro e w1 ⟨rfl, hc⟩
  have HC := Lib.hid hc
  clear hc HE
  go_wp2
  go_ret
  exact ⟨rfl, HC.out⟩
end Go.Proofs.YtlcoibhbdgdfcaaGreatDoor

namespace Go.Proofs.YtlcoibhbdgdfcaaGreatDoor
open Go.RowKit

set_option maxRecDepth 100000 in
set_option maxHeartbeats 4000000 in
theorem reads_lumps (w : World) (e : Nat) (st : Option (List UInt8)) (he : EyeAt w e st) (c : Cf) (ok : Bool) (O : Nat → Value → World → List Nat → Prop) (hO : Keeps O) (st2 : Option (List UInt8))
    (HR0 : ∀ u, EyeAt u e st → Calls Tryz.prog 62 #[.pointer (some ⟨e, 0, none⟩)] u fun r w' => ReadP u w' c ok O r ∧ EyeAt w' e st2 ∧ Chg [e] u w') :
    Calls Tryz.prog 43 #[.int .i64 6, .pointer (some ⟨e, 0, none⟩)] w fun r w' => ReadP w w' c ok O r ∧ EyeAt w' e st2 ∧ Chg [e] w w' := by
  have HR := Lib.hid HR0
  have HK := Lib.hid hO
  obtain ⟨b4, hb4⟩ : ∃ z, z = w.heap.size := ⟨_, rfl⟩
  have HZ0 := Lib.hid (show Blk (w.alloc (.cells #[.int .i64 0, .int .u64 0, .int .u64 0, .int .i64 0, .int .i64 0, .int .i64 0, .int .u64 0, .int .i64 0, .int .i64 0, .int .i64 0, .int .u64 0] 30)) b4 #[.int .i64 0, .int .u64 0, .int .u64 0, .int .i64 0, .int .i64 0, .int .i64 0, .int .u64 0, .int .i64 0, .int .i64 0, .int .i64 0, .int .u64 0] 30 from by rw [hb4]; exact Blk.alloc_new _ _ _)
  have HC0 := Lib.hid ((Chg.refl [e] w).alloc (.cells #[.int .i64 0, .int .u64 0, .int .u64 0, .int .i64 0, .int .i64 0, .int .i64 0, .int .u64 0, .int .i64 0, .int .i64 0, .int .i64 0, .int .u64 0] 30))
  have HE0 := Lib.hid (show EyeAt (w.alloc (.cells #[.int .i64 0, .int .u64 0, .int .u64 0, .int .i64 0, .int .i64 0, .int .i64 0, .int .u64 0, .int .i64 0, .int .i64 0, .int .i64 0, .int .u64 0] 30)) e st from Blk.alloc he _)
  have HNE := Lib.hid (show e ≠ b4 ∧ w.heap.size ≤ b4 from by have := Blk.lt he; omega)
  clear HR0 hO he
  obtain ⟨ck, cnum, cden, cside, cmost, cdig, clim, cdep, cfac, cwid, cword⟩ := c
  go_enter Tryz.func43, Tryz.ntmps43
  go_wp2_with fail
  rw [← hb4]
  clear hb4
  generalize w.alloc (.cells #[.int .i64 0, .int .u64 0, .int .u64 0, .int .i64 0, .int .i64 0, .int .i64 0, .int .u64 0, .int .i64 0, .int .i64 0, .int .i64 0, .int .u64 0] 30) = w0 at *
  refine (HR.out w0 HE0.out).mono ?_
  rintro r w1 ⟨⟨d, rfl, hd⟩, he1, hc1⟩
  have HD := Lib.hid hd
  have HE1 := Lib.hid he1
  have HC1 := Lib.hid (HC0.out.trans hc1)
  have hZ := HZ0.out.chg hc1 (by simpa using HNE.out.1.symm)
  have HST := Lib.hid (cfStore_ok (d := Cf.none 0) hZ ⟨ck, cnum, cden, cside, cmost, cdig, clim, cdep, cfac, cwid, cword⟩)
  obtain ⟨w9, hw9⟩ : ∃ z, z = cfStore w1 b4 ⟨ck, cnum, cden, cside, cmost, cdig, clim, cdep, cfac, cwid, cword⟩ := ⟨_, rfl⟩
  rw [← hw9] at HST
  have HW9 := Lib.hid hw9
  obtain ⟨x0, x1, x2, x3, x4, x5, x6, x7, x8, x9, x10⟩ := cf_cells (c := Cf.none 0) (b := b4) hZ
  have f2 := hZ.free
  have hl8 := hZ.lt
  have HL0 := Lib.hid HZ0.out.lt
  have HS0 := Lib.hid HC0.out.size
  simp only [Cf.none] at x0 x1 x2 x3 x4 x5 x6 x7 x8 x9 x10
  simp only [Cf.val, Cf.cells]
  clear hd he1 hc1 hw9 hZ HZ0 HC0 HE0 HR
  go_wp2_with fail
  have hww := HW9.out
  simp only [cfStore] at hww
  rw [← hww]
  clear hww
  have hE9 : EyeAt w9 e st2 := Blk.chg HE1.out HST.out.2 (by simpa using HNE.out.1)
  have hC9 : Chg [e] w w9 := HC1.out.trans' HST.out.2 (fun b hb => by rw [List.mem_singleton.1 hb]; exact .inr HNE.out.2)
  obtain ⟨x0, x1, x2, x3, x4, x5, x6, x7, x8, x9, x10⟩ := cf_cells HST.out.1
  simp only at x0 x1 x2 x3 x4 x5 x6 x7 x8 x9 x10
  refine bodyPost_ret (v := .tuple #[(⟨ck, cnum, cden, cside, cmost, cdig, clim, cdep, cfac, cwid, cword⟩ : Cf).val, d, .bool ok]) (by simp [results, Tryz.results43, go_sem, x0, x1, x2, x3, x4, x5, x6, x7, x8, x9, x10, Cf.val, Cf.cells]) rfl ?_
  refine ⟨⟨d, rfl, fun h => ?_⟩, hE9, hC9⟩
  obtain ⟨T, x, G, h1, h2, h3⟩ := HD.out h
  exact ⟨T, x, G, h1, HK.out.chg h2 HST.out.2 (fun b hb e' => by rw [List.mem_singleton.1 e'] at hb; have h4 := h3 b4 hb; have h5 := HL0.out; omega), fun b hb => Nat.le_trans HS0.out (h3 b hb)⟩
end Go.Proofs.YtlcoibhbdgdfcaaGreatDoor

namespace Go.Proofs.YtlcoibhbdgdfcaaGreatDoor
open Go.RowKit

/-- Lumps behind an interface. -/
def lmO (W : Nat) (L : List Lp) (T : Nat) (x : Value) (w : World) (G : List Nat) : Prop := T = 169 ∧ ∃ p rv, x = .agg #[.pointer (some ⟨p, 0, none⟩)] ∧ Lms w p rv (W : Int) L (totL L) ∧ G = fpL p rv
theorem lmO_keeps (W : Nat) (L : List Lp) : Keeps (lmO W L) where
  chg := fun ⟨h1, p, rv, h2, h3, h4⟩ k hF => by subst h4; exact ⟨h1, p, rv, h2, h3.chg k hF, rfl⟩
  lt := fun ⟨h1, p, rv, h2, h3, h4⟩ b hb => by subst h4; exact h3.lt b hb
/-- Whether lumps can be loaded. -/
noncomputable def okLmb (W : Nat) (L : List Lp) : Bool := @decide (okLm (W : Int) L) (Classical.propDecidable _)
theorem okLmb_iff (W : Nat) (L : List Lp) : okLmb W L = true ↔ okLm (W : Int) L := by
  unfold okLmb
  exact @decide_eq_true_iff _ (Classical.propDecidable _)
def cfLm (W : Nat) : Cf := { Cf.none 6 with most := (W : Nat) }
theorem dec_lump (w : World) (b : List UInt8) (hb : b.length ≤ 1000000) (t : List UInt8) (ho : openF b = some (6, t)) (W : Nat) (L : List Lp) (st2 : Option (List UInt8)) (hR : getLm (some t) = ((W, L), st2)) :
    Calls Tryz.prog 23 #[.string ⟨b.toArray⟩] w fun e w' => DecP w w' (cfLm W) (okLmb W L && (st2 == some [])) (lmO W L) e := by
  have ht := (openF_sound ho).2
  refine decode_some w b hb 6 t ho (cfLm W) (okLmb W L) (lmO W L) (lmO_keeps _ _) st2 _ rfl (fun u e he => ?_)
  refine reads_lumps u e (some t) he (cfLm W) (okLmb W L) (lmO W L) (lmO_keeps _ _) st2 (fun v hv => (read_lumps v e (some t) hv (by intro l hl; simp only [Option.some.injEq] at hl; subst hl; omega) W L st2 hR).mono ?_)
  rintro r w' ⟨h1, h2, h3⟩
  refine ⟨?_, h2, h3⟩
  rcases h1 with ⟨hno, rfl⟩ | ⟨hok, p, rv, rfl, ht, hf⟩
  · have hf : okLmb W L = false := by
      cases h : okLmb W L with
      | false => rfl
      | true => exact absurd ((okLmb_iff W L).1 h) hno
    rw [hf]
    exact ⟨_, rfl, fun h => absurd h (by decide)⟩
  · have hf' : okLmb W L = true := (okLmb_iff W L).2 hok
    rw [hf']
    exact ⟨_, rfl, fun _ => ⟨_, _, _, rfl, ⟨rfl, p, rv, rfl, ht, rfl⟩, hf⟩⟩
/-- Bytes that tell of such lumps. -/
def lmE (most : Nat) (b : List UInt8) (B : Nat) (m : List Vl) : Prop := ∃ D : LmD, D.most = most ∧ D.ok ∧ OfL D.l m ∧ sumS m ≤ B ∧ b = closeB 6 (putLm D.most D.l)
def kdLump (c : Cf) (most : Nat) (hc : LmC c most) : Kd c where
  P := LmP c most
  E := lmE most
  lt := fun h => h.lt
  chg := fun h k hF => h.chg k hF
  mono := fun h hB => h.mono hB
  new := fun w => (lm_new w c (by rw [hc.eq]; rfl)).mono (by
    rintro e w' (⟨k, hk, rfl, h⟩ | ⟨most', s, F, hc', rfl, hP, h2, h3⟩)
    · exact .inl ⟨k, hk, rfl, h⟩
    · have e1 : c.most = (most : Int) := by rw [hc.eq]
      have e2 : c.most = (most' : Int) := by rw [hc'.eq]
      have e4 : most' = most := by omega
      rw [e4] at hP
      exact .inr ⟨s, F, rfl, hP, h2, h3⟩)
  put := fun {w s F B m} h hB x n h1 h2 hn => (lm_put c most w s F B m h (by omega) x ⟨h1, h2⟩ n (by omega)).mono (by
    rintro e w' ⟨k, F', rfl, hm, h⟩
    refine ⟨k, F', rfl, hm, ?_⟩
    rcases h with ⟨h1, h2⟩ | ⟨h1, h2⟩
    · exact .inl ⟨h1, h2.mono (by omega)⟩
    · exact .inr ⟨h1, h2.mono (by omega)⟩)
  bytes := fun {w s F B m} h hB => by
    obtain ⟨p, rv, D, hs, ht, hd, hok, hof, hsum, rfl, hnm⟩ := h
    have hlen := putLm_len hok.m2 (by have h1 := hok.few; have h2 := hok.m2; omega) hok.fit
    refine (bytes_lumps w s p c hs 6 (by rw [hc.eq]; rfl) (putLm D.most D.l) (fun u q F hu hql hF => lump_write u p rv D (ht.chg hu (by simp)) hok q F [] (by simp) hql)).mono ?_
    rintro e w' ⟨rfl, hk⟩
    refine ⟨_, rfl, ⟨D, hd, hok, hof, hsum, ?_⟩, hk⟩
    rw [encS, if_pos (by omega)]
  decode := fun {b B m} h hB w => by
    obtain ⟨D, hd, hok, hof, hsum, rfl⟩ := h
    have hlen := putLm_len hok.m2 (by have h1 := hok.few; have h2 := hok.m2; omega) hok.fit
    have hn := natB_len10 (n := (putLm D.most D.l).length) (by omega)
    have hg := getLm_hit hok.m2 (by have h1 := hok.few; have h2 := hok.m2; omega) hok.fit []
    rw [List.append_nil] at hg
    refine (dec_lump w _ (by rw [closeB_len]; omega) (putLm D.most D.l) (openF_close 6 _ (by omega)) D.most D.l (some []) hg).mono ?_
    rintro e w' (⟨-, rfl, hk⟩ | ⟨-, s, T, x, G, rfl, hb, ⟨rfl, p, rv, rfl, ht, rfl⟩, hn, hG, hs, hk⟩)
    · exact .inl ⟨4, by decide, rfl, hk⟩
    · refine .inr ⟨s, _, rfl, ⟨p, rv, D, ?_, ht, hd, hok, hof, by omega, rfl, hn⟩, hk, fun b hb => ?_⟩
      · have e : c = cfLm D.most := by rw [hc.eq, cfLm, hd]
        rw [e]
        exact hb
      · rcases List.mem_cons.1 hb with rfl | hb
        · exact hs
        · exact hG b hb
  join := fun {w s F B a o G B2 b} h ho hd hB => (lm_join c most w s F B a h o G B2 b ho (by omega)).mono (by
    rintro e w' ⟨F', rfl, hm, hP⟩
    exact ⟨0, F', rfl, hm, fun _ => hP⟩)
theorem lm_rank (c : Cf) (most : Nat) (w : World) (s : Nat) (F : List Nat) (B : Nat) (m : List Vl) (h : LmP c most w s F B m) (x : Int) :
    ∃ D : LmD, D.ok ∧ OfL D.l m ∧ Calls Tryz.prog 15 #[.pointer (some ⟨s, 0, none⟩), .int .i64 x] w fun e w' => e = .returned (.tuple #[.int .u64 (rankLoL D.l x : Nat), .int .u64 (rankHiL D.l x : Nat)]) ∧ Chg [] w w' := by
  obtain ⟨p, rv, D, hs, ht, hd, hok, hof, hsum, rfl, hnm⟩ := h
  exact ⟨D, hok, hof, sk_rank_lumps w s p c hs x _ _ (fun u hu => lump_rank u p rv (D.most : Int) D.l (totL D.l) (ht.chg hu (by simp)) (by have h1 := hok.few; have h2 := hok.m2; omega) (by have := hok.tot; omega) x _ _ rfl rfl)⟩
theorem lm_quant (c : Cf) (most : Nat) (w : World) (s : Nat) (F : List Nat) (B : Nat) (m : List Vl) (h : LmP c most w s F B m) :
    ∃ D : LmD, D.ok ∧ OfL D.l m ∧ ∀ u, Chg [] w u → ∀ (num den : Nat), num < 18446744073709551616 → den < 18446744073709551616 → Calls Tryz.prog 17 #[.pointer (some ⟨s, 0, none⟩), .agg #[.int .u64 (num : Nat), .int .u64 (den : Nat)]] u fun e w' => e = .returned (.tuple #[.int .i64 (if placeE num den (totL D.l) = 0 then quantL D.l (placeT num den (totL D.l)) else 0), .int .i64 (placeE num den (totL D.l) : Nat)]) ∧ Chg [] u w' := by
  obtain ⟨p, rv, D, hs, ht, hd, hok, hof, hsum, rfl, hnm⟩ := h
  exact ⟨D, hok, hof, fun u hu num den hn hd => sk_quant_lumps u s p c (hs.nil hu) num den _ _ (fun v hv => lump_quantile v p rv (D.most : Int) D.l (totL D.l) (ht.chg (hu.trans hv) (by simp)) (by have h1 := hok.few; have h2 := hok.m2; omega) rfl (by have := hok.tot; omega) num den hn hd _ _ rfl rfl _ rfl)⟩
end Go.Proofs.YtlcoibhbdgdfcaaGreatDoor

namespace Go.Proofs.YtlcoibhbdgdfcaaGreatDoor
open Go.RowKit

def kdNone (c : Cf) (h : ∀ w, Calls Tryz.prog 26 #[c.val] w fun e w' => ∃ k : Int, k ≠ 0 ∧ e = .returned (.tuple #[.pointer none, .int .i64 k]) ∧ Chg [] w w') : Kd c where
  P := fun _ _ _ _ _ => False
  E := fun _ _ _ => False
  lt := fun h => False.elim h
  chg := fun h => False.elim h
  mono := fun h => False.elim h
  new := fun w => (h w).mono fun _ _ h => .inl h
  put := fun h => False.elim h
  bytes := fun h => False.elim h
  decode := fun h => False.elim h
  join := fun h => False.elim h
end Go.Proofs.YtlcoibhbdgdfcaaGreatDoor
