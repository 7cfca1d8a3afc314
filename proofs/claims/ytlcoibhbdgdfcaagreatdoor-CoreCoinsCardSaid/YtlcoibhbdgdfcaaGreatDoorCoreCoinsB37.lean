/-
  The walk of suite's Decode, of any kind whose bytes are read in a known way. Conditions: the form's own reach.
  The walk of suite's reads at the kind Req. Conditions: the form's own reach.
  What suite's sketches of the kind Req keep to. Conditions: the form's own reach.
  A config of which there is no sketch. Conditions: none.
-/
import Derived.Test.YtlcoibhbdgdfcaaGreatDoorCoreCoinsB34
import Derived.Test.YtlcoibhbdgdfcaaGreatDoorCoreCoinsB33
import Derived.Test.YtlcoibhbdgdfcaaGreatDoorCoreCoinsB25
import Derived.Test.YtlcoibhbdgdfcaaGreatDoorCoreCoinsB29
import Derived.Test.YtlcoibhbdgdfcaaGreatDoorCoreCoinsB31
import Derived.Test.YtlcoibhbdgdfcaaGreatDoorCoreCoinsB36
import Derived.Test.YtlcoibhbdgdfcaaGreatDoorCoreCoinsB5
namespace Go.Proofs.YtlcoibhbdgdfcaaGreatDoor
open Go.RowKit

/-- What is read of a load: a config, a core, whether it can be; what there is then: the core's type and value, and its blocks. -/
def ReadP (u w' : World) (c : Cf) (ok : Bool) (O : Nat → Value → World → List Nat → Prop) (r : Ending) : Prop :=
  ∃ d, r = .returned (.tuple #[c.val, d, .bool ok]) ∧ (ok = true → ∃ T x G, d = .iface T x ∧ O T x w' G ∧ ∀ b ∈ G, u.heap.size ≤ b)
/-- What is decoded. -/
def DecP (w w' : World) (c : Cf) (ok : Bool) (O : Nat → Value → World → List Nat → Prop) (e : Ending) : Prop :=
  (ok = false ∧ e = .returned (.tuple #[.pointer none, .int .i64 4]) ∧ Chg [] w w') ∨
  (ok = true ∧ ∃ s T x G, e = .returned (.tuple #[.pointer (some ⟨s, 0, none⟩), .int .i64 0]) ∧ Blk w' s (c.cells ++ #[.iface T x]) 96 ∧ O T x w' G ∧ s ∉ G ∧ (∀ b ∈ G, w.heap.size ≤ b) ∧ w.heap.size ≤ s ∧ Chg [] w w')
/-- What keeps to its blocks. -/
structure Keeps (O : Nat → Value → World → List Nat → Prop) : Prop where
  chg : ∀ {T x w w' F G}, O T x w G → Chg F w w' → (∀ b ∈ G, b ∉ F) → O T x w' G
  lt : ∀ {T x w G}, O T x w G → ∀ b ∈ G, b < w.heap.size
set_option maxRecDepth 100000 in
set_option maxHeartbeats 4000000 in
theorem decode_none (w : World) (b : List UInt8) (hb : b.length ≤ 1000000) (ho : openF b = none) :
    Calls Tryz.prog 23 #[.string ⟨b.toArray⟩] w fun e w' => e = .returned (.tuple #[.pointer none, .int .i64 4]) ∧ Chg [] w w' := by
  have HO := Lib.hid (show ∀ u, Calls Tryz.prog 41 #[.string ⟨b.toArray⟩] u fun e w' => e = .returned (.tuple #[.int .u8 0, .string ⟨#[]⟩, .int .i64 4]) ∧ Chg [] u w' from fun u => by have := frame_open u b hb; rw [ho] at this; exact this)
  clear ho hb
  go_enter Tryz.func23, Tryz.ntmps23
  go_wp2_with fail
  refine (HO.out w).mono ?_
  rintro e w1 ⟨rfl, hc⟩
  have HC := Lib.hid hc
  clear hc HO
  go_wp2
  go_ret2
  exact ⟨rfl, HC.out⟩
set_option maxRecDepth 100000 in
set_option maxHeartbeats 4000000 in
theorem decode_some (w : World) (b : List UInt8) (hb : b.length ≤ 1000000) (k : UInt8) (t : List UInt8) (ho : openF b = some (k, t)) (c : Cf) (ok1 : Bool) (O : Nat → Value → World → List Nat → Prop) (hO : Keeps O) (st2 : Option (List UInt8)) (ok : Bool) (hok : ok = (ok1 && (st2 == some [])))
    (HR0 : ∀ u e, EyeAt u e (some t) → Calls Tryz.prog 43 #[.int .i64 (k.toNat : Nat), .pointer (some ⟨e, 0, none⟩)] u fun r w' => ReadP u w' c ok1 O r ∧ EyeAt w' e st2 ∧ Chg [e] u w') :
    Calls Tryz.prog 23 #[.string ⟨b.toArray⟩] w fun e w' => DecP w w' c ok O e := by
  have HO := Lib.hid (show ∀ u, Calls Tryz.prog 41 #[.string ⟨b.toArray⟩] u fun e w' => e = .returned (.tuple #[.int .u8 (k.toNat : Nat), .string ⟨t.toArray⟩, .int .i64 0]) ∧ Chg [] u w' from fun u => by have := frame_open u b hb; rw [ho] at this; exact this)
  have HR := Lib.hid HR0
  have HOK := Lib.hid hok
  have HK := Lib.hid hO
  have hk := k.toNat_lt
  have hwk : wrap64 (k.toNat : Int) = (k.toNat : Int) := by unfold wrap64; omega
  clear ho hb HR0 hok hO
  obtain ⟨ck, cnum, cden, cside, cmost, cdig, clim, cdep, cfac, cwid, cword⟩ := c
  go_enter Tryz.func23, Tryz.ntmps23
  go_wp2_with fail
  refine (HO.out w).mono ?_
  rintro e w1 ⟨rfl, hc⟩
  have HC := Lib.hid hc
  clear hc HO
  go_wp2_with fail
  refine (eye_on w1 t).mono ?_
  rintro e w2 ⟨rfl, he2, hc2⟩
  obtain ⟨q, hq⟩ : ∃ q, q = w1.heap.size := ⟨_, rfl⟩
  rw [← hq] at he2 ⊢
  have HE2 := Lib.hid he2
  have HC2 := Lib.hid (HC.out.trans hc2)
  have HQ := Lib.hid (show w.heap.size ≤ q from by have := HC.out.size; omega)
  clear hc2 HC hq he2
  go_wp2_with fail
  refine (HR.out w2 q HE2.out).mono ?_
  rintro e w3 ⟨⟨d, rfl, hd⟩, he3, hc3⟩
  have HD := Lib.hid hd
  have HE3 := Lib.hid he3
  have HC3 := Lib.hid (HC2.out.trans' hc3 (fun b hb => by rw [List.mem_singleton.1 hb]; exact .inr HQ.out))
  have HS23 := Lib.hid (show w.heap.size ≤ w2.heap.size from HC2.out.size)
  clear hd he3 hc3 HE2 HC2 HR hk hwk
  obtain ⟨B, hB⟩ : ∃ B, B = (st2 == some []) := ⟨_, rfl⟩
  obtain ⟨b8, hb8⟩ : ∃ z, z = w3.heap.size := ⟨_, rfl⟩
  have HY := Lib.hid (show Blk (w3.alloc (.cells (⟨ck, cnum, cden, cside, cmost, cdig, clim, cdep, cfac, cwid, cword⟩ : Cf).cells 30)) b8 (⟨ck, cnum, cden, cside, cmost, cdig, clim, cdep, cfac, cwid, cword⟩ : Cf).cells 30 from by rw [hb8]; exact Blk.alloc_new _ _ _)
  have HC4 := Lib.hid (HC3.out.alloc (.cells (⟨ck, cnum, cden, cside, cmost, cdig, clim, cdep, cfac, cwid, cword⟩ : Cf).cells 30))
  have HE4 := Lib.hid (show EyeAt (w3.alloc (.cells (⟨ck, cnum, cden, cside, cmost, cdig, clim, cdep, cfac, cwid, cword⟩ : Cf).cells 30)) q st2 from Blk.alloc HE3.out _)
  have HEO := Lib.hid (fun u (hu : EyeAt u q st2) => show Calls Tryz.prog 44 #[.pointer (some ⟨q, 0, none⟩)] u fun r w' => r = .returned (.bool B) ∧ u = w' from by rw [hB]; exact eye_over u q st2 hu)
  rw [← hB] at HOK
  clear hB
  simp only [Cf.val, Cf.cells] at HY HC4 HE4 ⊢
  cases ok1 with
  | false =>
    have hf : ok = false := by rw [HOK.out]; rfl
    go_wp2
    go_ret2
    exact .inl ⟨hf, rfl, HC4.out⟩
  | true =>
    obtain ⟨T, x, G, rfl, hx, hG⟩ := HD.out rfl
    have HX := Lib.hid (HK.out.chg (F := []) hx ((Chg.refl [] w3).alloc (.cells (⟨ck, cnum, cden, cside, cmost, cdig, clim, cdep, cfac, cwid, cword⟩ : Cf).cells 30)) (by simp))
    have HG := Lib.hid (show (∀ b ∈ G, w.heap.size ≤ b) from fun b hb => Nat.le_trans HS23.out (hG b hb))
    simp only [Cf.cells] at HX
    clear hx hG
    go_wp2_with fail
    rw [← hb8]
    clear hb8
    generalize w3.alloc (.cells #[.int .i64 ck, .int .u64 cnum, .int .u64 cden, .int .i64 cside, .int .i64 cmost, .int .i64 cdig, .int .u64 clim, .int .i64 cdep, .int .i64 cfac, .int .i64 cwid, .int .u64 cword] 30) = w4 at *
    refine (HEO.out w4 HE4.out).mono ?_
    rintro e w' ⟨rfl, rfl⟩
    cases B with
    | false =>
      have hf : ok = false := by rw [HOK.out]; rfl
      go_wp2
      go_ret2
      exact .inl ⟨hf, rfl, HC4.out⟩
    | true =>
      have hf := Lib.hid (show ok = true from by rw [HOK.out]; rfl)
      obtain ⟨z0, z1, z2, z3, z4, z5, z6, z7, z8, z9, z10⟩ := cf_cells (c := ⟨ck, cnum, cden, cside, cmost, cdig, clim, cdep, cfac, cwid, cword⟩) (b := b8) HY.out
      simp only at z0 z1 z2 z3 z4 z5 z6 z7 z8 z9 z10
      go_wp2
      go_ret2
      refine .inr ⟨hf.out, w4.heap.size, T, x, G, rfl, Blk.alloc_new _ _ _, HK.out.chg (F := []) HX.out ((Chg.refl [] w4).alloc _) (by simp), fun e' => absurd (HK.out.lt HX.out _ e') (by omega), HG.out, HC4.out.size, HC4.out.alloc _⟩
end Go.Proofs.YtlcoibhbdgdfcaaGreatDoor

namespace Go.Proofs.YtlcoibhbdgdfcaaGreatDoor
open Go.RowKit

set_option maxRecDepth 100000 in
set_option maxHeartbeats 4000000 in
theorem reads_req (w : World) (e : Nat) (st : Option (List UInt8)) (he : EyeAt w e st) (c : Cf) (ok : Bool) (O : Nat → Value → World → List Nat → Prop) (hO : Keeps O) (st2 : Option (List UInt8))
    (HR0 : ∀ u, EyeAt u e st → Calls Tryz.prog 61 #[.pointer (some ⟨e, 0, none⟩)] u fun r w' => ReadP u w' c ok O r ∧ EyeAt w' e st2 ∧ Chg [e] u w') :
    Calls Tryz.prog 43 #[.int .i64 5, .pointer (some ⟨e, 0, none⟩)] w fun r w' => ReadP w w' c ok O r ∧ EyeAt w' e st2 ∧ Chg [e] w w' := by
  have HR := Lib.hid HR0
  have HK := Lib.hid hO
  obtain ⟨b4, hb4⟩ : ∃ z, z = w.heap.size := ⟨_, rfl⟩
  have HZ0 := Lib.hid (show Blk (w.alloc (.cells #[.int .i64 0, .int .u64 0, .int .u64 0, .int .i64 0, .int .i64 0, .int .i64 0, .int .u64 0, .int .i64 0, .int .i64 0, .int .i64 0, .int .u64 0] 30)) b4 #[.int .i64 0, .int .u64 0, .int .u64 0, .int .i64 0, .int .i64 0, .int .i64 0, .int .u64 0, .int .i64 0, .int .i64 0, .int .i64 0, .int .u64 0] 30 from by rw [hb4]; exact Blk.alloc_new _ _ _)
  have HC0 := Lib.hid ((Chg.refl [e] w).alloc (.cells #[.int .i64 0, .int .u64 0, .int .u64 0, .int .i64 0, .int .i64 0, .int .i64 0, .int .u64 0, .int .i64 0, .int .i64 0, .int .i64 0, .int .u64 0] 30))
  have HE0 := Lib.hid (show EyeAt (w.alloc (.cells #[.int .i64 0, .int .u64 0, .int .u64 0, .int .i64 0, .int .i64 0, .int .i64 0, .int .u64 0, .int .i64 0, .int .i64 0, .int .i64 0, .int .u64 0] 30)) e st from Blk.alloc he _)
  have HNE := Lib.hid (show e ≠ b4 ∧ w.heap.size ≤ b4 from by have := Blk.lt he; omega)
  clear HR0 hO he
  obtain ⟨ck, cnum, cden, cside, cmost, cdig, clim, cdep, cfac, cwid, cword⟩ := c
  go_enter Tryz.func43, Tryz.ntmps43
  go_wp2_with fail
  rw [← hb4]
  clear hb4
  generalize w.alloc (.cells #[.int .i64 0, .int .u64 0, .int .u64 0, .int .i64 0, .int .i64 0, .int .i64 0, .int .u64 0, .int .i64 0, .int .i64 0, .int .i64 0, .int .u64 0] 30) = w0 at *
  refine (HR.out w0 HE0.out).mono ?_
  rintro r w1 ⟨⟨d, rfl, hd⟩, he1, hc1⟩
  have HD := Lib.hid hd
  have HE1 := Lib.hid he1
  have HC1 := Lib.hid (HC0.out.trans hc1)
  have hZ := HZ0.out.chg hc1 (by simpa using HNE.out.1.symm)
  have HST := Lib.hid (cfStore_ok (d := Cf.none 0) hZ ⟨ck, cnum, cden, cside, cmost, cdig, clim, cdep, cfac, cwid, cword⟩)
  obtain ⟨w9, hw9⟩ : ∃ z, z = cfStore w1 b4 ⟨ck, cnum, cden, cside, cmost, cdig, clim, cdep, cfac, cwid, cword⟩ := ⟨_, rfl⟩
  rw [← hw9] at HST
  have HW9 := Lib.hid hw9
  obtain ⟨x0, x1, x2, x3, x4, x5, x6, x7, x8, x9, x10⟩ := cf_cells (c := Cf.none 0) (b := b4) hZ
  have f2 := hZ.free
  have hl8 := hZ.lt
  have HL0 := Lib.hid HZ0.out.lt
  have HS0 := Lib.hid HC0.out.size
  simp only [Cf.none] at x0 x1 x2 x3 x4 x5 x6 x7 x8 x9 x10
  simp only [Cf.val, Cf.cells]
  clear hd he1 hc1 hw9 hZ HZ0 HC0 HE0 HR
  go_wp2_with fail
  have hww := HW9.out
  simp only [cfStore] at hww
  rw [← hww]
  clear hww
  have hE9 : EyeAt w9 e st2 := Blk.chg HE1.out HST.out.2 (by simpa using HNE.out.1)
  have hC9 : Chg [e] w w9 := HC1.out.trans' HST.out.2 (fun b hb => by rw [List.mem_singleton.1 hb]; exact .inr HNE.out.2)
  obtain ⟨x0, x1, x2, x3, x4, x5, x6, x7, x8, x9, x10⟩ := cf_cells HST.out.1
  simp only at x0 x1 x2 x3 x4 x5 x6 x7 x8 x9 x10
  refine bodyPost_ret (v := .tuple #[(⟨ck, cnum, cden, cside, cmost, cdig, clim, cdep, cfac, cwid, cword⟩ : Cf).val, d, .bool ok]) (by simp [results, Tryz.results43, go_sem, x0, x1, x2, x3, x4, x5, x6, x7, x8, x9, x10, Cf.val, Cf.cells]) rfl ?_
  refine ⟨⟨d, rfl, fun h => ?_⟩, hE9, hC9⟩
  obtain ⟨T, x, G, h1, h2, h3⟩ := HD.out h
  exact ⟨T, x, G, h1, HK.out.chg h2 HST.out.2 (fun b hb e' => by rw [List.mem_singleton.1 e'] at hb; have h4 := h3 b4 hb; have h5 := HL0.out; omega), fun b hb => Nat.le_trans HS0.out (h3 b hb)⟩
end Go.Proofs.YtlcoibhbdgdfcaaGreatDoor

namespace Go.Proofs.YtlcoibhbdgdfcaaGreatDoor
open Go.RowKit

/-- A tower behind an interface. -/
def rqO (D : TwD) (T : Nat) (x : Value) (w : World) (G : List Nat) : Prop := T = 167 ∧ ∃ p tp rv vs, x = .agg #[.pointer (some ⟨p, 0, none⟩)] ∧ Tow w p tp rv vs D ∧ G = fp p tp rv vs
theorem rqO_keeps (D : TwD) : Keeps (rqO D) where
  chg := fun ⟨h1, p, tp, rv, vs, h2, h3, h4⟩ k hF => by subst h4; exact ⟨h1, p, tp, rv, vs, h2, h3.chg k hF, rfl⟩
  lt := fun ⟨h1, p, tp, rv, vs, h2, h3, h4⟩ b hb => by subst h4; exact h3.lt b hb
/-- Whether a tower can be loaded. -/
noncomputable def okLb (R : RqL) : Bool := @decide (okL (R.W : Int) R.rows (R.used : Nat) R.low R.high) (Classical.propDecidable _)
theorem okLb_iff (R : RqL) : okLb R = true ↔ okL (R.W : Int) R.rows (R.used : Nat) R.low R.high := by
  unfold okLb
  exact @decide_eq_true_iff _ (Classical.propDecidable _)
def RqL.cf (R : RqL) : Cf := { Cf.none 5 with width := (R.W : Nat), word := R.word }
def RqL.tw (R : RqL) : TwD := TwD.loaded (R.W : Int) R.word R.rows (R.used : Nat) R.low R.high
theorem dec_req (w : World) (b : List UInt8) (hb : b.length ≤ 1000000) (t : List UInt8) (ho : openF b = some (5, t)) (R : RqL) (st2 : Option (List UInt8)) (hR : getReq (some t) = (R, st2)) :
    Calls Tryz.prog 23 #[.string ⟨b.toArray⟩] w fun e w' => DecP w w' R.cf (okLb R && (st2 == some [])) (rqO R.tw) e := by
  have ht := (openF_sound ho).2
  refine decode_some w b hb 5 t ho R.cf (okLb R) (rqO R.tw) (rqO_keeps _) st2 _ rfl (fun u e he => ?_)
  refine reads_req u e (some t) he R.cf (okLb R) (rqO R.tw) (rqO_keeps _) st2 (fun v hv => (read_req v e (some t) hv (by intro l hl; simp only [Option.some.injEq] at hl; subst hl; omega) R st2 hR).mono ?_)
  rintro r w' ⟨h1, h2, h3⟩
  refine ⟨?_, h2, h3⟩
  rcases h1 with ⟨hno, rfl⟩ | ⟨hok, p, tp, rv, vs, rfl, ht, hf⟩
  · have hf : okLb R = false := by
      cases h : okLb R with
      | false => rfl
      | true => exact absurd ((okLb_iff R).1 h) hno
    rw [hf]
    exact ⟨_, rfl, fun h => absurd h (by decide)⟩
  · have hf' : okLb R = true := (okLb_iff R).2 hok
    rw [hf']
    exact ⟨_, rfl, fun _ => ⟨_, _, _, rfl, ⟨rfl, p, tp, rv, vs, rfl, ht, rfl⟩, hf⟩⟩
/-- Bytes that tell of such a tower. -/
def rqE (W word : Nat) (b : List UInt8) (B : Nat) (m : List Vl) : Prop := ∃ D : TwD, D.rq W word B m ∧ sumS m ≤ W * 1024 ∧ D.allQ InR ∧ b = closeB 5 (putReq D)
theorem TwD.rq.sizes {D : TwD} {W word B : Nat} {m : List Vl} (h : D.rq W word B m) (hB : B ≤ 8000) (hW : W ≤ 64) : D.W ≤ 64 ∧ D.rows.length ≤ 12 ∧ (∀ r ∈ D.rows, r.length ≤ 64) ∧ D.used ≤ 8000 := by
  have h1 := h.fine.W_eq
  have h2 := h.few
  have h3 := h.fine.few12 (by omega)
  have h4 := h.used
  exact ⟨by omega, h3, fun r hr => by have := h.fine.short r hr; omega, by omega⟩
def kdReq (c : Cf) (W word : Nat) (hc : RqC c W word) : Kd c where
  P := RqP c W word
  E := rqE W word
  lt := fun h => h.lt
  chg := fun h k hF => h.chg k hF
  mono := fun h hB => h.mono hB
  new := fun w => (rq_new w c (by rw [hc.eq]; rfl) (by rw [hc.eq]; exact hc.wd)).mono (by
    rintro e w' (⟨k, hk, rfl, h⟩ | ⟨W', s, F, hc', rfl, hP, h2, h3⟩)
    · exact .inl ⟨k, hk, rfl, h⟩
    · have e1 : c.width = (W : Int) := by rw [hc.eq]
      have e2 : c.width = (W' : Int) := by rw [hc'.eq]
      have e3 : c.word = word := by rw [hc.eq]
      have e4 : W' = W := by omega
      rw [e3, e4] at hP
      exact .inr ⟨s, F, rfl, hP, h2, h3⟩)
  put := fun {w s F B m} h hB x n h1 h2 hn => rq_put c W word hc w s F B m h hB x ⟨h1, h2⟩ n hn
  bytes := fun {w s F B m} h hB => by
    obtain ⟨p, tp, rv, vs, D, hs, ht, hd, hrm, rfl, hnm, hq⟩ := h
    obtain ⟨g1, g2, g3, g4⟩ := hd.sizes (by omega) hc.w2
    have gw : D.word < 18446744073709551616 := by rw [hd.fine.word_eq]; exact hc.wd
    have hlen := putReq_len hq g1 gw (by omega) g3
    refine (bytes_req w s p c hs 5 (by rw [hc.eq]; rfl) (putReq D) (fun u q F hu hql hF => req_write u p tp rv vs D (ht.chg hu (by simp)) hq g1 gw (by omega) g3 (by omega) q F [] (by simp) hql)).mono ?_
    rintro e w' ⟨rfl, hk⟩
    refine ⟨_, rfl, ⟨D, hd, hrm, hq, ?_⟩, hk⟩
    rw [encS, if_pos (by omega)]
  decode := fun {b B m} h hB w => by
    obtain ⟨D, hd, hrm, hq, rfl⟩ := h
    obtain ⟨g1, g2, g3, g4⟩ := hd.sizes (by omega) hc.w2
    have gw : D.word < 18446744073709551616 := by rw [hd.fine.word_eq]; exact hc.wd
    have hlen := putReq_len hq g1 gw (by omega) g3
    have hn := natB_len10 (n := (putReq D).length) (by omega)
    have hg := getReq_hit hq g1 gw (by omega) g3 []
    rw [List.append_nil] at hg
    refine (dec_req w _ (by rw [closeB_len]; omega) (putReq D) (openF_close 5 _ (by omega)) D.told (some []) hg).mono ?_
    rintro e w' (⟨-, rfl, hk⟩ | ⟨-, s, T, x, G, rfl, hb, ⟨rfl, p, tp, rv, vs, rfl, ht, rfl⟩, hn, hG, hs, hk⟩)
    · exact .inl ⟨4, by decide, rfl, hk⟩
    · refine .inr ⟨s, _, rfl, ⟨p, tp, rv, vs, _, ?_, ht, ?_, hrm, rfl, hn, ?_⟩, hk, fun b hb => ?_⟩
      · have e : c = D.told.cf := by
          rw [hc.eq]
          simp only [RqL.cf, TwD.told, hd.fine.W_eq, hd.fine.word_eq]
        rw [e]
        exact hb
      · have := hd.load ((D.used % 64 : Nat) : Int) D.lo D.hi (by omega)
        simp only [RqL.tw, TwD.told]
        rw [hd.fine.W_eq, hd.fine.word_eq]
        exact this
      · exact ⟨hq.rows, hq.lo, hq.hi⟩
      · rcases List.mem_cons.1 hb with rfl | hb
        · exact hs
        · exact hG b hb
  join := fun {w s F B a o G B2 b} h ho hd hB => (rq_join c W word hc w s F B a h o G B2 b ho hd hB)
end Go.Proofs.YtlcoibhbdgdfcaaGreatDoor

namespace Go.Proofs.YtlcoibhbdgdfcaaGreatDoor
open Go.RowKit

def kdNone (c : Cf) (h : ∀ w, Calls Tryz.prog 26 #[c.val] w fun e w' => ∃ k : Int, k ≠ 0 ∧ e = .returned (.tuple #[.pointer none, .int .i64 k]) ∧ Chg [] w w') : Kd c where
  P := fun _ _ _ _ _ => False
  E := fun _ _ _ => False
  lt := fun h => False.elim h
  chg := fun h => False.elim h
  mono := fun h => False.elim h
  new := fun w => (h w).mono fun _ _ h => .inl h
  put := fun h => False.elim h
  bytes := fun h => False.elim h
  decode := fun h => False.elim h
  join := fun h => False.elim h
end Go.Proofs.YtlcoibhbdgdfcaaGreatDoor
