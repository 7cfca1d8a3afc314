/-
  The walk of suite's readLumps. Conditions: the form's own reach.
  Frames of loads of any length; how an empty quill begins. Conditions: the form's own reach.
-/
import Derived.Test.YtlcoibhbdgdfcaaGreatDoorCoreLumpsB34
import Derived.Test.YtlcoibhbdgdfcaaGreatDoorCoreLumpsB35
import Derived.Test.YtlcoibhbdgdfcaaGreatDoorCoreLumpsB37
import Derived.Test.YtlcoibhbdgdfcaaGreatDoorCoreLumpsB9
import Derived.Test.YtlcoibhbdgdfcaaGreatDoorCoreLumpsB6
import Derived.Shelf.Abstract
namespace Go.Proofs.YtlcoibhbdgdfcaaGreatDoor
open Go.RowKit

theorem eNat_shortL {most : Nat} {st : Option (List UInt8)} (hl : ∀ l, st = some l → l.length ≤ 70368744177664) : ∀ l, (eNat most st).2 = some l → l.length ≤ 70368744177664 :=
  eNat_short (most := most) (v := (eNat most st).1) (st' := (eNat most st).2) rfl hl
theorem eCount_shortL {st : Option (List UInt8)} (hl : ∀ l, st = some l → l.length ≤ 70368744177664) : ∀ l, (eCountL st).2 = some l → l.length ≤ 70368744177664 := by
  unfold eCountL
  split
  · intro l h; simp at h
  · exact eNat_shortL hl
theorem eCountL_le (st : Option (List UInt8)) : (eCountL st).1 ≤ 9223372036854775807 := by
  unfold eCountL
  split
  · simp
  · exact eNat_le _ _
theorem getLumps_fit (n : Nat) : ∀ (acc : List Lp) (st : Option (List UInt8)), (∀ p ∈ acc, p.n < 18446744073709551616) → ∀ p ∈ (getLumps n acc st).1, p.n < 18446744073709551616 := by
  induction n with
  | zero => intro acc st h; exact h
  | succ n ih =>
    intro acc st h
    rw [getLumps]
    refine ih _ _ (fun p hp => ?_)
    rcases List.mem_append.1 hp with hp | hp
    · exact h p hp
    · rw [List.mem_singleton.1 hp]
      have := eCountL_le (eInt (eInt st).2).2
      show (eCountL (eInt (eInt st).2).2).1 < _
      omega
theorem eCountL_eq (st : Option (List UInt8)) : eCountL st = eCount st := rfl
/-- What readLumps answers. -/
def ReadLm (w w' : World) (W : Nat) (L : List Lp) (r : Ending) : Prop :=
  (¬ okLm (W : Int) L ∧ r = .returned (.tuple #[({ Cf.none 6 with most := (W : Nat) } : Cf).val, .iface 169 (.agg #[.pointer none]), .bool false])) ∨
  (okLm (W : Int) L ∧ ∃ p rv, r = .returned (.tuple #[({ Cf.none 6 with most := (W : Nat) } : Cf).val, .iface 169 (.agg #[.pointer (some ⟨p, 0, none⟩)]), .bool true]) ∧ Lms w' p rv (W : Int) L (totL L) ∧ ∀ b ∈ fpL p rv, w.heap.size ≤ b)
set_option maxRecDepth 100000 in
set_option maxHeartbeats 8000000 in
theorem read_lumps (w : World) (e : Nat) (st : Option (List UInt8)) (he : EyeAt w e st) (hl : ∀ l, st = some l → l.length ≤ 70368744177664) (W : Nat) (L : List Lp) (st2 : Option (List UInt8)) (hR : getLm st = ((W, L), st2)) :
    Calls Tryz.prog 62 #[.pointer (some ⟨e, 0, none⟩)] w fun r w' => ReadLm w w' W L r ∧ EyeAt w' e st2 ∧ Chg [e] w w' := by
  obtain ⟨sa, hsa⟩ : ∃ s, s = (eNat 64 st).2 := ⟨_, rfl⟩
  obtain ⟨n, hn⟩ : ∃ n, n = (eNat 64 sa).1 := ⟨_, rfl⟩
  obtain ⟨sb, hsb⟩ : ∃ s, s = (eNat 64 sa).2 := ⟨_, rfl⟩
  have hW : W = (eNat 64 st).1 := by
    have := congrArg (fun x => x.1.1) hR
    simp only [getLm] at this
    exact this.symm
  have hG : getLumps n [] sb = (L, st2) := by
    have h1 := congrArg (fun x => x.1.2) hR
    have h2 := congrArg (fun x => x.2) hR
    simp only [getLm] at h1 h2
    rw [hn, hsb, hsa]
    rw [← h1, ← h2]
  have l1 : ∀ l, sa = some l → l.length ≤ 70368744177664 := by rw [hsa]; exact eNat_shortL hl
  have l2 : ∀ l, sb = some l → l.length ≤ 70368744177664 := by rw [hsb]; exact eNat_shortL l1
  have n1 : W ≤ 64 := by rw [hW]; exact eNat_le 64 st
  have n2 : n ≤ 64 := by rw [hn]; exact eNat_le 64 sa
  have HA := Lib.hid (show ∀ u, EyeAt u e st → Calls Tryz.prog 54 #[.pointer (some ⟨e, 0, none⟩), .int .i64 64] u fun r w' => r = .returned (.int .i64 (W : Nat)) ∧ EyeAt w' e sa ∧ Chg [e] u w' from fun u hu => by have := eye_small u e st 64 (by omega) hu hl; simp only [show (64 : Int).toNat = 64 from rfl] at this; rw [← hW, ← hsa] at this; exact this)
  have HBq := Lib.hid (show ∀ u, EyeAt u e sa → Calls Tryz.prog 54 #[.pointer (some ⟨e, 0, none⟩), .int .i64 64] u fun r w' => r = .returned (.int .i64 (n : Nat)) ∧ EyeAt w' e sb ∧ Chg [e] u w' from fun u hu => by have := eye_small u e sa 64 (by omega) hu l1; simp only [show (64 : Int).toNat = 64 from rfl] at this; rw [← hn, ← hsb] at this; exact this)
  have HG := Lib.hid hG
  have HL2 := Lib.hid l2
  have HEL := Lib.hid (show e < w.heap.size from Blk.lt he)
  clear hW hsa hn hsb hG l1 l2 hR hl
  obtain ⟨b2, hb2⟩ : ∃ z, z = w.heap.size := ⟨_, rfl⟩
  have HZ0 := Lib.hid (show Blk (w.alloc (.cells #[.int .i64 0, .int .u64 0, .int .u64 0, .int .i64 0, .int .i64 0, .int .i64 0, .int .u64 0, .int .i64 0, .int .i64 0, .int .i64 0, .int .u64 0] 30)) b2 #[.int .i64 0, .int .u64 0, .int .u64 0, .int .i64 0, .int .i64 0, .int .i64 0, .int .u64 0, .int .i64 0, .int .i64 0, .int .i64 0, .int .u64 0] 30 from by rw [hb2]; exact Blk.alloc_new _ _ _)
  have HC0 := Lib.hid ((Chg.refl [e] w).alloc (.cells #[.int .i64 0, .int .u64 0, .int .u64 0, .int .i64 0, .int .i64 0, .int .i64 0, .int .u64 0, .int .i64 0, .int .i64 0, .int .i64 0, .int .u64 0] 30))
  have HE0 := Lib.hid (show EyeAt (w.alloc (.cells #[.int .i64 0, .int .u64 0, .int .u64 0, .int .i64 0, .int .i64 0, .int .i64 0, .int .u64 0, .int .i64 0, .int .i64 0, .int .i64 0, .int .u64 0] 30)) e st from Blk.alloc he _)
  have HB2 := Lib.hid (show e ≠ b2 ∧ w.heap.size ≤ b2 from by have := HEL.out; omega)
  clear he
  go_enter Tryz.func62, Tryz.ntmps62
  go_wp2_with fail
  rw [← hb2]
  clear hb2
  generalize w.alloc (.cells #[.int .i64 0, .int .u64 0, .int .u64 0, .int .i64 0, .int .i64 0, .int .i64 0, .int .u64 0, .int .i64 0, .int .i64 0, .int .i64 0, .int .u64 0] 30) = w0 at *
  refine (HA.out w0 HE0.out).mono ?_
  rintro r w1 ⟨rfl, he1, hc1⟩
  have HZ1 := Lib.hid (HZ0.out.chg hc1 (by simpa using HB2.out.1.symm))
  have HC1 := Lib.hid (HC0.out.trans hc1)
  obtain ⟨b5, hb5⟩ : ∃ z, z = w1.heap.size := ⟨_, rfl⟩
  have HY2 := Lib.hid (show Blk (w1.alloc (.cells #[.int .i64 6, .int .u64 0, .int .u64 0, .int .i64 0, .int .i64 (W : Nat), .int .i64 0, .int .u64 0, .int .i64 0, .int .i64 0, .int .i64 0, .int .u64 0] 30)) b5 #[.int .i64 6, .int .u64 0, .int .u64 0, .int .i64 0, .int .i64 (W : Nat), .int .i64 0, .int .u64 0, .int .i64 0, .int .i64 0, .int .i64 0, .int .u64 0] 30 from by rw [hb5]; exact Blk.alloc_new _ _ _)
  have HE2 := Lib.hid (show EyeAt (w1.alloc (.cells #[.int .i64 6, .int .u64 0, .int .u64 0, .int .i64 0, .int .i64 (W : Nat), .int .i64 0, .int .u64 0, .int .i64 0, .int .i64 0, .int .i64 0, .int .u64 0] 30)) e sa from Blk.alloc he1 _)
  have HC2 := Lib.hid (HC1.out.alloc (.cells #[.int .i64 6, .int .u64 0, .int .u64 0, .int .i64 0, .int .i64 (W : Nat), .int .i64 0, .int .u64 0, .int .i64 0, .int .i64 0, .int .i64 0, .int .u64 0] 30))
  have HZ2 := Lib.hid (HZ1.out.alloc (.cells #[.int .i64 6, .int .u64 0, .int .u64 0, .int .i64 0, .int .i64 (W : Nat), .int .i64 0, .int .u64 0, .int .i64 0, .int .i64 0, .int .i64 0, .int .u64 0] 30))
  have HB5 := Lib.hid (show e ≠ b5 ∧ w.heap.size ≤ b5 ∧ b2 ≠ b5 from by have h1 := Blk.lt he1; have h2 := HC1.out.size; have h4 := HZ1.out.lt; omega)
  clear he1 hc1 HE0 HC0 HC1 HZ0 HZ1 HA
  go_wp2_with fail
  rw [← hb5]
  clear hb5
  generalize w1.alloc (.cells #[.int .i64 6, .int .u64 0, .int .u64 0, .int .i64 0, .int .i64 (W : Nat), .int .i64 0, .int .u64 0, .int .i64 0, .int .i64 0, .int .i64 0, .int .u64 0] 30) = w3 at *
  refine (HBq.out w3 HE2.out).mono ?_
  rintro r w4 ⟨rfl, he4, hc4⟩
  have HE4 := Lib.hid he4
  have HC4 := Lib.hid (HC2.out.trans hc4)
  have HZ4 := Lib.hid (HZ2.out.chg hc4 (by simpa using HB2.out.1.symm))
  have HY4 := Lib.hid (HY2.out.chg hc4 (by simpa using HB5.out.1.symm))
  clear he4 hc4 HE2 HC2 HZ2 HY2 HBq
  go_wp2_with fail
  go_loopw [6, 14] (fun x i wx => ∃ (k : Nat) (acc : List Lp) (s : Option (List UInt8)) (ro : Option Addr) (rc : Nat), k ≤ n ∧ i = .int .i64 (k : Nat) ∧ x = .slice ro k rc ∧ Hid (k = acc.length ∧ getLumps (n - k) acc s = (L, st2)) ∧ EyeAt wx e s ∧ Hid (∀ l, s = some l → l.length ≤ 70368744177664) ∧ Hid (Own wx 194 3 (.slice ro k rc) k (lpCells acc)) ∧ Hid (Chg [e] w4 wx) ∧ Hid (∀ b ∈ abl ro, w4.heap.size ≤ b)) (fun _ i _ => n - (intOf i).toNat)
  case atStart => exact ⟨0, [], sb, none, 0, Nat.zero_le _, rfl, rfl, Lib.hid ⟨rfl, HG.out⟩, HE4.out, HL2, Lib.hid (Own.nil _ _ _), Lib.hid (Chg.refl _ _), Lib.hid (by simp)⟩
  case round =>
    obtain ⟨k, acc, s, ro, rc, hk, rfl, rfl, HJ, he', HLK, HO, HC, HF⟩ := hrel
    have HE' := Lib.hid he'
    clear he'
    by_cases hlt : k < n
    · obtain ⟨lo, hlo⟩ : ∃ x, x = (eInt s).1 := ⟨_, rfl⟩
      obtain ⟨s1, hs1⟩ : ∃ x, x = (eInt s).2 := ⟨_, rfl⟩
      obtain ⟨hi, hhi⟩ : ∃ x, x = (eInt s1).1 := ⟨_, rfl⟩
      obtain ⟨s2, hs2⟩ : ∃ x, x = (eInt s1).2 := ⟨_, rfl⟩
      obtain ⟨c, hcc⟩ : ∃ x, x = (eCountL s2).1 := ⟨_, rfl⟩
      obtain ⟨s3, hs3⟩ : ∃ x, x = (eCountL s2).2 := ⟨_, rfl⟩
      have q1 : ∀ l, s1 = some l → l.length ≤ 70368744177664 := by rw [hs1]; exact eNat_shortL HLK.out
      have q2 : ∀ l, s2 = some l → l.length ≤ 70368744177664 := by rw [hs2]; exact eNat_shortL q1
      have q3 : ∀ l, s3 = some l → l.length ≤ 70368744177664 := by rw [hs3]; exact eCount_shortL q2
      have hgl : getLump s = (⟨c, lo, hi⟩, s3) := by rw [getLump, hcc, hs3, hs2, hs1, hlo, hhi, hs1]
      have H1 := Lib.hid (show ∀ u, EyeAt u e s → Calls Tryz.prog 74 #[.pointer (some ⟨e, 0, none⟩)] u fun r w' => r = .returned (.int .i64 lo) ∧ EyeAt w' e s1 ∧ Chg [e] u w' from fun u hu => by have := eye_int u e s hu HLK.out; rw [hlo, hs1]; exact this)
      have H2 := Lib.hid (show ∀ u, EyeAt u e s1 → Calls Tryz.prog 74 #[.pointer (some ⟨e, 0, none⟩)] u fun r w' => r = .returned (.int .i64 hi) ∧ EyeAt w' e s2 ∧ Chg [e] u w' from fun u hu => by have := eye_int u e s1 hu q1; rw [hhi, hs2]; exact this)
      have H3 := Lib.hid (show ∀ u, EyeAt u e s2 → Calls Tryz.prog 82 #[.pointer (some ⟨e, 0, none⟩)] u fun r w' => r = .returned (.int .u64 (c : Nat)) ∧ EyeAt w' e s3 ∧ Chg [e] u w' from fun u hu => by have := eye_count u e s2 hu q2; rw [hcc, hs3, eCountL_eq]; exact this)
      have HGL := Lib.hid hgl
      have HL3 := Lib.hid q3
      have HNK := Lib.hid (show n - k = (n - (k + 1)) + 1 from by omega)
      clear hlo hs1 hhi hs2 hcc hs3 q1 q2 q3 hgl
      go_wp2_with fail
      refine (H1.out wr HE'.out).mono ?_
      rintro q w5 ⟨rfl, he5, hc5⟩
      have HE5 := Lib.hid he5
      have HC5 := Lib.hid hc5
      clear he5 hc5 HE' H1
      go_wp2_with fail
      refine (H2.out w5 HE5.out).mono ?_
      rintro q w6 ⟨rfl, he6, hc6⟩
      have HE6 := Lib.hid he6
      have HC6 := Lib.hid (HC5.out.trans hc6)
      clear he6 hc6 HE5 HC5 H2
      go_wp2_with fail
      refine (H3.out w6 HE6.out).mono ?_
      rintro q w7 ⟨rfl, he7, hc7⟩
      have HE7 := Lib.hid he7
      have HC7 := Lib.hid (HC6.out.trans hc7)
      have HRO := Lib.hid (HO.out.chg (HC6.out.trans hc7) (fun b hb e' => by simp at e'; subst e'; have h1 := HF.out b (by simpa using hb); have h2 := HEL.out; have h3 := HC4.out.size; omega))
      clear he7 hc7 HE6 HC6 H3
      go_wp2_with (at_builtin; go_must (refine wpList_append_src _ rfl (.tmp 16) (.tmp 24) 101 101 rfl 194 _ 3 24 under_lumps info_lump rfl (by decide) (.slice ro k rc) k (lpCells acc) rfl (HRO.out.chg (F := []) ((Chg.refl [] _).alloc _) (by simp)) (.slice (some ⟨w7.heap.size, 0, none⟩) 1 1) 1 (lpCells [⟨c, lo, hi⟩]) rfl (Src.of_rd under_lumps (Rd.lit w7 #[.int .u64 (c : Nat), .int .i64 lo, .int .i64 hi] 194 3 1 1 rfl)) (lpCells_oneCell _) (by unfold maxLen; omega) (by omega) ?_; intro a8 c8 w8 ho8 hg8 hf8))
      have hg8' : Chg (abl ro) (w7.alloc (.cells #[.int .u64 (c : Nat), .int .i64 lo, .int .i64 hi] 194)) w8 := hg8.mono (fun b hb => .inl (by simpa using hb))
      have hk8 : Chg (abl ro) w7 w8 := (((Chg.refl [] w7).alloc _).nil).trans hg8'
      have hwr := HC.out.size
      have h7r := HC7.out.size
      refine ⟨⟨k + 1, acc ++ [⟨c, lo, hi⟩], s3, a8, c8, hlt, by go_num, rfl, Lib.hid ⟨by rw [List.length_append, ← HJ.out.1]; rfl, ?_⟩, ?_, HL3, Lib.hid (by rw [lpCells_append]; exact ho8), Lib.hid ((HC.out.trans HC7.out).trans' hk8 (fun b hb => .inr (HF.out b hb))), Lib.hid (fun b hb => ?_)⟩, by simp [intOf]; omega⟩
      · have h1 := HJ.out.2
        rw [HNK.out, getLumps, HGL.out] at h1
        exact h1
      · exact Blk.chg HE7.out hk8 (fun e' => by have h1 := HF.out e e'; have h2 := HEL.out; have h3 := HC4.out.size; omega)
      · rcases hf8 b hb with h1 | h1
        · exact HF.out b (by simpa using h1)
        · simp only [World.size_alloc] at h1
          omega
    · obtain rfl : k = n := by omega
      have hY := HY4.out.chg HC.out (by simpa using HB5.out.1.symm)
      have y3 := hY.cell 4
      simp only [List.getElem?_toArray, List.getElem?_cons_zero, List.getElem?_cons_succ] at y3
      have hacc : acc = L ∧ s = st2 := by
        have h1 := HJ.out.2
        rw [Nat.sub_self, getLumps] at h1
        simp only [Prod.mk.injEq] at h1
        exact h1
      obtain ⟨rfl, rfl⟩ := hacc
      have hfit : ∀ p ∈ acc, p.n < 18446744073709551616 := by
        have := getLumps_fit k [] sb (by simp)
        rw [HG.out] at this
        exact this
      have HLD := Lib.hid (lump_load wr (W : Int) ro rc k acc HJ.out.1 HO.out.rd (by omega) hfit)
      have HY := Lib.hid hY
      have HZ := Lib.hid (HZ4.out.chg HC.out (by simpa using HB2.out.1.symm))
      have HCC := Lib.hid (HC4.out.trans HC.out)
      clear hfit hY HO HF
      go_wp2_with fail
      refine HLD.out.mono ?_
      rintro q w8 (⟨hno, rfl, hc8⟩ | ⟨hok, p, rv, rfl, ht8, hc8, hf8⟩)
      · have HC8 := Lib.hid (HCC.out.trans' hc8 (by simp))
        have HE8 := Lib.hid (Blk.chg HE'.out hc8 (by simp))
        have hY8 := HY.out.chg hc8 (by simp)
        have hZ8 := HZ.out.chg hc8 (by simp)
        obtain ⟨z0, z1, z2, z3, z4, z5, z6, z7, z8, z9, z10⟩ := cf_cells (c := { Cf.none 6 with most := (W : Nat) }) (b := b5) hY8
        obtain ⟨x0, x1, x2, x3, x4, x5, x6, x7, x8, x9, x10⟩ := cf_cells (c := Cf.none 0) (b := b2) hZ8
        have f2 := hZ8.free
        have hl8 := hZ8.lt
        simp only [Cf.none] at z0 z1 z2 z3 z4 z5 z6 z7 z8 z9 z10 x0 x1 x2 x3 x4 x5 x6 x7 x8 x9 x10
        clear y3 hY8 HY HZ HLD HE'
        have HST := Lib.hid (cfStore_ok (d := Cf.none 0) hZ8 { Cf.none 6 with most := (W : Nat) })
        obtain ⟨w9, hw9⟩ : ∃ z, z = cfStore w8 b2 { Cf.none 6 with most := (W : Nat) } := ⟨_, rfl⟩
        rw [← hw9] at HST
        have HW9 := Lib.hid hw9
        clear hw9 hZ8
        go_wp2_with fail
        have hww := HW9.out
        simp only [cfStore, Cf.none, Int.natCast_zero] at hww
        rw [← hww]
        clear hww
        have HE9 : EyeAt w9 e s := Blk.chg HE8.out HST.out.2 (by simpa using HB2.out.1)
        have HC9 : Chg [e] w w9 := HC8.out.trans' HST.out.2 (fun b hb => by rw [List.mem_singleton.1 hb]; exact .inr HB2.out.2)
        obtain ⟨x0, x1, x2, x3, x4, x5, x6, x7, x8, x9, x10⟩ := cf_cells HST.out.1
        simp only [Cf.none] at x0 x1 x2 x3 x4 x5 x6 x7 x8 x9 x10
        refine bodyPost_ret (v := .tuple #[({ Cf.none 6 with most := (W : Nat) } : Cf).val, .iface 169 (.agg #[.pointer none]), .bool false]) (by simp [results, Tryz.results62, go_sem, x0, x1, x2, x3, x4, x5, x6, x7, x8, x9, x10, Cf.val, Cf.cells, Cf.none]) rfl ?_
        exact ⟨.inl ⟨hno, rfl⟩, HE9, HC9⟩
      · have HC8 := Lib.hid (HCC.out.trans' hc8 (by simp))
        have HE8 := Lib.hid (Blk.chg HE'.out hc8 (by simp))
        have hY8 := HY.out.chg hc8 (by simp)
        have hZ8 := HZ.out.chg hc8 (by simp)
        obtain ⟨z0, z1, z2, z3, z4, z5, z6, z7, z8, z9, z10⟩ := cf_cells (c := { Cf.none 6 with most := (W : Nat) }) (b := b5) hY8
        obtain ⟨x0, x1, x2, x3, x4, x5, x6, x7, x8, x9, x10⟩ := cf_cells (c := Cf.none 0) (b := b2) hZ8
        have f2 := hZ8.free
        have hl8 := hZ8.lt
        simp only [Cf.none] at z0 z1 z2 z3 z4 z5 z6 z7 z8 z9 z10 x0 x1 x2 x3 x4 x5 x6 x7 x8 x9 x10
        have HTF := Lib.hid (And.intro ht8 hf8)
        have HF2 := Lib.hid (show ∀ b ∈ fpL p rv, b ≠ b2 from fun b hb e' => by have h1 := hf8 b hb; have h2 := HZ.out.lt; omega)
        have HOK := Lib.hid hok
        clear ht8 hf8 hok
        clear y3 hY8 HY HZ HLD HE'
        have HST := Lib.hid (cfStore_ok (d := Cf.none 0) hZ8 { Cf.none 6 with most := (W : Nat) })
        obtain ⟨w9, hw9⟩ : ∃ z, z = cfStore w8 b2 { Cf.none 6 with most := (W : Nat) } := ⟨_, rfl⟩
        rw [← hw9] at HST
        have HW9 := Lib.hid hw9
        clear hw9 hZ8
        go_wp2_with fail
        have hww := HW9.out
        simp only [cfStore, Cf.none, Int.natCast_zero] at hww
        rw [← hww]
        clear hww
        have HE9 : EyeAt w9 e s := Blk.chg HE8.out HST.out.2 (by simpa using HB2.out.1)
        have HC9 : Chg [e] w w9 := HC8.out.trans' HST.out.2 (fun b hb => by rw [List.mem_singleton.1 hb]; exact .inr HB2.out.2)
        obtain ⟨x0, x1, x2, x3, x4, x5, x6, x7, x8, x9, x10⟩ := cf_cells HST.out.1
        simp only [Cf.none] at x0 x1 x2 x3 x4 x5 x6 x7 x8 x9 x10
        refine bodyPost_ret (v := .tuple #[({ Cf.none 6 with most := (W : Nat) } : Cf).val, .iface 169 (.agg #[.pointer (some ⟨p, 0, none⟩)]), .bool true]) (by simp [results, Tryz.results62, go_sem, x0, x1, x2, x3, x4, x5, x6, x7, x8, x9, x10, Cf.val, Cf.cells, Cf.none]) rfl ?_
        exact ⟨.inr ⟨HOK.out, p, rv, rfl, HTF.out.1.chg HST.out.2 (fun b hb => by simpa using HF2.out b hb), fun b hb => Nat.le_trans HCC.out.size (HTF.out.2 b hb)⟩, HE9, HC9⟩
end Go.Proofs.YtlcoibhbdgdfcaaGreatDoor

namespace Go.Proofs.YtlcoibhbdgdfcaaGreatDoor
open Go.RowKit

/-- What is told of a load of a kind: its bytes, none if there are too many; the error. -/
def encS (k : UInt8) (X : List UInt8) : List UInt8 := if X.length ≤ 262144 then closeB k X else []
def encE (X : List UInt8) : Int := if X.length ≤ 262144 then 0 else 3
theorem frame_closeV (w : World) (k : UInt8) (t : List UInt8) (S : List UInt8) (E : Int) (hS : S = encS k t) (hE : E = encE t) :
    Calls Tryz.prog 47 #[.int .u8 (k.toNat : Nat), .string ⟨t.toArray⟩] w fun e w' => e = .returned (.tuple #[.string ⟨S.toArray⟩, .int .i64 E]) ∧ Chg [] w w' := by
  subst hS hE
  by_cases h : t.length ≤ 262144
  · rw [encS, if_pos h, encE, if_pos h]
    exact frame_close w k t h
  · rw [encS, if_neg h, encE, if_neg h]
    refine (frame_close_long w k t (by omega)).mono ?_
    rintro e w' ⟨rfl, rfl⟩
    exact ⟨rfl, Chg.refl _ _⟩
theorem Qul.new (w : World) : Qul (w.alloc (.cells #[.slice none 0 0] 116)) w.heap.size [w.heap.size] [] :=
  ⟨none, 0, rfl, Blk.alloc_new _ _ _, Own.nil _ _ _⟩
theorem enters_etext : ∀ (args : Array Value) (w : World), (callFunc 48 args).run Tryz.prog w = .ok (.enter 48 args) w := enters_of Tryz.func48 (by kernel_rfl) rfl
theorem enters_eclose : ∀ (args : Array Value) (w : World), (callFunc 47 args).run Tryz.prog w = .ok (.enter 47 args) w := enters_of Tryz.func47 (by kernel_rfl) rfl
theorem u8_kind {k : Int} {kk : UInt8} (h : k = (kk.toNat : Nat)) : IntKind.u8.wrap k = (kk.toNat : Int) := by
  have := kk.toNat_lt
  have e : ∀ n : Int, IntKind.u8.wrap n = n % 256 := fun n => by simp [IntKind.wrap, IntKind.bits, IntKind.signed]
  rw [h, e]
  omega
end Go.Proofs.YtlcoibhbdgdfcaaGreatDoor
