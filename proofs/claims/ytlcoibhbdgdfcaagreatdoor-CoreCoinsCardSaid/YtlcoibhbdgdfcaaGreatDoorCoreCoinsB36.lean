/-
  The walk of suite's readReq. Conditions: the form's own reach.
-/
import Derived.Test.YtlcoibhbdgdfcaaGreatDoorCoreCoinsB34
import Derived.Test.YtlcoibhbdgdfcaaGreatDoorCoreCoinsB21
import Derived.Test.YtlcoibhbdgdfcaaGreatDoorCoreCoinsB35
namespace Go.Proofs.YtlcoibhbdgdfcaaGreatDoor
open Go.RowKit

theorem eNat_short' {most : Nat} {st : Option (List UInt8)} (hl : ∀ l, st = some l → l.length ≤ 70368744177664) : ∀ l, (eNat most st).2 = some l → l.length ≤ 70368744177664 :=
  eNat_short (most := most) (v := (eNat most st).1) (st := st) rfl hl
theorem getInts_short (n : Nat) (acc : List Int) (st : Option (List UInt8)) (hl : ∀ l, st = some l → l.length ≤ 70368744177664) : ∀ l, (getInts n acc st).2 = some l → l.length ≤ 70368744177664 := by
  induction n generalizing acc st with
  | zero => exact hl
  | succ n ih =>
    rw [getInts]
    split
    · simp
    · exact ih _ _ (eInt_short hl)
theorem getRow_short {st : Option (List UInt8)} (hl : ∀ l, st = some l → l.length ≤ 70368744177664) : ∀ l, (getRow st).2 = some l → l.length ≤ 70368744177664 :=
  getInts_short _ _ _ (eNat_short' hl)
theorem getRow_len (st : Option (List UInt8)) : (getRow st).1.length ≤ 64 := by
  have h1 := getInts_len (eNat 64 st).1 [] (eNat 64 st).2
  have h2 := eNat_le 64 st
  simp only [List.length_nil] at h1
  unfold getRow
  omega
/-- Rows on the way: each of the program's own, new, apart from the row of them. -/
structure Rws (w0 : Nat) (w : World) (ro : Option Addr) (vs : List Value) (rows : List (List Int)) : Prop where
  len : vs.length = rows.length
  own : ∀ i (h : i < vs.length) (h' : i < rows.length), Own w 2 1 vs[i] rows[i].length (ints rows[i])
  new : ∀ v ∈ vs, ∀ b ∈ blkOf v, w0 ≤ b ∧ b ∉ abl ro
theorem Rws.nil (w0 : Nat) (w : World) (ro : Option Addr) : Rws w0 w ro [] [] := ⟨rfl, by simp, by simp⟩
theorem Rws.chg {w0 : Nat} {w w1 : World} {ro : Option Addr} {vs : List Value} {rows : List (List Int)} {F : List Nat} (h : Rws w0 w ro vs rows) (k : Chg F w w1) (hF : ∀ b ∈ F, b < w0 ∨ b ∈ abl ro) : Rws w0 w1 ro vs rows :=
  ⟨h.len, fun i hi hi' => (h.own i hi hi').chg k (fun b hb e => by
    have h1 := h.new _ (List.getElem_mem hi) b hb
    rcases hF b e with h2 | h2
    · omega
    · exact h1.2 h2), h.new⟩
theorem Rws.snoc {w0 : Nat} {w w1 : World} {ro ro' : Option Addr} {vs : List Value} {rows : List (List Int)} {v : Value} {r : List Int} (h : Rws w0 w ro vs rows) (hv : Own w 2 1 v r.length (ints r)) (hn : ∀ b ∈ blkOf v, w0 ≤ b ∧ b ∉ abl ro)
    (k : Chg (abl ro) w w1) (hr : ∀ b ∈ abl ro', b ∈ abl ro ∨ w.heap.size ≤ b) : Rws w0 w1 ro' (vs ++ [v]) (rows ++ [r]) := by
  have h1 := h.chg k (fun b hb => .inr hb)
  have hv1 := hv.chg k (fun b hb => (hn b hb).2)
  refine ⟨by simp [h.len], fun i hi hi' => ?_, fun u hu b hb => ?_⟩
  · by_cases hlt : i < vs.length
    · rw [List.getElem_append_left hlt, List.getElem_append_left (by rw [← h.len]; exact hlt)]
      exact h1.own i hlt (by rw [← h.len]; exact hlt)
    · obtain rfl : i = vs.length := by simp at hi; omega
      have e2 : (rows ++ [r])[vs.length] = r := by rw [List.getElem_append_right (by rw [h.len]; omega)]; simp [h.len]
      rw [e2]
      simp only [List.getElem_concat_length]
      exact hv1
  · have ho : w0 ≤ b ∧ b ∉ abl ro ∧ b < w.heap.size := by
      rcases List.mem_append.1 hu with hu | hu
      · obtain ⟨i, hi, rfl⟩ := List.getElem_of_mem hu
        have h2 := h.new _ (List.getElem_mem hi) b hb
        exact ⟨h2.1, h2.2, (h.own i hi (by rw [← h.len]; exact hi)).lt b hb⟩
      · rw [List.mem_singleton.1 hu] at hb
        exact ⟨(hn b hb).1, (hn b hb).2, hv.lt b hb⟩
    refine ⟨ho.1, fun e => ?_⟩
    rcases hr b e with h2 | h2
    · exact ho.2.1 h2
    · omega
theorem Rws.rowsR {w0 : Nat} {w : World} {ro : Option Addr} {rc n : Nat} {vs : List Value} {rows : List (List Int)} (h : Rws w0 w ro vs rows) (ho : Own w 121 1 (.slice ro n rc) n vs) (hn : n = rows.length) : RowsR w (.slice ro n rc) n vs rows :=
  ⟨ho.rd, hn, h.len, fun j hj hj' => (h.own j hj hj').rd⟩
/-- What is read of a tower's bytes: a config; a tower, if there can be such a one. -/
def ReadR (w w' : World) (R : RqL) (e : Ending) : Prop :=
  (¬ okL (R.W : Int) R.rows (R.used : Nat) R.low R.high ∧ e = .returned (.tuple #[({ Cf.none 5 with width := (R.W : Nat), word := R.word } : Cf).val, .iface 167 (.agg #[.pointer none]), .bool false])) ∨
  (okL (R.W : Int) R.rows (R.used : Nat) R.low R.high ∧ ∃ p tp rv vs, e = .returned (.tuple #[({ Cf.none 5 with width := (R.W : Nat), word := R.word } : Cf).val, .iface 167 (.agg #[.pointer (some ⟨p, 0, none⟩)]), .bool true]) ∧ Tow w' p tp rv vs (TwD.loaded (R.W : Int) R.word R.rows (R.used : Nat) R.low R.high) ∧ ∀ b ∈ fp p tp rv vs, w.heap.size ≤ b)
theorem getRows_all (n : Nat) (acc : List (List Int)) (st : Option (List UInt8)) (h : ∀ r ∈ acc, r.length ≤ 64) : (∀ r ∈ (getRows n acc st).1, r.length ≤ 64) ∧ (getRows n acc st).1.length = acc.length + n := by
  induction n generalizing acc st with
  | zero => exact ⟨h, rfl⟩
  | succ n ih =>
    rw [getRows]
    obtain ⟨h1, h2⟩ := ih (acc ++ [(getRow st).1]) (getRow st).2 (fun r hr => by
      rcases List.mem_append.1 hr with hr | hr
      · exact h r hr
      · rw [List.mem_singleton.1 hr]; exact getRow_len st)
    exact ⟨h1, by rw [h2]; simp; omega⟩
theorem getReq_parts {st st2 : Option (List UInt8)} {R : RqL} (h : getReq st = (R, st2)) : ∃ sa sb sc sd se n sf, eNat 64 st = (R.W, sa) ∧ eNat 18446744073709551615 sa = (R.word, sb) ∧ eNat 63 sb = (R.used, sc) ∧ eInt sc = (R.low, sd) ∧ eInt sd = (R.high, se) ∧ eNat 16 se = (n, sf) ∧ getRows n [] sf = (R.rows, st2) := by
  simp only [getReq, Prod.mk.injEq] at h
  obtain ⟨rfl, h2⟩ := h
  exact ⟨_, _, _, _, _, _, _, rfl, rfl, rfl, rfl, rfl, rfl, Prod.ext rfl h2⟩
set_option maxRecDepth 100000 in
set_option maxHeartbeats 4000000 in
theorem read_req (w : World) (e : Nat) (st : Option (List UInt8)) (he : EyeAt w e st) (hl : ∀ l, st = some l → l.length ≤ 70368744177664) (R : RqL) (st2 : Option (List UInt8)) (hR : getReq st = (R, st2)) :
    Calls Tryz.prog 61 #[.pointer (some ⟨e, 0, none⟩)] w fun r w' => ReadR w w' R r ∧ EyeAt w' e st2 ∧ Chg [e] w w' := by
  obtain ⟨W, word, used, low, high, rows⟩ := R
  obtain ⟨sa, sb, sc, sd, se, n, sf, hsa, hsb, hsc, hsd, hse, hsf, hsg⟩ := getReq_parts hR
  simp only at hsa hsb hsc hsd hse hsf hsg
  have l1 : ∀ l, sa = some l → l.length ≤ 70368744177664 := eNat_short hsa hl
  have l2 : ∀ l, sb = some l → l.length ≤ 70368744177664 := eNat_short hsb l1
  have l3 : ∀ l, sc = some l → l.length ≤ 70368744177664 := eNat_short hsc l2
  have l4 : ∀ l, sd = some l → l.length ≤ 70368744177664 := by have := eInt_short l3; rw [hsd] at this; exact this
  have l5 : ∀ l, se = some l → l.length ≤ 70368744177664 := by have := eInt_short l4; rw [hse] at this; exact this
  have l6 : ∀ l, sf = some l → l.length ≤ 70368744177664 := eNat_short hsf l5
  have n1 : W ≤ 64 := by have := eNat_le 64 st; rw [hsa] at this; exact this
  have n3 : used ≤ 63 := by have := eNat_le 63 sb; rw [hsc] at this; exact this
  have n4 : n ≤ 16 := by have := eNat_le 16 se; rw [hsf] at this; exact this
  have HA := Lib.hid (show ∀ u, EyeAt u e st → Calls Tryz.prog 54 #[.pointer (some ⟨e, 0, none⟩), .int .i64 64] u fun r w' => r = .returned (.int .i64 (W : Nat)) ∧ EyeAt w' e sa ∧ Chg [e] u w' from fun u hu => by have := eye_small u e st 64 (by omega) hu hl; simp only [show (64 : Int).toNat = 64 from rfl, hsa] at this; exact this)
  have HBq := Lib.hid (show ∀ u, EyeAt u e sa → Calls Tryz.prog 71 #[.pointer (some ⟨e, 0, none⟩), .int .u64 18446744073709551615] u fun r w' => r = .returned (.int .u64 (word : Nat)) ∧ EyeAt w' e sb ∧ Chg [e] u w' from fun u hu => by have := eye_nat u e 18446744073709551615 sa (by omega) hu l1; simp only [hsb] at this; exact this)
  have HCq := Lib.hid (show ∀ u, EyeAt u e sb → Calls Tryz.prog 54 #[.pointer (some ⟨e, 0, none⟩), .int .i64 63] u fun r w' => r = .returned (.int .i64 (used : Nat)) ∧ EyeAt w' e sc ∧ Chg [e] u w' from fun u hu => by have := eye_small u e sb 63 (by omega) hu l2; simp only [show (63 : Int).toNat = 63 from rfl, hsc] at this; exact this)
  have HDq := Lib.hid (show ∀ u, EyeAt u e sc → Calls Tryz.prog 74 #[.pointer (some ⟨e, 0, none⟩)] u fun r w' => r = .returned (.int .i64 low) ∧ EyeAt w' e sd ∧ Chg [e] u w' from fun u hu => by have := eye_int u e sc hu l3; have h1 := congrArg Prod.fst hsd; have h2 := congrArg Prod.snd hsd; simp only [eInt] at h1 h2; rw [h1, h2] at this; exact this)
  have HEq := Lib.hid (show ∀ u, EyeAt u e sd → Calls Tryz.prog 74 #[.pointer (some ⟨e, 0, none⟩)] u fun r w' => r = .returned (.int .i64 high) ∧ EyeAt w' e se ∧ Chg [e] u w' from fun u hu => by have := eye_int u e sd hu l4; have h1 := congrArg Prod.fst hse; have h2 := congrArg Prod.snd hse; simp only [eInt] at h1 h2; rw [h1, h2] at this; exact this)
  have HFq := Lib.hid (show ∀ u, EyeAt u e se → Calls Tryz.prog 54 #[.pointer (some ⟨e, 0, none⟩), .int .i64 16] u fun r w' => r = .returned (.int .i64 (n : Nat)) ∧ EyeAt w' e sf ∧ Chg [e] u w' from fun u hu => by have := eye_small u e se 16 (by omega) hu l5; simp only [show (16 : Int).toNat = 16 from rfl, hsf] at this; exact this)
  have HSG := Lib.hid hsg
  have HL6 := Lib.hid l6
  have HEL := Lib.hid (show e < w.heap.size from Blk.lt he)
  clear hsa hsb hsc hsd hse hsf hsg l1 l2 l3 l4 l5 l6 hR hl
  obtain ⟨b2, hb2⟩ : ∃ z, z = w.heap.size := ⟨_, rfl⟩
  have HZ0 := Lib.hid (show Blk (w.alloc (.cells #[.int .i64 0, .int .u64 0, .int .u64 0, .int .i64 0, .int .i64 0, .int .i64 0, .int .u64 0, .int .i64 0, .int .i64 0, .int .i64 0, .int .u64 0] 30)) b2 #[.int .i64 0, .int .u64 0, .int .u64 0, .int .i64 0, .int .i64 0, .int .i64 0, .int .u64 0, .int .i64 0, .int .i64 0, .int .i64 0, .int .u64 0] 30 from by rw [hb2]; exact Blk.alloc_new _ _ _)
  have HC0 := Lib.hid ((Chg.refl [e] w).alloc (.cells #[.int .i64 0, .int .u64 0, .int .u64 0, .int .i64 0, .int .i64 0, .int .i64 0, .int .u64 0, .int .i64 0, .int .i64 0, .int .i64 0, .int .u64 0] 30))
  have HE0 := Lib.hid (show EyeAt (w.alloc (.cells #[.int .i64 0, .int .u64 0, .int .u64 0, .int .i64 0, .int .i64 0, .int .i64 0, .int .u64 0, .int .i64 0, .int .i64 0, .int .i64 0, .int .u64 0] 30)) e st from Blk.alloc he _)
  have HB2 := Lib.hid (show e ≠ b2 ∧ w.heap.size ≤ b2 from by have := HEL.out; omega)
  clear he
  go_enter Tryz.func61, Tryz.ntmps61
  go_wp2_with fail
  rw [← hb2]
  clear hb2
  generalize w.alloc (.cells #[.int .i64 0, .int .u64 0, .int .u64 0, .int .i64 0, .int .i64 0, .int .i64 0, .int .u64 0, .int .i64 0, .int .i64 0, .int .i64 0, .int .u64 0] 30) = w0 at *
  refine (HA.out w0 HE0.out).mono ?_
  rintro r w1 ⟨rfl, he1, hc1⟩
  have HE1 := Lib.hid he1
  have HC1 := Lib.hid (HC0.out.trans hc1)
  have HZ1 := Lib.hid (HZ0.out.chg hc1 (by simpa using HB2.out.1.symm))
  clear he1 hc1 HE0 HC0 HZ0 HA
  go_wp2_with fail
  refine (HBq.out w1 HE1.out).mono ?_
  rintro r w2 ⟨rfl, he2, hc2⟩
  obtain ⟨b5, hb5⟩ : ∃ z, z = w2.heap.size := ⟨_, rfl⟩
  have HY2 := Lib.hid (show Blk (w2.alloc (.cells #[.int .i64 5, .int .u64 0, .int .u64 0, .int .i64 0, .int .i64 0, .int .i64 0, .int .u64 0, .int .i64 0, .int .i64 0, .int .i64 (W : Nat), .int .u64 (word : Nat)] 30)) b5 #[.int .i64 5, .int .u64 0, .int .u64 0, .int .i64 0, .int .i64 0, .int .i64 0, .int .u64 0, .int .i64 0, .int .i64 0, .int .i64 (W : Nat), .int .u64 (word : Nat)] 30 from by rw [hb5]; exact Blk.alloc_new _ _ _)
  have HE2 := Lib.hid (show EyeAt (w2.alloc (.cells #[.int .i64 5, .int .u64 0, .int .u64 0, .int .i64 0, .int .i64 0, .int .i64 0, .int .u64 0, .int .i64 0, .int .i64 0, .int .i64 (W : Nat), .int .u64 (word : Nat)] 30)) e sb from Blk.alloc he2 _)
  have HC2 := Lib.hid ((HC1.out.trans hc2).alloc (.cells #[.int .i64 5, .int .u64 0, .int .u64 0, .int .i64 0, .int .i64 0, .int .i64 0, .int .u64 0, .int .i64 0, .int .i64 0, .int .i64 (W : Nat), .int .u64 (word : Nat)] 30))
  have HZ2 := Lib.hid ((HZ1.out.chg hc2 (by simpa using HB2.out.1.symm)).alloc (.cells #[.int .i64 5, .int .u64 0, .int .u64 0, .int .i64 0, .int .i64 0, .int .i64 0, .int .u64 0, .int .i64 0, .int .i64 0, .int .i64 (W : Nat), .int .u64 (word : Nat)] 30))
  have HB5 := Lib.hid (show e ≠ b5 ∧ w.heap.size ≤ b5 ∧ b2 ≠ b5 from by have h1 := Blk.lt he2; have h2 := HC1.out.size; have h3 := hc2.size; have h4 := HZ1.out.lt; omega)
  clear he2 hc2 HE1 HC1 HZ1 HBq
  go_wp2_with fail
  rw [← hb5]
  clear hb5
  generalize w2.alloc (.cells #[.int .i64 5, .int .u64 0, .int .u64 0, .int .i64 0, .int .i64 0, .int .i64 0, .int .u64 0, .int .i64 0, .int .i64 0, .int .i64 (W : Nat), .int .u64 (word : Nat)] 30) = w3 at *
  refine (HCq.out w3 HE2.out).mono ?_
  rintro r w4 ⟨rfl, he4, hc4⟩
  have HE4 := Lib.hid he4
  have HC4 := Lib.hid (HC2.out.trans hc4)
  have HZ4 := Lib.hid (HZ2.out.chg hc4 (by simpa using HB2.out.1.symm))
  have HY4 := Lib.hid (HY2.out.chg hc4 (by simpa using HB5.out.1.symm))
  clear he4 hc4 HE2 HC2 HZ2 HY2 HCq
  go_wp2_with fail
  refine (HDq.out w4 HE4.out).mono ?_
  rintro r w5 ⟨rfl, he5, hc5⟩
  have HE5 := Lib.hid he5
  have HC5 := Lib.hid (HC4.out.trans hc5)
  have HZ5 := Lib.hid (HZ4.out.chg hc5 (by simpa using HB2.out.1.symm))
  have HY5 := Lib.hid (HY4.out.chg hc5 (by simpa using HB5.out.1.symm))
  clear he5 hc5 HE4 HC4 HZ4 HY4 HDq
  go_wp2_with fail
  refine (HEq.out w5 HE5.out).mono ?_
  rintro r w6 ⟨rfl, he6, hc6⟩
  have HE6 := Lib.hid he6
  have HC6 := Lib.hid (HC5.out.trans hc6)
  have HZ6 := Lib.hid (HZ5.out.chg hc6 (by simpa using HB2.out.1.symm))
  have HY6 := Lib.hid (HY5.out.chg hc6 (by simpa using HB5.out.1.symm))
  clear he6 hc6 HE5 HC5 HZ5 HY5 HEq
  go_wp2_with fail
  refine (HFq.out w6 HE6.out).mono ?_
  rintro r w7 ⟨rfl, he7, hc7⟩
  have HE7 := Lib.hid he7
  have HC7 := Lib.hid (HC6.out.trans hc7)
  have HZ7 := Lib.hid (HZ6.out.chg hc7 (by simpa using HB2.out.1.symm))
  have HY7 := Lib.hid (HY6.out.chg hc7 (by simpa using HB5.out.1.symm))
  clear he7 hc7 HE6 HC6 HZ6 HY6 HFq
  go_wp2_with fail
  go_loopw [9, 25] (fun rw i wx => ∃ (k : Nat) (acc : List (List Int)) (vs : List Value) (s : Option (List UInt8)) (ro : Option Addr) (rc : Nat), k ≤ n ∧ i = .int .i64 (k : Nat) ∧ rw = .slice ro k rc ∧ Hid (k = acc.length) ∧ Hid (getRows (n - k) acc s = (rows, st2)) ∧ EyeAt wx e s ∧ Hid (∀ l, s = some l → l.length ≤ 70368744177664) ∧
    Hid (Own wx 121 1 (.slice ro k rc) k vs) ∧ Hid (Rws w.heap.size wx ro vs acc) ∧ Hid (Chg [e] w7 wx) ∧ Hid (∀ b ∈ abl ro, w7.heap.size ≤ b)) (fun _ i _ => n - (intOf i).toNat)
  case atStart => exact ⟨0, [], [], sf, none, 0, Nat.zero_le _, rfl, rfl, Lib.hid rfl, Lib.hid HSG.out, HE7.out, HL6, Lib.hid (Own.nil _ _ _), Lib.hid (Rws.nil _ _ _), Lib.hid (Chg.refl _ _), Lib.hid (by simp)⟩
  case round =>
    obtain ⟨k, acc, vs, s, ro, rc, hk, rfl, rfl, HJ, HGK, he', HLK, HO, HRW, HC, HF⟩ := hrel
    have HE' := Lib.hid he'
    clear he'
    by_cases hlt : k < n
    · obtain ⟨c, s1, hs1⟩ : ∃ c s1, eNat 64 s = (c, s1) := ⟨_, _, rfl⟩
      obtain ⟨r, s2, hs2⟩ : ∃ r s2, getInts c [] s1 = (r, s2) := ⟨_, _, rfl⟩
      have hc64 : c ≤ 64 := by have := eNat_le 64 s; rw [hs1] at this; exact this
      have hgr : getRow s = (r, s2) := by rw [getRow, hs1, hs2]
      have HNK := Lib.hid (show n - k = (n - (k + 1)) + 1 from by omega)
      have HL1 := Lib.hid (eNat_short hs1 HLK.out)
      have HSM := Lib.hid (show ∀ u, EyeAt u e s → Calls Tryz.prog 54 #[.pointer (some ⟨e, 0, none⟩), .int .i64 64] u fun r w' => r = .returned (.int .i64 (c : Nat)) ∧ EyeAt w' e s1 ∧ Chg [e] u w' from fun u hu => by have := eye_small u e s 64 (by omega) hu HLK.out; simp only [show (64 : Int).toNat = 64 from rfl, hs1] at this; exact this)
      obtain ⟨m, hm⟩ : ∃ m, m = r.length := ⟨_, rfl⟩
      have hm64 : m ≤ 64 := by have := getRow_len s; rw [hgr] at this; simp only at this; omega
      have HIN := Lib.hid (fun u (hu : EyeAt u e s1) => suite_ints u e s1 c (by omega) hu HL1.out r s2 hs2 m hm)
      have HGR := Lib.hid hgr
      have HM := Lib.hid hm
      have HL2 := Lib.hid (show ∀ l, s2 = some l → l.length ≤ 70368744177664 from by have := getRow_short HLK.out; rw [hgr] at this; exact this)
      clear hs1 hs2 hgr hm
      go_wp2_with fail
      refine (HSM.out wr HE'.out).mono ?_
      rintro q w8 ⟨rfl, he8, hc8⟩
      have HE8 := Lib.hid he8
      have HC8 := Lib.hid hc8
      clear he8 hc8 HE' HSM
      go_wp2_with fail
      refine (HIN.out w8 HE8.out).mono ?_
      rintro q w9 ⟨ao, cap, rfl, ho9, he9, hc9, hf9⟩
      have HC9 := Lib.hid (HC8.out.trans hc9)
      have HE9 := Lib.hid he9
      have HO9 := Lib.hid ho9
      have HF9 := Lib.hid (show ∀ b ∈ abl ao, wr.heap.size ≤ b from fun b hb => Nat.le_trans HC8.out.size (hf9 b hb))
      have HRO := Lib.hid (HO.out.chg HC9.out (fun b hb e' => by simp at e'; subst e'; have h1 := HF.out b (by simpa using hb); have h2 := HEL.out; have h3 := HC7.out.size; omega))
      have HRW9 := Lib.hid (HRW.out.chg HC9.out (fun b hb => by rw [List.mem_singleton.1 hb]; exact .inl HEL.out))
      clear ho9 he9 hc9 hf9 HE8 HC8 HIN
      go_wp2_with (at_builtin; go_must (refine wpList_append_src _ rfl (.tmp 27) (.tmp 32) 191 191 rfl 121 _ 1 24 under_rowsT info_intsT rfl (by decide) (.slice ro k rc) k vs rfl (HRO.out.chg (F := []) ((Chg.refl [] _).alloc _) (by simp)) (.slice (some ⟨w9.heap.size, 0, none⟩) 1 1) 1 [.slice ao m cap] rfl (Src.of_rd under_rowsT (Rd.lit1 w9 (.slice ao m cap) 121 1)) (by simp [Value.oneCell']) (by unfold maxLen; omega) (by omega) ?_; intro a10 c10 w10 ho10 hg10 hf10))
      have hg10' : Chg (abl ro) (w9.alloc (.cells #[.slice ao m cap] 121)) w10 := hg10.mono (fun b hb => .inl (by simpa using hb))
      have hk10 : Chg (abl ro) w9 w10 := (((Chg.refl [] w9).alloc _).nil).trans hg10'
      have hwr := HC.out.size
      have h9r := HC9.out.size
      have hros : ∀ b ∈ abl ro, b < wr.heap.size := fun b hb => HO.out.lt b (by simpa using hb)
      refine ⟨⟨k + 1, acc ++ [r], vs ++ [.slice ao m cap], s2, a10, c10, hlt, by go_num, rfl, Lib.hid (by rw [List.length_append, ← HJ.out]; rfl), Lib.hid ?_, ?_, HL2, Lib.hid ho10, Lib.hid ?_, Lib.hid ((HC.out.trans HC9.out).trans' hk10 (fun b hb => .inr (HF.out b hb))), Lib.hid (fun b hb => ?_)⟩, by simp [intOf]; omega⟩
      · have h1 := HGK.out
        rw [HNK.out, getRows, HGR.out] at h1
        exact h1
      · exact Blk.chg HE9.out hk10 (fun e' => by have h1 := HF.out e e'; have h2 := HEL.out; have h3 := HC7.out.size; omega)
      · refine (HRW9.out.chg (F := []) ((Chg.refl [] _).alloc _) (by simp)).snoc ?_ (fun b hb => ?_) hg10' (fun b hb => ?_)
        · have := HO9.out.alloc (.cells #[.slice ao m cap] 121)
          rw [HM.out] at this ⊢
          exact this
        · have h1 := HF9.out b (by simpa using hb)
          have h3 := HC7.out.size
          exact ⟨by omega, fun e' => by have := hros b e'; omega⟩
        · rcases hf10 b hb with h1 | h1
          · exact .inl (by simpa using h1)
          · exact .inr h1
      · rcases hf10 b hb with h1 | h1
        · exact HF.out b (by simpa using h1)
        · simp only [World.size_alloc] at h1
          omega
    · obtain rfl : k = n := by omega
      have hY := HY7.out.chg HC.out (by simpa using HB5.out.1.symm)
      have y8 := hY.cell 9
      have y9 := hY.cell 10
      simp only [List.getElem?_toArray, List.getElem?_cons_zero, List.getElem?_cons_succ] at y8 y9
      have hacc : acc = rows ∧ s = st2 := by
        have h1 := HGK.out
        rw [Nat.sub_self, getRows] at h1
        simp only [Prod.mk.injEq] at h1
        exact h1
      obtain ⟨rfl, rfl⟩ := hacc
      have hgl := getRows_all k [] sf (by simp)
      rw [HSG.out] at hgl
      have HLD := Lib.hid (req_load wr (W : Int) word ro rc k vs acc (HRW.out.rowsR HO.out HJ.out) (fun r hr => by have := hgl.1 r hr; omega) (by omega) (used : Nat) low high)
      have HY := Lib.hid hY
      have HZ := Lib.hid (HZ7.out.chg HC.out (by simpa using HB2.out.1.symm))
      have HCC := Lib.hid (HC7.out.trans HC.out)
      clear hgl hY HO HRW HF
      go_wp2_with fail
      refine HLD.out.mono ?_
      rintro q w8 (⟨hno, rfl, hc8⟩ | ⟨hok, p, tp, rv, vs', rfl, ht8, hc8, hf8⟩)
      · have HC8 := Lib.hid (HCC.out.trans' hc8 (by simp))
        have HE8 := Lib.hid (Blk.chg HE'.out hc8 (by simp))
        have hY8 := HY.out.chg hc8 (by simp)
        have hZ8 := HZ.out.chg hc8 (by simp)
        obtain ⟨z0, z1, z2, z3, z4, z5, z6, z7, z8, z9, z10⟩ := cf_cells (c := { Cf.none 5 with width := (W : Nat), word := word }) (b := b5) hY8
        obtain ⟨x0, x1, x2, x3, x4, x5, x6, x7, x8, x9, x10⟩ := cf_cells (c := Cf.none 0) (b := b2) hZ8
        have f2 := hZ8.free
        have hl8 := hZ8.lt
        simp only [Cf.none] at z0 z1 z2 z3 z4 z5 z6 z7 z8 z9 z10 x0 x1 x2 x3 x4 x5 x6 x7 x8 x9 x10
        clear y8 y9 hY8 HY HZ HLD HE'
        have HST := Lib.hid (cfStore_ok (d := Cf.none 0) hZ8 { Cf.none 5 with width := (W : Nat), word := word })
        obtain ⟨w9, hw9⟩ : ∃ z, z = cfStore w8 b2 { Cf.none 5 with width := (W : Nat), word := word } := ⟨_, rfl⟩
        rw [← hw9] at HST
        have HW9 := Lib.hid hw9
        clear hw9 hZ8
        go_wp2_with fail
        have hww := HW9.out
        simp only [cfStore, Cf.none, Int.natCast_zero] at hww
        rw [← hww]
        clear hww
        have HE9 : EyeAt w9 e s := Blk.chg HE8.out HST.out.2 (by simpa using HB2.out.1)
        have HC9 : Chg [e] w w9 := HC8.out.trans' HST.out.2 (fun b hb => by rw [List.mem_singleton.1 hb]; exact .inr HB2.out.2)
        obtain ⟨x0, x1, x2, x3, x4, x5, x6, x7, x8, x9, x10⟩ := cf_cells HST.out.1
        simp only [Cf.none] at x0 x1 x2 x3 x4 x5 x6 x7 x8 x9 x10
        refine bodyPost_ret (v := .tuple #[({ Cf.none 5 with width := (W : Nat), word := word } : Cf).val, .iface 167 (.agg #[.pointer none]), .bool false]) (by simp [results, Tryz.results61, go_sem, x0, x1, x2, x3, x4, x5, x6, x7, x8, x9, x10, Cf.val, Cf.cells, Cf.none]) rfl ?_
        exact ⟨.inl ⟨hno, rfl⟩, HE9, HC9⟩
      · have HC8 := Lib.hid (HCC.out.trans' hc8 (by simp))
        have HE8 := Lib.hid (Blk.chg HE'.out hc8 (by simp))
        have hY8 := HY.out.chg hc8 (by simp)
        have hZ8 := HZ.out.chg hc8 (by simp)
        obtain ⟨z0, z1, z2, z3, z4, z5, z6, z7, z8, z9, z10⟩ := cf_cells (c := { Cf.none 5 with width := (W : Nat), word := word }) (b := b5) hY8
        obtain ⟨x0, x1, x2, x3, x4, x5, x6, x7, x8, x9, x10⟩ := cf_cells (c := Cf.none 0) (b := b2) hZ8
        have f2 := hZ8.free
        have hl8 := hZ8.lt
        simp only [Cf.none] at z0 z1 z2 z3 z4 z5 z6 z7 z8 z9 z10 x0 x1 x2 x3 x4 x5 x6 x7 x8 x9 x10
        have HTF := Lib.hid (And.intro ht8 hf8)
        have HF2 := Lib.hid (show ∀ b ∈ fp p tp rv vs', b ≠ b2 from fun b hb e' => by have h1 := hf8 b hb; have h2 := HZ.out.lt; omega)
        have HOK := Lib.hid hok
        clear ht8 hf8 hok
        clear y8 y9 hY8 HY HZ HLD HE'
        have HST := Lib.hid (cfStore_ok (d := Cf.none 0) hZ8 { Cf.none 5 with width := (W : Nat), word := word })
        obtain ⟨w9, hw9⟩ : ∃ z, z = cfStore w8 b2 { Cf.none 5 with width := (W : Nat), word := word } := ⟨_, rfl⟩
        rw [← hw9] at HST
        have HW9 := Lib.hid hw9
        clear hw9 hZ8
        go_wp2_with fail
        have hww := HW9.out
        simp only [cfStore, Cf.none, Int.natCast_zero] at hww
        rw [← hww]
        clear hww
        have HE9 : EyeAt w9 e s := Blk.chg HE8.out HST.out.2 (by simpa using HB2.out.1)
        have HC9 : Chg [e] w w9 := HC8.out.trans' HST.out.2 (fun b hb => by rw [List.mem_singleton.1 hb]; exact .inr HB2.out.2)
        obtain ⟨x0, x1, x2, x3, x4, x5, x6, x7, x8, x9, x10⟩ := cf_cells HST.out.1
        simp only [Cf.none] at x0 x1 x2 x3 x4 x5 x6 x7 x8 x9 x10
        refine bodyPost_ret (v := .tuple #[({ Cf.none 5 with width := (W : Nat), word := word } : Cf).val, .iface 167 (.agg #[.pointer (some ⟨p, 0, none⟩)]), .bool true]) (by simp [results, Tryz.results61, go_sem, x0, x1, x2, x3, x4, x5, x6, x7, x8, x9, x10, Cf.val, Cf.cells, Cf.none]) rfl ?_
        exact ⟨.inr ⟨HOK.out, p, tp, rv, vs', rfl, HTF.out.1.chg HST.out.2 (fun b hb => by simpa using HF2.out b hb), fun b hb => Nat.le_trans HCC.out.size (HTF.out.2 b hb)⟩, HE9, HC9⟩
end Go.Proofs.YtlcoibhbdgdfcaaGreatDoor
