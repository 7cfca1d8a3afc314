/-
  The walk of the law DigestJoins. Conditions: the form's own reach.
-/
import Derived.Test.YtgnbabkafobeoaaDigestCloseW
import Derived.Test.YtgnbabkafobeoaaDigestLoadsW
import Derived.Test.YtgnbabkafobeoaaRefDgQ
namespace Go.Proofs.Ytgnbabkafobeoaa
open Go.RowKit

theorem under_vlsJ : Try.prog.underlying 24 = some (.slice 46) := by kernel_rfl
theorem info_vlJ : (Try.prog.info? 46).map (fun i => (i.zero, i.size, i.bytes)) = some (some (.agg #[.int .i64 0, .int .u64 0]), 2, 16) := by kernel_rfl
theorem vlCells_appJ (a b : List Vl) : vlCells (a ++ b) = vlCells a ++ vlCells b := by simp [vlCells]
theorem fpR_def (q : Nat) (sv : Value) : fpR q sv = q :: blkOf sv := rfl
set_option maxRecDepth 100000 in
set_option maxHeartbeats 16000000 in
theorem law_DigestJoins (w : World) (d f : Int) (_hd1 : -9223372036854775808 ≤ d) (_hd2 : d < 9223372036854775808) (_hf1 : -9223372036854775808 ≤ f) (_hf2 : f < 9223372036854775808)
    (ao : Option Addr) (ca : Nat) (a : List Vl) (hra : Rd w 2 (.slice ao a.length ca) a.length (vlCells a)) (hla : a.length ≤ 140737488351232) (hka : ∀ i ∈ a, i.ok)
    (bo : Option Addr) (cb : Nat) (b : List Vl) (hrb : Rd w 2 (.slice bo b.length cb) b.length (vlCells b)) (hlb : b.length ≤ 140737488351232) (hkb : ∀ i ∈ b, i.ok)
    (num den : Nat) (hnum : num < 18446744073709551616) (hden : den < 18446744073709551616) :
    Calls Try.prog 6 #[.agg #[.int .i64 d, .int .i64 f], .slice ao a.length ca, .slice bo b.length cb, .agg #[.int .u64 (num : Nat), .int .u64 (den : Nat)]] w fun e w' => e = .returned (.bool true) ∧ Chg [] w w' := by
  have HAL := Lib.hid law17_alive
  have HKA := Lib.hid hka
  have HRA := Lib.hid hra
  have HKB := Lib.hid hkb
  have HRB := Lib.hid hrb
  obtain ⟨n, hn⟩ : ∃ n, n = a.length := ⟨_, rfl⟩
  rw [← hn] at HRA hla ⊢
  have HN := Lib.hid hn
  obtain ⟨m, hm⟩ : ∃ n, n = b.length := ⟨_, rfl⟩
  rw [← hm] at HRB hlb ⊢
  have HM' := Lib.hid hm
  have HND := Lib.hid (And.intro hnum hden)
  clear hka hra hn hkb hrb hm _hd1 _hd2 _hf1 _hf2 hnum hden
  have hc0 := (((Chg.refl [] w).alloc (.cells #[.int .i64 d, .int .i64 f] 23)).alloc (.cells #[.int .u64 (num : Nat), .int .u64 (den : Nat)] 27))
  have hb0 := (Blk.alloc_new w #[.int .i64 d, .int .i64 f] 23).alloc (.cells #[.int .u64 (num : Nat), .int .u64 (den : Nat)] 27)
  have hb1 := Blk.alloc_new (w.alloc (.cells #[.int .i64 d, .int .i64 f] 23)) #[.int .u64 (num : Nat), .int .u64 (den : Nat)] 27
  rw [World.size_alloc] at hb1
  obtain ⟨bc, hbc⟩ : ∃ z, z = w.heap.size := ⟨_, rfl⟩
  rw [← hbc] at hb0 hb1
  have HBC := Lib.hid hbc
  have HC0 := Lib.hid hc0
  have HB := Lib.hid hb0
  have HE := Lib.hid hb1
  have HBA := Lib.hid (fun u (hu : Chg [] w u) => law17_build u d f ao ca n a HN.out (HRA.out.chg hu (by simp)) hla (fun v hv => (HKA.out v hv).2.2))
  have HBB := Lib.hid (fun u (hu : Chg [] w u) => law17_build u d f bo cb m b HM'.out (HRB.out.chg hu (by simp)) hlb (fun v hv => (HKB.out v hv).2.2))
  clear hc0 hb0 hb1
  go_enter Try.func6, Try.ntmps6
  go_wp2_with fail
  rw [← hbc]
  clear hbc
  generalize (w.alloc (.cells #[.int .i64 d, .int .i64 f] 23)).alloc (.cells #[.int .u64 (num : Nat), .int .u64 (den : Nat)] 27) = w0 at *
  refine (HAL.out _).mono ?_
  rintro e w1 ⟨rfl, hc1⟩
  have HC1 := Lib.hid (HC0.out.trans hc1)
  have HB1 := Lib.hid (HB.out.chg hc1 (by simp))
  have HE1 := Lib.hid (HE.out.chg hc1 (by simp))
  have x0 := HB1.out.cell 0
  have x1 := HB1.out.cell 1
  simp only [List.getElem?_toArray, List.getElem?_cons_zero, List.getElem?_cons_succ] at x0 x1
  clear hc1 HB HE HC0 HAL
  go_wp2_with fail
  refine (HBA.out _ HC1.out).mono ?_
  rintro e w2 hb2
  clear x0 x1
  rcases hb2 with ⟨-, rfl, hc2⟩ | ⟨hok, p, s, rv, q, sv, rfl, ht2, hq2, hc2, hf2, hg2, hd2⟩
  · have HC2 := Lib.hid (HC1.out.trans hc2)
    have HB2 := Lib.hid (HB1.out.chg hc2 (by simp))
    have x0 := HB2.out.cell 0
    have x1 := HB2.out.cell 1
    simp only [List.getElem?_toArray, List.getElem?_cons_zero, List.getElem?_cons_succ] at x0 x1
    go_wp2_with fail
    refine (HBB.out _ HC2.out).mono ?_
    rintro e w3 hb3
    rcases hb3 with ⟨-, rfl, hc3⟩ | ⟨-, p, s, rv, q, sv, rfl, -, -, hc3, -, -, -⟩
    · go_wp2
      go_ret
      exact ⟨rfl, HC2.out.trans hc3⟩
    · go_wp2
      go_ret
      exact ⟨rfl, HC2.out.trans hc3⟩
  have hd0 := hok.2.1
  have hf0 := hok.2.2.1
  obtain ⟨dn, rfl⟩ := Int.eq_ofNat_of_zero_le (show 0 ≤ d by omega)
  obtain ⟨fn, rfl⟩ := Int.eq_ofNat_of_zero_le (show 0 ≤ f by omega)
  have HVO := Lib.hid (valsDg_ok (d := dn) (f := fn) hok)
  have HVF := Lib.hid (valsDg_few (d := dn) (f := fn) hok)
  have HVE := Lib.hid (valsDg_of (d := dn) (f := fn) hok)
  have HPOS := Lib.hid (show ∀ v ∈ a, 1 ≤ v.n from fun v hv => (hok.2.2.2 v hv).1)
  have HSB := Lib.hid (show sumS a ≤ 60 * 1125899906842624 ∧ a.length ≤ 60 from by
    have h1 := sumS_bound a hok.2.2.2
    have h2 := hok.1
    exact ⟨Nat.le_trans h1 (Nat.mul_le_mul_right _ h2), h2⟩)
  rw [Int.toNat_natCast, Int.toNat_natCast] at ht2 hq2
  have HT2 := Lib.hid ht2
  have HQ2 := Lib.hid hq2
  have HC2 := Lib.hid (HC1.out.trans hc2)
  have HB2 := Lib.hid (HB1.out.chg hc2 (by simp))
  have HE2 := Lib.hid (HE1.out.chg hc2 (by simp))
  have HF2 := Lib.hid (show ∀ b ∈ fpD p s rv, bc + 1 < b from fun b hb => by have h := hf2 b hb; have h1 := HE1.out.lt; omega)
  have HG2 := Lib.hid (show ∀ b ∈ fpR q sv, bc + 1 < b from fun b hb => by have h := hg2 b hb; have h1 := HE1.out.lt; omega)
  have HD2 := Lib.hid hd2
  clear ht2 hq2 hc2 hf2 hg2 hd2 hok HB1 HE1 HC1 HBA
  have x0 := HB2.out.cell 0
  have x1 := HB2.out.cell 1
  simp only [List.getElem?_toArray, List.getElem?_cons_zero, List.getElem?_cons_succ] at x0 x1
  go_wp2_with fail
  refine (HBB.out _ HC2.out).mono ?_
  rintro e w3 hb3
  clear x0 x1
  rcases hb3 with ⟨-, rfl, hc3⟩ | ⟨hok3, p2, s2, rv2, q2, sv2, rfl, ht3, hq3, hc3, hf3, hg3, hd3⟩
  · go_wp2
    go_ret
    exact ⟨rfl, HC2.out.trans hc3⟩
  have HVO3 := Lib.hid (valsDg_ok (d := dn) (f := fn) hok3)
  have HVF3 := Lib.hid (valsDg_few (d := dn) (f := fn) hok3)
  have HVE3 := Lib.hid (valsDg_of (d := dn) (f := fn) hok3)
  have HPOS3 := Lib.hid (show ∀ v ∈ b, 1 ≤ v.n from fun v hv => (hok3.2.2.2 v hv).1)
  have HSB3 := Lib.hid (show sumS b ≤ 60 * 1125899906842624 ∧ b.length ≤ 60 from by
    have h1 := sumS_bound b hok3.2.2.2
    have h2 := hok3.1
    exact ⟨Nat.le_trans h1 (Nat.mul_le_mul_right _ h2), h2⟩)
  rw [Int.toNat_natCast, Int.toNat_natCast] at ht3 hq3
  have HC3 := Lib.hid (HC2.out.trans hc3)
  have HB3 := Lib.hid (HB2.out.chg hc3 (by simp))
  have HE3 := Lib.hid (HE2.out.chg hc3 (by simp))
  have HT3 := Lib.hid (HT2.out.chg hc3 (by simp))
  have HQ3 := Lib.hid (HQ2.out.chg hc3 (by simp))
  have HO3 := Lib.hid ht3
  have HU3 := Lib.hid hq3
  have HLT := Lib.hid (show (∀ b ∈ fpD p s rv, b < w2.heap.size) ∧ ∀ b ∈ fpR q sv, b < w2.heap.size from ⟨HT2.out.lt, HQ2.out.lt⟩)
  have HF3 := Lib.hid hf3
  have HG3 := Lib.hid hg3
  have HE2L := Lib.hid (show bc + 1 < w2.heap.size from HE2.out.lt)
  have HDJ1 := Lib.hid (show ∀ b ∈ fpD p s rv, b ∉ fpD p2 s2 rv2 from fun b hb hb2 => by have h1 := hf3 b hb2; have h2 := HLT.out.1 b hb; omega)
  have HDJ2 := Lib.hid (show ∀ b ∈ fpD p s rv, b ∉ fpR q2 sv2 from fun b hb hb2 => by have h1 := hg3 b hb2; have h2 := HLT.out.1 b hb; omega)
  have HDJ3 := Lib.hid (show ∀ b ∈ fpR q2 sv2, b ∉ fpR q sv from fun b hb hb2 => by have h1 := hg3 b hb; have h2 := HLT.out.2 b hb2; omega)
  have HDJ4 := Lib.hid (show ∀ b ∈ fpD p2 s2 rv2, b ∉ fpR q sv from fun b hb hb2 => by have h1 := hf3 b hb; have h2 := HLT.out.2 b hb2; omega)
  clear ht3 hq3 hc3 hf3 hg3 hd3 hok3 HB2 HE2 HC2 HBB HT2 HQ2
  generalize valsDg dn fn b = O at *
  generalize valsDg dn fn a = D at *
  have hpar : O.depth = D.depth ∧ O.factor = D.factor := ⟨HVO3.out.2.1.trans HVO.out.2.1.symm, HVO3.out.2.2.1.trans HVO.out.2.2.1.symm⟩
  have htt : totP D.row + totP O.row ≤ 9223372036854775807 := by have h1 := HVO.out.2.2.2.1; have h2 := HVO3.out.2.2.2.1; have h3 := HSB.out.1; have h4 := HSB3.out.1; omega
  have hll : D.row.length + O.row.length ≤ 1000 := by
    have h1 := HVO.out.2.2.2.2; have h2 := HVO3.out.2.2.2.2; have h3 := HSB.out.2; have h4 := HSB3.out.2; omega
  have HJR := Lib.hid (DgD.join_row HVO.out.1 HVO3.out.1 hpar htt hll)
  have HJS := Lib.hid (D.join_same O)
  have HJO := Lib.hid (DgD.of_join HVO.out.1 HVO3.out.1 hpar HVE.out HVE3.out)
  have HJD := Lib.hid (dg_join w3 p s rv D HT3.out HVO.out.1 p2 s2 rv2 O HO3.out HVO3.out.1 hpar htt hll HDJ1.out)
  have HJQ := Lib.hid (fun u (hq : RD u q sv D) (hu : RD u q2 sv2 O) => ref17_join u q sv D hq HVO.out.1 HVF.out.2 q2 sv2 O hu HVO3.out.1 hpar.1 htt hll HDJ3.out)
  obtain ⟨J, hJ⟩ : ∃ J, J = D.join O := ⟨_, rfl⟩
  rw [← hJ] at HJR HJS HJO HJD HJQ
  obtain ⟨so2, sc2, hsv2⟩ := HU3.out.row.shape
  subst hsv2
  obtain ⟨oo, hoo⟩ : ∃ z, z = O.row.length := ⟨_, rfl⟩
  have HOO := Lib.hid (show oo = O.row.length ∧ oo ≤ 1000 from ⟨hoo, by omega⟩)
  have HUR := Lib.hid (show ∀ u, RD u q2 (.slice so2 O.row.length sc2) O → u.cell? ⟨q2, 2, none⟩ = some (.slice so2 oo sc2) ∧ Rd u 2 (.slice so2 oo sc2) oo (prCells O.row) from fun u hu => by
    have h1 := hu.cells.2.2
    have h2 := hu.row.rd
    rw [← hoo] at h1 h2
    exact ⟨h1, h2⟩)
  have c2 := (HUR.out _ HU3.out).1
  have HDF := Lib.hid (show (1 ≤ dn ∧ dn ≤ 24) ∧ 1 ≤ fn ∧ fn ≤ 64 from by omega)
  have HDO := Lib.hid (show J.depth = dn ∧ J.factor = fn from ⟨HJS.out.1.trans HVO.out.2.1, HJS.out.2.trans HVO.out.2.2.1⟩)
  clear hJ hoo hpar htt hll hd0 hf0
  go_wp2_with fail
  refine HJD.out.mono ?_
  rintro e w4 ⟨rfl, s4, rv4, hd4, hm4⟩
  have HD4 := Lib.hid hd4
  have HC4 := Lib.hid (HC3.out.trans' hm4.chg (fun b hb => .inr (by have h := HF2.out b hb; have h2 := HBC.out; omega)))
  have HB4 := Lib.hid (HB3.out.chg hm4.chg (fun e => by have := HF2.out _ e; omega))
  have HE4 := Lib.hid (HE3.out.chg hm4.chg (fun e => by have := HF2.out _ e; omega))
  have HO4 := Lib.hid (HO3.out.chg hm4.chg (fun b hb e => HDJ1.out b e hb))
  have HU4 := Lib.hid (HU3.out.chg hm4.chg (fun b hb e => HDJ2.out b e hb))
  have HQ4 := Lib.hid (HQ3.out.chg hm4.chg (fun b hb e => HD2.out b e hb))
  have HDJ5 := Lib.hid (show ∀ b ∈ fpD p s4 rv4, b ∉ fpR q sv from fun b hb e => by
    rcases hm4.fr b hb with h | h
    · exact HD2.out b h e
    · have := HLT.out.2 b e
      have h5 := HQ3.out.lt b e
      omega)
  clear hd4 hm4 HJD HC3 HB3 HE3 HT3 HQ3 HO3 HU3 c2
  go_wp2_with fail
  refine (HJQ.out _ HQ4.out HU4.out).mono ?_
  rintro e w5 ⟨rfl, sv5, hq5, hm5⟩
  have HQ5 := Lib.hid hq5
  have HC5 := Lib.hid (HC4.out.trans' hm5.chg (fun b hb => .inr (by have h := HG2.out b hb; have h2 := HBC.out; omega)))
  have HB5 := Lib.hid (HB4.out.chg hm5.chg (fun e => by have := HG2.out _ e; omega))
  have HE5 := Lib.hid (HE4.out.chg hm5.chg (fun e => by have := HG2.out _ e; omega))
  have HD5 := Lib.hid (HD4.out.chg hm5.chg (fun b hb e => HDJ5.out b hb e))
  have HO5 := Lib.hid (HO4.out.chg hm5.chg (fun b hb e => HDJ4.out b hb e))
  have HU5 := Lib.hid (HU4.out.chg hm5.chg (fun b hb e => HDJ3.out b hb e))
  clear hq5 hm5 HJQ HC4 HB4 HE4 HQ4 HD4 HO4 HU4 HDJ1 HDJ2 HDJ3 HDJ4 HDJ5 HD2 HLT HF2 HG2 HF3 HG3 HE2L
  have hn60 : n ≤ 60 := by have := HN.out; have := HSB.out.2; omega
  have hm60 : m ≤ 60 := by have := HM'.out; have := HSB3.out.2; omega
  have HAPB := Lib.hid (show vlCells a ++ vlCells b = vlCells (a ++ b) from (vlCells_appJ a b).symm)
  obtain ⟨nm, hnm⟩ : ∃ z, z = n + m := ⟨_, rfl⟩
  have hnm1 : nm ≤ 120 := by omega
  have HNM := Lib.hid (show nm = (a ++ b).length from by rw [List.length_append, ← HN.out, ← HM'.out]; exact hnm)
  have HNMQ := Lib.hid hnm
  clear hnm
  have hsz5 := HC5.out.size
  have HSZ5 := Lib.hid (show w.heap.size ≤ w5.heap.size from hsz5)
  go_wp2_with (at_builtin; first
    | (have _hB := HO6.out
       refine wpList_append_src _ rfl (.tmp 62) (.tmp 63) 24 24 rfl 46 _ 2 16 under_vlsJ info_vlJ rfl (by decide) (.slice a6 n c6) n (vlCells a) rfl HO6.out (.slice bo m cb) m (vlCells b) rfl (Src.of_rd under_vlsJ (HRB.out.chg (HC5.out.trans HC6.out) (by simp))) (vlCells_oneCell _) (by unfold maxLen; omega) (by omega) ?_
       intro a7 c7 w7 ho7 hg7 hf7
       rw [HAPB.out, ← HNMQ.out] at ho7
       have hc7 : Chg [] w5 w7 := HC6.out.trans' hg7 (fun b hb => .inr (HF6.out b (by simpa using hb)))
       have HR7 := Lib.hid ho7.rd
       have HCX7 := Lib.hid hc7
       clear ho7 hg7 hf7 hc7)
    | (refine wpList_append_src _ rfl (.tmp 60) (.tmp 61) 24 24 rfl 46 _ 2 16 under_vlsJ info_vlJ rfl (by decide) (.slice (some ⟨w5.heap.size, 0, none⟩) 0 0) 0 (vlCells []) rfl (Own.lit w5 46 2 0 #[] rfl (by unfold maxLen; omega)) (.slice ao n ca) n (vlCells a) rfl (Src.of_rd under_vlsJ ((HRA.out.chg HC5.out (by simp)).alloc _)) (vlCells_oneCell _) (by unfold maxLen; omega) (by omega) ?_
       intro a6 c6 w6 ho6 hg6 hf6
       rw [Nat.zero_add] at ho6 ⊢
       have hc6 : Chg [] w5 w6 := ((Chg.refl [] w5).alloc _).trans' hg6 (by simp)
       have HO6 := Lib.hid (show Own w6 46 2 (.slice a6 n c6) n (vlCells a) from by simpa [vlCells] using ho6)
       have HF6 := Lib.hid (show ∀ b ∈ abl a6, w5.heap.size ≤ b from fun b hb => by
         rcases hf6 b hb with h | h
         · simp at h; omega
         · rw [World.size_alloc] at h; omega)
       have HC6 := Lib.hid hc6
       clear ho6 hg6 hf6 hc6))
  rw [← HNMQ.out]
  have hc7 := HCX7.out
  have HC7 := Lib.hid (HC5.out.trans hc7)
  have HB7 := Lib.hid (HB5.out.chg hc7 (by simp))
  have HE7 := Lib.hid (HE5.out.chg hc7 (by simp))
  have HD7 := Lib.hid (HD5.out.chg hc7 (by simp))
  have HO7 := Lib.hid (HO5.out.chg hc7 (by simp))
  have HU7 := Lib.hid (HU5.out.chg hc7 (by simp))
  have HQ7 := Lib.hid (HQ5.out.chg hc7 (by simp))
  clear hc7 HCX7 HO6 HF6 HC6 HC5 HB5 HE5 HD5 HO5 HU5 HQ5 hsz5 HSZ5
  clear HNMQ HAPB
  obtain ⟨M, hM⟩ : ∃ M, M = totP J.row := ⟨_, rfl⟩
  have HM := Lib.hid hM
  have HSS := Lib.hid (show sumS (a ++ b) = M ∧ M ≤ 120 * 1125899906842624 from by
    have h1 := HJR.out.2.1; have h2 := HVO.out.2.2.2.1; have h3 := HVO3.out.2.2.2.1; have h4 := HSB.out.1; have h5 := HSB3.out.1
    rw [sumS_app]
    omega)
  have HEN := Lib.hid (show Calls Try.prog 25 #[.pointer (some ⟨p, 0, none⟩)] w7 fun e w' => e = .returned (.tuple #[.int .i64 (loV (a ++ b)), .int .i64 (hiV (a ++ b)), .bool (!decide (M = 0))]) ∧ Chg [] w7 w' from by
    have h := dg_endsR w7 p s4 rv4 J HD7.out M hM
    have e1 : (if M = 0 then 0 else J.least) = loV (a ++ b) := by
      split
      · next h => rw [HJO.out.nil.1 (by omega)]; rfl
      · exact HJO.out.least
    have e2 : (if M = 0 then 0 else J.most) = hiV (a ++ b) := by
      split
      · next h => rw [HJO.out.nil.1 (by omega)]; rfl
      · exact HJO.out.most
    rw [e1, e2] at h
    exact h)
  have HEV := Lib.hid (fun u (hu : Chg [] w7 u) => ref14_ends u a7 c7 nm (a ++ b) HNM.out (HR7.out.chg hu (by simp)) (by omega) (loV (a ++ b)) (hiV (a ++ b)) (decide (a ++ b ≠ [])) rfl rfl rfl)
  have HUP := Lib.hid (fun u (hu : Chg [] w7 u) y V (hV : V = upS y (a ++ b)) => ref13_up u a7 c7 nm (a ++ b) HNM.out (HR7.out.chg hu (by simp)) (by omega) (by have := HSS.out; omega) y V hV)
  generalize loV (a ++ b) = lo at *
  generalize hiV (a ++ b) = hi at *
  clear hM
  go_wp2_with fail
  refine HEN.out.mono ?_
  rintro e w8 ⟨rfl, hc8⟩
  have HC8 := Lib.hid hc8
  clear hc8 HEN
  go_wp2_with fail
  refine (HEV.out _ HC8.out).mono ?_
  rintro e w9 ⟨rfl, hc9⟩
  have HC9 := Lib.hid (HC8.out.trans hc9)
  clear hc9 HEV HC8
  obtain ⟨so, sc, hsv⟩ := HQ7.out.row.shape
  subst hsv
  obtain ⟨nn, hnn⟩ : ∃ z, z = J.row.length := ⟨_, rfl⟩
  have hnl : nn ≤ 1000 := by have := HJR.out.1.len; omega
  have HNO := Lib.hid (fun u (hu : Chg [] w7 u) => dg_nodes u p s4 rv4 J (HD7.out.chg hu (by simp)) nn hnn hnl)
  have HNO2 := Lib.hid (fun u (hu : Chg [] w7 u) => dg_nodes u p2 s2 rv2 O (HO7.out.chg hu (by simp)) oo HOO.out.1 HOO.out.2)
  have HSA := Lib.hid (fun u a3 c3 (hu : Chg [] w7 u) (ho : Own u 53 2 (.slice a3 nn c3) nn (prCells J.row)) => show Calls Try.prog 27 #[.slice a3 nn c3, .slice so nn sc] u fun e w' => e = .returned (.bool true) ∧ Chg [] u w' from by
    subst hnn
    exact ref06_same u a3 c3 so sc J.row ho.rd (HQ7.out.chg hu (by simp)).row.rd (by omega))
  have HSA2 := Lib.hid (fun u a3 c3 (hu : Chg [] w7 u) (ho : Own u 53 2 (.slice a3 oo c3) oo (prCells O.row)) => show Calls Try.prog 27 #[.slice a3 oo c3, .slice so2 oo sc2] u fun e w' => e = .returned (.bool true) ∧ Chg [] u w' from by
    have h2 := (HUR.out u (HU7.out.chg hu (by simp))).2
    obtain ⟨e1, e2⟩ := HOO.out
    rw [e1] at ho h2 ⊢
    exact ref06_same u a3 c3 so2 sc2 O.row ho.rd h2 (by omega))
  have HTO := Lib.hid (fun u (hu : Chg [] w7 u) => show Calls Try.prog 15 #[.pointer (some ⟨p, 0, none⟩)] u fun e w' => e = .returned (.int .u64 (M : Nat)) ∧ u = w' from by
    rw [HM.out]
    exact dg_total u p s4 rv4 J (HD7.out.chg hu (by simp)))
  have HS := Lib.hid (fun wx (hu : Chg [] w7 wx) => show Chg [] w7 wx ∧ wx.cell? ⟨q, 2, none⟩ = some (.slice so nn sc) from by
    have q2 := (HQ7.out.chg hu (by simp)).cells.2.2
    rw [← hnn] at q2
    exact ⟨hu, q2⟩)
  have e5 : (lo != lo) = false := by simp
  have e6 : (hi != hi) = false := by simp
  clear hnn
  go_upto_region 13 with (fail)
  have hSS := HS.out w9.drew HC9.out.drew
  refine startN (S := fun wx => Chg [] w7 wx ∧ wx.cell? ⟨q, 2, none⟩ = some (.slice so nn sc)) (by kernel_rfl) hSS (fun hHeld => ?_)
  refine takeN (i := 0) (v := ?va0) rfl (by kernel_rfl) (by kernel_rfl) (by kernel_rfl) (fun _ _ _ h => h) (Or.inl ⟨by rfl, ?ya0⟩) hSS ?ra0
  case ya0 => (intro w hSw; (try dsimp only at hSw); go_simp; first | done | with_reducible rfl)
  try simp only [Act.put, List.setIfInBounds_toArray, List.set_cons_zero, List.set_cons_succ]
  refine takeN (i := 1) (v := ?va1) rfl (by kernel_rfl) (by kernel_rfl) (by kernel_rfl) (fun _ _ _ h => h) (Or.inl ⟨by rfl, ?ya1⟩) hSS ?ra1
  case ya1 => (intro w hSw; (try dsimp only at hSw); go_simp; first | done | with_reducible rfl)
  try simp only [Act.put, List.setIfInBounds_toArray, List.set_cons_zero, List.set_cons_succ]
  refine takeN (i := 2) (v := ?va2) rfl (by kernel_rfl) (by kernel_rfl) (by kernel_rfl) (fun _ _ _ h => h) (Or.inl ⟨by rfl, ?ya2⟩) hSS ?ra2
  case ya2 => (intro w hSw; (try dsimp only at hSw); go_simp; first | done | with_reducible rfl)
  try simp only [Act.put, List.setIfInBounds_toArray, List.set_cons_zero, List.set_cons_succ]
  refine takeN (i := 3) (v := ?va3) rfl (by kernel_rfl) (by kernel_rfl) (by kernel_rfl) (fun _ _ _ h => h) (Or.inl ⟨by rfl, ?ya3⟩) hSS ?ra3
  case ya3 => (intro w hSw; (try dsimp only at hSw); go_simp; first | done | with_reducible rfl)
  try simp only [Act.put, List.setIfInBounds_toArray, List.set_cons_zero, List.set_cons_succ]
  refine takeN (i := 5) (v := ?va5) rfl (by kernel_rfl) (by kernel_rfl) (by kernel_rfl) (fun _ _ _ h => h) (Or.inl ⟨by rfl, ?ya5⟩) hSS ?ra5
  case ya5 => (intro w hSw; (try dsimp only at hSw); go_simp; first | done | with_reducible rfl)
  try simp only [Act.put, List.setIfInBounds_toArray, List.set_cons_zero, List.set_cons_succ]
  refine takeN (i := 6) (v := ?va6) rfl (by kernel_rfl) (by kernel_rfl) (by kernel_rfl) (fun _ _ _ h => h) (Or.inl ⟨by rfl, ?ya6⟩) hSS ?ra6
  case ya6 => (intro w hSw; (try dsimp only at hSw); go_simp; first | done | with_reducible rfl)
  try simp only [Act.put, List.setIfInBounds_toArray, List.set_cons_zero, List.set_cons_succ]
  refine takeN (i := 7) (v := ?va7) rfl (by kernel_rfl) (by kernel_rfl) (by kernel_rfl) (fun _ _ _ h => h) (Or.inl ⟨by rfl, ?ya7⟩) hSS ?ra7
  case ya7 => (intro w hSw; (try dsimp only at hSw); go_simp; first | done | with_reducible rfl)
  try simp only [Act.put, List.setIfInBounds_toArray, List.set_cons_zero, List.set_cons_succ]
  refine takeN (i := 8) (v := ?va8) rfl (by kernel_rfl) (by kernel_rfl) (by kernel_rfl) (fun _ _ _ h => h) (Or.inl ⟨by rfl, ?ya8⟩) hSS ?ra8
  case ya8 => (intro w hSw; (try dsimp only at hSw); go_simp; first | done | with_reducible rfl)
  try simp only [Act.put, List.setIfInBounds_toArray, List.set_cons_zero, List.set_cons_succ]
  refine readyN (rs := [4]) (by kernel_rfl) (by simp) (consN rfl (fun K hK => ?_) nilN)
  refine step_callsG (by rfl) 19 _ _ rfl enters_lnodes _ #[.pointer (some ⟨p, 0, none⟩)] (by simp [Act.eval]) (HNO.out _ hSS.1) ?_; rintro e wa ⟨a3, c3, rfl, hoA, hcA, -⟩; refine ⟨_, rfl, ?_⟩
  have hSA := HS.out wa (hSS.1.trans hcA)
  have HOA := Lib.hid hoA
  clear hoA hcA
  refine hK.out _ _ hSA (fun hHeld => ?_)
  clear hK K hHeld
  try simp only [Act.put, List.setIfInBounds_toArray, List.set_cons_zero, List.set_cons_succ]
  refine readyN (rs := [9]) (by kernel_rfl) (by simp) (consN rfl (fun K hK => ?_) nilN)
  refine step_callsG (by rfl) 27 _ _ rfl enters_lsame _ #[.slice a3 nn c3, .slice so nn sc] (by simp [Act.eval]) (HSA.out _ _ _ hSA.1 HOA.out) ?_; rintro e wb ⟨rfl, hcB⟩; refine ⟨_, rfl, ?_⟩
  have hSB := HS.out wb (hSA.1.trans hcB)
  clear hcB
  refine hK.out _ _ hSB (fun hHeld => ?_)
  clear hK K hHeld
  try simp only [Act.put, List.setIfInBounds_toArray, List.set_cons_zero, List.set_cons_succ]
  refine takeN (i := 10) (v := ?va10) rfl (by kernel_rfl) (by kernel_rfl) (by kernel_rfl) (fun _ _ _ h => h) (Or.inl ⟨by rfl, ?ya10⟩) hSB ?ra10
  case ya10 => (intro w hSw; (try dsimp only at hSw); go_simp; first | done | with_reducible rfl)
  try simp only [Act.put, List.setIfInBounds_toArray, List.set_cons_zero, List.set_cons_succ]
  refine takeN (i := 11) (v := ?va11) rfl (by kernel_rfl) (by kernel_rfl) (by kernel_rfl) (fun _ _ _ h => h) (Or.inl ⟨by rfl, ?ya11⟩) hSB ?ra11
  case ya11 => (intro w hSw; (try dsimp only at hSw); go_simp; first | done | with_reducible rfl)
  try simp only [Act.put, List.setIfInBounds_toArray, List.set_cons_zero, List.set_cons_succ]
  refine takeN (i := 12) (v := ?va12) rfl (by kernel_rfl) (by kernel_rfl) (by kernel_rfl) (fun _ _ _ h => h) (Or.inl ⟨by rfl, ?ya12⟩) hSB ?ra12
  case ya12 => (intro w hSw; (try dsimp only at hSw); go_simp; first | done | with_reducible rfl)
  try simp only [Act.put, List.setIfInBounds_toArray, List.set_cons_zero, List.set_cons_succ]
  refine takeN (i := 13) (v := ?va13) rfl (by kernel_rfl) (by kernel_rfl) (by kernel_rfl) (fun _ _ _ h => h) (Or.inl ⟨by rfl, ?ya13⟩) hSB ?ra13
  case ya13 => (intro w hSw; (try dsimp only at hSw); go_simp; first | done | with_reducible rfl)
  try simp only [Act.put, List.setIfInBounds_toArray, List.set_cons_zero, List.set_cons_succ]
  refine takeN (i := 15) (v := ?va15) rfl (by kernel_rfl) (by kernel_rfl) (by kernel_rfl) (fun _ _ _ h => h) (Or.inl ⟨by rfl, ?ya15⟩) hSB ?ra15
  case ya15 => (intro w hSw; (try dsimp only at hSw); go_simp; first | done | with_reducible rfl)
  try simp only [Act.put, List.setIfInBounds_toArray, List.set_cons_zero, List.set_cons_succ]
  refine readyN (rs := [14]) (by kernel_rfl) (by simp) (consN rfl (fun K hK => ?_) nilN)
  refine step_callsG (by rfl) 19 _ _ rfl enters_lnodes _ #[.pointer (some ⟨p2, 0, none⟩)] (by simp [Act.eval]) (HNO2.out _ hSB.1) ?_; rintro e wc ⟨a4, c4, rfl, hoC, hcC, -⟩; refine ⟨_, rfl, ?_⟩
  have hSC := HS.out wc (hSB.1.trans hcC)
  have HOC := Lib.hid hoC
  clear hoC hcC
  refine hK.out _ _ hSC (fun hHeld => ?_)
  clear hK K hHeld
  try simp only [Act.put, List.setIfInBounds_toArray, List.set_cons_zero, List.set_cons_succ]
  refine readyN (rs := [16]) (by kernel_rfl) (by simp) (consN rfl (fun K hK => ?_) nilN)
  refine step_callsG (by rfl) 27 _ _ rfl enters_lsame _ #[.slice a4 oo c4, .slice so2 oo sc2] (by simp [Act.eval]) (HSA2.out _ _ _ hSC.1 HOC.out) ?_; rintro e wd ⟨rfl, hcD⟩; refine ⟨_, rfl, ?_⟩
  have hSD := HS.out wd (hSC.1.trans hcD)
  clear hcD
  refine hK.out _ _ hSD (fun hHeld => ?_)
  clear hK K hHeld
  try simp only [Act.put, List.setIfInBounds_toArray, List.set_cons_zero, List.set_cons_succ]
  refine takeN (i := 17) (v := ?va17) rfl (by kernel_rfl) (by kernel_rfl) (by kernel_rfl) (fun _ _ _ h => h) (Or.inl ⟨by rfl, ?ya17⟩) hSD ?ra17
  case ya17 => (intro w hSw; (try dsimp only at hSw); go_simp; first | done | with_reducible rfl)
  try simp only [Act.put, List.setIfInBounds_toArray, List.set_cons_zero, List.set_cons_succ]
  refine takeN (i := 18) (v := ?va18) rfl (by kernel_rfl) (by kernel_rfl) (by kernel_rfl) (fun _ _ _ h => h) (Or.inl ⟨by rfl, ?ya18⟩) hSD ?ra18
  case ya18 => (intro w hSw; (try dsimp only at hSw); go_simp; first | done | with_reducible rfl)
  try simp only [Act.put, List.setIfInBounds_toArray, List.set_cons_zero, List.set_cons_succ]
  refine takeN (i := 19) (v := ?va19) rfl (by kernel_rfl) (by kernel_rfl) (by kernel_rfl) (fun _ _ _ h => h) (Or.inl ⟨by rfl, ?ya19⟩) hSD ?ra19
  case ya19 => (intro w hSw; (try dsimp only at hSw); go_simp; first | done | with_reducible rfl)
  try simp only [Act.put, List.setIfInBounds_toArray, List.set_cons_zero, List.set_cons_succ]
  refine takeN (i := 20) (v := ?va20) rfl (by kernel_rfl) (by kernel_rfl) (by kernel_rfl) (fun _ _ _ h => h) (Or.inl ⟨by rfl, ?ya20⟩) hSD ?ra20
  case ya20 => (intro w hSw; (try dsimp only at hSw); go_simp; first | done | with_reducible rfl)
  try simp only [Act.put, List.setIfInBounds_toArray, List.set_cons_zero, List.set_cons_succ]
  refine takeN (i := 21) (v := ?va21) rfl (by kernel_rfl) (by kernel_rfl) (by kernel_rfl) (fun _ _ _ h => h) (Or.inl ⟨by rfl, ?ya21⟩) hSD ?ra21
  case ya21 => (intro w hSw; (try dsimp only at hSw); go_simp; first | done | with_reducible rfl)
  try simp only [Act.put, List.setIfInBounds_toArray, List.set_cons_zero, List.set_cons_succ]
  refine takeN (i := 22) (v := ?va22) rfl (by kernel_rfl) (by kernel_rfl) (by kernel_rfl) (fun _ _ _ h => h) (Or.inl ⟨by rfl, ?ya22⟩) hSD ?ra22
  case ya22 => (intro w hSw; (try dsimp only at hSw); go_simp; first | done | with_reducible rfl)
  try simp only [Act.put, List.setIfInBounds_toArray, List.set_cons_zero, List.set_cons_succ]
  refine takeN (i := 23) (v := ?va23) rfl (by kernel_rfl) (by kernel_rfl) (by kernel_rfl) (fun _ _ _ h => h) (Or.inl ⟨by rfl, ?ya23⟩) hSD ?ra23
  case ya23 => (intro w hSw; (try dsimp only at hSw); go_simp; first | done | with_reducible rfl)
  try simp only [Act.put, List.setIfInBounds_toArray, List.set_cons_zero, List.set_cons_succ]
  refine takeN (i := 24) (v := ?va24) rfl (by kernel_rfl) (by kernel_rfl) (by kernel_rfl) (fun _ _ _ h => h) (Or.inl ⟨by rfl, ?ya24⟩) hSD ?ra24
  case ya24 => (intro w hSw; (try dsimp only at hSw); go_simp; first | done | with_reducible rfl)
  try simp only [Act.put, List.setIfInBounds_toArray, List.set_cons_zero, List.set_cons_succ]
  refine takeN (i := 25) (v := ?va25) rfl (by kernel_rfl) (by kernel_rfl) (by kernel_rfl) (fun _ _ _ h => h) (Or.inl ⟨by rfl, ?ya25⟩) hSD ?ra25
  case ya25 => (intro w hSw; (try dsimp only at hSw); go_simp; first | done | with_reducible rfl)
  try simp only [Act.put, List.setIfInBounds_toArray, List.set_cons_zero, List.set_cons_succ]
  refine takeN (i := 26) (v := ?va26) rfl (by kernel_rfl) (by kernel_rfl) (by kernel_rfl) (fun _ _ _ h => h) (Or.inl ⟨by rfl, ?ya26⟩) hSD ?ra26
  case ya26 => (intro w hSw; (try dsimp only at hSw); go_simp; first | done | with_reducible rfl)
  try simp only [Act.put, List.setIfInBounds_toArray, List.set_cons_zero, List.set_cons_succ]
  refine takeN (i := 27) (v := ?va27) rfl (by kernel_rfl) (by kernel_rfl) (by kernel_rfl) (fun _ _ _ h => h) (Or.inl ⟨by rfl, ?ya27⟩) hSD ?ra27
  case ya27 => (intro w hSw; (try dsimp only at hSw); go_simp; first | done | with_reducible rfl)
  try simp only [Act.put, List.setIfInBounds_toArray, List.set_cons_zero, List.set_cons_succ]
  refine takeN (i := 28) (v := ?va28) rfl (by kernel_rfl) (by kernel_rfl) (by kernel_rfl) (fun _ _ _ h => h) (Or.inl ⟨by rfl, ?ya28⟩) hSD ?ra28
  case ya28 => (intro w hSw; (try dsimp only at hSw); go_simp; first | done | with_reducible rfl)
  try simp only [Act.put, List.setIfInBounds_toArray, List.set_cons_zero, List.set_cons_succ]
  refine doneN (by kernel_rfl) ?_ _
  have HCD := Lib.hid hSD.1
  clear hSS hSA hSB hSC hSD HS HNO HNO2 HSA HSA2 HOA HOC HC9
  have HRAT := Lib.hid (fun wx (hu : Chg [] w7 wx) => show wx.cell? ⟨bc + 1, 0, none⟩ = some (.int .u64 (num : Nat)) ∧ wx.cell? ⟨bc + 1, 1, none⟩ = some (.int .u64 (den : Nat)) from ⟨(HE7.out.chg hu (by simp)).cell 0, (HE7.out.chg hu (by simp)).cell 1⟩)
  obtain ⟨y0, y1⟩ := HRAT.out _ HCD.out
  go_wp2_with fail
  refine (ref03_good wd num den).mono ?_
  rintro e we ⟨rfl, hce⟩
  have HCE := Lib.hid (show Chg [] w7 we from by first | exact HCD.out.trans hce | exact hce ▸ HCD.out)
  clear hce y0 y1 HCD
  cases hg : goodR num den with
  | false =>
    go_wp2_with fail
    go_ret
    exact ⟨rfl, HC7.out.trans HCE.out⟩
  | true =>
    by_cases hz : nm = 0
    · have dz : ((nm : Int) == 0) = true := by rw [beq_iff_eq]; omega
      have dz' : (nm == 0) = true := by rw [beq_iff_eq]; exact hz
      subst hz
      go_wp2_with fail
      go_ret
      exact ⟨rfl, HC7.out.trans HCE.out⟩
    have dz : ((nm : Int) == 0) = false := by rw [beq_eq_false_iff_ne]; omega
    have dz' : (nm == 0) = false := by rw [beq_eq_false_iff_ne]; exact hz
    have hM1 : 1 ≤ M := by
      have h1 := HSS.out.1
      rcases ha : a ++ b with _ | ⟨v, l⟩
      · have := HNM.out; rw [ha] at this; simp at this; omega
      · have hv : v ∈ a ++ b := by rw [ha]; simp
        have h2 : 1 ≤ v.n := by
          rcases List.mem_append.1 hv with h | h
          · exact HPOS.out v h
          · exact HPOS3.out v h
        rw [ha] at h1
        simp only [sumS] at h1
        omega
    have hE0 : placeE num den M = 0 := by unfold placeE; rw [hg, if_pos rfl, if_neg (by omega)]
    obtain ⟨T, hT⟩ : ∃ T, T = placeT num den M := ⟨_, rfl⟩
    obtain ⟨t1, t2⟩ := placeT_of hE0
    rw [← hT] at t1 t2
    obtain ⟨X, hX⟩ : ∃ X : Int, X = quantD J.depth J.row T := ⟨_, rfl⟩
    have hfew := HJR.out.2.2 HVF.out HVF3.out
    obtain ⟨n1, n2, n3, n4⟩ := J.near HJR.out.1 hfew HJO.out t1 (by rw [← HM.out]; exact t2)
    rw [← hX] at n1 n2 n3 n4
    rw [← HM.out, HDO.out.1, HDO.out.2] at n4
    have HPL := Lib.hid (fun u => ref03_place u num den M HND.out.1 HND.out.2 (by have := HSS.out; omega) T 0 hT hE0.symm)
    have HQD := Lib.hid (fun u (hu : Chg [] w7 u) => dg_quantile u p s4 rv4 J (HD7.out.chg hu (by simp)) HJR.out.1 num den HND.out.1 HND.out.2 T 0 (by rw [← HM.out]; exact hT) (by rw [← HM.out]; exact hE0.symm) X (by rw [if_pos rfl]; exact hX))
    have hMB : M ≤ 120 * 1125899906842624 := HSS.out.2
    obtain ⟨U1, hU1⟩ : ∃ z, z = upS X (a ++ b) := ⟨_, rfl⟩
    obtain ⟨U2, hU2⟩ : ∃ z, z = upS (X - 1) (a ++ b) := ⟨_, rfl⟩
    rw [← hU1] at n3
    rw [← hU2] at n4
    have HU1 := Lib.hid (fun u (hu : Chg [] w7 u) => HUP.out u hu X U1 hU1)
    have HU2 := Lib.hid (fun u (hu : Chg [] w7 u) => HUP.out u hu (X - 1) U2 hU2)
    obtain ⟨L, hL⟩ : ∃ L, L = M / fn := ⟨_, rfl⟩
    rw [← hL] at n4
    have hff := HDF.out
    have hll : L ≤ M := by rw [hL]; exact Nat.div_le_self _ _
    obtain ⟨K, hK⟩ : ∃ K, K = dn * L := ⟨_, rfl⟩
    rw [← hK] at n4
    have hkb : K ≤ 24 * (120 * 1125899906842624) := by rw [hK]; exact Nat.mul_le_mul hff.1.2 (by omega)
    obtain ⟨Z, hZ⟩ : ∃ Z, Z = T + K := ⟨_, rfl⟩
    have hz : ((fn : Int) == 0) = false := by rw [beq_eq_false_iff_ne]; omega
    have hz2 : ¬ fn = 0 := by omega
    have hwf : IntKind.u64.wrap (fn : Int) = (fn : Int) := IntWalk.u64_in _ (by omega)
    have hwd : IntKind.u64.wrap (dn : Int) = (dn : Int) := IntWalk.u64_in _ (by omega)
    have hqq : (M : Int).tdiv (fn : Int) = (L : Int) := by rw [Int.tdiv_eq_ediv_of_nonneg (by omega), hL]; rfl
    have hqq2 : (M : Int) / (fn : Int) = (L : Int) := by rw [hL]; rfl
    have hwl : IntKind.u64.wrap (L : Int) = (L : Int) := IntWalk.u64_in _ (by omega)
    have hwk : IntKind.u64.wrap ((dn : Int) * (L : Int)) = (K : Int) := by
      have e : (dn : Int) * (L : Int) = (K : Int) := by rw [hK]; push_cast; rfl
      rw [e]; exact IntWalk.u64_in _ (by omega)
    have hwz : IntKind.u64.wrap ((T : Int) + (K : Int)) = (Z : Int) := by rw [IntKind.wrap_u64]; omega
    have hwx : IntKind.i64.wrap (X - 1) = X - 1 := by rw [IntKind.wrap_i64]; omega
    have g1 : decide ((T : Int) ≤ (U1 : Int)) = true := decide_eq_true (by omega)
    have g1' : decide (T ≤ U1) = true := decide_eq_true n3
    have g2 : decide ((U2 : Int) ≤ (Z : Int)) = true := decide_eq_true (by omega)
    have g2' : decide (U2 ≤ Z) = true := decide_eq_true (by omega)
    have HS := Lib.hid (fun wx (hu : Chg [] w7 wx) => show Chg [] w7 wx ∧ wx.cell? ⟨bc, 0, none⟩ = some (.int .i64 (dn : Nat)) ∧ wx.cell? ⟨bc, 1, none⟩ = some (.int .i64 (fn : Nat)) ∧ wx.cell? ⟨bc + 1, 0, none⟩ = some (.int .u64 (num : Nat)) ∧ wx.cell? ⟨bc + 1, 1, none⟩ = some (.int .u64 (den : Nat)) from ⟨hu, (HB7.out.chg hu (by simp)).cell 0, (HB7.out.chg hu (by simp)).cell 1, (HRAT.out _ hu).1, (HRAT.out _ hu).2⟩)
    clear hE0 hT t1 t2 hX n1 n2 n3 n4 hMB hU1 hU2 hL hff hll hK hkb hZ hM1 hfew HUP
    go_upto_region 17 with (fail)
    have hSS := HS.out we.drew HCE.out.drew
    refine startN (S := fun wx => Chg [] w7 wx ∧ wx.cell? ⟨bc, 0, none⟩ = some (.int .i64 (dn : Nat)) ∧ wx.cell? ⟨bc, 1, none⟩ = some (.int .i64 (fn : Nat)) ∧ wx.cell? ⟨bc + 1, 0, none⟩ = some (.int .u64 (num : Nat)) ∧ wx.cell? ⟨bc + 1, 1, none⟩ = some (.int .u64 (den : Nat))) (by kernel_rfl) hSS (fun hHeld => ?_)
    refine takeN (i := 0) (v := ?vb0) rfl (by kernel_rfl) (by kernel_rfl) (by kernel_rfl) (fun _ _ _ h => h) (Or.inl ⟨by rfl, ?yb0⟩) hSS ?rb0
    case yb0 => (intro w hSw; (try dsimp only at hSw); go_simp; first | done | with_reducible rfl)
    try simp only [Act.put, List.setIfInBounds_toArray, List.set_cons_zero, List.set_cons_succ]
    refine takeN (i := 1) (v := ?vb1) rfl (by kernel_rfl) (by kernel_rfl) (by kernel_rfl) (fun _ _ _ h => h) (Or.inl ⟨by rfl, ?yb1⟩) hSS ?rb1
    case yb1 => (intro w hSw; (try dsimp only at hSw); go_simp; first | done | with_reducible rfl)
    try simp only [Act.put, List.setIfInBounds_toArray, List.set_cons_zero, List.set_cons_succ]
    refine readyN (rs := [2]) (by kernel_rfl) (by simp) (consN rfl (fun K hK => ?_) nilN)
    refine step_callsG (by rfl) 15 _ _ rfl enters_ftotal _ #[.pointer (some ⟨p, 0, none⟩)] (by simp [Act.eval]) (HTO.out _ hSS.1) ?_; rintro e w' ⟨rfl, rfl⟩; refine ⟨_, rfl, ?_⟩
    refine hK.out _ _ hSS (fun hHeld => ?_)
    clear hK K hHeld
    try simp only [Act.put, List.setIfInBounds_toArray, List.set_cons_zero, List.set_cons_succ]
    refine readyN (rs := [3]) (by kernel_rfl) (by simp) (consN rfl (fun K hK => ?_) nilN)
    refine step_callsG (by rfl) 14 _ _ rfl enters_cplace _ #[.agg #[.int .u64 (num : Nat), .int .u64 (den : Nat)], .int .u64 (M : Nat)] (by simp [Act.eval]) (HPL.out _) ?_; rintro e wf ⟨rfl, hcf⟩; refine ⟨_, rfl, ?_⟩
    have hSA := HS.out wf (hSS.1.trans hcf)
    clear hcf
    refine hK.out _ _ hSA (fun hHeld => ?_)
    clear hK K hHeld
    try simp only [Act.put, List.setIfInBounds_toArray, List.set_cons_zero, List.set_cons_succ]
    refine takeN (i := 4) (v := ?vb4) rfl (by kernel_rfl) (by kernel_rfl) (by kernel_rfl) (fun _ _ _ h => h) (Or.inl ⟨by rfl, ?yb4⟩) hSA ?rb4
    case yb4 => (intro w hSw; (try dsimp only at hSw); go_simp; first | done | with_reducible rfl)
    try simp only [Act.put, List.setIfInBounds_toArray, List.set_cons_zero, List.set_cons_succ]
    refine takeN (i := 5) (v := ?vb5) rfl (by kernel_rfl) (by kernel_rfl) (by kernel_rfl) (fun _ _ _ h => h) (Or.inl ⟨by rfl, ?yb5⟩) hSA ?rb5
    case yb5 => (intro w hSw; (try dsimp only at hSw); go_simp; first | done | with_reducible rfl)
    try simp only [Act.put, List.setIfInBounds_toArray, List.set_cons_zero, List.set_cons_succ]
    refine takeN (i := 6) (v := ?vb6) rfl (by kernel_rfl) (by kernel_rfl) (by kernel_rfl) (fun _ _ _ h => h) (Or.inl ⟨by rfl, ?yb6⟩) hSA ?rb6
    case yb6 => (intro w hSw; (try dsimp only at hSw); go_simp; first | done | with_reducible rfl)
    try simp only [Act.put, List.setIfInBounds_toArray, List.set_cons_zero, List.set_cons_succ]
    refine takeN (i := 7) (v := ?vb7) rfl (by kernel_rfl) (by kernel_rfl) (by kernel_rfl) (fun _ _ _ h => h) (Or.inl ⟨by rfl, ?yb7⟩) hSA ?rb7
    case yb7 => (intro w hSw; (try dsimp only at hSw); go_simp; first | done | with_reducible rfl)
    try simp only [Act.put, List.setIfInBounds_toArray, List.set_cons_zero, List.set_cons_succ]
    refine takeN (i := 8) (v := ?vb8) rfl (by kernel_rfl) (by kernel_rfl) (by kernel_rfl) (fun _ _ _ h => h) (Or.inl ⟨by rfl, ?yb8⟩) hSA ?rb8
    case yb8 => (intro w hSw; (try dsimp only at hSw); go_simp; first | done | with_reducible rfl)
    try simp only [Act.put, List.setIfInBounds_toArray, List.set_cons_zero, List.set_cons_succ]
    refine doneN (by kernel_rfl) ?_ _
    have HCF := Lib.hid hSA.1
    obtain ⟨y0, y1⟩ := HRAT.out _ HCF.out
    clear hSS hSA
    go_wp2_with fail
    refine (HQD.out _ HCF.out).mono ?_
    rintro e wg ⟨rfl, hcg⟩
    have HCG := Lib.hid (HCF.out.trans hcg)
    clear hcg y0 y1 HQD HCF
    go_upto_region 19 with (fail)
    have hSS := HS.out wg.drew HCG.out.drew
    refine startN (S := fun wx => Chg [] w7 wx ∧ wx.cell? ⟨bc, 0, none⟩ = some (.int .i64 (dn : Nat)) ∧ wx.cell? ⟨bc, 1, none⟩ = some (.int .i64 (fn : Nat)) ∧ wx.cell? ⟨bc + 1, 0, none⟩ = some (.int .u64 (num : Nat)) ∧ wx.cell? ⟨bc + 1, 1, none⟩ = some (.int .u64 (den : Nat))) (by kernel_rfl) hSS (fun hHeld => ?_)
    refine takeN (i := 0) (v := ?vc0) rfl (by kernel_rfl) (by kernel_rfl) (by kernel_rfl) (fun _ _ _ h => h) (Or.inl ⟨by rfl, ?yc0⟩) hSS ?rc0
    case yc0 => (intro w hSw; (try dsimp only at hSw); go_simp; first | done | with_reducible rfl)
    try simp only [Act.put, List.setIfInBounds_toArray, List.set_cons_zero, List.set_cons_succ]
    refine takeN (i := 1) (v := ?vc1) rfl (by kernel_rfl) (by kernel_rfl) (by kernel_rfl) (fun _ _ _ h => h) (Or.inl ⟨by rfl, ?yc1⟩) hSS ?rc1
    case yc1 => (intro w hSw; (try dsimp only at hSw); go_simp; first | done | with_reducible rfl)
    try simp only [Act.put, List.setIfInBounds_toArray, List.set_cons_zero, List.set_cons_succ]
    refine takeN (i := 3) (v := ?vc3) rfl (by kernel_rfl) (by kernel_rfl) (by kernel_rfl) (fun _ _ _ h => h) (Or.inl ⟨by rfl, ?yc3⟩) hSS ?rc3
    case yc3 => (intro w hSw; (try dsimp only at hSw); go_simp; first | done | with_reducible rfl)
    try simp only [Act.put, List.setIfInBounds_toArray, List.set_cons_zero, List.set_cons_succ]
    refine readyN (rs := [2]) (by kernel_rfl) (by simp) (consN rfl (fun K hK => ?_) nilN)
    refine step_callsG (by rfl) 12 _ _ rfl enters_cup _ #[.slice a7 nm c7, .int .i64 X] (by simp [Act.eval]) (HU1.out _ hSS.1) ?_; rintro e wh ⟨rfl, hch⟩; refine ⟨_, rfl, ?_⟩
    have hSA := HS.out wh (hSS.1.trans hch)
    clear hch
    refine hK.out _ _ hSA (fun hHeld => ?_)
    clear hK K hHeld
    try simp only [Act.put, List.setIfInBounds_toArray, List.set_cons_zero, List.set_cons_succ]
    refine takeN (i := 4) (v := ?vc4) rfl (by kernel_rfl) (by kernel_rfl) (by kernel_rfl) (fun _ _ _ h => h) (Or.inl ⟨by rfl, ?yc4⟩) hSA ?rc4
    case yc4 => (intro w hSw; (try dsimp only at hSw); go_simp; first | done | with_reducible rfl)
    try simp only [Act.put, List.setIfInBounds_toArray, List.set_cons_zero, List.set_cons_succ]
    refine takeN (i := 5) (v := ?vc5) rfl (by kernel_rfl) (by kernel_rfl) (by kernel_rfl) (fun _ _ _ h => h) (Or.inl ⟨by rfl, ?yc5⟩) hSA ?rc5
    case yc5 => (intro w hSw; (try dsimp only at hSw); go_simp; first | done | with_reducible rfl)
    try simp only [Act.put, List.setIfInBounds_toArray, List.set_cons_zero, List.set_cons_succ]
    refine takeN (i := 6) (v := ?vc6) rfl (by kernel_rfl) (by kernel_rfl) (by kernel_rfl) (fun _ _ _ h => h) (Or.inl ⟨by rfl, ?yc6⟩) hSA ?rc6
    case yc6 => (intro w hSw; (try dsimp only at hSw); go_simp; first | done | with_reducible rfl)
    try simp only [Act.put, List.setIfInBounds_toArray, List.set_cons_zero, List.set_cons_succ]
    refine takeN (i := 7) (v := ?vc7) rfl (by kernel_rfl) (by kernel_rfl) (by kernel_rfl) (fun _ _ _ h => h) (Or.inl ⟨by rfl, ?yc7⟩) hSA ?rc7
    case yc7 => (intro w hSw; (try dsimp only at hSw); go_simp; first | done | with_reducible rfl)
    try simp only [Act.put, List.setIfInBounds_toArray, List.set_cons_zero, List.set_cons_succ]
    refine takeN (i := 8) (v := ?vc8) rfl (by kernel_rfl) (by kernel_rfl) (by kernel_rfl) (fun _ _ _ h => h) (Or.inl ⟨by rfl, ?yc8⟩) hSA ?rc8
    case yc8 => (intro w hSw; (try dsimp only at hSw); go_simp; first | done | with_reducible rfl)
    try simp only [Act.put, List.setIfInBounds_toArray, List.set_cons_zero, List.set_cons_succ]
    refine takeN (i := 10) (v := ?vc10) rfl (by kernel_rfl) (by kernel_rfl) (by kernel_rfl) (fun _ _ _ h => h) (Or.inl ⟨by rfl, ?yc10⟩) hSA ?rc10
    case yc10 => (intro w hSw; (try dsimp only at hSw); go_simp; first | done | with_reducible rfl)
    try simp only [Act.put, List.setIfInBounds_toArray, List.set_cons_zero, List.set_cons_succ]
    refine takeN (i := 11) (v := ?vc11) rfl (by kernel_rfl) (by kernel_rfl) (by kernel_rfl) (fun _ _ _ h => h) (Or.inl ⟨by rfl, ?yc11⟩) hSA ?rc11
    case yc11 => (intro w hSw; (try dsimp only at hSw); go_simp; first | done | with_reducible rfl)
    try simp only [Act.put, List.setIfInBounds_toArray, List.set_cons_zero, List.set_cons_succ]
    refine takeN (i := 12) (v := ?vc12) rfl (by kernel_rfl) (by kernel_rfl) (by kernel_rfl) (fun _ _ _ h => h) (Or.inl ⟨by rfl, ?yc12⟩) hSA ?rc12
    case yc12 => (intro w hSw; (try dsimp only at hSw); go_simp; first | done | with_reducible rfl)
    try simp only [Act.put, List.setIfInBounds_toArray, List.set_cons_zero, List.set_cons_succ]
    refine takeN (i := 13) (v := ?vc13) rfl (by kernel_rfl) (by kernel_rfl) (by kernel_rfl) (fun _ _ _ h => h) (Or.inl ⟨by rfl, ?yc13⟩) hSA ?rc13
    case yc13 => (intro w hSw; (try dsimp only at hSw); go_simp; first | done | with_reducible rfl)
    try simp only [Act.put, List.setIfInBounds_toArray, List.set_cons_zero, List.set_cons_succ]
    refine takeN (i := 14) (v := ?vc14) rfl (by kernel_rfl) (by kernel_rfl) (by kernel_rfl) (fun _ _ _ h => h) (Or.inl ⟨by rfl, ?yc14⟩) hSA ?rc14
    case yc14 => (intro w hSw; (try dsimp only at hSw); go_simp; first | done | with_reducible rfl)
    try simp only [Act.put, List.setIfInBounds_toArray, List.set_cons_zero, List.set_cons_succ]
    refine takeN (i := 16) (v := ?vc16) rfl (by kernel_rfl) (by kernel_rfl) (by kernel_rfl) (fun _ _ _ h => h) (Or.inl ⟨by rfl, ?yc16⟩) hSA ?rc16
    case yc16 => (intro w hSw; (try dsimp only at hSw); go_simp; first | done | with_reducible rfl)
    try simp only [Act.put, List.setIfInBounds_toArray, List.set_cons_zero, List.set_cons_succ]
    refine takeN (i := 17) (v := ?vc17) rfl (by kernel_rfl) (by kernel_rfl) (by kernel_rfl) (fun _ _ _ h => h) (Or.inl ⟨by rfl, ?yc17⟩) hSA ?rc17
    case yc17 => (intro w hSw; (try dsimp only at hSw); go_simp; first | done | with_reducible rfl)
    try simp only [Act.put, List.setIfInBounds_toArray, List.set_cons_zero, List.set_cons_succ]
    refine takeN (i := 18) (v := ?vc18) rfl (by kernel_rfl) (by kernel_rfl) (by kernel_rfl) (fun _ _ _ h => h) (Or.inl ⟨by rfl, ?yc18⟩) hSA ?rc18
    case yc18 => (intro w hSw; (try dsimp only at hSw); go_simp; first | done | with_reducible rfl)
    try simp only [Act.put, List.setIfInBounds_toArray, List.set_cons_zero, List.set_cons_succ]
    refine readyN (rs := [9]) (by kernel_rfl) (by simp) (consN rfl (fun K hK => ?_) nilN)
    refine step_callsG (by rfl) 12 _ _ rfl enters_cup _ #[.slice a7 nm c7, .int .i64 (X - 1)] (by simp [Act.eval]) (HU2.out _ hSA.1) ?_; rintro e wi ⟨rfl, hci⟩; refine ⟨_, rfl, ?_⟩
    have hSB := HS.out wi (hSA.1.trans hci)
    clear hci
    refine hK.out _ _ hSB (fun hHeld => ?_)
    clear hK K hHeld
    try simp only [Act.put, List.setIfInBounds_toArray, List.set_cons_zero, List.set_cons_succ]
    refine readyN (rs := [15]) (by kernel_rfl) (by simp) (consN rfl (fun K hK => ?_) nilN)
    refine step_callsG (by rfl) 15 _ _ rfl enters_ftotal _ #[.pointer (some ⟨p, 0, none⟩)] (by simp [Act.eval]) (HTO.out _ hSB.1) ?_; rintro e w' ⟨rfl, rfl⟩; refine ⟨_, rfl, ?_⟩
    refine hK.out _ _ hSB (fun hHeld => ?_)
    clear hK K hHeld
    try simp only [Act.put, List.setIfInBounds_toArray, List.set_cons_zero, List.set_cons_succ]
    refine takeN (i := 19) (v := ?vc19) rfl (by kernel_rfl) (by kernel_rfl) (by kernel_rfl) (fun _ _ _ h => h) (Or.inl ⟨by rfl, ?yc19⟩) hSB ?rc19
    case yc19 => (intro w hSw; (try dsimp only at hSw); go_simp; first | done | with_reducible rfl)
    try simp only [Act.put, List.setIfInBounds_toArray, List.set_cons_zero, List.set_cons_succ]
    refine takeN (i := 20) (v := ?vc20) rfl (by kernel_rfl) (by kernel_rfl) (by kernel_rfl) (fun _ _ _ h => h) (Or.inl ⟨by rfl, ?yc20⟩) hSB ?rc20
    case yc20 => (intro w hSw; (try dsimp only at hSw); go_simp; first | done | with_reducible rfl)
    try simp only [Act.put, List.setIfInBounds_toArray, List.set_cons_zero, List.set_cons_succ]
    refine takeN (i := 21) (v := ?vc21) rfl (by kernel_rfl) (by kernel_rfl) (by kernel_rfl) (fun _ _ _ h => h) (Or.inl ⟨by rfl, ?yc21⟩) hSB ?rc21
    case yc21 => (intro w hSw; (try dsimp only at hSw); go_simp; first | done | with_reducible rfl)
    try simp only [Act.put, List.setIfInBounds_toArray, List.set_cons_zero, List.set_cons_succ]
    refine takeN (i := 22) (v := ?vc22) rfl (by kernel_rfl) (by kernel_rfl) (by kernel_rfl) (fun _ _ _ h => h) (Or.inl ⟨by rfl, ?yc22⟩) hSB ?rc22
    case yc22 => (intro w hSw; (try dsimp only at hSw); go_simp; first | done | with_reducible rfl)
    try simp only [Act.put, List.setIfInBounds_toArray, List.set_cons_zero, List.set_cons_succ]
    refine takeN (i := 23) (v := ?vc23) rfl (by kernel_rfl) (by kernel_rfl) (by kernel_rfl) (fun _ _ _ h => h) (Or.inl ⟨by rfl, ?yc23⟩) hSB ?rc23
    case yc23 => (intro w hSw; (try dsimp only at hSw); go_simp; first | done | with_reducible rfl)
    try simp only [Act.put, List.setIfInBounds_toArray, List.set_cons_zero, List.set_cons_succ]
    refine takeN (i := 24) (v := ?vc24) rfl (by kernel_rfl) (by kernel_rfl) (by kernel_rfl) (fun _ _ _ h => h) (Or.inl ⟨by rfl, ?yc24⟩) hSB ?rc24
    case yc24 => (intro w hSw; (try dsimp only at hSw); go_simp; first | done | with_reducible rfl)
    try simp only [Act.put, List.setIfInBounds_toArray, List.set_cons_zero, List.set_cons_succ]
    refine doneN (by kernel_rfl) ?_ _
    have HEND := Lib.hid (HC7.out.trans hSB.1)
    clear hSS hSA hSB HS
    go_wp2_with fail
    go_ret
    first | exact ⟨rfl, HEND.out⟩ | exact ⟨by simp, HEND.out⟩
end Go.Proofs.Ytgnbabkafobeoaa
