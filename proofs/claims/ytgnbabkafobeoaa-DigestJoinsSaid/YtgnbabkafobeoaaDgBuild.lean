/-
  The walk of the statements' build of digests (layer 17). Conditions: the form's own reach.
-/
import Derived.Test.YtgnbabkafobeoaaDgAlive2
import Derived.Test.YtgnbabkafobeoaaValOpen
namespace Go.Proofs.Ytgnbabkafobeoaa
open Go.RowKit

/-- A digest with all values. -/
noncomputable def DgD.valsK (D : DgD) (l : List Vl) : DgD := l.foldl (fun D v => D.put v.x v.n) D
theorem DgD.vals_take (D : DgD) (l : List Vl) (k : Nat) (h : k < l.length) : D.valsK (l.take (k + 1)) = (D.valsK (l.take k)).put l[k].x l[k].n := by
  rw [List.take_succ_eq_append_getElem h]
  unfold DgD.valsK
  rw [List.foldl_append]
  rfl
def okVD (d : Nat) (v : Vl) : Prop := 1 ≤ v.n ∧ v.n ≤ 1125899906842624 ∧ 0 ≤ v.x ∧ v.x < ((2 ^ d : Nat) : Int)
theorem DgD.vals_ok : ∀ (l : List Vl) {D : DgD}, D.ok → (∀ v ∈ l, okVD D.depth v) → totP D.row + sumS l ≤ 9223372036854775807 → D.row.length + l.length ≤ 1000 →
    (D.valsK l).ok ∧ (D.valsK l).depth = D.depth ∧ (D.valsK l).factor = D.factor ∧ totP (D.valsK l).row = totP D.row + sumS l ∧ (D.valsK l).row.length ≤ D.row.length + l.length
  | [], D, h, _, _, _ => ⟨h, rfl, rfl, by simp [DgD.valsK, sumS], by simp [DgD.valsK]⟩
  | v :: l, D, h, hv, ht, hl => by
    obtain ⟨g1, g2, g3, g4⟩ := hv v (by simp)
    simp only [sumS, List.length_cons] at ht hl ⊢
    obtain ⟨a1, a2, a3, a4, a5⟩ := DgD.put_ok h g3 g4 (c := v.n) (by omega) (by omega)
    obtain ⟨b1, b2, b3, b4, b5⟩ := DgD.vals_ok l a1 (fun u hu => by rw [a2]; exact hv u (by simp [hu])) (by omega) (by omega)
    have e : D.valsK (v :: l) = (D.put v.x v.n).valsK l := rfl
    rw [e]
    exact ⟨b1, b2.trans a2, b3.trans a3, by omega, by omega⟩
noncomputable def valsDg (d f : Nat) (l : List Vl) : DgD := (DgD.new d f).valsK l
/-- Is that played? -/
def okDg (d f : Int) (l : List Vl) : Prop := l.length ≤ 60 ∧ (1 ≤ d ∧ d ≤ 24) ∧ (1 ≤ f ∧ f ≤ 64) ∧ ∀ v ∈ l, okVD d.toNat v
theorem sumS_bound {d : Nat} : ∀ (l : List Vl), (∀ v ∈ l, okVD d v) → sumS l ≤ l.length * 1125899906842624
  | [], _ => by simp [sumS]
  | v :: l, h => by
    have h1 := (h v (by simp)).2.1
    have h2 := sumS_bound l (fun u hu => h u (by simp [hu]))
    simp only [sumS, List.length_cons]
    omega
theorem valsDg_ok {d f : Nat} {l : List Vl} (h : okDg d f l) : (valsDg d f l).ok ∧ (valsDg d f l).depth = d ∧ (valsDg d f l).factor = f ∧ totP (valsDg d f l).row = sumS l ∧ (valsDg d f l).row.length ≤ l.length := by
  obtain ⟨h1, h2, h3, h4⟩ := h
  have hb := sumS_bound l h4
  obtain ⟨b1, b2, b3, b4, b5⟩ := DgD.vals_ok l (D := DgD.new d f) (new_ok (by omega) (by omega) (by omega) (by omega)) h4 (by simp only [DgD.new, totP, List.map_nil, List.sum_nil]; omega) (by simp only [DgD.new, List.length_nil]; omega)
  refine ⟨b1, b2, b3, ?_, ?_⟩
  · rw [valsDg, b4]; simp [DgD.new, totP]
  · have : (DgD.new d f).row.length = 0 := rfl
    rw [valsDg]; omega
/-- What build tells. -/
def BuildD (w w' : World) (d f : Int) (l : List Vl) (e : Ending) : Prop :=
  (¬ okDg d f l ∧ e = .returned (.tuple #[.pointer none, .pointer none, .bool false]) ∧ Chg [] w w') ∨
  (okDg d f l ∧ ∃ p s rv q sv, e = .returned (.tuple #[.pointer (some ⟨p, 0, none⟩), .pointer (some ⟨q, 0, none⟩), .bool true]) ∧ Dg w' p s rv (valsDg d.toNat f.toNat l) ∧ RD w' q sv (valsDg d.toNat f.toNat l) ∧ Chg [] w w' ∧
    (∀ b ∈ fpD p s rv, w.heap.size ≤ b) ∧ (∀ b ∈ fpR q sv, w.heap.size ≤ b) ∧ ∀ b ∈ fpD p s rv, b ∉ fpR q sv)
set_option maxRecDepth 100000 in
set_option maxHeartbeats 8000000 in
theorem law17_build (w : World) (d f : Int) (ao : Option Addr) (cap n : Nat) (l : List Vl) (hn : n = l.length) (hr : Rd w 2 (.slice ao n cap) n (vlCells l)) (hl : n ≤ 140737488351232) (hnn : ∀ v ∈ l, v.n < 18446744073709551616) :
    Calls Try.prog 10 #[.agg #[.int .i64 d, .int .i64 f], .slice ao n cap] w fun e w' => BuildD w w' d f l e := by
  have HN := Lib.hid hn
  have HR := Lib.hid hr
  have HNN := Lib.hid hnn
  have HB := Lib.hid (Blk.alloc_new w #[.int .i64 d, .int .i64 f] 23)
  have HC := Lib.hid ((Chg.refl [] w).alloc (.cells #[.int .i64 d, .int .i64 f] 23))
  have b0 := HB.out.cell 0
  have b1 := HB.out.cell 1
  obtain ⟨bx, hbx⟩ : ∃ z, z = w.heap.size := ⟨_, rfl⟩
  have HBX := Lib.hid hbx
  clear hn hr hnn hbx
  by_cases h1 : n ≤ 60
  case neg =>
    have d1 : decide ((60 : Int) < (n : Int)) = true := decide_eq_true (by omega)
    have d1' : decide (60 < n) = true := decide_eq_true (by omega)
    have HX := Lib.hid (show ¬ okDg d f l from fun h => h1 (by rw [HN.out]; exact h.1))
    go_enter Try.func10, Try.ntmps10
    go_wp2
    refine bodyPost_ret (v := .tuple #[.pointer none, .pointer none, .bool false]) (by simp [results, Try.results10, go_sem]) rfl ?_
    exact .inl ⟨HX.out, rfl, HC.out⟩
  have d1 : decide ((60 : Int) < (n : Int)) = false := decide_eq_false (by omega)
  have d1' : decide (60 < n) = false := decide_eq_false (by omega)
  by_cases h2 : 1 ≤ d
  case neg =>
    have d2 : decide (d < 1) = true := decide_eq_true (by omega)
    have HX := Lib.hid (show ¬ okDg d f l from fun h => h2 h.2.1.1)
    go_enter Try.func10, Try.ntmps10
    go_wp2
    refine bodyPost_ret (v := .tuple #[.pointer none, .pointer none, .bool false]) (by simp [results, Try.results10, go_sem]) rfl ?_
    exact .inl ⟨HX.out, rfl, HC.out⟩
  have d2 : decide (d < 1) = false := decide_eq_false (by omega)
  by_cases h3 : d ≤ 24
  case neg =>
    have d3 : decide (24 < d) = true := decide_eq_true (by omega)
    have HX := Lib.hid (show ¬ okDg d f l from fun h => h3 h.2.1.2)
    go_enter Try.func10, Try.ntmps10
    go_wp2
    refine bodyPost_ret (v := .tuple #[.pointer none, .pointer none, .bool false]) (by simp [results, Try.results10, go_sem]) rfl ?_
    exact .inl ⟨HX.out, rfl, HC.out⟩
  have d3 : decide (24 < d) = false := decide_eq_false (by omega)
  by_cases h4 : 1 ≤ f
  case neg =>
    have d4 : decide (f < 1) = true := decide_eq_true (by omega)
    have HX := Lib.hid (show ¬ okDg d f l from fun h => h4 h.2.2.1.1)
    go_enter Try.func10, Try.ntmps10
    go_wp2
    refine bodyPost_ret (v := .tuple #[.pointer none, .pointer none, .bool false]) (by simp [results, Try.results10, go_sem]) rfl ?_
    exact .inl ⟨HX.out, rfl, HC.out⟩
  have d4 : decide (f < 1) = false := decide_eq_false (by omega)
  by_cases h5 : f ≤ 64
  case neg =>
    have d5 : decide (64 < f) = true := decide_eq_true (by omega)
    have HX := Lib.hid (show ¬ okDg d f l from fun h => h5 h.2.2.1.2)
    go_enter Try.func10, Try.ntmps10
    go_wp2
    refine bodyPost_ret (v := .tuple #[.pointer none, .pointer none, .bool false]) (by simp [results, Try.results10, go_sem]) rfl ?_
    exact .inl ⟨HX.out, rfl, HC.out⟩
  have d5 : decide (64 < f) = false := decide_eq_false (by omega)
  obtain ⟨dn, rfl⟩ := Int.eq_ofNat_of_zero_le (show 0 ≤ d by omega)
  obtain ⟨fn, rfl⟩ := Int.eq_ofNat_of_zero_le (show 0 ≤ f by omega)
  have HDF := Lib.hid (show (1 ≤ dn ∧ dn ≤ 24) ∧ 1 ≤ fn ∧ fn ≤ 64 from by omega)
  have HGO := Lib.hid (show goodC dn fn = true from decide_eq_true ⟨⟨h2, h3⟩, h4, h5⟩)
  clear h2 h3 h4 h5
  go_enter Try.func10, Try.ntmps10
  go_wp2_with fail
  refine (dg_new _ _ _).mono ?_
  rintro e w1 (⟨hbad, -, -⟩ | ⟨-, p, s, rfl, hd1, hc1, hf1⟩)
  · exact absurd (HGO.out.symm.trans hbad) (by decide)
  rw [Int.toNat_natCast, Int.toNat_natCast] at hd1
  have HD1 := Lib.hid hd1
  have HC1 := Lib.hid (HC.out.trans hc1)
  have HB1 := Lib.hid (HB.out.chg hc1 (by simp))
  have HF1 := Lib.hid (show ∀ b ∈ fpD p s (.slice none 0 0), w.heap.size + 1 ≤ b from fun b hb => by have h := hf1 b hb; rw [World.size_alloc] at h; exact h)
  have b0' := HB1.out.cell 0
  have b1' := HB1.out.cell 1
  simp only [List.getElem?_toArray, List.getElem?_cons_zero, List.getElem?_cons_succ] at b0' b1'
  clear hd1 hc1 hf1 b0 b1 HB HC
  go_wp2_with fail
  obtain ⟨q, hq⟩ : ∃ q, q = w1.heap.size := ⟨_, rfl⟩
  have HQ0 := Lib.hid (show w.heap.size + 1 ≤ q from by rw [hq]; have := HB1.out.lt; omega)
  have HPQ := Lib.hid (show ∀ b ∈ fpD p s (.slice none 0 0), b < q from fun b hb => by rw [hq]; exact HD1.out.lt b hb)
  have HQB := Lib.hid (Blk.alloc_new w1 #[.int .i64 (dn : Nat), .int .i64 (fn : Nat), .slice none 0 0] 63)
  have HQC := Lib.hid ((Chg.refl [] w1).alloc (.cells #[.int .i64 (dn : Nat), .int .i64 (fn : Nat), .slice none 0 0] 63))
  rw [← hq] at HQB ⊢
  clear hq b0' b1'
  generalize w1.alloc (.cells #[.int .i64 (dn : Nat), .int .i64 (fn : Nat), .slice none 0 0] 63) = w2 at *
  have HC2 := Lib.hid (HC1.out.trans HQC.out)
  have HD2 := Lib.hid (HD1.out.chg HQC.out (by simp))
  have HB2 := Lib.hid (HB1.out.chg HQC.out (by simp))
  have HR2 := Lib.hid (show RD w2 q (.slice none 0 0) (DgD.new dn fn) from ⟨HQB.out, Own.nil _ _ _⟩)
  clear HQB HQC HD1 HC1 HB1
  go_loopw [48] (fun i wx => ∃ (j s' : Nat) (rv' sv' : Value), j ≤ n ∧ i = .int .i64 (j : Nat) ∧ Dg wx p s' rv' (valsDg dn fn (l.take j)) ∧ RD wx q sv' (valsDg dn fn (l.take j)) ∧ Chg [] w wx ∧ Blk wx w.heap.size #[.int .i64 (dn : Nat), .int .i64 (fn : Nat)] 23 ∧
    Hid (∀ v ∈ l.take j, okVD dn v) ∧ Hid (∀ b ∈ fpD p s' rv', w.heap.size + 1 ≤ b) ∧ Hid (∀ b ∈ fpR q sv', w.heap.size + 1 ≤ b) ∧ Hid (∀ b ∈ fpD p s' rv', b ∉ fpR q sv')) (fun i _ => n - (intOf i).toNat)
  case atStart => exact ⟨0, s, _, _, Nat.zero_le _, rfl, HD2.out, HR2.out, HC2.out, HB2.out, Lib.hid (by simp), HF1, Lib.hid (fun b hb => by simp [fpR] at hb; subst hb; exact HQ0.out), Lib.hid (fun b hb hb2 => by simp [fpR] at hb2; subst hb2; have := HPQ.out _ hb; omega)⟩
  case round =>
    obtain ⟨j, s', rv', sv', hj, rfl, hdg, hrd, hch, hbc, HA, HF, HG, HDJ⟩ := hrel
    by_cases hlt : j < n
    · have hkl : j < l.length := by have := HN.out; omega
      obtain ⟨b, o, rfl, hc⟩ := (HR.out.chg hch (by simp)).addr (by omega)
      obtain ⟨c0, c1⟩ := vl_at (l := l) (fun j hj => hc j (by rw [HN.out]; exact hj)) hkl
      have HT := Lib.hid (DgD.vals_take (DgD.new dn fn) l j hkl)
      have HVM := Lib.hid (show l[j] ∈ l from List.getElem_mem _)
      have HTK := Lib.hid (List.take_succ_eq_append_getElem hkl)
      have HLT := Lib.hid (List.length_take_le j l)
      obtain ⟨P, hP⟩ : ∃ P, P = 2 ^ dn := ⟨_, rfl⟩
      have hshl : wrap64 ((2 : Int) ^ min dn 64) = (P : Int) := by
        have h := two_d HDF.out.1.1 HDF.out.1.2
        rw [← hP] at h
        have e : (2 : Int) ^ dn = (P : Int) := by rw [hP]; simp
        rw [show min dn 64 = dn from by have := HDF.out; omega, e]
        first | (unfold wrap64; omega) | (show IntKind.i64.wrap _ = _; rw [IntKind.wrap_i64]; omega)
      have HP := Lib.hid hP
      clear hc hP
      generalize l[j] = v at *
      have HBW := Lib.hid (hbc.alloc (.cells #[.int .i64 v.x, .int .u64 v.n] 46))
      have x0 := HBW.out.cell 0
      have x1 := HBW.out.cell 1
      have HDW := Lib.hid (hdg.chg ((Chg.refl [] wr).alloc (.cells #[.int .i64 v.x, .int .u64 v.n] 46)) (by simp))
      have HRW := Lib.hid (hrd.chg ((Chg.refl [] wr).alloc (.cells #[.int .i64 v.x, .int .u64 v.n] 46)) (by simp))
      have HCW := Lib.hid (hch.alloc (.cells #[.int .i64 v.x, .int .u64 v.n] 46))
      have HBW0 := Lib.hid (show w.heap.size + 1 ≤ wr.heap.size from by have := hbc.lt; omega)
      have HGN := Lib.hid (show wr.heap.size ∉ fpD p s' rv' ∧ wr.heap.size ∉ fpR q sv' from ⟨fun e => by have := hdg.lt _ e; omega, fun e => by have := hrd.lt _ e; omega⟩)
      clear hdg hrd hch hbc
      by_cases g1 : 1 ≤ v.n
      case neg =>
        have e1 : ((v.n : Int) == 0) = true := by rw [beq_iff_eq]; omega
        have HX := Lib.hid (show ¬ okDg dn fn l from fun h => g1 (h.2.2.2 v HVM.out).1)
        go_wp2
        go_quiet (fail)
        go_wp2
        refine bodyPost_ret (v := .tuple #[.pointer none, .pointer none, .bool false]) (by simp [results, Try.results10, go_sem]) rfl ?_
        exact .inl ⟨HX.out, rfl, by with_reducible (repeat (first | exact HCW.out | apply Chg.drew | apply Chg.drewN))⟩
      have e1 : ((v.n : Int) == 0) = false := by rw [beq_eq_false_iff_ne]; omega
      by_cases g2 : v.n ≤ 1125899906842624
      case neg =>
        have e2 : decide ((1125899906842624 : Int) < (v.n : Int)) = true := decide_eq_true (by omega)
        have e2' : decide (1125899906842624 < v.n) = true := decide_eq_true (by omega)
        have HX := Lib.hid (show ¬ okDg dn fn l from fun h => g2 (h.2.2.2 v HVM.out).2.1)
        go_wp2
        go_quiet (fail)
        go_wp2
        refine bodyPost_ret (v := .tuple #[.pointer none, .pointer none, .bool false]) (by simp [results, Try.results10, go_sem]) rfl ?_
        exact .inl ⟨HX.out, rfl, by with_reducible (repeat (first | exact HCW.out | apply Chg.drew | apply Chg.drewN))⟩
      have e2 : decide ((1125899906842624 : Int) < (v.n : Int)) = false := decide_eq_false (by omega)
      have e2' : decide (1125899906842624 < v.n) = false := decide_eq_false (by omega)
      by_cases g3 : 0 ≤ v.x
      case neg =>
        have e3 : decide (v.x < 0) = true := decide_eq_true (by omega)
        have HX := Lib.hid (show ¬ okDg dn fn l from fun h => g3 (h.2.2.2 v HVM.out).2.2.1)
        go_wp2
        go_quiet (fail)
        go_wp2
        refine bodyPost_ret (v := .tuple #[.pointer none, .pointer none, .bool false]) (by simp [results, Try.results10, go_sem]) rfl ?_
        exact .inl ⟨HX.out, rfl, by with_reducible (repeat (first | exact HCW.out | apply Chg.drew | apply Chg.drewN))⟩
      have e3 : decide (v.x < 0) = false := decide_eq_false (by omega)
      by_cases g4 : v.x < (P : Int)
      case neg =>
        have e4 : decide ((P : Int) ≤ v.x) = true := decide_eq_true (by omega)
        have HX := Lib.hid (show ¬ okDg dn fn l from fun h => g4 (by have h2 := (h.2.2.2 v HVM.out).2.2.2; rw [Int.toNat_natCast, ← HP.out] at h2; exact h2))
        go_wp2
        go_quiet (fail)
        go_wp2
        refine bodyPost_ret (v := .tuple #[.pointer none, .pointer none, .bool false]) (by simp [results, Try.results10, go_sem]) rfl ?_
        exact .inl ⟨HX.out, rfl, by with_reducible (repeat (first | exact HCW.out | apply Chg.drew | apply Chg.drewN))⟩
      have e4 : decide ((P : Int) ≤ v.x) = false := decide_eq_false (by omega)
      have HOV := Lib.hid (show okVD dn v from ⟨g1, g2, g3, by rw [← HP.out]; exact g4⟩)
      have HOD := Lib.hid (show okDg dn fn (l.take j) from ⟨by have := HLT.out; omega, by have := HDF.out; omega, by have := HDF.out; omega, fun u hu => by rw [Int.toNat_natCast]; exact HA.out u hu⟩)
      obtain ⟨k1, k2, k3, k4, k5⟩ := valsDg_ok (d := dn) (f := fn) HOD.out
      have hsb := sumS_bound (l.take j) HA.out
      have hlt2 := HLT.out
      have HPU := Lib.hid (fun u (hu : Dg u p s' rv' (valsDg dn fn (l.take j))) => dg_put u p s' rv' _ hu k1 v.x v.n g3 (by rw [k2, ← HP.out]; exact g4) g1 (by rw [k4]; omega) (by omega))
      have HRP := Lib.hid (fun u (hu : RD u q sv' (valsDg dn fn (l.take j))) => ref17_put u q sv' _ hu k1 v.x v.n g3 (by rw [k2, ← HP.out]; exact g4) (by rw [k4]; omega) (by omega))
      rw [show (valsDg dn fn (l.take j)).put v.x v.n = valsDg dn fn (l.take (j + 1)) from HT.out.symm] at HPU HRP
      have HA2 := Lib.hid (show ∀ u ∈ l.take (j + 1), okVD dn u from fun u hu => by
        rw [HTK.out] at hu
        rcases List.mem_append.1 hu with hu | hu
        · exact HA.out u hu
        · simp at hu; subst hu; exact HOV.out)
      have hbv := Blk.alloc_new wr #[.int .i64 v.x, .int .u64 v.n] 46
      have HBV := Lib.hid hbv
      clear k1 k2 k3 k4 k5 hsb hlt2 g1 g2 g3 g4 hbv
      go_wp2
      go_quiet (fail)
      have hcz : Chg [] (wr.alloc (.cells #[.int .i64 v.x, .int .u64 v.n] 46)) ((wr.alloc (.cells #[.int .i64 v.x, .int .u64 v.n] 46)).drewN nq) := (Chg.refl [] _).drewN nq
      obtain ⟨g, hg⟩ : ∃ g, g = wr.heap.size := ⟨_, rfl⟩
      rw [← hg] at HBV ⊢
      have HD4 := Lib.hid (HDW.out.chg hcz (by simp))
      have HR4 := Lib.hid (HRW.out.chg hcz (by simp))
      have HC4 := Lib.hid (HCW.out.trans hcz)
      have HB4 := Lib.hid (HBW.out.chg hcz (by simp))
      have HV4 := Lib.hid (HBV.out.chg hcz (by simp))
      have HGW := Lib.hid (show w.heap.size + 1 ≤ g from by rw [hg]; exact HBW0.out)
      have HGF := Lib.hid (show g ∉ fpD p s' rv' ∧ g ∉ fpR q sv' from by rw [hg]; exact HGN.out)
      clear hcz hg HDW HRW HCW HBW HBV x0 x1 hshl c0 c1 HGN HBW0
      generalize (wr.alloc (.cells #[.int .i64 v.x, .int .u64 v.n] 46)).drewN nq = w4 at *
      have y0 := HV4.out.cell 0
      have y1 := HV4.out.cell 1
      simp only [List.getElem?_toArray, List.getElem?_cons_zero, List.getElem?_cons_succ] at y0 y1
      go_wp2_with fail
      refine (HPU.out _ HD4.out).mono ?_
      rintro e w5 ⟨rfl, s5, rv5, hd5, hm5⟩
      have HD5 := Lib.hid hd5
      have HR5 := Lib.hid (HR4.out.chg hm5.chg (fun b hb e => HDJ.out b e hb))
      have HC5 := Lib.hid (HC4.out.trans' hm5.chg (fun b hb => .inr (by have := HF.out b hb; omega)))
      have HB5 := Lib.hid (HB4.out.chg hm5.chg (fun e => by have := HF.out _ e; omega))
      have HV5 := Lib.hid (HV4.out.chg hm5.chg (fun e => HGF.out.1 e))
      have HF5 := Lib.hid (hm5.low (L := w.heap.size + 1) (by have := HB4.out.lt; omega) HF.out)
      have HJ5 := Lib.hid (show ∀ b ∈ fpD p s5 rv5, b ∉ fpR q sv' from fun b hb e => by
        rcases hm5.fr b hb with h | h
        · exact HDJ.out b h e
        · have := HR4.out.lt b e
          omega)
      clear hd5 hm5 HPU HD4 HR4 HC4 HB4 HV4 y0 y1
      have y0 := HV5.out.cell 0
      have y1 := HV5.out.cell 1
      simp only [List.getElem?_toArray, List.getElem?_cons_zero, List.getElem?_cons_succ] at y0 y1
      go_wp2_with fail
      refine (HRP.out _ HR5.out).mono ?_
      rintro e w6 ⟨rfl, sv6, hr6, hm6⟩
      have HD6 := Lib.hid (HD5.out.chg hm6.chg (fun b hb e => HJ5.out b hb e))
      have HR6 := Lib.hid hr6
      have HC6 := Lib.hid (HC5.out.trans' hm6.chg (fun b hb => .inr (by have := HG.out b hb; omega)))
      have HB6 := Lib.hid (HB5.out.chg hm6.chg (fun e => by have := HG.out _ e; omega))
      have HG6 := Lib.hid (hm6.low (L := w.heap.size + 1) (by have := HB5.out.lt; omega) HG.out)
      have HJ6 := Lib.hid (show ∀ b ∈ fpD p s5 rv5, b ∉ fpR q sv6 from fun b hb e => by
        rcases hm6.fr b e with h | h
        · exact HJ5.out b hb h
        · have := HD5.out.lt b hb
          omega)
      clear hr6 hm6 HRP HD5 HR5 HC5 HB5 HV5 y0 y1
      go_wp2_with fail
      exact ⟨⟨j + 1, s5, rv5, sv6, by omega, by go_num, HD6.out, HR6.out, HC6.out, HB6.out, HA2, HF5, HG6, HJ6⟩, by simp [intOf]; omega⟩
    · obtain rfl : j = n := by omega
      have htl : l.take j = l := List.take_of_length_le (by have := HN.out; omega)
      rw [htl] at hdg hrd HA
      have HOD := Lib.hid (show okDg dn fn l from ⟨by have := HN.out; omega, by have := HDF.out; omega, by have := HDF.out; omega, fun u hu => by rw [Int.toNat_natCast]; exact HA.out u hu⟩)
      have HDX := Lib.hid hdg
      have HRX := Lib.hid hrd
      have HCX := Lib.hid hch
      clear htl hdg hrd hch hbc
      go_wp2_with fail
      refine bodyPost_ret (v := .tuple #[.pointer (some ⟨p, 0, none⟩), .pointer (some ⟨q, 0, none⟩), .bool true]) (by simp [results, Try.results10, go_sem]) rfl ?_
      refine .inr ⟨HOD.out, p, s', rv', q, sv', rfl, ?_, ?_, HCX.out, fun b hb => by have := HF.out b hb; omega, fun b hb => by have := HG.out b hb; omega, HDJ.out⟩
      · rw [Int.toNat_natCast, Int.toNat_natCast]; exact HDX.out
      · rw [Int.toNat_natCast, Int.toNat_natCast]; exact HRX.out
end Go.Proofs.Ytgnbabkafobeoaa
