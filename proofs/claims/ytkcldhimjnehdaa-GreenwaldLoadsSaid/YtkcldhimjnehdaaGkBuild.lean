/-
  The walk of the statements' build of sketches. Conditions: the form's own reach.
  The walk of the law's alive. Conditions: the form's own reach.
-/
import Derived.Test.YtkcldhimjnehdaaVals
import Derived.Test.YtkcldhimjnehdaaGkPut
import Derived.Test.YtkcldhimjnehdaaRefGkPut
import Derived.Test.YtkcldhimjnehdaaGkRow
namespace Go.Proofs.Ytkcldhimjnehdaa
open Go.RowKit

set_option maxRecDepth 100000 in
set_option maxHeartbeats 1000000 in
theorem law19_good (w : World) (num den : Nat) :
    Calls Try.prog 30 #[.agg #[.int .u64 (num : Nat), .int .u64 (den : Nat)]] w fun e w' => e = .returned (.bool (goodK num den)) ∧ Chg [] w w' := by
  have HG := Lib.hid (show goodK num den = decide (0 < num ∧ den ≤ 2147483648 ∧ num ≤ den / 2) from rfl)
  generalize goodK num den = G at *
  have hc := (Chg.refl [] w).alloc (.cells #[.int .u64 num, .int .u64 den] 25)
  have hbx := Blk.alloc_new w #[.int .u64 num, .int .u64 den] 25
  have c0 := hbx.cell 0
  have c1 := hbx.cell 1
  go_enter Try.func30, Try.ntmps30
  by_cases h1 : 0 < num
  · have d1 : decide ((0 : Int) < (num : Int)) = true := decide_eq_true (by omega)
    have d1' : decide (0 < num) = true := decide_eq_true h1
    by_cases h2 : den ≤ 2147483648
    · have d2 : decide ((den : Int) ≤ 2147483648) = true := decide_eq_true (by omega)
      have d2' : decide (den ≤ 2147483648) = true := decide_eq_true h2
      have hq : (den : Int).tdiv 2 = ((den / 2 : Nat) : Int) := by rw [Int.tdiv_eq_ediv_of_nonneg (by omega)]; omega
      obtain rfl : G = decide (num ≤ den / 2) := by rw [HG.out]; simp [h1, h2]
      clear HG
      have hwq : IntKind.u64.wrap ((den / 2 : Nat) : Int) = ((den / 2 : Nat) : Int) := IntWalk.u64_in _ (by omega)
      generalize den / 2 = q at *
      go_wp2
      go_ret
      exact ⟨by first | rfl | simp, hc⟩
    · have d2 : decide ((den : Int) ≤ 2147483648) = false := decide_eq_false (by omega)
      have d2' : decide (den ≤ 2147483648) = false := decide_eq_false h2
      obtain rfl : G = false := by rw [HG.out]; simp; omega
      clear HG
      go_wp2
      go_ret
      exact ⟨rfl, hc⟩
  · have d1 : decide ((0 : Int) < (num : Int)) = false := decide_eq_false (by omega)
    have d1' : decide (0 < num) = false := decide_eq_false h1
    obtain rfl : G = false := by rw [HG.out]; simp; omega
    clear HG
    go_wp2
    go_ret
    exact ⟨rfl, hc⟩

/-- A sketch with all values. -/
def GkD.valsK (D : GkD) (l : List Vl) : GkD := l.foldl (fun D v => D.putN v.x v.n) D
theorem GkD.vals_take (D : GkD) (l : List Vl) (k : Nat) (h : k < l.length) : D.valsK (l.take (k + 1)) = (D.valsK (l.take k)).putN l[k].x l[k].n := by
  rw [List.take_succ_eq_append_getElem h]
  unfold GkD.valsK
  rw [List.foldl_append]
  rfl
theorem GkD.vals_ok : ∀ (l : List Vl) {D : GkD}, D.ok → (D.valsK l).ok
  | [], _, h => h
  | v :: l, _, h => GkD.vals_ok l (GkD.putN_ok h v.x v.n)
theorem GkD.vals_same : ∀ (l : List Vl) (D : GkD), (D.valsK l).num = D.num ∧ (D.valsK l).den = D.den ∧ (D.valsK l).total = D.total + sumS l
  | [], _ => ⟨rfl, rfl, rfl⟩
  | v :: l, D => by
    have h1 := GkD.vals_same l (D.putN v.x v.n)
    obtain ⟨h2, h3, h4⟩ := D.putN_same v.x v.n
    refine ⟨h1.1.trans h2, h1.2.1.trans h3, h1.2.2.trans ?_⟩
    rw [h4]
    simp only [sumS]
    omega
theorem GkD.vals_all (x : Int) : ∀ (l : List Vl) (D : GkD), upC (D.valsK l).all x = upC D.all x + upS x l
  | [], _ => rfl
  | v :: l, D => by
    have h1 := GkD.vals_all x l (D.putN v.x v.n)
    have h2 := D.putN_all v.x x v.n
    rw [show D.valsK (v :: l) = (D.putN v.x v.n).valsK l from rfl, h1, h2]
    simp only [upS]
    omega
def valsG (num den : Nat) (l : List Vl) : GkD := (GkD.new num den).valsK l
theorem valsG_ok (num den : Nat) (l : List Vl) : (valsG num den l).ok := GkD.vals_ok l (GkD.new_ok num den)
theorem valsG_same (num den : Nat) (l : List Vl) : (valsG num den l).num = num ∧ (valsG num den l).den = den ∧ (valsG num den l).total = sumS l := by
  obtain ⟨h1, h2, h3⟩ := GkD.vals_same l (GkD.new num den)
  exact ⟨h1, h2, h3.trans (by simp [GkD.new, GkD.total])⟩
/-- Is that played? -/
def okG (l : List Vl) (num den : Nat) : Prop := (∀ v ∈ l, 1 ≤ v.n ∧ v.n ≤ 150) ∧ l.length ≤ 60 ∧ sumS l ≤ 150 ∧ goodK num den = true
/-- What build tells. -/
def BuildK (w w' : World) (num den : Nat) (l : List Vl) (e : Ending) : Prop :=
  (¬ okG l num den ∧ e = .returned (.tuple #[.pointer none, .pointer none, .bool false]) ∧ Chg [] w w') ∨
  (okG l num den ∧ ∃ p rv wv q sv yv, e = .returned (.tuple #[.pointer (some ⟨p, 0, none⟩), .pointer (some ⟨q, 0, none⟩), .bool true]) ∧
    Gk w' p rv wv (valsG num den l) ∧ RG w' q sv yv (valsG num den l) ∧ Chg [] w w' ∧
    (∀ b ∈ fpK p rv wv, w.heap.size ≤ b) ∧ (∀ b ∈ fpS q sv yv, w.heap.size ≤ b) ∧ ∀ b ∈ fpK p rv wv, b ∉ fpS q sv yv)

set_option maxRecDepth 100000 in
set_option maxHeartbeats 4000000 in
theorem law19_build (w : World) (num den : Nat) (ao : Option Addr) (cap n : Nat) (l : List Vl) (hn : n = l.length) (hr : Rd w 2 (.slice ao n cap) n (vlCells l)) (hl : n ≤ 140737488351232) (hnn : ∀ v ∈ l, v.n < 18446744073709551616) :
    Calls Try.prog 17 #[.agg #[.int .u64 (num : Nat), .int .u64 (den : Nat)], .slice ao n cap] w fun e w' => BuildK w w' num den l e := by
  have HN := Lib.hid hn
  have HR := Lib.hid hr
  have HNN := Lib.hid hnn
  clear hn hr hnn
  go_enter Try.func17, Try.ntmps17
  go_wp2
  have hbx := Blk.alloc_new w #[.int .u64 num, .int .u64 den] 25
  have hcx : Chg [] w (w.alloc (.cells #[.int .u64 num, .int .u64 den] 25)) := (Chg.refl [] w).alloc _
  have HW0 := Lib.hid hcx
  have HBX := Lib.hid hbx
  obtain ⟨cb, hcb⟩ : ∃ cb, cb = w.heap.size := ⟨_, rfl⟩
  rw [← hcb] at HBX
  have HCB := Lib.hid (show w.heap.size ≤ cb from by omega)
  clear hbx hcx
  rw [← hcb]
  clear hcb
  generalize w.alloc (.cells #[.int .u64 num, .int .u64 den] 25) = w0 at *
  go_loopw [7, 17] (fun s i wx => ∃ (k S : Nat), k ≤ n ∧ i = .int .i64 (k : Nat) ∧ s = .int .u64 (S : Nat) ∧ S ≤ 150 * k ∧ Hid (S = sumS (l.take k)) ∧ Hid (∀ v ∈ l.take k, 1 ≤ v.n ∧ v.n ≤ 150) ∧ Chg [] w0 wx) (fun _ i _ => n - (intOf i).toNat)
  case atStart => exact ⟨0, 0, Nat.zero_le _, rfl, rfl, by omega, Lib.hid rfl, Lib.hid (by simp), Chg.refl _ _⟩
  case round =>
    obtain ⟨k, S, hk, rfl, rfl, hS2, HS, HA, hch⟩ := hrel
    by_cases hlt : k < n
    · have hkl : k < l.length := by have := HN.out; omega
      obtain ⟨b, o, rfl, hc⟩ := ((HR.out.chg HW0.out (by simp)).chg hch (by simp)).addr (by omega)
      obtain ⟨c0, c1⟩ := vl_at (l := l) (fun j hj => hc j (by rw [HN.out]; exact hj)) hkl
      have HT := Lib.hid (sumS_take l k hkl)
      have HM := Lib.hid (show l[k] ∈ l from List.getElem_mem _)
      have HTK := Lib.hid (List.take_succ_eq_append_getElem hkl)
      have hv64 := HNN.out _ HM.out
      generalize l[k] = v at *
      clear hc
      by_cases hz : 1 ≤ v.n ∧ v.n ≤ 150
      · have d1 : ((v.n : Int) == 0) = false := by rw [beq_eq_false_iff_ne]; omega
        have d2 : decide ((150 : Int) < (v.n : Int)) = false := decide_eq_false (by omega)
        have d3 : decide (150 < v.n) = false := decide_eq_false (by omega)
        have HX2 := Lib.hid (show S + v.n = sumS (l.take (k + 1)) from by rw [HT.out, HS.out])
        have HA2 := Lib.hid (show ∀ u ∈ l.take (k + 1), 1 ≤ u.n ∧ u.n ≤ 150 from fun u hu => by
          rw [HTK.out] at hu
          rcases List.mem_append.1 hu with hu | hu
          · exact HA.out u hu
          · simp at hu; subst hu; exact hz)
        go_wp2
        exact ⟨⟨k + 1, S + v.n, by omega, by go_num, by go_num, by omega, HX2, HA2, hch.alloc _⟩, by simp [intOf]; omega⟩
      · have hbad := Lib.hid (show ¬ okG l num den from fun h => hz (h.1 v HM.out))
        by_cases h0 : v.n = 0
        · have d1 : ((v.n : Int) == 0) = true := by rw [beq_iff_eq]; omega
          go_wp2
          refine bodyPost_ret (v := .tuple #[.pointer none, .pointer none, .bool false]) (by simp [results, Try.results17, go_sem]) rfl ?_
          exact .inl ⟨hbad.out, rfl, (HW0.out.trans hch).alloc _⟩
        · have d1 : ((v.n : Int) == 0) = false := by rw [beq_eq_false_iff_ne]; omega
          have d2 : decide ((150 : Int) < (v.n : Int)) = true := decide_eq_true (by omega)
          have d3 : decide (150 < v.n) = true := decide_eq_true (by omega)
          go_wp2
          refine bodyPost_ret (v := .tuple #[.pointer none, .pointer none, .bool false]) (by simp [results, Try.results17, go_sem]) rfl ?_
          exact .inl ⟨hbad.out, rfl, (HW0.out.trans hch).alloc _⟩
    · obtain rfl : k = n := by omega
      rw [List.take_of_length_le (by have := HN.out; omega)] at HS HA
      have HW1 := Lib.hid (HW0.out.trans hch)
      have HB1 := HBX.out.chg hch (by simp)
      have HR1 := Lib.hid (HR.out.chg HW1.out (by simp))
      have b0 := HB1.cell 0
      have b1 := HB1.cell 1
      simp only [List.getElem?_toArray, List.getElem?_cons_zero, List.getElem?_cons_succ] at b0 b1
      have HSZ := Lib.hid (Nat.le_trans HW0.out.size hch.size)
      have HBF := Lib.hid HB1
      have HG := Lib.hid (fun w => law19_good w num den)
      clear hch
      by_cases h1 : k ≤ 60
      · have d1 : decide ((60 : Int) < (k : Int)) = false := decide_eq_false (by omega)
        have d1' : decide (60 < k) = false := decide_eq_false (by omega)
        by_cases h2 : S ≤ 150
        · have d2 : decide ((150 : Int) < (S : Int)) = false := decide_eq_false (by omega)
          have d2' : decide (150 < S) = false := decide_eq_false (by omega)
          go_wp2_with fail
          refine (HG.out _).mono ?_
          rintro e w2 ⟨rfl, hcg⟩
          have HW2 := Lib.hid (HW1.out.trans hcg)
          have HB2 := HBF.out.chg hcg (by simp)
          have b0' := HB2.cell 0
          have b1' := HB2.cell 1
          simp only [List.getElem?_toArray, List.getElem?_cons_zero, List.getElem?_cons_succ] at b0' b1'
          have HBF2 := Lib.hid HB2
          clear hcg HB2
          by_cases h3 : goodK num den = true
          · have hok := Lib.hid (show okG l num den from ⟨HA.out, by have := HN.out; omega, by have := HS.out; omega, h3⟩)
            have hS200 : sumS l ≤ 150 := by have := HS.out; omega
            have HNEW := Lib.hid (fun w => gk_new w num den h3)
            have HS200 := Lib.hid hS200
            have HG3 := Lib.hid h3
            clear HS hS2 h2 d2 d2' HG hS200
            go_wp2_with fail
            refine (HNEW.out _).mono ?_
            rintro e w3 ⟨p, rfl, ht, hc, hf⟩
            have HB3 := HBF2.out.chg hc (by simp)
            have b0'' := HB3.cell 0
            have b1'' := HB3.cell 1
            simp only [List.getElem?_toArray, List.getElem?_cons_zero, List.getElem?_cons_succ] at b0'' b1''
            have HT3 := Lib.hid ht
            have HC3 := Lib.hid hc
            have HF3 := Lib.hid hf
            clear ht hc hf HB1 b0 b1 b0' b1' HB3 h3
            go_wp2_with fail
            obtain ⟨q, hq⟩ : ∃ q, q = w3.heap.size := ⟨_, rfl⟩
            have HQB := Lib.hid (Blk.alloc_new w3 #[.int .u64 num, .int .u64 den, .slice none 0 0, .slice none 0 0] 90)
            have HQC := Lib.hid ((Chg.refl [] w3).alloc (.cells #[.int .u64 num, .int .u64 den, .slice none 0 0, .slice none 0 0] 90))
            have HQ0 := Lib.hid (show w.heap.size ≤ q from by rw [hq]; exact (HW2.out.trans HC3.out).size)
            have HPQ := Lib.hid (show p < q from by rw [hq]; exact HT3.out.lt p (by simp [fpK]))
            rw [← hq] at HQB ⊢
            clear hq b0'' b1''
            generalize w3.alloc (.cells #[.int .u64 num, .int .u64 den, .slice none 0 0, .slice none 0 0] 90) = w4 at *
            have HC4 := Lib.hid ((HW2.out.trans HC3.out).trans HQC.out)
            have HT4 := Lib.hid (HT3.out.chg HQC.out (by simp))
            have HR4 := Lib.hid (show RG w4 q (.slice none 0 0) (.slice none 0 0) (GkD.new num den) from ⟨HQB.out, Own.nil _ _ _, Own.nil _ _ _⟩)
            have HF4 := Lib.hid (show ∀ b ∈ fpK p (.slice none 0 0) (.slice none 0 0), w.heap.size ≤ b from fun b hb => by simp [fpK, blkOf] at hb; subst hb; exact Nat.le_trans HW2.out.size HF3.out)
            have HG4 := Lib.hid (show ∀ b ∈ fpS q (.slice none 0 0) (.slice none 0 0), w.heap.size ≤ b from fun b hb => by simp [fpS, blkOf] at hb; subst hb; exact HQ0.out)
            have HD4 := Lib.hid (show ∀ b ∈ fpK p (.slice none 0 0) (.slice none 0 0), b ∉ fpS q (.slice none 0 0) (.slice none 0 0) from fun b hb hb2 => by
              simp [fpK, blkOf] at hb
              simp [fpS, blkOf] at hb2
              have := HPQ.out
              omega)
            clear HQB HQC HT3
            go_wp2
            go_loopw [56] (fun i wx => ∃ (j : Nat) (rv' : Value) (wv' : Value) (sv' : Value) (yv' : Value), j ≤ k ∧ i = .int .i64 (j : Nat) ∧ Gk wx p rv' wv' (valsG num den (l.take j)) ∧ RG wx q sv' yv' (valsG num den (l.take j)) ∧ Chg [] w wx ∧
              Hid (∀ b ∈ fpK p rv' wv', w.heap.size ≤ b) ∧ Hid (∀ b ∈ fpS q sv' yv', w.heap.size ≤ b) ∧ Hid (∀ b ∈ fpK p rv' wv', b ∉ fpS q sv' yv')) (fun i _ => k - (intOf i).toNat)
            case atStart => exact ⟨0, _, _, _, _, Nat.zero_le _, rfl, HT4.out, HR4.out, HC4.out, HF4, HG4, HD4⟩
            case round =>
              obtain ⟨j, rv', wv', sv', yv', hj, rfl, ht', hq', hch, HF, HG, HD⟩ := hrel
              by_cases hlt : j < k
              · have hkl : j < l.length := by have := HN.out; omega
                obtain ⟨b, o, rfl, hc⟩ := (HR.out.chg hch (by simp)).addr (by omega)
                obtain ⟨c0, c1⟩ := vl_at (l := l) (fun j hj => hc j (by rw [HN.out]; exact hj)) hkl
                have HT := Lib.hid (GkD.vals_take (GkD.new num den) l j hkl)
                have HSJ := Lib.hid (sumS_take l j hkl)
                have HSL := Lib.hid (sumS_take_le l (j + 1))
                have HVM := Lib.hid (show l[j] ∈ l from List.getElem_mem _)
                have hv := HA.out _ HVM.out
                have HOK := Lib.hid (valsG_ok num den (l.take j))
                have HSM := Lib.hid (valsG_same num den (l.take j))
                generalize l[j] = v at *
                obtain ⟨D, hD⟩ : ∃ D, D = valsG num den (l.take j) := ⟨_, rfl⟩
                rw [← hD] at ht' hq' HOK HSM
                have HT := Lib.hid (show valsG num den (l.take (j + 1)) = D.putN v.x v.n from by rw [hD]; exact HT.out)
                clear hc hD
                have hsum : D.total + v.n ≤ 150 := by have h1 := HSJ.out; have h2 := HSL.out; have h3 := HS200.out; have h4 := HSM.out.2.2; omega
                have hgd : goodK D.num D.den = true := by rw [HSM.out.1, HSM.out.2.1]; exact HG3.out
                have hs0 := hch.size
                have HT1 := Lib.hid (ht'.chg ((Chg.refl [] wr).alloc (.cells #[.int .i64 v.x, .int .u64 v.n] 59)) (by simp))
                have HQ1 := Lib.hid (hq'.chg ((Chg.refl [] wr).alloc (.cells #[.int .i64 v.x, .int .u64 v.n] 59)) (by simp))
                have HC1 := Lib.hid (hch.alloc (.cells #[.int .i64 v.x, .int .u64 v.n] 59))
                have HB1 := Lib.hid (Blk.alloc_new wr #[.int .i64 v.x, .int .u64 v.n] 59)
                have HLT := Lib.hid (show (∀ b ∈ fpK p rv' wv', b < wr.heap.size) ∧ (∀ b ∈ fpS q sv' yv', b < wr.heap.size) from ⟨ht'.lt, hq'.lt⟩)
                obtain ⟨cb2, hcb2⟩ : ∃ z, z = wr.heap.size := ⟨_, rfl⟩
                rw [← hcb2] at HB1 HLT
                have HPUT := Lib.hid (fun u (h : Gk u p rv' wv' D) => gk_put u p rv' wv' D h HOK.out hgd v.x v.n hv.1 (by omega) (by omega))
                have HRP := Lib.hid (fun u (h : RG u q sv' yv' D) => ref19_put u q sv' yv' D h HOK.out hgd v.x v.n (by omega) (by omega))
                have hv1 := hv.1
                have hv2 := hv.2
                clear ht' hq' hch hsum hgd hv
                go_wp2_with fail
                rw [← hcb2]
                clear hcb2 c0 c1
                generalize wr.alloc (.cells #[.int .i64 v.x, .int .u64 v.n] 59) = w1 at *
                have hs1 := HC1.out.size
                refine (HPUT.out _ HT1.out).mono ?_
                rintro e w5 ⟨rfl, rv2, wv2, ht2, hm2⟩
                obtain ⟨k1, k2, k3⟩ := two_left HC1.out HF.out HQ1.out.lt HD.out hm2
                have HT5 := Lib.hid ht2
                have HQ5 := Lib.hid (HQ1.out.chg hm2.chg (fun b hb e => HD.out b e hb))
                have hb5 := HB1.out.chg hm2.chg (fun e => by have := HLT.out.1 _ e; omega)
                have y0 := hb5.cell 0
                have y1 := hb5.cell 1
                simp only [List.getElem?_toArray, List.getElem?_cons_zero, List.getElem?_cons_succ] at y0 y1
                have HC5 := Lib.hid k1
                have HF5 := Lib.hid k2
                have HD5 := Lib.hid k3
                clear ht2 hm2 k1 k2 k3 HPUT HT1 HQ1 HB1 hb5
                go_wp2_with fail
                refine (HRP.out _ HQ5.out).mono ?_
                rintro e w7 ⟨rfl, sv3, yv3, hq7, hm7⟩
                obtain ⟨k1, k2, k3⟩ := two_left HC5.out HG.out HT5.out.lt (fun b hb hb2 => HD5.out b hb2 hb) hm7
                have HT7 := Lib.hid (HT5.out.chg hm7.chg (fun b hb e => HD5.out b hb e))
                have HQ7 := Lib.hid hq7
                clear hq7 hm7 y0 y1
                go_wp2
                exact ⟨⟨j + 1, _, _, _, _, by omega, by go_num, by rw [HT.out]; exact HT7.out, by rw [HT.out]; exact HQ7.out, k1, HF5, Lib.hid k2, Lib.hid (fun b hb hb2 => k3 b hb2 hb)⟩, by simp [intOf]; omega⟩
              · obtain rfl : j = k := by omega
                rw [List.take_of_length_le (by have := HN.out; omega)] at ht' hq'
                have HTE := Lib.hid ht'
                have HQE := Lib.hid hq'
                clear ht' hq'
                go_wp2
                refine bodyPost_ret (v := .tuple #[.pointer (some ⟨p, 0, none⟩), .pointer (some ⟨q, 0, none⟩), .bool true]) (by simp [results, Try.results17, go_sem]) rfl ?_
                exact .inr ⟨hok.out, p, _, _, q, _, _, rfl, HTE.out, HQE.out, hch, HF.out, HG.out, HD.out⟩
          · have d3 : goodK num den = false := by simpa using h3
            have hbad := Lib.hid (show ¬ okG l num den from fun h => h3 h.2.2.2)
            go_wp2
            refine bodyPost_ret (v := .tuple #[.pointer none, .pointer none, .bool false]) (by simp [results, Try.results17, go_sem]) rfl ?_
            exact .inl ⟨hbad.out, rfl, HW2.out⟩
        · have d2 : decide ((150 : Int) < (S : Int)) = true := decide_eq_true (by omega)
          have d2' : decide (150 < S) = true := decide_eq_true (by omega)
          have hbad := Lib.hid (show ¬ okG l num den from fun h => h2 (by rw [HS.out]; exact h.2.2.1))
          go_wp2
          refine bodyPost_ret (v := .tuple #[.pointer none, .pointer none, .bool false]) (by simp [results, Try.results17, go_sem]) rfl ?_
          exact .inl ⟨hbad.out, rfl, HW1.out⟩
      · have d1 : decide ((60 : Int) < (k : Int)) = true := decide_eq_true (by omega)
        have d1' : decide (60 < k) = true := decide_eq_true (by omega)
        have hbad := Lib.hid (show ¬ okG l num den from fun h => h1 (by rw [HN.out]; exact h.2.1))
        go_wp2
        refine bodyPost_ret (v := .tuple #[.pointer none, .pointer none, .bool false]) (by simp [results, Try.results17, go_sem]) rfl ?_
        exact .inl ⟨hbad.out, rfl, HW1.out⟩
end Go.Proofs.Ytkcldhimjnehdaa

namespace Go.Proofs.Ytkcldhimjnehdaa
open Go.RowKit

def aliveG : GkD := (GkD.new 1 10).putN 5 2
theorem aliveG_at : foundX 1 aliveG.flush.row = 5 ∧ placeT 1 2 2 = 1 ∧ placeE 1 2 2 = 0 := by decide
set_option maxRecDepth 100000 in
set_option maxHeartbeats 4000000 in
theorem law19_alive (w : World) : Calls Try.prog 16 #[] w fun e w' => e = .returned (.bool true) ∧ Chg [] w w' := by
  have HN := Lib.hid (fun w => gk_new w 1 10 (by decide))
  go_enter Try.func16, Try.ntmps16
  go_wp2_with fail
  refine (HN.out _).mono ?_
  rintro e w1 ⟨p, rfl, ht, hc, hf⟩
  have HP := Lib.hid (gk_put w1 p _ _ _ ht (GkD.new_ok 1 10) (by decide) 5 2 (by omega) (by omega) (by simp [GkD.new, GkD.total]))
  have HC1 := Lib.hid hc
  have HF1 := Lib.hid hf
  clear ht hc hf HN
  go_wp2_with fail
  refine HP.out.mono ?_
  rintro e w2 ⟨rfl, rv2, wv2, ht2, hm2⟩
  have HOK := Lib.hid (show aliveG.ok from GkD.putN_ok (GkD.new_ok 1 10) 5 2)
  obtain ⟨s1, s2, s3⟩ := (GkD.new 1 10).putN_same 5 2
  have HT2 := Lib.hid (show Gk w2 p rv2 wv2 aliveG from ht2)
  have HM2 := Lib.hid hm2
  have hst : aliveG.total = 2 := s3
  have HQ := Lib.hid (gk_quantile w2 p rv2 wv2 aliveG HT2.out HOK.out (by rw [show aliveG.num = 1 from s1, show aliveG.den = 10 from s2]; decide) (by omega) 1 2 (by omega) (by omega) 1 0 (by rw [hst]; exact aliveG_at.2.1.symm) (by rw [hst]; exact aliveG_at.2.2.symm))
  rw [aliveG_at.1] at HQ
  clear ht2 hm2 HP s1 s2 s3 hst
  go_wp2_with fail
  refine HQ.out.mono ?_
  rintro e w3 (⟨h, -⟩ | ⟨-, rfl, rv3, wv3, ht3, hm3⟩)
  · exact absurd rfl h
  have hTT := gk_total w3 p rv3 wv3 _ ht3
  have htot : aliveG.flush.total = 2 := by
    have := aliveG.flush_same.2.2.1
    obtain ⟨s1, s2, s3⟩ := (GkD.new 1 10).putN_same 5 2
    rw [this]
    exact s3
  rw [htot] at hTT
  have HTT := Lib.hid hTT
  have HM3 := Lib.hid (HM2.out.trans hm3)
  have HC3 := Lib.hid (HC1.out.trans' HM3.out.chg (fun b hb => .inr (by simp [fpK, blkOf] at hb; subst hb; exact HF1.out)))
  clear ht3 hm3 hTT htot HQ
  go_wp2_with fail
  refine HTT.out.mono ?_
  rintro e w4 ⟨rfl, rfl⟩
  go_wp2
  go_ret
  exact ⟨rfl, HC3.out⟩
end Go.Proofs.Ytkcldhimjnehdaa
