/-
  The walk of the statements' build of towers. Conditions: the form's own reach.
-/
import Derived.Test.YtbaobiniianamaaVal
import Derived.Test.YtbaobiniianamaaRefPut
import Derived.Test.YtbaobiniianamaaReqPut
namespace Go.Proofs.Ytbaobiniianamaa
open Go.RowKit

def goodW (W : Int) : Bool := decide (4 ≤ W ∧ W ≤ 64 ∧ W % 4 = 0)
set_option maxRecDepth 100000 in
theorem law21_good (w : World) (W : Int) : Calls Try.prog 41 #[.int .i64 W] w fun e w' => e = .returned (.bool (goodW W)) ∧ w = w' := by
  have HG := Lib.hid (show goodW W = decide (4 ≤ W ∧ W ≤ 64 ∧ W % 4 = 0) from rfl)
  generalize goodW W = G at *
  go_enter Try.func41, Try.ntmps41
  by_cases h1 : 4 ≤ W
  · have d1 : decide (4 ≤ W) = true := decide_eq_true h1
    by_cases h2 : W ≤ 64
    · have d2 : decide (W ≤ 64) = true := decide_eq_true h2
      have d3 : W.tmod 4 = W % 4 := Int.tmod_eq_emod_of_nonneg (by omega)
      have d4 : (W % 4 == 0) = G := by rw [HG.out, Bool.eq_iff_iff]; simp; omega
      clear HG
      go_wp2
      go_ret
      exact ⟨by first | rfl | simp [d4], rfl⟩
    · have d2 : decide (W ≤ 64) = false := decide_eq_false h2
      obtain rfl : G = false := by rw [HG.out]; simp; omega
      clear HG
      go_wp2
      go_ret
      exact ⟨rfl, rfl⟩
  · have d1 : decide (4 ≤ W) = false := decide_eq_false h1
    obtain rfl : G = false := by rw [HG.out]; simp; omega
    clear HG
    go_wp2
    go_ret
    exact ⟨rfl, rfl⟩

/-- A tower with all values. -/
def TwD.vals (D : TwD) (l : List Vl) : TwD := l.foldl (fun D v => (D.ends v.x v.x).putN v.x v.n) D
theorem TwD.vals_take (D : TwD) (l : List Vl) (k : Nat) (h : k < l.length) : D.vals (l.take (k + 1)) = ((D.vals (l.take k)).ends l[k].x l[k].x).putN l[k].x l[k].n := by
  rw [List.take_succ_eq_append_getElem h]
  unfold TwD.vals
  rw [List.foldl_append]
  rfl
theorem TwD.vals_ok {W word n : Nat} (hW : 4 ≤ W) : ∀ (l : List Vl) {D : TwD}, D.ok W word n → (∀ v ∈ l, v.x ≤ 9223372036854775807) → (D.vals l).ok W word (n + sumS l)
  | [], D, h, _ => h
  | v :: l, D, h, hx => by
    have h1 := TwD.vals_ok hW l (TwD.putN_ok hW (TwD.ends_ok h v.x v.x) (hx v (by simp)) v.n) (fun u hu => hx u (by simp [hu]))
    rw [Nat.add_assoc] at h1
    exact h1
theorem TwD.ends_same (D : TwD) (x y : Int) : (D.ends x y).W = D.W ∧ (D.ends x y).word = D.word ∧ (D.ends x y).total = D.total ∧ (D.ends x y).rows = D.rows ∧ (D.ends x y).used = D.used := by
  unfold TwD.ends; split <;> exact ⟨rfl, rfl, rfl, rfl, rfl⟩
def valsD (W word : Nat) (l : List Vl) : TwD := (TwD.new W word).vals l
/-- Two things that share no block, one of which is moved. -/
theorem two_left {w wr w2 : World} {A A' B : List Nat} (hc : Chg [] w wr) (hA : ∀ b ∈ A, w.heap.size ≤ b) (hBlt : ∀ b ∈ B, b < wr.heap.size) (hd : ∀ b ∈ A, b ∉ B) (m : Mv A wr A' w2) :
    Chg [] w w2 ∧ (∀ b ∈ A', w.heap.size ≤ b) ∧ ∀ b ∈ A', b ∉ B := by
  have hs := hc.size
  refine ⟨hc.trans' m.chg (fun b hb => .inr (hA b hb)), fun b hb => ?_, fun b hb hB => ?_⟩
  · rcases m.fr b hb with h | h
    · exact hA b h
    · omega
  · rcases m.fr b hb with h | h
    · exact hd b h hB
    · have := hBlt b hB; omega
/-- Is that played? -/
def okV (l : List Vl) (W : Int) : Prop := (∀ v ∈ l, 1 ≤ v.n ∧ v.n ≤ 200) ∧ l.length ≤ 60 ∧ sumS l ≤ 200 ∧ goodW W = true
/-- What build tells. -/
def BuildR (w w' : World) (W : Int) (word : Nat) (l : List Vl) (e : Ending) : Prop :=
  (¬ okV l W ∧ e = .returned (.tuple #[.pointer none, .pointer none, .bool false]) ∧ Chg [] w w') ∨
  (okV l W ∧ ∃ p tp rv vs q qv qs, e = .returned (.tuple #[.pointer (some ⟨p, 0, none⟩), .pointer (some ⟨q, 0, none⟩), .bool true]) ∧
    Tow w' p tp rv vs (valsD W.toNat word l) ∧ RT w' q qv qs (valsD W.toNat word l).W (valsD W.toNat word l).word (valsD W.toNat word l).used (valsD W.toNat word l).rows ∧ Chg [] w w' ∧
    (∀ b ∈ fp p tp rv vs, w.heap.size ≤ b) ∧ (∀ b ∈ fpR q qv qs, w.heap.size ≤ b) ∧ ∀ b ∈ fp p tp rv vs, b ∉ fpR q qv qs)

set_option maxRecDepth 100000 in
set_option maxHeartbeats 4000000 in
theorem law21_build (w : World) (W : Int) (word : Nat) (hword : word < 18446744073709551616) (ao : Option Addr) (cap n : Nat) (l : List Vl) (hn : n = l.length) (hr : Rd w 2 (.slice ao n cap) n (vlCells l)) (hl : n ≤ 140737488351232) (hx : ∀ v ∈ l, v.x ≤ 9223372036854775807) (hnn : ∀ v ∈ l, v.n < 18446744073709551616) :
    Calls Try.prog 20 #[.agg #[.int .i64 W, .int .u64 word], .slice ao n cap] w fun e w' => BuildR w w' W word l e := by
  have HN := Lib.hid hn
  have HR := Lib.hid hr
  have HX := Lib.hid hx
  have HNN := Lib.hid hnn
  clear hn hr hx hnn
  go_enter Try.func20, Try.ntmps20
  go_wp2
  have hbx := Blk.alloc_new w #[.int .i64 W, .int .u64 word] 37
  have hcx : Chg [] w (w.alloc (.cells #[.int .i64 W, .int .u64 word] 37)) := (Chg.refl [] w).alloc _
  have HW0 := Lib.hid hcx
  have HBX := Lib.hid hbx
  obtain ⟨cb, hcb⟩ : ∃ cb, cb = w.heap.size := ⟨_, rfl⟩
  rw [← hcb] at HBX
  have HCB := Lib.hid (show w.heap.size ≤ cb from by omega)
  clear hbx hcx
  rw [← hcb]
  clear hcb
  generalize w.alloc (.cells #[.int .i64 W, .int .u64 word] 37) = w0 at *
  go_loopw [7, 18] (fun s i wx => ∃ (k S : Nat), k ≤ n ∧ i = .int .i64 (k : Nat) ∧ s = .int .u64 (S : Nat) ∧ S ≤ 200 * k ∧ Hid (S = sumS (l.take k)) ∧ Hid (∀ v ∈ l.take k, 1 ≤ v.n ∧ v.n ≤ 200) ∧ Chg [] w0 wx) (fun _ i _ => n - (intOf i).toNat)
  case atStart => exact ⟨0, 0, Nat.zero_le _, rfl, rfl, by omega, Lib.hid rfl, Lib.hid (by simp), Chg.refl _ _⟩
  case round =>
    obtain ⟨k, S, hk, rfl, rfl, hS2, HS, HA, hch⟩ := hrel
    by_cases hlt : k < n
    · have hkl : k < l.length := by have := HN.out; omega
      obtain ⟨b, o, rfl, hc⟩ := ((HR.out.chg HW0.out (by simp)).chg hch (by simp)).addr (by omega)
      obtain ⟨c0, c1⟩ := vl_at (l := l) (fun j hj => hc j (by rw [HN.out]; exact hj)) hkl
      have HT := Lib.hid (sumS_take l k hkl)
      have HM := Lib.hid (show l[k] ∈ l from List.getElem_mem _)
      have HTK := Lib.hid (List.take_succ_eq_append_getElem hkl)
      have hv64 := HNN.out _ HM.out
      generalize l[k] = v at *
      clear hc
      by_cases hz : 1 ≤ v.n ∧ v.n ≤ 200
      · have d1 : ((v.n : Int) == 0) = false := by rw [beq_eq_false_iff_ne]; omega
        have d2 : decide ((200 : Int) < (v.n : Int)) = false := decide_eq_false (by omega)
        have d3 : decide (200 < v.n) = false := decide_eq_false (by omega)
        have HX2 := Lib.hid (show S + v.n = sumS (l.take (k + 1)) from by rw [HT.out, HS.out])
        have HA2 := Lib.hid (show ∀ u ∈ l.take (k + 1), 1 ≤ u.n ∧ u.n ≤ 200 from fun u hu => by
          rw [HTK.out] at hu
          rcases List.mem_append.1 hu with hu | hu
          · exact HA.out u hu
          · simp at hu; subst hu; exact hz)
        go_wp2
        exact ⟨⟨k + 1, S + v.n, by omega, by go_num, by go_num, by omega, HX2, HA2, hch.alloc _⟩, by simp [intOf]; omega⟩
      · have hbad := Lib.hid (show ¬ okV l W from fun h => hz (h.1 v HM.out))
        by_cases h0 : v.n = 0
        · have d1 : ((v.n : Int) == 0) = true := by rw [beq_iff_eq]; omega
          go_wp2
          refine bodyPost_ret (v := .tuple #[.pointer none, .pointer none, .bool false]) (by simp [results, Try.results20, go_sem]) rfl ?_
          exact .inl ⟨hbad.out, rfl, (HW0.out.trans hch).alloc _⟩
        · have d1 : ((v.n : Int) == 0) = false := by rw [beq_eq_false_iff_ne]; omega
          have d2 : decide ((200 : Int) < (v.n : Int)) = true := decide_eq_true (by omega)
          have d3 : decide (200 < v.n) = true := decide_eq_true (by omega)
          go_wp2
          refine bodyPost_ret (v := .tuple #[.pointer none, .pointer none, .bool false]) (by simp [results, Try.results20, go_sem]) rfl ?_
          exact .inl ⟨hbad.out, rfl, (HW0.out.trans hch).alloc _⟩
    · obtain rfl : k = n := by omega
      rw [List.take_of_length_le (by have := HN.out; omega)] at HS HA
      have HW1 := Lib.hid (HW0.out.trans hch)
      have HB1 := HBX.out.chg hch (by simp)
      have HR1 := Lib.hid (HR.out.chg HW1.out (by simp))
      have b0 := HB1.cell 0
      have b1 := HB1.cell 1
      simp only [List.getElem?_toArray, List.getElem?_cons_zero, List.getElem?_cons_succ] at b0 b1
      have HSZ := Lib.hid (Nat.le_trans HW0.out.size hch.size)
      have HBF := Lib.hid HB1
      have HG := Lib.hid (fun w => law21_good w W)
      clear hch
      by_cases h1 : k ≤ 60
      · have d1 : decide ((60 : Int) < (k : Int)) = false := decide_eq_false (by omega)
        have d1' : decide (60 < k) = false := decide_eq_false (by omega)
        by_cases h2 : S ≤ 200
        · have d2 : decide ((200 : Int) < (S : Int)) = false := decide_eq_false (by omega)
          have d2' : decide (200 < S) = false := decide_eq_false (by omega)
          go_wp2_with fail
          refine (HG.out _).mono ?_
          rintro e w2 ⟨rfl, rfl⟩
          by_cases h3 : goodW W = true
          · have hgw : 4 ≤ W ∧ W ≤ 64 ∧ W % 4 = 0 := by simpa [goodW] using h3
            obtain ⟨Wn, rfl⟩ := Int.eq_ofNat_of_zero_le (show 0 ≤ W by omega)
            have hok := Lib.hid (show okV l Wn from ⟨HA.out, by have := HN.out; omega, by have := HS.out; omega, h3⟩)
            have hS200 : sumS l ≤ 200 := by have := HS.out; omega
            have g1 : 4 ≤ Wn := by omega
            have g2 : Wn ≤ 64 := by omega
            have g3 : Wn % 4 = 0 := by omega
            have HNEW := Lib.hid (fun w => req_new w Wn word g1 g2 g3)
            have HRNEW := Lib.hid (fun w => ref21_new w Wn word)
            have HS200 := Lib.hid hS200
            clear hgw g3 HS hS2 h2 d2 d2' HG hS200
            go_wp2_with fail
            refine (HNEW.out _).mono ?_
            rintro e w3 ⟨p, tp, rv, rfl, ht, hc, hf⟩
            have HB3 := HBF.out.chg hc (by simp)
            have b0' := HB3.cell 0
            have b1' := HB3.cell 1
            simp only [List.getElem?_toArray, List.getElem?_cons_zero, List.getElem?_cons_succ] at b0' b1'
            have HT3 := Lib.hid ht
            have HC3 := Lib.hid hc
            have HF3 := Lib.hid hf
            clear ht hc hf HB1 b0 b1 HB3
            go_wp2_with fail
            refine (HRNEW.out _).mono ?_
            rintro e w4 ⟨q, qv, rfl, hq, hqc, hqf⟩
            have HC4 := Lib.hid ((HW1.out.trans HC3.out).trans hqc)
            have HT4 := Lib.hid (HT3.out.chg hqc (by simp))
            have HF4 := Lib.hid (show ∀ b ∈ fp p tp rv [.slice none 0 0], w.heap.size ≤ b from fun b hb => Nat.le_trans HW1.out.size (HF3.out b hb))
            have HG4 := Lib.hid (show ∀ b ∈ fpR q qv [.slice none 0 0], w.heap.size ≤ b from fun b hb => Nat.le_trans (HW1.out.trans HC3.out).size (hqf b hb))
            have HD4 := Lib.hid (show ∀ b ∈ fp p tp rv [.slice none 0 0], b ∉ fpR q qv [.slice none 0 0] from fun b hb hb2 => by
              have h1 := HT3.out.lt b hb
              have h2 := hqf b hb2
              omega)
            have HQ4 := Lib.hid hq
            clear hq hqc hqf b0' b1'
            go_wp2
            go_loopw [60] (fun i wx => ∃ (j : Nat) (rv' : Value) (vs' : List Value) (qv' : Value) (qs' : List Value), j ≤ k ∧ i = .int .i64 (j : Nat) ∧ Tow wx p tp rv' vs' (valsD Wn word (l.take j)) ∧ RT wx q qv' qs' (valsD Wn word (l.take j)).W (valsD Wn word (l.take j)).word (valsD Wn word (l.take j)).used (valsD Wn word (l.take j)).rows ∧ Chg [] w wx ∧
              Hid (∀ b ∈ fp p tp rv' vs', w.heap.size ≤ b) ∧ Hid (∀ b ∈ fpR q qv' qs', w.heap.size ≤ b) ∧ Hid (∀ b ∈ fp p tp rv' vs', b ∉ fpR q qv' qs')) (fun i _ => k - (intOf i).toNat)
            case atStart => exact ⟨0, rv, _, qv, _, Nat.zero_le _, rfl, HT4.out, HQ4.out, HC4.out, HF4, HG4, HD4⟩
            case round =>
              obtain ⟨j, rv', vs', qv', qs', hj, rfl, ht', hq', hch, HF, HG, HD⟩ := hrel
              by_cases hlt : j < k
              · have hkl : j < l.length := by have := HN.out; omega
                obtain ⟨b, o, rfl, hc⟩ := (HR.out.chg hch (by simp)).addr (by omega)
                obtain ⟨c0, c1⟩ := vl_at (l := l) (fun j hj => hc j (by rw [HN.out]; exact hj)) hkl
                have HT := Lib.hid (TwD.vals_take (TwD.new Wn word) l j hkl)
                have HSJ := Lib.hid (sumS_take l j hkl)
                have HSL := Lib.hid (sumS_take_le l (j + 1))
                have HVM := Lib.hid (show l[j] ∈ l from List.getElem_mem _)
                have hv := HA.out _ HVM.out
                have hvx := HX.out _ HVM.out
                have HOK := Lib.hid (TwD.vals_ok g1 (l.take j) (TwD.new_ok (W := Wn) (word := word) g1) (fun v hv => HX.out v (List.mem_of_mem_take hv)))
                generalize l[j] = v at *
                obtain ⟨D, hD⟩ : ∃ D, D = valsD Wn word (l.take j) := ⟨_, rfl⟩
                rw [← hD] at ht' hq'
                have HOK := Lib.hid (show D.ok Wn word (0 + sumS (l.take j)) from hD ▸ HOK.out)
                have HT := Lib.hid (show valsD Wn word (l.take (j + 1)) = (D.ends v.x v.x).putN v.x v.n from by rw [hD]; exact HT.out)
                clear hc hD
                have hsum : sumS (l.take j) + v.n ≤ 200 := by have h1 := HSJ.out; have h2 := HSL.out; have h3 := HS200.out; omega
                have HSUM := Lib.hid hsum
                have hs0 := hch.size
                have HT1 := Lib.hid (ht'.chg ((Chg.refl [] wr).alloc (.cells #[.int .i64 v.x, .int .u64 v.n] 83)) (by simp))
                have HQ1 := Lib.hid (hq'.chg ((Chg.refl [] wr).alloc (.cells #[.int .i64 v.x, .int .u64 v.n] 83)) (by simp))
                have HC1 := Lib.hid (hch.alloc (.cells #[.int .i64 v.x, .int .u64 v.n] 83))
                have HB1 := Lib.hid (Blk.alloc_new wr #[.int .i64 v.x, .int .u64 v.n] 83)
                have HLT := Lib.hid (show (∀ b ∈ fp p tp rv' vs', b < wr.heap.size) ∧ (∀ b ∈ fpR q qv' qs', b < wr.heap.size) from ⟨ht'.lt, hq'.lt⟩)
                obtain ⟨cb2, hcb2⟩ : ∃ z, z = wr.heap.size := ⟨_, rfl⟩
                rw [← hcb2] at HB1 HLT
                have HPUT := Lib.hid (fun u (h : Tow u p tp rv' vs' D) => req_put u p tp rv' vs' D h (by rw [HOK.out.W_eq]; exact g1) (by rw [HOK.out.W_eq]; exact g2) (by rw [HOK.out.word_eq]; exact hword) _ HOK.out.fit (by have := HSUM.out; omega) v.x v.n hv.1 (by omega) (by rw [HOK.out.tot, HOK.out.W_eq]; have := HSUM.out; omega))
                clear ht' hq' hch hsum
                obtain ⟨D1, hD1⟩ : ∃ D1, D1 = D.ends v.x v.x := ⟨_, rfl⟩
                have HSD := Lib.hid (show D1.W = D.W ∧ D1.word = D.word ∧ D1.total = D.total ∧ D1.rows = D.rows ∧ D1.used = D.used from hD1 ▸ D.ends_same v.x v.x)
                have HO1 := Lib.hid (fun i => TwD.putN_ok g1 (show D1.ok Wn word _ from hD1 ▸ TwD.ends_ok HOK.out v.x v.x) hvx i)
                rw [← hD1] at HT HPUT
                clear hD1
                go_wp2_with fail
                rw [← hcb2]
                clear hcb2 c0 c1
                generalize wr.alloc (.cells #[.int .i64 v.x, .int .u64 v.n] 83) = w1 at *
                have hs1 := HC1.out.size
                refine (HPUT.out _ HT1.out).mono ?_
                rintro e w5 ⟨rfl, rv2, vs2, ht2, hm2⟩
                obtain ⟨k1, k2, k3⟩ := two_left HC1.out HF.out HQ1.out.lt HD.out hm2
                have HT5 := Lib.hid ht2
                have HQ5 := Lib.hid (HQ1.out.chg hm2.chg (fun b hb e => HD.out b e hb))
                have HB5 := Lib.hid (HB1.out.chg hm2.chg (fun e => by have := HLT.out.1 _ e; omega))
                have HC5 := Lib.hid k1
                have HF5 := Lib.hid k2
                have HD5 := Lib.hid k3
                have HN5 := Lib.hid (show cb2 ∉ fpR q qv' qs' from fun e => by have := HLT.out.2 _ e; omega)
                clear ht2 hm2 k1 k2 k3 HPUT HT1 HQ1 HB1
                go_wp2
                go_loopw [15] (fun i wx => ∃ (m : Nat) (qv2 : Value) (qs2 : List Value), m ≤ v.n ∧ i = .int .u64 (m : Nat) ∧ Tow wx p tp rv2 vs2 (D1.putN v.x v.n) ∧ RT wx q qv2 qs2 (D1.putN v.x m).W (D1.putN v.x m).word (D1.putN v.x m).used (D1.putN v.x m).rows ∧ Blk wx cb2 #[.int .i64 v.x, .int .u64 v.n] 83 ∧ Chg [] w wx ∧
                  Hid (∀ b ∈ fpR q qv2 qs2, w.heap.size ≤ b) ∧ Hid (∀ b ∈ fp p tp rv2 vs2, b ∉ fpR q qv2 qs2) ∧ Hid (cb2 ∉ fpR q qv2 qs2)) (fun i _ => v.n - (intOf i).toNat)
                case atStart =>
                  refine ⟨0, qv', qs', Nat.zero_le _, rfl, HT5.out, ?_, HB5.out, HC5.out, HG, HD5, HN5⟩
                  obtain ⟨z1, z2, z3, z4, z5⟩ := HSD.out
                  show RT w5 q qv' qs' D1.W D1.word D1.used D1.rows
                  rw [z1, z2, z4, z5]
                  exact HQ5.out
                case round =>
                  obtain ⟨m, qv2, qs2, hm, rfl, ht6, hq6, hb6, hc6, HG6, HD6, HN6⟩ := hrel
                  have y0 := hb6.cell 0
                  have y1 := hb6.cell 1
                  simp only [List.getElem?_toArray, List.getElem?_cons_zero, List.getElem?_cons_succ] at y0 y1
                  by_cases hmn : m < v.n
                  · have hPM := HO1.out m
                    have HRP := Lib.hid (ref21_put wr q qv2 qs2 (D1.putN v.x m) hq6 (by rw [hPM.W_eq]; exact g1) (by rw [hPM.W_eq]; exact g2) (by rw [hPM.word_eq]; exact hword) _ hPM.fit (by have := HSUM.out; omega) v.x)
                    have HT6 := Lib.hid ht6
                    have HQ6 := Lib.hid hq6
                    have HB6 := Lib.hid hb6
                    clear ht6 hq6 hb6 hPM
                    go_wp2_with fail
                    refine HRP.out.mono ?_
                    rintro e w7 ⟨rfl, qv3, qs3, hq7, hm7⟩
                    obtain ⟨k1, k2, k3⟩ := two_left hc6 HG6.out HT6.out.lt (fun b hb hb2 => HD6.out b hb2 hb) hm7
                    have HT7 := Lib.hid (HT6.out.chg hm7.chg (fun b hb e => HD6.out b hb e))
                    have HB7 := Lib.hid (HB6.out.chg hm7.chg HN6.out)
                    have HN7 := Lib.hid (show cb2 ∉ fpR q qv3 qs3 from fun e => by
                      rcases hm7.fr _ e with h | h
                      · exact HN6.out h
                      · have := HB6.out.lt; omega)
                    have HQ7 := Lib.hid hq7
                    clear hq7 hm7
                    go_wp2
                    exact ⟨⟨m + 1, qv3, qs3, by omega, by go_num, HT7.out, HQ7.out, HB7.out, k1, Lib.hid k2, Lib.hid (fun b hb hb2 => k3 b hb2 hb), HN7⟩, by simp [intOf]; omega⟩
                  · obtain rfl : m = v.n := by omega
                    have HT6 := Lib.hid ht6
                    have HQ6 := Lib.hid hq6
                    clear ht6 hq6 hb6
                    go_wp2
                    exact ⟨⟨j + 1, rv2, vs2, qv2, qs2, by omega, by go_num, by rw [HT.out]; exact HT6.out, by rw [HT.out]; exact HQ6.out, hc6, HF5, HG6, HD6⟩, by simp [intOf]; omega⟩
              · obtain rfl : j = k := by omega
                rw [List.take_of_length_le (by have := HN.out; omega)] at ht' hq'
                have HTE := Lib.hid ht'
                have HQE := Lib.hid hq'
                clear ht' hq'
                go_wp2
                refine bodyPost_ret (v := .tuple #[.pointer (some ⟨p, 0, none⟩), .pointer (some ⟨q, 0, none⟩), .bool true]) (by simp [results, Try.results20, go_sem]) rfl ?_
                exact .inr ⟨hok.out, p, tp, rv', vs', q, qv', qs', rfl, HTE.out, HQE.out, hch, HF.out, HG.out, HD.out⟩
          · have d3 : goodW W = false := by simpa using h3
            have hbad := Lib.hid (show ¬ okV l W from fun h => h3 h.2.2.2)
            go_wp2
            refine bodyPost_ret (v := .tuple #[.pointer none, .pointer none, .bool false]) (by simp [results, Try.results20, go_sem]) rfl ?_
            exact .inl ⟨hbad.out, rfl, HW1.out⟩
        · have d2 : decide ((200 : Int) < (S : Int)) = true := decide_eq_true (by omega)
          have d2' : decide (200 < S) = true := decide_eq_true (by omega)
          have hbad := Lib.hid (show ¬ okV l W from fun h => h2 (by rw [HS.out]; exact h.2.2.1))
          go_wp2
          refine bodyPost_ret (v := .tuple #[.pointer none, .pointer none, .bool false]) (by simp [results, Try.results20, go_sem]) rfl ?_
          exact .inl ⟨hbad.out, rfl, HW1.out⟩
      · have d1 : decide ((60 : Int) < (k : Int)) = true := decide_eq_true (by omega)
        have d1' : decide (60 < k) = true := decide_eq_true (by omega)
        have hbad := Lib.hid (show ¬ okV l W from fun h => h1 (by rw [HN.out]; exact h.2.1))
        go_wp2
        refine bodyPost_ret (v := .tuple #[.pointer none, .pointer none, .bool false]) (by simp [results, Try.results20, go_sem]) rfl ?_
        exact .inl ⟨hbad.out, rfl, HW1.out⟩
end Go.Proofs.Ytbaobiniianamaa
