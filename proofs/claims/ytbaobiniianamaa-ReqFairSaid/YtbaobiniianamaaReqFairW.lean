/-
  The walk of the law ReqFair. Conditions: the form's own reach.
-/
import Derived.Test.YtbaobiniianamaaReqLowW
import Derived.Test.YtbaobiniianamaaPlainFair
namespace Go.Proofs.Ytbaobiniianamaa
open Go.RowKit

theorem sumTo_le (f : Nat → Nat) (c : Nat) : ∀ n, (∀ i, i < n → f i ≤ c) → sumTo n f ≤ n * c
  | 0, _ => by simp [sumTo]
  | n + 1, h => by
    have h1 := sumTo_le f c n (fun i hi => h i (by omega))
    have h2 := h n (by omega)
    rw [sumTo, Nat.add_mul, Nat.one_mul]
    omega

set_option maxRecDepth 100000 in
set_option maxHeartbeats 4000000 in
theorem law_ReqFair (w : World) (W : Int) (_hW1 : -9223372036854775808 ≤ W) (_hW2 : W < 9223372036854775808) (ao : Option Addr) (ca : Nat) (a : List Vl) (hra : Rd w 2 (.slice ao a.length ca) a.length (vlCells a)) (hla : a.length ≤ 140737488351232) (hka : ∀ i ∈ a, i.ok)
    (x : Int) (_hx1 : -9223372036854775808 ≤ x) (_hx2 : x < 9223372036854775808) :
    Calls Try.prog 5 #[.int .i64 W, .slice ao a.length ca, .int .i64 x] w fun e w' => e = .returned (.bool true) ∧ Chg [] w w' := by
  have HAL := Lib.hid law21_alive
  have HKA := Lib.hid hka
  have HRA := Lib.hid hra
  obtain ⟨n, hn⟩ : ∃ n, n = a.length := ⟨_, rfl⟩
  rw [← hn] at HRA hla ⊢
  have HN := Lib.hid hn
  clear hka hra hn
  have HBA := Lib.hid (fun u (hu : Chg [] w u) (word : Nat) (hword : word < 18446744073709551616) => law21_build u W word hword ao ca n a HN.out (HRA.out.chg hu (by simp)) hla (fun v hv => by have := (HKA.out v hv).2.1; omega) (fun v hv => (HKA.out v hv).2.2))
  go_enter Try.func5, Try.ntmps5
  go_wp2_with fail
  refine (HAL.out _).mono ?_
  rintro e w1 ⟨rfl, hc1⟩
  have HC1 := Lib.hid hc1
  clear hc1 HAL
  go_wp2_with fail
  refine (HBA.out _ HC1.out 0 (by omega)).mono ?_
  rintro e w2 (⟨hbad, rfl, hc2⟩ | ⟨hok, p, tp, rv, vs, q, qv, qs, rfl, ht2, hq2, hc2, hf2, hg2, hd2⟩)
  · go_wp2
    go_ret
    exact ⟨rfl, HC1.out.trans hc2⟩
  · obtain ⟨Wn, rfl, g1, g2, g4, hsa, ea, hoa⟩ := valsD_ok (word := 0) hok HKA.out
    have HT2 := Lib.hid (show Tow w2 p tp rv vs (valsD Wn 0 a) from ht2)
    have HC2 := Lib.hid (HC1.out.trans hc2)
    have HOK := Lib.hid hok
    have HUS := Lib.hid (req_used w2 p tp rv vs (valsD Wn 0 a) HT2.out)
    have hk := Lib.hid (show (valsD Wn 0 a).used ≤ 200 from by have := hoa.fit.2.2; omega)
    obtain ⟨k, hkk⟩ : ∃ k, k = (valsD Wn 0 a).used := ⟨_, rfl⟩
    rw [← hkk] at HUS hk
    have HKK := Lib.hid hkk.symm
    clear ht2 hq2 hc2 hf2 hg2 hd2 hok ea hoa hkk
    go_wp2_with fail
    refine HUS.out.mono ?_
    rintro e w3 ⟨rfl, rfl⟩
    by_cases h8 : k ≤ 8
    · have d8 : decide ((8 : Int) < (k : Int)) = false := decide_eq_false (by omega)
      have d8' : decide (8 < k) = false := decide_eq_false (by omega)
      obtain ⟨HFU, HFS⟩ : Hid (∀ w, (valsD Wn w a).used = k) ∧ Hid (sumTo (2 ^ k) (fun w => rankR x (valsD Wn w a).rows) = 2 ^ k * upS x a) := by
        obtain ⟨z1, z2⟩ := fair g1 x a HKK.out h8
        exact ⟨Lib.hid z1, Lib.hid z2⟩
      obtain ⟨P, hP⟩ : ∃ P, P = 2 ^ k := ⟨_, rfl⟩
      have hP256 : P ≤ 256 := by
        rw [hP]
        have h1 : 2 ^ k ≤ 2 ^ 8 := Nat.pow_le_pow_right (by omega) h8
        have h2 : (2 : Nat) ^ 8 = 256 := by decide
        omega
      have hPw : IntKind.u64.wrap ((2 : Int) ^ k) = (P : Int) := by
        rw [IntKind.wrap_u64]
        have e : ((2 : Int) ^ k) = ((2 ^ k : Nat) : Int) := by rw [Int.natCast_pow]; rfl
        rw [e, ← hP]
        omega
      rw [← hP] at HFS
      obtain ⟨R, hR⟩ : ∃ R, R = upS x a := ⟨_, rfl⟩
      have hR2 : R ≤ 200 := by have := upS_le x a; omega
      have HUA := Lib.hid (fun u (hu : Chg [] w u) => ref13_up u ao ca n a HN.out (HRA.out.chg hu (by simp)) hla (by omega) x R hR)
      rw [← hR] at HFS
      obtain ⟨M, hM⟩ : ∃ M, M = P * R := ⟨_, rfl⟩
      have hM2 : M ≤ 256 * 200 := by rw [hM]; exact Nat.mul_le_mul hP256 hR2
      have hMw : IntKind.u64.wrap ((P : Int) * (R : Int)) = (M : Int) := by rw [← Int.natCast_mul, ← hM, IntKind.wrap_u64]; omega
      rw [← hM] at HFS
      have hk63 : k < 64 := by omega
      have HFN := Lib.hid (fun (j : Nat) => valsD_ok2 (word := j) HOK.out g1 HKA.out)
      clear hP hR hM hk
      go_wp2_with fail
      refine HUS.out.mono ?_
      rintro e w3 ⟨rfl, rfl⟩
      go_wp2_with fail
      refine (HUA.out _ HC2.out).mono ?_
      rintro e w3 ⟨rfl, hc3⟩
      have HC3 := Lib.hid (HC2.out.trans hc3)
      clear hc3 HUS HUA HT2 HC2
      go_wp2
      go_loopw [12, 14] (fun s i wx => ∃ (j S : Nat), j ≤ P ∧ i = .int .u64 (j : Nat) ∧ s = .int .u64 (S : Nat) ∧ S ≤ j * 200 ∧ Hid (S = sumTo j (fun w => rankR x (valsD Wn w a).rows)) ∧ Chg [] w wx) (fun _ i _ => P - (intOf i).toNat)
      case atStart => exact ⟨0, 0, Nat.zero_le _, rfl, rfl, by omega, Lib.hid rfl, HC3.out⟩
      case round =>
        obtain ⟨j, S, hj, rfl, rfl, hS2, HS, hch⟩ := hrel
        by_cases hlt : j < P
        · have d1 : decide ((j : Int) < (P : Int)) = true := decide_eq_true (by omega)
          have HCH := Lib.hid hch
          clear hch
          go_wp2_with fail
          refine (HBA.out _ HCH.out j (by omega)).mono ?_
          rintro e w5 (⟨hbad, rfl, hc5⟩ | ⟨-, p5, tp5, rv5, vs5, q5, qv5, qs5, rfl, ht5, -, hc5, -, -, -⟩)
          · exact absurd HOK.out hbad
          · have HT5 := Lib.hid (show Tow w5 p5 tp5 rv5 vs5 (valsD Wn j a) from ht5)
            have HC5 := Lib.hid (HCH.out.trans hc5)
            obtain ⟨hs5, ho5⟩ := HFN.out j
            have HU5 := Lib.hid (req_used w5 p5 tp5 rv5 vs5 _ HT5.out)
            rw [HFU.out j] at HU5
            obtain ⟨T, hT⟩ : ∃ T, T = rankR x (valsD Wn j a).rows := ⟨_, rfl⟩
            have HR5 := Lib.hid (req_rankF w5 p5 tp5 rv5 vs5 _ HT5.out ho5.fine (by omega) x T hT)
            have hT2 : T ≤ 200 := by have := rankR_le x (valsD Wn j a).rows; rw [ho5.fine.sum] at this; omega
            have HS5 := Lib.hid (show S + T = sumTo (j + 1) (fun w => rankR x (valsD Wn w a).rows) from by rw [sumTo, ← HS.out, hT])
            have ekk : ((k : Int) != (k : Int)) = false := by simp
            clear ht5 hc5 hs5 ho5 hT
            go_wp2_with fail
            refine HU5.out.mono ?_
            rintro e w6 ⟨rfl, rfl⟩
            go_wp2_with fail
            refine HR5.out.mono ?_
            rintro e w6 ⟨rfl, rfl⟩
            go_wp2
            exact ⟨⟨j + 1, S + T, by omega, by go_num, by go_num, by omega, HS5, HC5.out⟩, by simp [intOf]; omega⟩
        · obtain rfl : j = P := by omega
          have HE := Lib.hid (show S = M from by rw [HS.out, HFS.out])
          have d1 : decide ((j : Int) < (j : Int)) = false := decide_eq_false (by omega)
          rw [HE.out]
          have eMM : ((M : Int) == (M : Int)) = true := by simp
          go_wp2
          go_ret
          exact ⟨rfl, hch⟩
    · have d8 : decide ((8 : Int) < (k : Int)) = true := decide_eq_true (by omega)
      have d8' : decide (8 < k) = true := decide_eq_true (by omega)
      go_wp2
      go_ret
      exact ⟨rfl, HC2.out⟩
end Go.Proofs.Ytbaobiniianamaa
