/-
  The walk of the law's alive. Conditions: the form's own reach.
-/
import Derived.Test.YtbaobiniianamaaReqPut
import Derived.Test.YtbaobiniianamaaReqOk
import Derived.Test.YtbaobiniianamaaReqRows
import Derived.Test.YtbaobiniianamaaReqRank
namespace Go.Proofs.Ytbaobiniianamaa
open Go.RowKit

theorem aliveD_rows : ∃ r0 r1, (aliveD 4).rows = [r0, r1] ∧ r0.length = 2 ∧ r1.length = 1 := by
  have h := aliveD_end.1
  rcases hl : (aliveD 4).rows with _ | ⟨a, _ | ⟨b, _ | ⟨c, l⟩⟩⟩ <;> rw [hl] at h <;> simp at h
  exact ⟨a, b, rfl, h.1, h.2⟩
set_option maxRecDepth 100000 in
set_option maxHeartbeats 4000000 in
theorem law21_alive (w : World) : Calls Try.prog 19 #[] w fun e w' => e = .returned (.bool true) ∧ Chg [] w w' := by
  have HN := Lib.hid (fun w => req_new w 4 0 (by omega) (by omega) (by omega))
  go_enter Try.func19, Try.ntmps19
  go_wp2_with fail
  refine (HN.out _).mono ?_
  rintro e w1 ⟨p, tp, rv, rfl, ht, hc, hf⟩
  have HT1 := Lib.hid ht
  have HC1 := Lib.hid hc
  have HF1 := Lib.hid hf
  clear ht hc hf HN
  go_wp2
  go_loopw [3] (fun i wx => ∃ (k : Nat) (rv' : Value) (vs' : List Value), k ≤ 4 ∧ i = .int .i64 (4 - k) ∧ Tow wx p tp rv' vs' (aliveD k) ∧ Mv (fp p tp rv [.slice none 0 0]) w1 (fp p tp rv' vs') wx) (fun i _ => (intOf i).toNat)
  case atStart => exact ⟨0, rv, _, Nat.zero_le _, by go_num, HT1.out, Mv.refl _ _⟩
  case round =>
    obtain ⟨k, rv', vs', hk, rfl, ht', hm'⟩ := hrel
    by_cases hlt : k < 4
    · have HOK := Lib.hid (aliveD_ok k)
      have hd : decide ((4 : Int) - k > 0) = true := decide_eq_true (by omega)
      have hd2 : decide ((0 : Int) < 4 - k) = true := decide_eq_true (by omega)
      have HP := Lib.hid (req_put wr p tp rv' vs' (aliveD k) ht' (by rw [HOK.out.W_eq]; omega) (by rw [HOK.out.W_eq]; omega) (by rw [HOK.out.word_eq]; omega) k HOK.out.fit (by omega) (4 - k) 1 (by omega) (by omega) (by rw [HOK.out.tot, HOK.out.W_eq]; omega))
      have HM := Lib.hid hm'
      clear ht' hm'
      go_wp2_with fail
      refine HP.out.mono ?_
      rintro e w2 ⟨rfl, rv2, vs2, ht2, hm2⟩
      have HT2 := Lib.hid ht2
      have HM2 := Lib.hid hm2
      clear ht2 hm2
      go_wp2
      exact ⟨⟨k + 1, rv2, vs2, by omega, by go_num, HT2.out, HM.out.trans HM2.out⟩, by simp [intOf]; omega⟩
    · obtain rfl : k = 4 := by omega
      have HR := Lib.hid (req_rows wr p tp rv' vs' (aliveD 4) ht' (by have := (aliveD_ok 4).fit.2.2; omega) (by have h1 := (aliveD_ok 4).fit.2.1; have h2 := (aliveD_ok 4).fit.2.2; omega))
      have HT := Lib.hid ht'
      have HM := Lib.hid hm'
      clear ht' hm'
      go_wp2_with fail
      refine HR.out.mono ?_
      rintro e w2 ⟨ro, rc, vs2, rfl, hrc, hc2⟩
      obtain ⟨r0, r1, er, el0, el1⟩ := aliveD_rows
      have hTo := HT.out.chg hc2 (by simp)
      have HU := Lib.hid (fun W hc => req_used W p tp rv' vs' _ (hTo.chg (F := []) (w1 := W) hc (by simp)))
      have HTT := Lib.hid (fun W hc => req_total W p tp rv' vs' _ (hTo.chg (F := []) (w1 := W) hc (by simp)))
      rw [aliveD_end.2] at HU
      rw [(aliveD_ok 4).tot] at HTT
      have hHC := Lib.hid hc2
      have HM := Lib.hid HM.out.chg
      rw [er] at hrc
      obtain ⟨ho, hw, -, -⟩ := hrc
      have hv2 : vs2.length = 2 := hw.1
      rw [er]
      have e2 : ([r0, r1] : List (List Int)).length = 2 := rfl
      rw [e2] at ho ⊢
      obtain ⟨v0, v1, rfl⟩ : ∃ v0 v1, vs2 = [v0, v1] := by
        match vs2, hv2 with
        | [a, b], _ => exact ⟨a, b, rfl⟩
      obtain ⟨g, o, cp, hsl, d0, f0, hcp⟩ : ∃ g o cap, Value.slice ro 2 rc = .slice (some ⟨g, o, none⟩) 2 cap ∧ w2.cell? ⟨g, o + 0, none⟩ = some v0 ∧ w2.frozen? ⟨g, o + 0, none⟩ = false ∧ 2 ≤ cap := ho.at1 (j := 0) (by omega) (by simp)
      simp only [Value.slice.injEq, true_and] at hsl
      obtain ⟨rfl, rfl⟩ := hsl
      have d1 : w2.cell? ⟨g, o + 1, none⟩ = some v1 := ho.cells 1 (by omega)
      rw [Nat.add_zero] at d0
      have hw0 : Own w2 2 1 v0 r0.length (ints r0) := hw.2.1 0 (by simp) (by simp)
      have hw1 : Own w2 2 1 v1 r1.length (ints r1) := hw.2.1 1 (by simp) (by simp)
      rw [el0] at hw0
      rw [el1] at hw1
      obtain ⟨a0, c0, rfl⟩ := hw0.shape
      obtain ⟨a1, c1, rfl⟩ := hw1.shape
      clear hw0 hw1 hw ho hv2 f0 e2 er el0 el1 hTo hc2
      go_wp2_with fail
      refine (HU.out w2 (Chg.refl _ _)).mono ?_
      rintro e w3 ⟨rfl, rfl⟩
      go_wp2_with fail
      refine (HTT.out w2 (Chg.refl _ _)).mono ?_
      rintro e w3 ⟨rfl, rfl⟩
      have hfin := Lib.hid ((HC1.out.trans' HM.out (fun b hb => .inr (HF1.out b hb))).trans' hHC.out (by simp))
      go_wp2
      go_ret
      exact ⟨rfl, hfin.out⟩
end Go.Proofs.Ytbaobiniianamaa
