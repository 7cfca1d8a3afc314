/-
  The walk of the law's near. Conditions: the form's own reach.
  Plain law: how close Quantile is, and what Rank tells, of all values that were put. Conditions: none.
-/
import Derived.Test.YtkcldhimjnehdaaGkBuild
import Derived.Test.YtkcldhimjnehdaaRefTimes
import Derived.Test.YtkcldhimjnehdaaRefWide
namespace Go.Proofs.Ytkcldhimjnehdaa
open Go.RowKit

theorem enters_ntimes : ∀ (args : Array Value) (w : World), (callFunc 13 args).run Try.prog w = .ok (.enter 13 args) w := enters_of Try.func13 (by kernel_rfl) rfl
theorem enters_nless : ∀ (args : Array Value) (w : World), (callFunc 44 args).run Try.prog w = .ok (.enter 44 args) w := enters_of Try.func44 (by kernel_rfl) rfl
set_option maxRecDepth 100000 in
set_option maxHeartbeats 8000000 in
theorem law19_near (w : World) (ao : Option Addr) (cap n : Nat) (l : List Vl) (hn : n = l.length) (hr : Rd w 2 (.slice ao n cap) n (vlCells l)) (hl : n ≤ 140737488351232) (hs : sumS l ≤ 4096) (hx : ∀ v ∈ l, v.x ≤ 9223372036854775807) (x : Int) (t : Nat) (ht : t ≤ 4096)
    (num den : Nat) (hg : goodK num den = true) (hFL : upS (x - 1) l + 1 ≤ upS x l) (hgap : max (upS (x - 1) l + 1 - t) (t - upS x l) * den ≤ num * sumS l) :
    Calls Try.prog 24 #[.slice ao n cap, .int .i64 x, .int .u64 (t : Nat), .agg #[.int .u64 (num : Nat), .int .u64 (den : Nat)]] w fun e w' => e = .returned (.bool true) ∧ Chg [] w w' := by
  have hB0 := Blk.alloc_new w #[.int .u64 num, .int .u64 den] 25
  have hC0 := (Chg.refl [] w).alloc (.cells #[.int .u64 num, .int .u64 den] 25)
  obtain ⟨g1, g2, g3⟩ := goodK_of hg
  obtain ⟨N, hN⟩ : ∃ N, N = sumS l := ⟨_, rfl⟩
  obtain ⟨L, hL⟩ : ∃ L, L = upS x l := ⟨_, rfl⟩
  obtain ⟨F, hF⟩ : ∃ F, F = upS (x - 1) l + 1 := ⟨_, rfl⟩
  obtain ⟨G, hG⟩ : ∃ G, G = max (F - t) (t - L) := ⟨_, rfl⟩
  have hLN : L ≤ N := by rw [hL, hN]; exact upS_le x l
  have hU := Lib.hid (fun u (hu : Chg [] w u) => ref13_up u ao cap n l hn (hr.chg hu (by simp)) hl (by omega) 9223372036854775807 N (by rw [hN]; exact (upS_all hx).symm))
  have hV := Lib.hid (fun u (hu : Chg [] w u) => ref13_up u ao cap n l hn (hr.chg hu (by simp)) hl (by omega) x L hL)
  rw [← hN, ← hF, ← hL, ← hG] at hgap
  rw [← hF, ← hL] at hFL
  have hG4 : G ≤ 4096 := by omega
  obtain ⟨A, hA⟩ : ∃ A, A = num * N := ⟨_, rfl⟩
  obtain ⟨B, hB⟩ : ∃ B, B = G * den := ⟨_, rfl⟩
  rw [← hA, ← hB] at hgap
  have hA2 : A ≤ 2147483648 * 4096 := by rw [hA]; exact Nat.mul_le_mul (by omega) (by omega)
  have HT1 := Lib.hid (fun u => ref01_times u num N A hA.symm (by omega) (by omega))
  have HT2 := Lib.hid (fun u => ref01_times u G den B hB.symm (by omega) (by omega))
  have hAm : A % 18446744073709551616 = A := Nat.mod_eq_of_lt (by omega)
  have hAd : A / 18446744073709551616 = 0 := Nat.div_eq_of_lt (by omega)
  have hBm : B % 18446744073709551616 = B := Nat.mod_eq_of_lt (by omega)
  have hBd : B / 18446744073709551616 = 0 := Nat.div_eq_of_lt (by omega)
  have HLE := Lib.hid (fun u => ref01_less u (A / 18446744073709551616) (A % 18446744073709551616) (B / 18446744073709551616) (B % 18446744073709551616) false (by rw [hAd, hBd, if_pos rfl, hAm, hBm]; exact decide_eq_false (by omega)))
  clear hAm hAd hBm hBd
  generalize A / 18446744073709551616 = ah at *
  generalize A % 18446744073709551616 = al at *
  generalize B / 18446744073709551616 = bh at *
  generalize B % 18446744073709551616 = bl at *
  have HN := Lib.hid hn
  have HR := Lib.hid hr
  have HF := Lib.hid hF
  have HG := Lib.hid hG
  have HS := Lib.hid (show sumS l ≤ 4096 from hs)
  have HFB := Lib.hid (show F ≤ 4097 ∧ L ≤ 4096 from by omega)
  have HFL := Lib.hid hFL
  obtain ⟨b0, hb0⟩ : ∃ z, z = w.heap.size := ⟨_, rfl⟩
  clear hn hr hF hG hs hx hN hL hgap hA hB hA2 hg g1 g2 g3 hLN hG4 hFL
  go_enter Try.func24, Try.ntmps24
  go_wp2_with fail
  rw [← hb0] at hB0 ⊢
  clear hb0
  have HB0 := Lib.hid hB0
  have HC0 := Lib.hid hC0
  clear hB0 hC0
  generalize w.alloc (.cells #[.int .u64 num, .int .u64 den] 25) = w0 at *
  refine (hU.out _ HC0.out).mono ?_
  rintro e w1 ⟨rfl, hc1⟩
  have HC1 := Lib.hid (HC0.out.trans hc1)
  have HB1 := Lib.hid (HB0.out.chg hc1 (by simp))
  clear hc1 hU
  go_wp2_with fail
  refine (hV.out _ HC1.out).mono ?_
  rintro e w2 ⟨rfl, hc2⟩
  have HC2 := Lib.hid (HC1.out.trans hc2)
  have HB2 := Lib.hid (HB1.out.chg hc2 (by simp))
  clear hc2 hV
  go_wp2
  go_loopw [11, 22] (fun s i wx => ∃ (k f : Nat), k ≤ n ∧ i = .int .i64 (k : Nat) ∧ s = .int .u64 (f : Nat) ∧ f ≤ 4097 ∧ Hid (f = upS (x - 1) (l.take k) + 1) ∧ Chg [] w2 wx) (fun _ i _ => n - (intOf i).toNat)
  case atStart => exact ⟨0, 1, Nat.zero_le _, rfl, rfl, by omega, Lib.hid rfl, Chg.refl _ _⟩
  case round =>
    obtain ⟨k, f, hk, rfl, rfl, hf, HFK, hch⟩ := hrel
    by_cases hlt : k < n
    · have hkl : k < l.length := by have := HN.out; omega
      obtain ⟨b, o, rfl, hc⟩ := ((HR.out.chg HC2.out (by simp)).chg hch (by simp)).addr (by omega)
      obtain ⟨c0, c1⟩ := vl_at (l := l) (fun j hj => hc j (by rw [HN.out]; exact hj)) hkl
      have HT := Lib.hid (upS_take (x - 1) l k hkl)
      have hb5 : upS (x - 1) (l.take (k + 1)) ≤ 4096 := Nat.le_trans (upS_le _ _) (Nat.le_trans (sumS_take_le l (k + 1)) HS.out)
      generalize l[k] = v at *
      clear hc
      by_cases hv : v.x < x
      · have d : decide (v.x < x) = true := decide_eq_true hv
        have hf2 := HT.out
        rw [if_pos (by omega)] at hf2
        have HF2 := Lib.hid (show f + v.n = upS (x - 1) (l.take (k + 1)) + 1 from by rw [HFK.out, hf2]; omega)
        have hf3 : f + v.n ≤ 4097 := by have := HF2.out; omega
        clear hf2 hb5
        go_wp2
        exact ⟨⟨k + 1, f + v.n, by omega, by go_num, by go_num, hf3, HF2, hch.alloc _⟩, by simp [intOf]; omega⟩
      · have d : decide (v.x < x) = false := decide_eq_false hv
        have hf2 := HT.out
        rw [if_neg (by omega)] at hf2
        have HF2 := Lib.hid (show f = upS (x - 1) (l.take (k + 1)) + 1 from by rw [HFK.out, hf2])
        clear hf2 hb5
        go_wp2
        exact ⟨⟨k + 1, f, by omega, by go_num, rfl, hf, HF2, hch.alloc _⟩, by simp [intOf]; omega⟩
    · obtain rfl : k = n := by omega
      rw [List.take_of_length_le (by have := HN.out; omega)] at HFK
      obtain rfl : f = F := by rw [HFK.out, HF.out]
      have HCH := Lib.hid hch
      have HB3 := Lib.hid (HB2.out.chg hch (by simp))
      obtain ⟨hb1, hb2⟩ := HFB.out
      have d0 : decide ((f : Int) ≤ (L : Int)) = true := decide_eq_true (by have := HFL.out; omega)
      have d0' : decide (f ≤ L) = true := decide_eq_true HFL.out
      clear hch hf
      have hS0 : wr.drew.cell? ⟨b0, 0, none⟩ = some (.int .u64 (num : Nat)) ∧ wr.drew.cell? ⟨b0, 1, none⟩ = some (.int .u64 (den : Nat)) := ⟨HB3.out.cell 0, HB3.out.cell 1⟩
      have HS0 := Lib.hid hS0
      clear hS0
      obtain ⟨G1, hG1⟩ : ∃ z, z = f - t := ⟨_, rfl⟩
      have HG1 := Lib.hid hG1
      clear hG1
      go_upto_if 37 with (fail)
      go_cut [14] (fun a wx => a = .int .u64 (G1 : Nat) ∧ wx = wr)
      case first =>
        by_cases h1 : t < f
        · have e1 : decide ((t : Int) < (f : Int)) = true := decide_eq_true (by omega)
          have e1' : decide (t < f) = true := decide_eq_true h1
          have e3 : IntKind.u64.wrap ((f : Int) - (t : Int)) = (G1 : Int) := by rw [IntKind.wrap_u64, HG1.out]; omega
          go_wp2_with fail
          go_meet
          exact ⟨rfl, rfl⟩
        · have e1 : decide ((t : Int) < (f : Int)) = false := decide_eq_false (by omega)
          have e1' : decide (t < f) = false := decide_eq_false h1
          go_wp2_with fail
          go_meet
          exact ⟨by rw [HG1.out]; congr 1; omega, rfl⟩
      case rest =>
        obtain ⟨rfl, rfl⟩ := hcut
        go_upto_if 43 with (fail)
        go_cut [14] (fun a wx => a = .int .u64 (G : Nat) ∧ wx = wc)
        case first =>
          by_cases h1 : L < t
          · have e1 : decide ((L : Int) < (t : Int)) = true := decide_eq_true (by omega)
            have e1' : decide (L < t) = true := decide_eq_true h1
            have e3 : IntKind.u64.wrap ((t : Int) - (L : Int)) = (G : Int) := by rw [IntKind.wrap_u64, HG.out]; have := HFL.out; omega
            go_wp2_with fail
            go_meet
            exact ⟨rfl, rfl⟩
          · have e1 : decide ((L : Int) < (t : Int)) = false := decide_eq_false (by omega)
            have e1' : decide (L < t) = false := decide_eq_false h1
            go_wp2_with fail
            go_meet
            exact ⟨by rw [HG1.out, HG.out]; congr 1; omega, rfl⟩
        case rest =>
          obtain ⟨rfl, rfl⟩ := hcut
          have hS0 := HS0.out
          have hSS : Chg [] wc wc.drew ∧ wc.drew.cell? ⟨b0, 0, none⟩ = some (.int .u64 (num : Nat)) ∧ wc.drew.cell? ⟨b0, 1, none⟩ = some (.int .u64 (den : Nat)) := ⟨(Chg.refl [] _).drew, hS0.1, hS0.2⟩
          go_upto_region 15 with (fail)
          refine startG (S := fun wx => Chg [] wc wx ∧ wx.cell? ⟨b0, 0, none⟩ = some (.int .u64 (num : Nat)) ∧ wx.cell? ⟨b0, 1, none⟩ = some (.int .u64 (den : Nat))) (st := 15) (by kernel_rfl) hSS (fun hHeld => ?_)
          refine takeP (i := 0) (v := ?vz0) rfl (by kernel_rfl) (by kernel_rfl) (by kernel_rfl) (by decide) (fun _ _ _ h => h) (Or.inl ⟨by rfl, ?yz0⟩) hSS ?rz0
          case yz0 => (intro w _; go_simp; first | done | with_reducible rfl)
          try simp only [Act.put, List.setIfInBounds_toArray, List.set_cons_zero, List.set_cons_succ]
          refine takeP (i := 1) (v := ?vz1) rfl (by kernel_rfl) (by kernel_rfl) (by kernel_rfl) (by decide) (fun _ _ _ h => h) (Or.inl ⟨by rfl, ?yz1⟩) hSS ?rz1
          case yz1 => (intro w _; go_simp; first | done | with_reducible rfl)
          try simp only [Act.put, List.setIfInBounds_toArray, List.set_cons_zero, List.set_cons_succ]
          refine takeP (i := 2) (v := ?vz2) rfl (by kernel_rfl) (by kernel_rfl) (by kernel_rfl) (by decide) (fun _ _ _ h => h) (Or.inl ⟨by rfl, ?yz2⟩) hSS ?rz2
          case yz2 => (intro w _; go_simp; first | done | with_reducible rfl)
          try simp only [Act.put, List.setIfInBounds_toArray, List.set_cons_zero, List.set_cons_succ]
          refine takeP (i := 3) (v := ?vz3) rfl (by kernel_rfl) (by kernel_rfl) (by kernel_rfl) (by decide) (fun _ _ _ h => h) (Or.inl ⟨by rfl, ?yz3⟩) hSS ?rz3
          case yz3 => (intro w _; go_simp; first | done | with_reducible rfl)
          try simp only [Act.put, List.setIfInBounds_toArray, List.set_cons_zero, List.set_cons_succ]
          refine takeP (i := 4) (v := ?vz4) rfl (by kernel_rfl) (by kernel_rfl) (by kernel_rfl) (by decide) (fun _ _ _ h => h) (Or.inl ⟨by rfl, ?yz4⟩) hSS ?rz4
          case yz4 => (intro w _; go_simp; first | done | with_reducible rfl)
          try simp only [Act.put, List.setIfInBounds_toArray, List.set_cons_zero, List.set_cons_succ]
          refine takeG (i := 5) (v := ?vz5) rfl (by kernel_rfl) (by kernel_rfl) (by kernel_rfl) (by decide) (by kernel_rfl) (by kernel_rfl) (fun _ _ _ h => h) (Or.inl ⟨by rfl, ?yz5⟩) hSS ?rz5
          case yz5 => (intro w hSw; (try dsimp only at hSw); go_simp; first | done | with_reducible rfl)
          try simp only [Act.put, List.setIfInBounds_toArray, List.set_cons_zero, List.set_cons_succ]
          refine takeP (i := 6) (v := ?vz6) rfl (by kernel_rfl) (by kernel_rfl) (by kernel_rfl) (by decide) (fun _ _ _ h => h) (Or.inl ⟨by rfl, ?yz6⟩) hSS ?rz6
          case yz6 => (intro w _; go_simp; first | done | with_reducible rfl)
          try simp only [Act.put, List.setIfInBounds_toArray, List.set_cons_zero, List.set_cons_succ]
          refine takeP (i := 8) (v := ?vz8) rfl (by kernel_rfl) (by kernel_rfl) (by kernel_rfl) (by decide) (fun _ _ _ h => h) (Or.inl ⟨by rfl, ?yz8⟩) hSS ?rz8
          case yz8 => (intro w _; go_simp; first | done | with_reducible rfl)
          try simp only [Act.put, List.setIfInBounds_toArray, List.set_cons_zero, List.set_cons_succ]
          refine takeP (i := 9) (v := ?vz9) rfl (by kernel_rfl) (by kernel_rfl) (by kernel_rfl) (by decide) (fun _ _ _ h => h) (Or.inl ⟨by rfl, ?yz9⟩) hSS ?rz9
          case yz9 => (intro w _; go_simp; first | done | with_reducible rfl)
          try simp only [Act.put, List.setIfInBounds_toArray, List.set_cons_zero, List.set_cons_succ]
          refine takeG (i := 10) (v := ?vz10) rfl (by kernel_rfl) (by kernel_rfl) (by kernel_rfl) (by decide) (by kernel_rfl) (by kernel_rfl) (fun _ _ _ h => h) (Or.inl ⟨by rfl, ?yz10⟩) hSS ?rz10
          case yz10 => (intro w hSw; (try dsimp only at hSw); go_simp; first | done | with_reducible rfl)
          try simp only [Act.put, List.setIfInBounds_toArray, List.set_cons_zero, List.set_cons_succ]
          refine readyG (rs := [7]) (by kernel_rfl) (by simp) (consG rfl (fun K hK => ?_) nilG)
          refine step_callsG (by rfl) 13 _ _ rfl enters_ntimes _ #[.int .u64 (num : Nat), .int .u64 (N : Nat)] (by simp [Act.eval]) (HT1.out _) ?_; rintro e wz1 ⟨rfl, hwz1⟩; refine ⟨_, rfl, ?_⟩
          have hS1 : Chg [] wc wz1 ∧ wz1.cell? ⟨b0, 0, none⟩ = some (.int .u64 (num : Nat)) ∧ wz1.cell? ⟨b0, 1, none⟩ = some (.int .u64 (den : Nat)) := ⟨hSS.1.trans hwz1, hwz1.cell hSS.2.1 (by simp), hwz1.cell hSS.2.2 (by simp)⟩
          clear hwz1
          refine hK.out _ _ (fun _ _ => hS1) (fun hHeld => ?_)
          clear hK K hHeld
          try simp only [Act.put, List.setIfInBounds_toArray, List.set_cons_zero, List.set_cons_succ]
          refine readyG (rs := [11]) (by kernel_rfl) (by simp) (consG rfl (fun K hK => ?_) nilG)
          refine step_callsG (by rfl) 13 _ _ rfl enters_ntimes _ #[.int .u64 (G : Nat), .int .u64 (den : Nat)] (by simp [Act.eval]) (HT2.out _) ?_; rintro e wz2 ⟨rfl, hwz2⟩; refine ⟨_, rfl, ?_⟩
          have hS2 : Chg [] wc wz2 ∧ wz2.cell? ⟨b0, 0, none⟩ = some (.int .u64 (num : Nat)) ∧ wz2.cell? ⟨b0, 1, none⟩ = some (.int .u64 (den : Nat)) := ⟨hS1.1.trans hwz2, hwz2.cell hS1.2.1 (by simp), hwz2.cell hS1.2.2 (by simp)⟩
          clear hwz2
          refine hK.out _ _ (fun _ _ => hS2) (fun hHeld => ?_)
          clear hK K hHeld
          try simp only [Act.put, List.setIfInBounds_toArray, List.set_cons_zero, List.set_cons_succ]
          refine readyG (rs := [12]) (by kernel_rfl) (by simp) (consG rfl (fun K hK => ?_) nilG)
          refine step_callsG (by rfl) 44 _ _ rfl enters_nless _ #[.agg #[.int .u64 (ah : Nat), .int .u64 (al : Nat)], .agg #[.int .u64 (bh : Nat), .int .u64 (bl : Nat)]] (by simp [Act.eval]) (HLE.out _) ?_; rintro e wz3 ⟨rfl, hwz3⟩; refine ⟨_, rfl, ?_⟩
          have hS3 : Chg [] wc wz3 ∧ wz3.cell? ⟨b0, 0, none⟩ = some (.int .u64 (num : Nat)) ∧ wz3.cell? ⟨b0, 1, none⟩ = some (.int .u64 (den : Nat)) := ⟨hS2.1.trans hwz3, hwz3.cell hS2.2.1 (by simp), hwz3.cell hS2.2.2 (by simp)⟩
          clear hwz3
          refine hK.out _ _ (fun _ _ => hS3) (fun hHeld => ?_)
          clear hK K hHeld
          try simp only [Act.put, List.setIfInBounds_toArray, List.set_cons_zero, List.set_cons_succ]
          refine takeP (i := 13) (v := ?vz13) rfl (by kernel_rfl) (by kernel_rfl) (by kernel_rfl) (by decide) (fun _ _ _ h => h) (Or.inl ⟨by rfl, ?yz13⟩) hS3 ?rz13
          case yz13 => (intro w _; go_simp; first | done | with_reducible rfl)
          try simp only [Act.put, List.setIfInBounds_toArray, List.set_cons_zero, List.set_cons_succ]
          refine takeP (i := 14) (v := ?vz14) rfl (by kernel_rfl) (by kernel_rfl) (by kernel_rfl) (by decide) (fun _ _ _ h => h) (Or.inl ⟨by rfl, ?yz14⟩) hS3 ?rz14
          case yz14 => (intro w _; go_simp; first | done | with_reducible rfl)
          try simp only [Act.put, List.setIfInBounds_toArray, List.set_cons_zero, List.set_cons_succ]
          refine readyG (rs := [15]) (by kernel_rfl) (by simp) (consG rfl (fun K hK => ?_) nilG)
          go_simp
          refine hK.out _ _ (fun h => absurd rfl h) (fun hHeld => ?_)
          clear hK K hHeld
          try simp only [Act.put, List.setIfInBounds_toArray, List.set_cons_zero, List.set_cons_succ]
          refine doneG (by kernel_rfl) ?_ _
          have HE := Lib.hid ((HC2.out.trans HCH.out).trans hS3.1)
          go_wp2
          go_ret
          exact ⟨rfl, HE.out⟩
end Go.Proofs.Ytkcldhimjnehdaa

namespace Go.Proofs.Ytkcldhimjnehdaa

namespace GkD
theorem flush_vals (D : GkD) : D.flush.vals.length = D.total := by
  obtain ⟨-, -, h3, h4⟩ := D.flush_same
  rw [← h3, GkD.total, h4]
  rfl
theorem flush_up (D : GkD) (x : Int) : upC D.flush.vals x = upC D.all x := by
  have h := D.flush_all x
  rw [GkD.all, D.flush_same.2.2.2, List.append_nil] at h
  exact h
theorem rank_is {D : GkD} (hok : D.ok) (x : Int) : (rankF 0 D.flush.row x).1 ≤ upC D.all x ∧ upC D.all x ≤ (rankF 0 D.flush.row x).2 := by
  have ho := flush_ok0 hok
  rw [← flush_up]
  refine rank_ok x D.flush.row 0 ho.placed.all (Nat.zero_le _) (fun h => ?_) (fun s hs => ⟨ho.placed.most s hs, ?_⟩)
  · have h2 := ho.placed.none (by rw [h]; rfl)
    rw [h2]
    exact Nat.le_refl _
  · have := totS_spF0 D.flush.row
    rw [totS, hs] at this
    rw [← ho.fine.total, ← this]
theorem near_is {D : GkD} (hok : D.ok) {t : Nat} (h1 : 1 ≤ t) (h2 : t ≤ D.total) :
    upC D.all (foundX t D.flush.row - 1) + 1 ≤ upC D.all (foundX t D.flush.row) ∧
      max (upC D.all (foundX t D.flush.row - 1) + 1 - t) (t - upC D.all (foundX t D.flush.row)) * D.den ≤ D.num * D.total := by
  have ho := flush_ok0 hok
  have hv := flush_vals D
  have hu := flush_up D
  obtain ⟨e1, e2, -, -⟩ := D.flush_same
  have ht := ho.fine.total
  have hf := ho.fine.first
  have hp := ho.placed
  have hg := ho.tight
  rw [e1, e2, hv] at hg
  simp only [← hu]
  generalize D.flush.vals = A at *
  generalize D.flush.row = R at *
  cases R with
  | nil =>
    have : tot ([] : List Tp) = 0 := rfl
    omega
  | cons p row =>
    have h3 := find_close (t := t) hp (hf p rfl) hg h1 (by omega)
    dsimp only at h3
    rw [← foundX_cons] at h3
    obtain ⟨a1, a2, a3⟩ := h3
    rw [unC_up1] at a1 a3
    refine ⟨a3, lim_half ?_⟩
    omega
end GkD
theorem valsG_up (num den : Nat) (l : List Vl) (x : Int) : upC (valsG num den l).all x = upS x l := by
  have h := GkD.vals_all x l (GkD.new num den)
  have h0 : upC (GkD.new num den).all x = 0 := rfl
  rw [h0, Nat.zero_add] at h
  exact h
end Go.Proofs.Ytkcldhimjnehdaa
