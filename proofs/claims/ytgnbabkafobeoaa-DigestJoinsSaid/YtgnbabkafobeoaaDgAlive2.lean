/-
  The walk of the law's alive (layer 17). Conditions: the form's own reach.
-/
import Derived.Test.YtgnbabkafobeoaaDgAlive
namespace Go.Proofs.Ytgnbabkafobeoaa
open Go.RowKit

set_option maxRecDepth 100000 in
set_option maxHeartbeats 4000000 in
theorem quantile13 (w : World) (p s : Nat) (rv : Value) (a b : Int) (h : Dg w p s rv (D13 a b)) :
    Calls Try.prog 16 #[.pointer (some ⟨p, 0, none⟩), .agg #[.int .u64 1, .int .u64 2]] w fun e w' => e = .returned (.tuple #[.int .i64 5, .int .i64 0]) ∧ Chg [] w w' := by
  have hb := Blk.alloc_new w #[.int .u64 1, .int .u64 2] 27
  have hc := (Chg.refl [] w).alloc (.cells #[.int .u64 1, .int .u64 2] 27)
  obtain ⟨bx, hbx⟩ : ∃ z, z = w.heap.size := ⟨_, rfl⟩
  rw [← hbx] at hb
  have HB := Lib.hid hb
  have HC := Lib.hid hc
  have HH := Lib.hid h
  have HTO := Lib.hid (fun u (hu : Chg [] w u) => show Calls Try.prog 15 #[.pointer (some ⟨p, 0, none⟩)] u fun e w' => e = .returned (.int .u64 2) ∧ u = w' from dg_total u p s rv (D13 a b) (h.chg hu (by simp)))
  have HPL := Lib.hid (fun u => show Calls Try.prog 38 #[.agg #[.int .u64 1, .int .u64 2], .int .u64 2] u fun e w' => e = .returned (.tuple #[.int .u64 1, .int .i64 0]) ∧ Chg [] u w' from share_place u 1 2 2 (by omega) (by omega) (by omega) 1 0 (by decide) (by decide))
  have HTD := Lib.hid (fun u (hu : Chg [] w u) => told1 u p s rv a b (h.chg hu (by simp)))
  have HCE := Lib.hid (fun u (hu : Chg [] w u) => show u.cell? ⟨p, 2, none⟩ = some (.int .i64 3) from (h.chg hu (by simp)).cells.2.2.1)
  clear h hb hc
  go_enter Try.func16, Try.ntmps16
  go_upto_region 3 with (fail)
  rw [← hbx]
  clear hbx
  generalize w.alloc (.cells #[.int .u64 1, .int .u64 2] 27) = w0 at *
  have HS := Lib.hid (fun wx (hu : Chg [] w0 wx) => show Chg [] w0 wx ∧ wx.cell? ⟨bx, 0, none⟩ = some (.int .u64 1) ∧ wx.cell? ⟨bx, 1, none⟩ = some (.int .u64 2) from ⟨hu, (HB.out.chg hu (by simp)).cell 0, (HB.out.chg hu (by simp)).cell 1⟩)
  have hSS := HS.out w0.drew (Chg.refl [] w0).drew
  refine startG (S := fun wx => Chg [] w0 wx ∧ wx.cell? ⟨bx, 0, none⟩ = some (.int .u64 1) ∧ wx.cell? ⟨bx, 1, none⟩ = some (.int .u64 2)) (st := 8) (by kernel_rfl) hSS (fun hHeld => ?_)
  refine takeG (i := 0) (v := ?vz0) rfl (by kernel_rfl) (by kernel_rfl) (by kernel_rfl) (by decide) (by kernel_rfl) (by kernel_rfl) (fun _ _ _ h => h) (Or.inl ⟨by rfl, ?yz0⟩) hSS ?rz0
  case yz0 => (intro w hSw; (try dsimp only at hSw); go_simp; first | done | with_reducible rfl)
  try simp only [Act.put, List.setIfInBounds_toArray, List.set_cons_zero, List.set_cons_succ]
  refine takeP (i := 1) (v := ?vz1) rfl (by kernel_rfl) (by kernel_rfl) (by kernel_rfl) (by decide) (fun _ _ _ h => h) (Or.inl ⟨by rfl, ?yz1⟩) hSS ?rz1
  case yz1 => (intro w _; go_simp; first | done | with_reducible rfl)
  try simp only [Act.put, List.setIfInBounds_toArray, List.set_cons_zero, List.set_cons_succ]
  refine readyG (rs := [2]) (by kernel_rfl) (by simp) (consG rfl (fun K hK => ?_) nilG)
  refine step_calls rfl 15 _ _ rfl enters_qtotal _ #[.pointer (some ⟨p, 0, none⟩)] (by simp [Act.eval]) (HTO.out _ (HC.out.trans hSS.1)) ?_; rintro e wq ⟨rfl, rfl⟩; refine ⟨_, rfl, ?_⟩
  refine hK.out _ _ (fun _ _ => hSS) (fun hHeld => ?_)
  clear hK K hHeld
  try simp only [Act.put, List.setIfInBounds_toArray, List.set_cons_zero, List.set_cons_succ]
  refine readyG (rs := [3]) (by kernel_rfl) (by simp) (consG rfl (fun K hK => ?_) nilG)
  refine step_calls rfl 38 _ _ rfl enters_qplace _ #[.agg #[.int .u64 1, .int .u64 2], .int .u64 2] (by simp [Act.eval]) (HPL.out _) ?_; rintro e w2 ⟨rfl, hcq⟩; refine ⟨_, rfl, ?_⟩
  have hS2 := HS.out _ (hSS.1.trans hcq)
  clear hcq
  refine hK.out _ _ (fun _ _ => hS2) (fun hHeld => ?_)
  clear hK K hHeld
  try simp only [Act.put, List.setIfInBounds_toArray, List.set_cons_zero, List.set_cons_succ]
  refine takeP (i := 4) (v := ?vz4) rfl (by kernel_rfl) (by kernel_rfl) (by kernel_rfl) (by decide) (fun _ _ _ h => h) (Or.inl ⟨by rfl, ?yz4⟩) hS2 ?rz4
  case yz4 => (intro w _; go_simp; first | done | with_reducible rfl)
  try simp only [Act.put, List.setIfInBounds_toArray, List.set_cons_zero, List.set_cons_succ]
  refine takeP (i := 5) (v := ?vz5) rfl (by kernel_rfl) (by kernel_rfl) (by kernel_rfl) (by decide) (fun _ _ _ h => h) (Or.inl ⟨by rfl, ?yz5⟩) hS2 ?rz5
  case yz5 => (intro w _; go_simp; first | done | with_reducible rfl)
  try simp only [Act.put, List.setIfInBounds_toArray, List.set_cons_zero, List.set_cons_succ]
  refine takeP (i := 6) (v := ?vz6) rfl (by kernel_rfl) (by kernel_rfl) (by kernel_rfl) (by decide) (fun _ _ _ h => h) (Or.inl ⟨by rfl, ?yz6⟩) hS2 ?rz6
  case yz6 => (intro w _; go_simp; first | done | with_reducible rfl)
  try simp only [Act.put, List.setIfInBounds_toArray, List.set_cons_zero, List.set_cons_succ]
  refine takeP (i := 7) (v := ?vz7) rfl (by kernel_rfl) (by kernel_rfl) (by kernel_rfl) (by decide) (fun _ _ _ h => h) (Or.inl ⟨by rfl, ?yz7⟩) hS2 ?rz7
  case yz7 => (intro w _; go_simp; first | done | with_reducible rfl)
  try simp only [Act.put, List.setIfInBounds_toArray, List.set_cons_zero, List.set_cons_succ]
  refine readyG (rs := [8]) (by kernel_rfl) (by simp) (consG rfl (fun K hK => ?_) nilG)
  go_simp
  refine hK.out _ _ (fun h => absurd rfl h) (fun hHeld => ?_)
  clear hK K hHeld
  try simp only [Act.put, List.setIfInBounds_toArray, List.set_cons_zero, List.set_cons_succ]
  refine doneG (by kernel_rfl) ?_ _
  have HC2 := Lib.hid (HC.out.trans hS2.1)
  clear hSS hS2 HS HB HTO HPL
  go_wp2_with fail
  refine (HTD.out _ HC2.out).mono ?_
  rintro e w3 ⟨a3, c3, rfl, hr3, hc3⟩
  have HR3 := Lib.hid hr3
  have HC3 := Lib.hid (HC2.out.trans hc3)
  clear hr3 hc3 HTD
  go_wp2
  go_loopw [8, 9, 27] (fun sm x i wx => ∃ k : Nat, k ≤ 1 ∧ i = .int .i64 (k : Nat) ∧ sm = .int .u64 (if k = 0 then 0 else 2) ∧ x = .int .i64 (if k = 0 then 0 else 5) ∧ Chg [] w3 wx) (fun _ _ i _ => 1 - (intOf i).toNat)
  case atStart => exact ⟨0, by omega, rfl, rfl, rfl, Chg.refl _ _⟩
  case round =>
    obtain ⟨k, hk, rfl, rfl, rfl, hch⟩ := hrel
    by_cases h0 : k = 0
    · subst h0
      obtain ⟨b3, o3, rfl, hcs⟩ := (HR3.out.chg hch (by simp)).addr (by omega)
      obtain ⟨d0, d1⟩ := pr_at (l := [⟨13, 2⟩]) hcs (k := 0) (by simp)
      simp only [Nat.zero_mul, Nat.add_zero, List.getElem_cons_zero] at d0 d1
      have HCW := Lib.hid ((HC3.out.trans hch).alloc (.cells #[.int .i64 13, .int .u64 2] 53))
      have q2 := HCE.out _ HCW.out
      have hbx := Blk.alloc_new wr #[.int .i64 13, .int .u64 2] 53
      have e0 := hbx.cell 0
      have e1 := hbx.cell 1
      have hch2 := hch.alloc (.cells #[.int .i64 13, .int .u64 2] 53)
      simp only [List.getElem?_toArray, List.getElem?_cons_zero, List.getElem?_cons_succ] at e0 e1
      clear hcs
      go_wp2_with fail
      go_region_with (first | (go_at_call 35; refine (tree_range13 _).mono ?_; rintro e w5 ⟨rfl, hc5⟩))
      all_goals
        have hc6 : Chg [] w3 w5 := hch2.trans (Chg.trans (by with_reducible (repeat (first | exact Chg.refl _ _ | apply Chg.drew | apply Chg.drewN))) hc5)
        go_wp2_with fail
        exact ⟨⟨1, by omega, rfl, rfl, rfl, hc6⟩, by simp [intOf]⟩
    · obtain rfl : k = 1 := by omega
      go_wp2_with fail
      go_ret2
      exact ⟨rfl, HC3.out.trans hch⟩
theorem put13 : (DgD.new 3 1).put 5 2 = D13 5 5 := by
  have e : refAdd ([] : List Pr) (((2 ^ 3 : Nat) : Int) + 5) 2 = [⟨13, 2⟩] := rfl
  rw [DgD.put, DgD.ends]
  rw [if_pos (show totP (DgD.new 3 1).row = 0 from rfl)]
  show (⟨3, 1, tidyR 1 (refAdd [] (((2 ^ 3 : Nat) : Int) + 5) 2), 5, 5⟩ : DgD) = D13 5 5
  rw [e, tidyR, if_neg (by decide)]
  rfl
theorem new_ok {d f : Nat} (h1 : 1 ≤ d) (h2 : d ≤ 24) (h3 : 1 ≤ f) (h4 : f ≤ 64) : (DgD.new d f).ok :=
  ⟨h1, h2, h3, h4, ⟨fun j k _ hk => by simp [DgD.new] at hk, by simp [DgD.new], by simp [DgD.new]⟩, by simp [DgD.new, totP], by simp [DgD.new]⟩
set_option maxRecDepth 100000 in
set_option maxHeartbeats 4000000 in
theorem law17_alive (w : World) : Calls Try.prog 9 #[] w fun e w' => e = .returned (.bool true) ∧ Chg [] w w' := by
  have HN := Lib.hid (fun u => dg_new u 3 1)
  go_enter Try.func9, Try.ntmps9
  go_wp2_with fail
  refine (HN.out _).mono ?_
  rintro e w1 (⟨hbad, -, -⟩ | ⟨-, p, s, rfl, hd1, hc1, hf1⟩)
  · exact absurd hbad (by decide)
  have HPU := Lib.hid (dg_put w1 p s _ (DgD.new 3 1) hd1 (new_ok (by omega) (by omega) (by omega) (by omega)) 5 2 (by omega) (by decide) (by omega) (by decide) (by decide))
  rw [put13] at HPU
  have HC1 := Lib.hid hc1
  have HF1 := Lib.hid hf1
  clear hd1 hc1 hf1 HN
  go_wp2_with fail
  refine HPU.out.mono ?_
  rintro e w2 ⟨rfl, s2, rv2, hd2, hm2⟩
  have HD2 := Lib.hid hd2
  have HC2 := Lib.hid (HC1.out.trans' hm2.chg (fun b hb => .inr (HF1.out b hb)))
  clear hd2 hm2 HPU
  go_wp2_with fail
  refine (quantile13 _ p s2 rv2 5 5 HD2.out).mono ?_
  rintro e w3 ⟨rfl, hc3⟩
  have HD3 := Lib.hid (HD2.out.chg hc3 (by simp))
  have HC3 := Lib.hid (HC2.out.trans hc3)
  have HTO := Lib.hid (show Calls Try.prog 15 #[.pointer (some ⟨p, 0, none⟩)] w3 fun e w' => e = .returned (.int .u64 2) ∧ w3 = w' from dg_total w3 p s2 rv2 (D13 5 5) HD3.out)
  have HMO := Lib.hid (show Calls Try.prog 31 #[.pointer (some ⟨p, 0, none⟩)] w3 fun e w' => e = .returned (.int .i64 4) ∧ w3 = w' from dg_most w3 p s2 rv2 (D13 5 5) HD3.out (by decide))
  clear hc3
  go_wp2_with fail
  refine HTO.out.mono ?_
  rintro e w4 ⟨rfl, rfl⟩
  go_wp2_with fail
  refine HMO.out.mono ?_
  rintro e w4 ⟨rfl, rfl⟩
  go_wp2_with fail
  go_ret
  exact ⟨rfl, HC3.out⟩
end Go.Proofs.Ytgnbabkafobeoaa
