/-
  The walks of Level, Range, Before of a tree (layer 16), which lay new blocks at most. Conditions: the form's own reach.
-/
import Derived.Test.YtgnbabkafobeoaaPlainRng
import Derived.Test.YtgnbabkafobeoaaStepN
import Derived.Test.YtgnbabkafobeoaaDgAlive
import Derived.Sort.Grow
namespace Go.Proofs.Ytgnbabkafobeoaa
open Go.RowKit Go.Sort

/-- Behind w there are new blocks and draws, at most. -/
structure Gr (w w' : World) : Prop where
  chg : Chg [] w w'
  dr : w.drawn ≤ w'.drawn
namespace Gr
variable {w w1 w2 : World}
theorem refl (w : World) : Gr w w := ⟨Chg.refl _ _, Nat.le_refl _⟩
theorem trans (h : Gr w w1) (k : Gr w1 w2) : Gr w w2 := ⟨h.chg.trans k.chg, Nat.le_trans h.dr k.dr⟩
theorem alloc (h : Gr w w1) (o : Obj) : Gr w (w1.alloc o) := ⟨h.chg.alloc o, by have := h.dr; exact this⟩
theorem drew (h : Gr w w1) : Gr w w1.drew := ⟨h.chg.drew, Nat.le_succ_of_le h.dr⟩
theorem drewN (h : Gr w w1) (n : Nat) : Gr w (w1.drewN n) := ⟨h.chg.drewN n, Nat.le_trans h.dr (Nat.le_add_right _ _)⟩
theorem grown (h : Gr w w1) : ∃ q os', w1 = grow (w.drewN q) os' := by
  refine ⟨w1.drawn - w.drawn, w1.heap.extract w.heap.size w1.heap.size, ?_⟩
  have h1 := h.chg.size
  have hh : w.heap ++ w1.heap.extract w.heap.size w1.heap.size = w1.heap := by
    apply Array.ext_getElem?
    intro i
    rw [Array.getElem?_append]
    split
    · next hi => exact (h.chg.block i hi (by simp)).symm
    · next hi =>
      rw [Array.getElem?_extract]
      split
      · next hj => congr 1; omega
      · next hj => rw [Array.getElem?_eq_none (by omega)]
  have hd : w.drawn + (w1.drawn - w.drawn) = w1.drawn := by have := h.dr; omega
  obtain ⟨hp, tp, dr, os, out⟩ := w1
  have e1 := h.chg.os
  have e2 := h.chg.tape
  have e3 := h.chg.output
  unfold grow World.drewN
  simp only at *
  rw [hh, hd, e1, e2, e3]
end Gr
theorem bits_lenG (w : World) (x : Nat) (hx : x < 18446744073709551616) (n : Nat) (hn : Lib.bitLen x = n) : Calls Try.prog 70 #[.int .u64 (x : Nat)] w fun e w' => e = .returned (.int .i64 (n : Nat)) ∧ w = w' := by
  have HL := Lib.hid (bits_len64 (x : Int) w (by omega) (by omega))
  rw [Int.toNat_natCast, hn] at HL
  clear hn
  go_enter Try.func70, Try.ntmps70
  go_wp2_with fail
  refine HL.out.mono ?_
  rintro e w' ⟨rfl, rfl⟩
  go_wp2_with fail
  go_ret
  exact ⟨rfl, rfl⟩
set_option maxRecDepth 100000 in
theorem treeG_leaves (w : World) (d P : Nat) (h1 : 1 ≤ d) (h2 : d ≤ 24) (hP : P = 2 ^ d) :
    Calls Try.prog 50 #[.agg #[.int .i64 (d : Nat)]] w fun e w' => e = .returned (.int .i64 (P : Nat)) ∧ Gr w w' := by
  have hc := (Gr.refl w).alloc (.cells #[.int .i64 (d : Nat)] 76)
  have hb := Blk.alloc_new w #[.int .i64 (d : Nat)] 76
  have b0 := hb.cell 0
  subst hP
  rcases depths h1 h2 with rfl | rfl | rfl | rfl | rfl | rfl | rfl | rfl | rfl | rfl | rfl | rfl | rfl | rfl | rfl | rfl | rfl | rfl | rfl | rfl | rfl | rfl | rfl | rfl
  all_goals
    go_enter Try.func50, Try.ntmps50
    go_wp2
    go_ret
    exact ⟨rfl, hc⟩
set_option maxRecDepth 100000 in
set_option maxHeartbeats 1000000 in
theorem treeG_good (w : World) (d P : Nat) (h1 : 1 ≤ d) (h2 : d ≤ 24) (hP : P = 2 ^ d) (v : Int) :
    Calls Try.prog 49 #[.agg #[.int .i64 (d : Nat)], .int .i64 v] w fun e w' => e = .returned (.bool (decide (isNode d v))) ∧ Gr w w' := by
  obtain ⟨p1, p2, p3⟩ := two_d h1 h2
  rw [← hP] at p1 p2 p3
  have HLV := Lib.hid (fun u => treeG_leaves u d P h1 h2 hP)
  have HB := Lib.hid (Blk.alloc_new w #[.int .i64 (d : Nat)] 76)
  have HC := Lib.hid ((Gr.refl w).alloc (.cells #[.int .i64 (d : Nat)] 76))
  have b0 := HB.out.cell 0
  have hx : isNode d v ↔ 1 ≤ v ∧ v < 2 * (P : Int) := by unfold isNode; rw [hP]
  obtain ⟨Q, hQ⟩ : ∃ Q : Bool, Q = decide (isNode d v) := ⟨_, rfl⟩
  rw [← hQ]
  by_cases hv1 : 1 ≤ v
  · have d1 : decide ((1 : Int) ≤ v) = true := decide_eq_true hv1
    have d2 : decide (v < 2 * (P : Int)) = Q := by rw [hQ]; simp [hx, hv1]
    have hw : IntKind.i64.wrap (2 * (P : Int)) = 2 * (P : Int) := by rw [IntKind.wrap_i64]; omega
    clear hQ hx hP h1 h2
    go_enter Try.func49, Try.ntmps49
    go_wp2_with fail
    refine (HLV.out _).mono ?_
    rintro e w1 ⟨rfl, hc1⟩
    go_wp2_with fail
    go_ret
    exact ⟨rfl, HC.out.trans hc1⟩
  · have d1 : decide ((1 : Int) ≤ v) = false := decide_eq_false hv1
    obtain rfl : Q = false := by rw [hQ]; exact decide_eq_false (fun h => hv1 (hx.1 h).1)
    clear hQ hx hP h1 h2
    go_enter Try.func49, Try.ntmps49
    go_wp2_with fail
    go_ret
    exact ⟨rfl, HC.out⟩
set_option maxRecDepth 100000 in
set_option maxHeartbeats 1000000 in
theorem treeG_level (w : World) (d : Nat) (h1 : 1 ≤ d) (h2 : d ≤ 24) (v : Int) (k : Int) (hk : k = if isNode d v then ((lev v : Nat) : Int) else -1) :
    Calls Try.prog 55 #[.agg #[.int .i64 (d : Nat)], .int .i64 v] w fun e w' => e = .returned (.int .i64 k) ∧ Gr w w' := by
  have HG := Lib.hid (fun u => treeG_good u d (2 ^ d) h1 h2 rfl v)
  have HC := Lib.hid ((Gr.refl w).alloc (.cells #[.int .i64 (d : Nat)] 76))
  have b0 := (Blk.alloc_new w #[.int .i64 (d : Nat)] 76).cell 0
  have hb := top_small h2
  by_cases h : isNode d v
  · rw [if_pos h] at hk
    rw [decide_eq_true h] at HG
    obtain ⟨l1, l2, l3⟩ := lev_two h.1 (by have := h.2; omega)
    have hv1 := h.1
    have hv2 : v < 33554432 + 1 := by have := h.2; omega
    obtain ⟨n, rfl⟩ := Int.eq_ofNat_of_zero_le (show 0 ≤ v by omega)
    rw [Int.toNat_natCast] at l3
    have HL := Lib.hid (fun u => bits_lenG u n (by omega) (lev (n : Int) + 1) l3)
    have hle := lev_le h2 h
    have hwn : IntKind.u64.wrap (n : Int) = (n : Int) := IntWalk.u64_in _ (by omega)
    have hwk : IntKind.i64.wrap (((lev (n : Int) + 1 : Nat) : Int) - 1) = k := by rw [IntKind.wrap_i64, hk]; omega
    have hwk2 : IntKind.i64.wrap ((lev (n : Int) : Int) + 1 - 1) = k := by rw [IntKind.wrap_i64, hk]; omega
    generalize lev (n : Int) = m at *
    subst hk
    clear h l1 l2 l3
    go_enter Try.func55, Try.ntmps55
    go_wp2_with fail
    refine (HG.out _).mono ?_
    rintro e w1 ⟨rfl, hc1⟩
    go_wp2_with fail
    refine (HL.out _).mono ?_
    rintro e w2 ⟨rfl, rfl⟩
    go_wp2_with fail
    go_ret
    exact ⟨rfl, HC.out.trans hc1⟩
  · rw [if_neg h] at hk
    rw [decide_eq_false h] at HG
    subst hk
    clear h
    go_enter Try.func55, Try.ntmps55
    go_wp2_with fail
    refine (HG.out _).mono ?_
    rintro e w1 ⟨rfl, hc1⟩
    go_wp2_with fail
    go_ret
    exact ⟨rfl, HC.out.trans hc1⟩
theorem enters_gleaves : ∀ (args : Array Value) (w : World), (callFunc 50 args).run Try.prog w = .ok (.enter 50 args) w := enters_of Try.func50 (by kernel_rfl) rfl
set_option maxRecDepth 100000 in
set_option maxHeartbeats 2000000 in
theorem treeG_range (w : World) (d : Nat) (h1 : 1 ≤ d) (h2 : d ≤ 24) (v a b : Int) (ha : a = loN d v) (hb : b = hiN d v) :
    Calls Try.prog 35 #[.agg #[.int .i64 (d : Nat)], .int .i64 v] w fun e w' => e = .returned (.tuple #[.int .i64 a, .int .i64 b]) ∧ Gr w w' := by
  obtain ⟨k, hk⟩ : ∃ k, k = if isNode d v then ((lev v : Nat) : Int) else -1 := ⟨_, rfl⟩
  have HLV := Lib.hid (fun u => treeG_level u d h1 h2 v k hk)
  have HLE := Lib.hid (fun u => treeG_leaves u d (2 ^ d) h1 h2 rfl)
  have HB := Lib.hid (Blk.alloc_new w #[.int .i64 (d : Nat)] 76)
  have HC := Lib.hid ((Gr.refl w).alloc (.cells #[.int .i64 (d : Nat)] 76))
  have b0 := HB.out.cell 0
  have hbt := top_small h2
  by_cases h : isNode d v
  · rw [if_pos h] at hk
    have hle := lev_le h2 h
    obtain ⟨g1, g2, g3, g4⟩ := rng_in h2 h
    have hlo : loN d v = v * szN d v - ((2 ^ d : Nat) : Int) := if_pos h
    have hsp := sz_pos d v
    obtain ⟨z, hz⟩ : ∃ z, z = d - lev v := ⟨_, rfl⟩
    have hzz : (2 : Int) ^ z = szN d v := by rw [hz]; unfold szN; simp
    have hmn : min z 64 = z := by omega
    have hsz : szN d v ≤ 16777216 := by omega
    have hwz : IntKind.i64.wrap ((d : Int) - k) = (z : Int) := by rw [IntKind.wrap_i64, hk]; omega
    rw [← ha, ← hb] at g4
    rw [← ha] at g1 g2 hlo
    rw [← hb] at g2 g3
    generalize szN d v = S at *
    obtain ⟨V, hV⟩ : ∃ V, V = v * S := ⟨_, rfl⟩
    rw [← hV] at hlo
    generalize hPP : 2 ^ d = P at *
    have HSH := Lib.hid (show IntKind.i64.wrap (v * (2 : Int) ^ z) = V ∧ IntKind.i64.wrap (v * (2 : Int) ^ min z 64) = V ∧ IntKind.i64.wrap ((2 : Int) ^ z) = S ∧ IntKind.i64.wrap ((2 : Int) ^ min z 64) = S from by
      rw [hmn, hzz, ← hV]
      have e1 : IntKind.i64.wrap V = V := by rw [IntKind.wrap_i64]; omega
      have e2 : IntKind.i64.wrap S = S := by rw [IntKind.wrap_i64]; omega
      exact ⟨e1, e1, e2, e2⟩)
    have hw1 : IntKind.i64.wrap (V - (P : Int)) = a := by rw [IntKind.wrap_i64]; omega
    have hw2 : IntKind.i64.wrap (a + S) = a + S := by rw [IntKind.wrap_i64]; omega
    have hw3 : IntKind.i64.wrap (a + S - 1) = b := by rw [IntKind.wrap_i64]; omega
    have hk0 : decide (k < 0) = false := decide_eq_false (by omega)
    have hz0 : ¬ ((z : Int) < 0) := by omega
    clear hk hz hzz hlo g4 hV ha hb hle hsp h hPP h1 h2 hbt
    go_enter Try.func35, Try.ntmps35
    go_wp2_with fail
    refine (HLV.out _).mono ?_
    rintro e w1 ⟨rfl, hc1⟩
    have HB1 := Lib.hid (HB.out.chg hc1.chg (by simp))
    have HC1 := Lib.hid (HC.out.trans hc1)
    clear hc1 b0
    have b0 := HB1.out.cell 0
    simp only [List.getElem?_toArray, List.getElem?_cons_zero] at b0
    obtain ⟨hs1, hs2, hs3, hs4⟩ := HSH.out
    go_upto_region 5 with (fail)
    have HS := Lib.hid (fun wx (hu : Gr w1 wx) => show Gr w1 wx ∧ wx.cell? ⟨w.heap.size, 0, none⟩ = some (.int .i64 (d : Nat)) from ⟨hu, (HB1.out.chg hu.chg (by simp)).cell 0⟩)
    have hSS := HS.out w1.drew (Gr.refl w1).drew
    refine startN (S := fun wx => Gr w1 wx ∧ wx.cell? ⟨w.heap.size, 0, none⟩ = some (.int .i64 (d : Nat))) (by kernel_rfl) hSS (fun hHeld => ?_)
    refine takeN (i := 0) (v := ?va0) rfl (by kernel_rfl) (by kernel_rfl) (by kernel_rfl) (fun _ _ _ h => h) (Or.inl ⟨by rfl, ?ya0⟩) hSS ?ra0
    case ya0 => (intro w hSw; (try dsimp only at hSw); go_simp; first | done | with_reducible rfl)
    try simp only [Act.put, List.setIfInBounds_toArray, List.set_cons_zero, List.set_cons_succ]
    refine takeN (i := 1) (v := ?va1) rfl (by kernel_rfl) (by kernel_rfl) (by kernel_rfl) (fun _ _ _ h => h) (Or.inl ⟨by rfl, ?ya1⟩) hSS ?ra1
    case ya1 => (intro w hSw; (try dsimp only at hSw); go_simp; first | done | with_reducible rfl)
    try simp only [Act.put, List.setIfInBounds_toArray, List.set_cons_zero, List.set_cons_succ]
    refine takeN (i := 2) (v := ?va2) rfl (by kernel_rfl) (by kernel_rfl) (by kernel_rfl) (fun _ _ _ h => h) (Or.inl ⟨by rfl, ?ya2⟩) hSS ?ra2
    case ya2 => (intro w hSw; (try dsimp only at hSw); go_simp; first | done | with_reducible rfl)
    try simp only [Act.put, List.setIfInBounds_toArray, List.set_cons_zero, List.set_cons_succ]
    refine takeN (i := 3) (v := ?va3) rfl (by kernel_rfl) (by kernel_rfl) (by kernel_rfl) (fun _ _ _ h => h) (Or.inl ⟨by rfl, ?ya3⟩) hSS ?ra3
    case ya3 => (intro w hSw; (try dsimp only at hSw); go_simp; first | done | with_reducible rfl)
    try simp only [Act.put, List.setIfInBounds_toArray, List.set_cons_zero, List.set_cons_succ]
    refine readyN (rs := [4]) (by kernel_rfl) (by simp) (consN rfl (fun K hK => ?_) nilN)
    refine step_callsG (by rfl) 50 _ _ rfl enters_gleaves _ #[.agg #[.int .i64 (d : Nat)]] (by simp [Act.eval]) (HLE.out _) ?_; rintro e w2 ⟨rfl, hc2⟩; refine ⟨_, rfl, ?_⟩
    have hSA := HS.out w2 (hSS.1.trans hc2)
    clear hc2
    refine hK.out _ _ hSA (fun hHeld => ?_)
    clear hK K hHeld
    try simp only [Act.put, List.setIfInBounds_toArray, List.set_cons_zero, List.set_cons_succ]
    refine takeN (i := 5) (v := ?va5) rfl (by kernel_rfl) (by kernel_rfl) (by kernel_rfl) (fun _ _ _ h => h) (Or.inl ⟨by rfl, ?ya5⟩) hSA ?ra5
    case ya5 => (intro w hSw; (try dsimp only at hSw); go_simp; first | done | with_reducible rfl)
    try simp only [Act.put, List.setIfInBounds_toArray, List.set_cons_zero, List.set_cons_succ]
    refine takeN (i := 6) (v := ?va6) rfl (by kernel_rfl) (by kernel_rfl) (by kernel_rfl) (fun _ _ _ h => h) (Or.inl ⟨by rfl, ?ya6⟩) hSA ?ra6
    case ya6 => (intro w hSw; (try dsimp only at hSw); go_simp; first | done | with_reducible rfl)
    try simp only [Act.put, List.setIfInBounds_toArray, List.set_cons_zero, List.set_cons_succ]
    refine doneN (by kernel_rfl) ?_ _
    have HCZ := Lib.hid (HC1.out.trans hSA.1)
    clear hSS hSA HS
    go_wp2
    go_quiet (fail)
    go_wp2_with fail
    go_ret2
    exact ⟨rfl, by with_reducible (repeat (first | exact HCZ.out | apply Gr.drew | apply Gr.drewN))⟩
  · rw [if_neg h] at hk
    obtain rfl : a = 0 := by rw [ha]; exact if_neg h
    obtain rfl : b = 0 := by rw [hb]; exact if_neg h
    subst hk
    clear ha hb h h1 h2 hbt
    go_enter Try.func35, Try.ntmps35
    go_wp2_with fail
    refine (HLV.out _).mono ?_
    rintro e w1 ⟨rfl, hc1⟩
    go_wp2_with fail
    go_ret2
    exact ⟨rfl, HC.out.trans hc1⟩
set_option maxRecDepth 100000 in
set_option maxHeartbeats 2000000 in
theorem treeG_before (w : World) (d : Nat) (h1 : 1 ≤ d) (h2 : d ≤ 24) (v u : Int) :
    Calls Try.prog 62 #[.agg #[.int .i64 (d : Nat)], .int .i64 v, .int .i64 u] w fun e w' => e = .returned (.bool (befN d v u)) ∧ Gr w w' := by
  have HRV := Lib.hid (fun x => treeG_range x d h1 h2 v (loN d v) (hiN d v) rfl rfl)
  have HRU := Lib.hid (fun x => treeG_range x d h1 h2 u (loN d u) (hiN d u) rfl rfl)
  have HB := Lib.hid (Blk.alloc_new w #[.int .i64 (d : Nat)] 76)
  have HC := Lib.hid ((Gr.refl w).alloc (.cells #[.int .i64 (d : Nat)] 76))
  have b0 := HB.out.cell 0
  have hbe : befN d v u = decide (hiN d v < hiN d u ∨ hiN d v = hiN d u ∧ u < v) := rfl
  obtain ⟨Q, hQ⟩ : ∃ Q, Q = befN d v u := ⟨_, rfl⟩
  rw [← hQ]
  rw [← hQ] at hbe
  have HQ := Lib.hid hbe
  clear hbe hQ h1 h2
  generalize hiN d v = a at *
  generalize hiN d u = b at *
  generalize loN d v = a' at *
  generalize loN d u = b' at *
  go_enter Try.func62, Try.ntmps62
  go_wp2_with fail
  refine (HRV.out _).mono ?_
  rintro e w1 ⟨rfl, hc1⟩
  have HB1 := Lib.hid (HB.out.chg hc1.chg (by simp))
  have HC1 := Lib.hid (HC.out.trans hc1)
  clear hc1 b0
  have b0 := HB1.out.cell 0
  simp only [List.getElem?_toArray, List.getElem?_cons_zero] at b0
  go_wp2_with fail
  refine (HRU.out _).mono ?_
  rintro e w2 ⟨rfl, hc2⟩
  have HC2 := Lib.hid (HC1.out.trans hc2)
  clear hc2 b0
  by_cases g1 : a < b
  · have d1 : decide (a < b) = true := decide_eq_true g1
    obtain rfl : Q = true := by rw [HQ.out]; exact decide_eq_true (.inl g1)
    go_wp2_with fail
    go_ret
    exact ⟨rfl, HC2.out⟩
  · have d1 : decide (a < b) = false := decide_eq_false g1
    by_cases g2 : a = b
    · have d2 : (a == b) = true := by rw [beq_iff_eq]; exact g2
      by_cases g3 : u < v
      · have d3 : decide (u < v) = true := decide_eq_true g3
        obtain rfl : Q = true := by rw [HQ.out]; exact decide_eq_true (.inr ⟨g2, g3⟩)
        clear g2
        go_wp2_with fail
        go_ret
        exact ⟨rfl, HC2.out⟩
      · have d3 : decide (u < v) = false := decide_eq_false g3
        obtain rfl : Q = false := by rw [HQ.out]; exact decide_eq_false (by omega)
        clear g2
        go_wp2_with fail
        go_ret
        exact ⟨rfl, HC2.out⟩
    · have d2 : (a == b) = false := by rw [beq_eq_false_iff_ne]; exact g2
      obtain rfl : Q = false := by rw [HQ.out]; exact decide_eq_false (by omega)
      go_wp2_with fail
      go_ret
      exact ⟨rfl, HC2.out⟩
end Go.Proofs.Ytgnbabkafobeoaa
