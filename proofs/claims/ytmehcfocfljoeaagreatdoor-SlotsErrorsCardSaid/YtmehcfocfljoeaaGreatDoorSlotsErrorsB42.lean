/-
  The walk of lumps.Load (layer 22). Conditions: the form's own reach.
-/
import Derived.Test.YtmehcfocfljoeaaGreatDoorSlotsErrorsB41
namespace Go.Proofs.YtmehcfocfljoeaaGreatDoor
open Go.RowKit

theorem rises_snoc {l : List Lp} {k : Nat} (hk : k < l.length) (h : risesL (l.take k)) (h1 : 0 < k → ltL (l.getD (k - 1) default) l[k] = true) : risesL (l.take (k + 1)) := by
  rw [List.take_succ_eq_append_getElem hk]
  unfold risesL at *
  rw [List.pairwise_append]
  refine ⟨h, by simp, fun a ha b hb => ?_⟩
  rw [List.mem_singleton.1 hb]
  obtain ⟨j, hj, rfl⟩ := List.getElem_of_mem ha
  have hjk : j < k := by rw [List.length_take] at hj; omega
  have h2 := h1 (by omega)
  have e : l.getD (k - 1) default = (l.take k)[k - 1]'(by rw [List.length_take]; omega) := by simp [List.getD, show k - 1 < l.length by omega]
  by_cases hj2 : j = k - 1
  · subst hj2; rw [← e]; exact h2
  · rw [e] at h2
    exact ltL_trans (List.pairwise_iff_getElem.1 h j (k - 1) hj (by rw [List.length_take]; omega) (by omega)) h2
theorem rises_last {l : List Lp} {k : Nat} (hk : k < l.length) (h : risesL l) (h0 : 0 < k) : ltL (l.getD (k - 1) default) l[k] = true := by
  have e : l.getD (k - 1) default = l[k - 1] := by simp [List.getD, show k - 1 < l.length by omega]
  rw [e]
  exact risesL_at h (by omega) hk
/-- What is so of a row's beginning that could be loaded. -/
structure PreLm (l : List Lp) (k : Nat) : Prop where
  tot : totL (l.take k) ≤ 9223372036854775807
  each : ∀ p ∈ l.take k, 1 ≤ p.n ∧ p.lo ≤ p.hi
  rises : risesL (l.take k)
def LoadLm (w w' : World) (most : Int) (l : List Lp) (e : Ending) : Prop :=
  (¬ okLm most l ∧ e = .returned (.tuple #[.pointer none, .int .i64 1]) ∧ Chg [] w w') ∨
  (okLm most l ∧ ∃ p rv, e = .returned (.tuple #[.pointer (some ⟨p, 0, none⟩), .int .i64 0]) ∧ Lms w' p rv most l (totL l) ∧ Chg [] w w' ∧ ∀ b ∈ fpL p rv, w.heap.size ≤ b)
theorem PreLm.step {l : List Lp} {k : Nat} (hk : k < l.length) (h : PreLm l k) (h1 : totL (l.take k) + l[k].n ≤ 9223372036854775807) (h2 : 1 ≤ l[k].n) (h3 : l[k].lo ≤ l[k].hi) (h4 : 0 < k → ltL (l.getD (k - 1) default) l[k] = true) : PreLm l (k + 1) := by
  refine ⟨?_, fun p hp => ?_, rises_snoc hk h.rises h4⟩
  · rw [List.take_succ_eq_append_getElem hk, totL_app, totL_cons, totL_nil]; omega
  · rw [List.take_succ_eq_append_getElem hk] at hp
    rcases List.mem_append.1 hp with hp | hp
    · exact h.each p hp
    · rw [List.mem_singleton.1 hp]; exact ⟨h2, h3⟩
theorem okLm.at_ {most : Int} {l : List Lp} (h : okLm most l) {k : Nat} (hk : k < l.length) : totL (l.take k) + l[k].n ≤ 9223372036854775807 ∧ 1 ≤ l[k].n ∧ l[k].lo ≤ l[k].hi ∧ (0 < k → ltL (l.getD (k - 1) default) l[k] = true) := by
  have h1 := totL_take_le l (k + 1)
  rw [List.take_succ_eq_append_getElem hk, totL_app, totL_cons, totL_nil] at h1
  have h2 := h.tot
  have h3 := h.each _ (List.getElem_mem hk)
  exact ⟨by omega, h3.1, h3.2, fun h0 => rises_last hk h.rises h0⟩
theorem ordV_ge (a b : Lp) : decide (0 ≤ ordV a b) = !ltL a b := by
  unfold ordV
  cases ltL a b with
  | true => simp
  | false => cases sameL a b <;> simp
set_option maxRecDepth 100000 in
set_option maxHeartbeats 4000000 in
theorem lump_load (w : World) (most : Int) (ao : Option Addr) (cap n : Nat) (l : List Lp) (hn : n = l.length) (hr : Rd w 3 (.slice ao n cap) n (lpCells l)) (hl : n ≤ 1000) (hfit : ∀ p ∈ l, p.n < 18446744073709551616) :
    Calls Tryz.prog 121 #[.int .i64 most, .slice ao n cap] w fun e w' => LoadLm w w' most l e := by
  have HN := Lib.hid hn
  have HR := Lib.hid hr
  have HF := Lib.hid hfit
  have HNW := Lib.hid (lump_new w most)
  clear hn hr hfit
  go_enter Tryz.func121, Tryz.ntmps121
  go_wp2_with fail
  refine HNW.out.mono ?_
  rintro e w1 (⟨hno, rfl, hc1⟩ | ⟨hmo, p, rfl, hL1, hc1, hp1⟩)
  · have H := Lib.hid (show ¬ okLm most l from fun h => hno ⟨h.m1, h.m2⟩)
    have HC := Lib.hid hc1
    clear hno hc1 HNW
    go_wp2
    go_ret2
    exact .inl ⟨H.out, rfl, HC.out⟩
  · have HMO := Lib.hid hmo
    have HL1 := Lib.hid hL1
    have HC1 := Lib.hid hc1
    have HP1 := Lib.hid hp1
    clear hmo hL1 hc1 hp1 HNW
    go_wp2_with fail
    go_loopw [22] (fun i wx => ∃ (k : Nat) (a : Option Addr) (c : Nat), k ≤ n ∧ i = .int .i64 (k : Nat) ∧ Hid (Lms wx p (.slice a k c) most (l.take k) (totL (l.take k)) ∧ PreLm l k ∧ Chg [] w wx ∧ ∀ b ∈ abl a, w.heap.size ≤ b)) (fun i _ => n - (intOf i).toNat)
    case atStart => exact ⟨0, none, 0, Nat.zero_le _, rfl, Lib.hid ⟨HL1.out, ⟨by simp [totL], by simp, List.Pairwise.nil⟩, HC1.out, by simp⟩⟩
    case round =>
      obtain ⟨k, a, c, hk, rfl, HLM⟩ := hrel
      by_cases hlt : k < n
      · have hkl : k < l.length := by have := HN.out; omega
        obtain ⟨g, o, hgo, hc⟩ := (HR.out.chg HLM.out.2.2.1 (by simp)).addr (by omega)
        subst hgo
        obtain ⟨d0, d1, d2⟩ := lp_at (l := l) (fun j hj => hc j (by rw [HN.out]; exact hj)) hkl
        have HAT := Lib.hid (fun (h : okLm most l) => h.at_ hkl)
        have HST := Lib.hid (fun h1 h2 h3 h4 => PreLm.step hkl HLM.out.2.1 h1 h2 h3 h4)
        have hny := HF.out _ (List.getElem_mem hkl)
        have HTK := Lib.hid (List.take_succ_eq_append_getElem hkl)
        obtain ⟨z, hz⟩ : ∃ z, z = l.getD (k - 1) default := ⟨_, rfl⟩
        rw [← hz] at HAT HST
        have HZ := Lib.hid (fun wx (hu : Chg [] wr wx) (h0 : 0 < k) => show wx.cell? ⟨g, o + (k - 1) * 3, none⟩ = some (.int .u64 (z.n : Nat)) ∧ wx.cell? ⟨g, o + (k - 1) * 3 + 1, none⟩ = some (.int .i64 z.lo) ∧ wx.cell? ⟨g, o + (k - 1) * 3 + 2, none⟩ = some (.int .i64 z.hi) from by
          obtain ⟨g', o', hgo', hc'⟩ := (HR.out.chg (HLM.out.2.2.1.trans hu) (by simp)).addr (by omega)
          simp only [Option.some.injEq, Addr.mk.injEq, and_true] at hgo'
          obtain ⟨rfl, rfl⟩ := hgo'
          have h1 := lp_at (l := l) (k := k - 1) (fun j hj => hc' j (by rw [HN.out]; exact hj)) (by omega)
          have e : l[k - 1] = z := by rw [hz]; simp [List.getD, show k - 1 < l.length by omega]
          rw [e] at h1
          exact h1)
        generalize l[k] = y at *
        obtain ⟨T, hT⟩ : ∃ T, T = totL (l.take k) := ⟨_, rfl⟩
        have HT := Lib.hid hT
        have hTm := HLM.out.2.1.tot
        rw [← hT] at hTm HAT HST HLM
        clear hc hz hT
        obtain ⟨b9, hb9⟩ : ∃ z, z = wr.heap.size := ⟨_, rfl⟩
        have HB9 := Lib.hid (show Blk (wr.alloc (.cells #[.int .u64 (y.n : Nat), .int .i64 y.lo, .int .i64 y.hi] 256)) b9 #[.int .u64 (y.n : Nat), .int .i64 y.lo, .int .i64 y.hi] 256 from by rw [hb9]; exact Blk.alloc_new _ _ _)
        have HC9 := Lib.hid ((Chg.refl [] wr).alloc (.cells #[.int .u64 (y.n : Nat), .int .i64 y.lo, .int .i64 y.hi] 256))
        have HG9 := Lib.hid (show wr.heap.size ≤ b9 from by omega)
        go_wp2_with fail
        rw [← hb9]
        clear hb9 d0 d1 d2
        generalize wr.alloc (.cells #[.int .u64 (y.n : Nat), .int .i64 y.lo, .int .i64 y.hi] 256) = w9 at *
        have HS := Lib.hid (fun wx (hu : Chg [] w9 wx) => show wx.cell? ⟨p, 2, none⟩ = some (.int .u64 (T : Nat)) ∧ wx.cell? ⟨b9, 0, none⟩ = some (.int .u64 (y.n : Nat)) ∧ wx.cell? ⟨b9, 1, none⟩ = some (.int .i64 y.lo) ∧ wx.cell? ⟨b9, 2, none⟩ = some (.int .i64 y.hi) from ⟨((HLM.out.1.chg HC9.out (by simp)).chg hu (by simp)).cells.2.2, (HB9.out.chg hu (by simp)).cell 0, (HB9.out.chg hu (by simp)).cell 1, (HB9.out.chg hu (by simp)).cell 2⟩)
        obtain ⟨B, hB⟩ : ∃ B, B = decide (T + y.n ≤ 9223372036854775807) := ⟨_, rfl⟩
        obtain ⟨S, hS⟩ : ∃ S, S = if T + y.n ≤ 9223372036854775807 then T + y.n else 0 := ⟨_, rfl⟩
        have e : plusV [T, y.n] = .tuple #[.int .u64 (S : Nat), .bool B] := by
          have e0 : [T, y.n].sum = T + y.n := by simp
          unfold plusV
          rw [e0, hS, hB]
          split
          · rename_i h; rw [decide_eq_true h]
          · rename_i h; rw [decide_eq_false h]; rfl
        have HPL := Lib.hid (fun u g (hg : Rd u 1 (.slice (some ⟨g, 0, none⟩) 2 2) 2 (u64s [T, y.n])) => show Calls Tryz.prog 142 #[.slice (some ⟨g, 0, none⟩) 2 2] u fun e w' => e = .returned (.tuple #[.int .u64 (S : Nat), .bool B]) ∧ u = w' from by
          rw [← e]
          exact wide_plus u (some ⟨g, 0, none⟩) 2 [T, y.n] (by intro v hv; simp at hv; omega) hg (by simp))
        have HSB := Lib.hid (And.intro hS hB)
        clear e hS hB
        have HC0 := Lib.hid ((Chg.refl [] w9).drew)
        have hSS := HS.out w9.drew HC0.out
        refine startN (S := fun wx => wx.cell? ⟨p, 2, none⟩ = some (.int .u64 (T : Nat)) ∧ wx.cell? ⟨b9, 0, none⟩ = some (.int .u64 (y.n : Nat)) ∧ wx.cell? ⟨b9, 1, none⟩ = some (.int .i64 y.lo) ∧ wx.cell? ⟨b9, 2, none⟩ = some (.int .i64 y.hi)) (by kernel_rfl) hSS (fun hHeld => ?_)
        refine takeN (i := 0) (v := ?va0) rfl (by kernel_rfl) (by kernel_rfl) (by kernel_rfl) (fun _ _ _ h => h) (Or.inl ⟨by rfl, ?ya0⟩) hSS ?ra0
        case ya0 => (intro w hSw; (try dsimp only at hSw); go_simp; first | done | with_reducible rfl)
        try simp only [Act.put, List.setIfInBounds_toArray, List.set_cons_zero, List.set_cons_succ]
        refine takeN (i := 1) (v := ?va1) rfl (by kernel_rfl) (by kernel_rfl) (by kernel_rfl) (fun _ _ _ h => h) (Or.inl ⟨by rfl, ?ya1⟩) hSS ?ra1
        case ya1 => (intro w hSw; (try dsimp only at hSw); go_simp; first | done | with_reducible rfl)
        try simp only [Act.put, List.setIfInBounds_toArray, List.set_cons_zero, List.set_cons_succ]
        refine takeN (i := 2) (v := ?va2) rfl (by kernel_rfl) (by kernel_rfl) (by kernel_rfl) (fun _ _ _ h => h) (Or.inl ⟨by rfl, ?ya2⟩) hSS ?ra2
        case ya2 => (intro w hSw; (try dsimp only at hSw); go_simp; first | done | with_reducible rfl)
        try simp only [Act.put, List.setIfInBounds_toArray, List.set_cons_zero, List.set_cons_succ]
        refine takeN (i := 3) (v := ?va3) rfl (by kernel_rfl) (by kernel_rfl) (by kernel_rfl) (fun _ _ _ h => h) (Or.inl ⟨by rfl, ?ya3⟩) hSS ?ra3
        case ya3 => (intro w hSw; (try dsimp only at hSw); go_simp; first | done | with_reducible rfl)
        try simp only [Act.put, List.setIfInBounds_toArray, List.set_cons_zero, List.set_cons_succ]
        refine takeN (i := 4) (v := ?va4) rfl (by kernel_rfl) (by kernel_rfl) (by kernel_rfl) (fun _ _ _ h => h) (Or.inl ⟨by rfl, ?ya4⟩) hSS ?ra4
        case ya4 => (intro w hSw; (try dsimp only at hSw); go_simp; first | done | with_reducible rfl)
        try simp only [Act.put, List.setIfInBounds_toArray, List.set_cons_zero, List.set_cons_succ]
        refine takeN (i := 5) (v := ?va5) rfl (by kernel_rfl) (by kernel_rfl) (by kernel_rfl) (fun _ _ _ h => h) (Or.inl ⟨by rfl, ?ya5⟩) hSS ?ra5
        case ya5 => (intro w hSw; (try dsimp only at hSw); go_simp; first | done | with_reducible rfl)
        try simp only [Act.put, List.setIfInBounds_toArray, List.set_cons_zero, List.set_cons_succ]
        refine readyN (rs := [6]) (by kernel_rfl) (by simp) (consN rfl (fun K hK => ?_) nilN)
        refine step_bU2 rfl 31 33 rfl T y.n (by simp [Act.eval]) (by simp [Act.eval]) ?_; intro gb w2 hr hc hg
        have HC2 := Lib.hid (HC0.out.trans hc)
        have HR2 := Lib.hid hr
        clear hr hc hg
        refine hK.out _ _ (HS.out _ HC2.out) (fun hHeld => ?_)
        clear hK K hHeld
        try simp only [Act.put, List.setIfInBounds_toArray, List.set_cons_zero, List.set_cons_succ]
        refine readyN (rs := [7]) (by kernel_rfl) (by simp) (consN rfl (fun K hK => ?_) nilN)
        refine step_callsG (by rfl) 142 _ _ rfl enters_plus _ #[.slice (some ⟨gb, 0, none⟩) 2 2] (by simp [Act.eval]) (HPL.out _ gb HR2.out) ?_; rintro e w3 ⟨rfl, rfl⟩; refine ⟨_, rfl, ?_⟩
        refine hK.out _ _ (HS.out _ HC2.out) (fun hHeld => ?_)
        clear hK K hHeld
        try simp only [Act.put, List.setIfInBounds_toArray, List.set_cons_zero, List.set_cons_succ]
        refine takeN (i := 8) (v := ?va8) rfl (by kernel_rfl) (by kernel_rfl) (by kernel_rfl) (fun _ _ _ h => h) (Or.inl ⟨by rfl, ?ya8⟩) (HS.out _ HC2.out) ?ra8
        case ya8 => (intro w hSw; (try dsimp only at hSw); go_simp; first | done | with_reducible rfl)
        try simp only [Act.put, List.setIfInBounds_toArray, List.set_cons_zero, List.set_cons_succ]
        refine takeN (i := 9) (v := ?va9) rfl (by kernel_rfl) (by kernel_rfl) (by kernel_rfl) (fun _ _ _ h => h) (Or.inl ⟨by rfl, ?ya9⟩) (HS.out _ HC2.out) ?ra9
        case ya9 => (intro w hSw; (try dsimp only at hSw); go_simp; first | done | with_reducible rfl)
        try simp only [Act.put, List.setIfInBounds_toArray, List.set_cons_zero, List.set_cons_succ]
        refine takeN (i := 10) (v := ?va10) rfl (by kernel_rfl) (by kernel_rfl) (by kernel_rfl) (fun _ _ _ h => h) (Or.inl ⟨by rfl, ?ya10⟩) (HS.out _ HC2.out) ?ra10
        case ya10 => (intro w hSw; (try dsimp only at hSw); go_simp; first | done | with_reducible rfl)
        try simp only [Act.put, List.setIfInBounds_toArray, List.set_cons_zero, List.set_cons_succ]
        refine takeN (i := 11) (v := ?va11) rfl (by kernel_rfl) (by kernel_rfl) (by kernel_rfl) (fun _ _ _ h => h) (Or.inl ⟨by rfl, ?ya11⟩) (HS.out _ HC2.out) ?ra11
        case ya11 => (intro w hSw; (try dsimp only at hSw); go_simp; first | done | with_reducible rfl)
        try simp only [Act.put, List.setIfInBounds_toArray, List.set_cons_zero, List.set_cons_succ]
        refine takeN (i := 12) (v := ?va12) rfl (by kernel_rfl) (by kernel_rfl) (by kernel_rfl) (fun _ _ _ h => h) (Or.inl ⟨by rfl, ?ya12⟩) (HS.out _ HC2.out) ?ra12
        case ya12 => (intro w hSw; (try dsimp only at hSw); go_simp; first | done | with_reducible rfl)
        try simp only [Act.put, List.setIfInBounds_toArray, List.set_cons_zero, List.set_cons_succ]
        refine doneN (by kernel_rfl) ?_ _
        clear HPL hSS HR2 hHeld HC0
        obtain ⟨x0, x1, x2, x3⟩ := HS.out w2 HC2.out
        obtain ⟨V, hV⟩ : ∃ V, V = !decide (T + y.n ≤ 9223372036854775807 ∧ 1 ≤ y.n ∧ y.lo ≤ y.hi ∧ (0 < k → ltL z y = true)) := ⟨_, rfl⟩
        have HV := Lib.hid hV
        clear hV
        go_wp2_with fail
        go_cut [65] (fun v wx => v = .bool V ∧ Hid (Chg [] w2 wx))
        case first =>
          cases B with
          | false =>
            obtain rfl : V = true := by
              rw [HV.out]
              have h := HSB.out.2
              simp only [Bool.not_eq_true', decide_eq_false_iff_not]
              rintro ⟨h1, -⟩
              exact absurd (of_decide_eq_false h.symm) (by simpa using h1)
            go_quiet (fail)
            go_wp2_with fail
            go_meet
            exact ⟨rfl, Lib.hid ((Chg.refl [] w2).drewN _)⟩
          | true =>
            have hB1 : T + y.n ≤ 9223372036854775807 := of_decide_eq_true HSB.out.2.symm
            have HB1 := Lib.hid hB1
            clear hB1
            by_cases hN : y.n = 0
            · have dN : ((y.n : Int) == 0) = true := by rw [beq_iff_eq]; omega
              obtain rfl : V = true := by
                rw [HV.out]
                simp only [Bool.not_eq_true', decide_eq_false_iff_not]
                rintro ⟨-, h1, -⟩
                omega
              clear hN
              go_quiet (fail)
              go_wp2_with fail
              go_meet
              exact ⟨rfl, Lib.hid ((Chg.refl [] w2).drewN _)⟩
            · have dN : ((y.n : Int) == 0) = false := by rw [beq_eq_false_iff_ne]; omega
              by_cases hL : y.hi < y.lo
              · have dL : decide (y.hi < y.lo) = true := decide_eq_true hL
                obtain rfl : V = true := by
                  rw [HV.out]
                  simp only [Bool.not_eq_true', decide_eq_false_iff_not]
                  rintro ⟨-, -, h1, -⟩
                  omega
                clear hN hL
                go_quiet (fail)
                go_wp2_with fail
                go_meet
                exact ⟨rfl, Lib.hid ((Chg.refl [] w2).drewN _)⟩
              · have dL : decide (y.hi < y.lo) = false := decide_eq_false hL
                by_cases hk0 : k = 0
                · have dk : decide (0 < (k : Int)) = false := decide_eq_false (by omega)
                  have dk' : decide (0 < k) = false := decide_eq_false (by omega)
                  obtain rfl : V = false := by
                    rw [HV.out]
                    simp only [Bool.not_eq_false', decide_eq_true_eq]
                    exact ⟨HB1.out, by omega, by omega, fun h => absurd h (by omega)⟩
                  clear hN hL hk0
                  go_quiet (fail)
                  go_wp2_with fail
                  go_meet
                  exact ⟨rfl, Lib.hid ((Chg.refl [] w2).drewN _)⟩
                · have dk : decide (0 < (k : Int)) = true := decide_eq_true (by omega)
                  have dk' : decide (0 < k) = true := decide_eq_true (by omega)
                  obtain ⟨k1, hk1⟩ : ∃ k1, k1 = k - 1 := ⟨_, rfl⟩
                  have hVL : V = !ltL z y := by
                    rw [HV.out]
                    have a1 := HB1.out
                    by_cases hz : ltL z y = true
                    · rw [hz, decide_eq_true ⟨a1, by omega, by omega, fun _ => rfl⟩]
                    · rw [Bool.not_eq_true] at hz
                      rw [hz, decide_eq_false (fun h => absurd (h.2.2.2 (by omega)) (by decide))]
                  obtain ⟨v, hv⟩ : ∃ v, v = ordV z y := ⟨_, rfl⟩
                  have dV : decide (0 ≤ v) = V := by rw [hv, ordV_ge, hVL]
                  have HOR := Lib.hid (fun u => lump_order u z y)
                  rw [← hv] at HOR
                  have hw1 : IntKind.i64.wrap ((k : Int) - 1) = (k1 : Int) := by rw [IntWalk.i64_in _ (by omega)]; omega
                  have hi0 : (0 : Int) ≤ (k1 : Int) := by omega
                  have hi1 : (k1 : Int) < (n : Int) := by omega
                  have hi2 : k1 < n := by omega
                  have HS8 := Lib.hid (fun wx (hu : Chg [] w9 wx) => show wx.cell? ⟨b9, 0, none⟩ = some (.int .u64 (y.n : Nat)) ∧ wx.cell? ⟨b9, 1, none⟩ = some (.int .i64 y.lo) ∧ wx.cell? ⟨b9, 2, none⟩ = some (.int .i64 y.hi) ∧ wx.cell? ⟨g, o + k1 * 3, none⟩ = some (.int .u64 (z.n : Nat)) ∧ wx.cell? ⟨g, o + k1 * 3 + 1, none⟩ = some (.int .i64 z.lo) ∧ wx.cell? ⟨g, o + k1 * 3 + 2, none⟩ = some (.int .i64 z.hi) from by
                    obtain ⟨a0, a1, a2, a3⟩ := HS.out wx hu
                    have a4 := HZ.out wx (HC9.out.trans hu) (by omega)
                    rw [← hk1] at a4
                    exact ⟨a1, a2, a3, a4⟩)
                  have hSS := HS8.out w2.drew HC2.out.drew
                  clear hN hL hk0 hk1 hVL hv x0 x1 x2 x3
                  refine startN (S := fun wx => wx.cell? ⟨b9, 0, none⟩ = some (.int .u64 (y.n : Nat)) ∧ wx.cell? ⟨b9, 1, none⟩ = some (.int .i64 y.lo) ∧ wx.cell? ⟨b9, 2, none⟩ = some (.int .i64 y.hi) ∧ wx.cell? ⟨g, o + k1 * 3, none⟩ = some (.int .u64 (z.n : Nat)) ∧ wx.cell? ⟨g, o + k1 * 3 + 1, none⟩ = some (.int .i64 z.lo) ∧ wx.cell? ⟨g, o + k1 * 3 + 2, none⟩ = some (.int .i64 z.hi)) (by kernel_rfl) hSS (fun hHeld => ?_)
                  refine takeN (i := 0) (v := ?vb0) rfl (by kernel_rfl) (by kernel_rfl) (by kernel_rfl) (fun _ _ _ h => h) (Or.inl ⟨by rfl, ?yb0⟩) hSS ?rb0
                  case yb0 => (intro w hSw; (try dsimp only at hSw); go_simp; first | done | with_reducible rfl)
                  try simp only [Act.put, List.setIfInBounds_toArray, List.set_cons_zero, List.set_cons_succ]
                  refine takeN (i := 1) (v := ?vb1) rfl (by kernel_rfl) (by kernel_rfl) (by kernel_rfl) (fun _ _ _ h => h) (Or.inl ⟨by rfl, ?yb1⟩) hSS ?rb1
                  case yb1 => (intro w hSw; (try dsimp only at hSw); go_simp; first | done | with_reducible rfl)
                  try simp only [Act.put, List.setIfInBounds_toArray, List.set_cons_zero, List.set_cons_succ]
                  refine takeN (i := 2) (v := ?vb2) rfl (by kernel_rfl) (by kernel_rfl) (by kernel_rfl) (fun _ _ _ h => h) (Or.inl ⟨by rfl, ?yb2⟩) hSS ?rb2
                  case yb2 => (intro w hSw; (try dsimp only at hSw); go_simp; first | done | with_reducible rfl)
                  try simp only [Act.put, List.setIfInBounds_toArray, List.set_cons_zero, List.set_cons_succ]
                  refine takeN (i := 3) (v := ?vb3) rfl (by kernel_rfl) (by kernel_rfl) (by kernel_rfl) (fun _ _ _ h => h) (Or.inl ⟨by rfl, ?yb3⟩) hSS ?rb3
                  case yb3 => (intro w hSw; (try dsimp only at hSw); go_simp; first | done | with_reducible rfl)
                  try simp only [Act.put, List.setIfInBounds_toArray, List.set_cons_zero, List.set_cons_succ]
                  refine takeN (i := 4) (v := ?vb4) rfl (by kernel_rfl) (by kernel_rfl) (by kernel_rfl) (fun _ _ _ h => h) (Or.inl ⟨by rfl, ?yb4⟩) hSS ?rb4
                  case yb4 => (intro w hSw; (try dsimp only at hSw); go_simp; first | done | with_reducible rfl)
                  try simp only [Act.put, List.setIfInBounds_toArray, List.set_cons_zero, List.set_cons_succ]
                  refine takeN (i := 5) (v := ?vb5) rfl (by kernel_rfl) (by kernel_rfl) (by kernel_rfl) (fun _ _ _ h => h) (Or.inl ⟨by rfl, ?yb5⟩) hSS ?rb5
                  case yb5 => (intro w hSw; (try dsimp only at hSw); go_simp; first | done | with_reducible rfl)
                  try simp only [Act.put, List.setIfInBounds_toArray, List.set_cons_zero, List.set_cons_succ]
                  refine takeN (i := 6) (v := ?vb6) rfl (by kernel_rfl) (by kernel_rfl) (by kernel_rfl) (fun _ _ _ h => h) (Or.inl ⟨by rfl, ?yb6⟩) hSS ?rb6
                  case yb6 => (intro w hSw; (try dsimp only at hSw); go_simp; first | done | with_reducible rfl)
                  try simp only [Act.put, List.setIfInBounds_toArray, List.set_cons_zero, List.set_cons_succ]
                  refine takeN (i := 7) (v := ?vb7) rfl (by kernel_rfl) (by kernel_rfl) (by kernel_rfl) (fun _ _ _ h => h) (Or.inl ⟨by rfl, ?yb7⟩) hSS ?rb7
                  case yb7 => (intro w hSw; (try dsimp only at hSw); go_simp; first | done | with_reducible rfl)
                  try simp only [Act.put, List.setIfInBounds_toArray, List.set_cons_zero, List.set_cons_succ]
                  refine takeN (i := 8) (v := ?vb8) rfl (by kernel_rfl) (by kernel_rfl) (by kernel_rfl) (fun _ _ _ h => h) (Or.inl ⟨by rfl, ?yb8⟩) hSS ?rb8
                  case yb8 => (intro w hSw; (try dsimp only at hSw); go_simp; first | done | with_reducible rfl)
                  try simp only [Act.put, List.setIfInBounds_toArray, List.set_cons_zero, List.set_cons_succ]
                  refine takeN (i := 9) (v := ?vb9) rfl (by kernel_rfl) (by kernel_rfl) (by kernel_rfl) (fun _ _ _ h => h) (Or.inl ⟨by rfl, ?yb9⟩) hSS ?rb9
                  case yb9 => (intro w hSw; (try dsimp only at hSw); go_simp; first | done | with_reducible rfl)
                  try simp only [Act.put, List.setIfInBounds_toArray, List.set_cons_zero, List.set_cons_succ]
                  refine takeN (i := 10) (v := ?vb10) rfl (by kernel_rfl) (by kernel_rfl) (by kernel_rfl) (fun _ _ _ h => h) (Or.inl ⟨by rfl, ?yb10⟩) hSS ?rb10
                  case yb10 => (intro w hSw; (try dsimp only at hSw); go_simp; first | done | with_reducible rfl)
                  try simp only [Act.put, List.setIfInBounds_toArray, List.set_cons_zero, List.set_cons_succ]
                  refine takeN (i := 11) (v := ?vb11) rfl (by kernel_rfl) (by kernel_rfl) (by kernel_rfl) (fun _ _ _ h => h) (Or.inl ⟨by rfl, ?yb11⟩) hSS ?rb11
                  case yb11 => (intro w hSw; (try dsimp only at hSw); go_simp; first | done | with_reducible rfl)
                  try simp only [Act.put, List.setIfInBounds_toArray, List.set_cons_zero, List.set_cons_succ]
                  refine takeN (i := 12) (v := ?vb12) rfl (by kernel_rfl) (by kernel_rfl) (by kernel_rfl) (fun _ _ _ h => h) (Or.inl ⟨by rfl, ?yb12⟩) hSS ?rb12
                  case yb12 => (intro w hSw; (try dsimp only at hSw); go_simp; first | done | with_reducible rfl)
                  try simp only [Act.put, List.setIfInBounds_toArray, List.set_cons_zero, List.set_cons_succ]
                  refine takeN (i := 13) (v := ?vb13) rfl (by kernel_rfl) (by kernel_rfl) (by kernel_rfl) (fun _ _ _ h => h) (Or.inl ⟨by rfl, ?yb13⟩) hSS ?rb13
                  case yb13 => (intro w hSw; (try dsimp only at hSw); go_simp; first | done | with_reducible rfl)
                  try simp only [Act.put, List.setIfInBounds_toArray, List.set_cons_zero, List.set_cons_succ]
                  refine takeN (i := 14) (v := ?vb14) rfl (by kernel_rfl) (by kernel_rfl) (by kernel_rfl) (fun _ _ _ h => h) (Or.inl ⟨by rfl, ?yb14⟩) hSS ?rb14
                  case yb14 => (intro w hSw; (try dsimp only at hSw); go_simp; first | done | with_reducible rfl)
                  try simp only [Act.put, List.setIfInBounds_toArray, List.set_cons_zero, List.set_cons_succ]
                  refine takeN (i := 15) (v := ?vb15) rfl (by kernel_rfl) (by kernel_rfl) (by kernel_rfl) (fun _ _ _ h => h) (Or.inl ⟨by rfl, ?yb15⟩) hSS ?rb15
                  case yb15 => (intro w hSw; (try dsimp only at hSw); go_simp; first | done | with_reducible rfl)
                  try simp only [Act.put, List.setIfInBounds_toArray, List.set_cons_zero, List.set_cons_succ]
                  refine takeN (i := 16) (v := ?vb16) rfl (by kernel_rfl) (by kernel_rfl) (by kernel_rfl) (fun _ _ _ h => h) (Or.inl ⟨by rfl, ?yb16⟩) hSS ?rb16
                  case yb16 => (intro w hSw; (try dsimp only at hSw); go_simp; first | done | with_reducible rfl)
                  try simp only [Act.put, List.setIfInBounds_toArray, List.set_cons_zero, List.set_cons_succ]
                  refine takeN (i := 17) (v := ?vb17) rfl (by kernel_rfl) (by kernel_rfl) (by kernel_rfl) (fun _ _ _ h => h) (Or.inl ⟨by rfl, ?yb17⟩) hSS ?rb17
                  case yb17 => (intro w hSw; (try dsimp only at hSw); go_simp; first | done | with_reducible rfl)
                  try simp only [Act.put, List.setIfInBounds_toArray, List.set_cons_zero, List.set_cons_succ]
                  refine takeN (i := 18) (v := ?vb18) rfl (by kernel_rfl) (by kernel_rfl) (by kernel_rfl) (fun _ _ _ h => h) (Or.inl ⟨by rfl, ?yb18⟩) hSS ?rb18
                  case yb18 => (intro w hSw; (try dsimp only at hSw); go_simp; first | done | with_reducible rfl)
                  try simp only [Act.put, List.setIfInBounds_toArray, List.set_cons_zero, List.set_cons_succ]
                  refine takeN (i := 19) (v := ?vb19) rfl (by kernel_rfl) (by kernel_rfl) (by kernel_rfl) (fun _ _ _ h => h) (Or.inl ⟨by rfl, ?yb19⟩) hSS ?rb19
                  case yb19 => (intro w hSw; (try dsimp only at hSw); go_simp; first | done | with_reducible rfl)
                  try simp only [Act.put, List.setIfInBounds_toArray, List.set_cons_zero, List.set_cons_succ]
                  refine takeN (i := 20) (v := ?vb20) rfl (by kernel_rfl) (by kernel_rfl) (by kernel_rfl) (fun _ _ _ h => h) (Or.inl ⟨by rfl, ?yb20⟩) hSS ?rb20
                  case yb20 => (intro w hSw; (try dsimp only at hSw); go_simp; first | done | with_reducible rfl)
                  try simp only [Act.put, List.setIfInBounds_toArray, List.set_cons_zero, List.set_cons_succ]
                  refine takeN (i := 21) (v := ?vb21) rfl (by kernel_rfl) (by kernel_rfl) (by kernel_rfl) (fun _ _ _ h => h) (Or.inl ⟨by rfl, ?yb21⟩) hSS ?rb21
                  case yb21 => (intro w hSw; (try dsimp only at hSw); go_simp; first | done | with_reducible rfl)
                  try simp only [Act.put, List.setIfInBounds_toArray, List.set_cons_zero, List.set_cons_succ]
                  refine takeN (i := 22) (v := ?vb22) rfl (by kernel_rfl) (by kernel_rfl) (by kernel_rfl) (fun _ _ _ h => h) (Or.inl ⟨by rfl, ?yb22⟩) hSS ?rb22
                  case yb22 => (intro w hSw; (try dsimp only at hSw); go_simp; first | done | with_reducible rfl)
                  try simp only [Act.put, List.setIfInBounds_toArray, List.set_cons_zero, List.set_cons_succ]
                  refine takeN (i := 23) (v := ?vb23) rfl (by kernel_rfl) (by kernel_rfl) (by kernel_rfl) (fun _ _ _ h => h) (Or.inl ⟨by rfl, ?yb23⟩) hSS ?rb23
                  case yb23 => (intro w hSw; (try dsimp only at hSw); go_simp; first | done | with_reducible rfl)
                  try simp only [Act.put, List.setIfInBounds_toArray, List.set_cons_zero, List.set_cons_succ]
                  refine readyN (rs := [24]) (by kernel_rfl) (by simp) (consN rfl (fun K hK => ?_) nilN)
                  refine step_callsG (by rfl) 160 _ _ rfl enters_lorder _ #[.agg #[.int .u64 (z.n : Nat), .int .i64 z.lo, .int .i64 z.hi], .agg #[.int .u64 (y.n : Nat), .int .i64 y.lo, .int .i64 y.hi]] (by simp [Act.eval]) (HOR.out _) ?_; rintro e w3 ⟨rfl, hc⟩; refine ⟨_, rfl, ?_⟩
                  have HC4 := Lib.hid ((Chg.refl [] w2).drew.trans hc)
                  clear hc
                  refine hK.out _ _ (HS8.out _ (HC2.out.trans HC4.out)) (fun hHeld => ?_)
                  clear hK K hHeld
                  try simp only [Act.put, List.setIfInBounds_toArray, List.set_cons_zero, List.set_cons_succ]
                  refine takeN (i := 25) (v := ?vb25) rfl (by kernel_rfl) (by kernel_rfl) (by kernel_rfl) (fun _ _ _ h => h) (Or.inl ⟨by rfl, ?yb25⟩) (HS8.out _ (HC2.out.trans HC4.out)) ?rb25
                  case yb25 => (intro w hSw; (try dsimp only at hSw); go_simp; first | done | with_reducible rfl)
                  try simp only [Act.put, List.setIfInBounds_toArray, List.set_cons_zero, List.set_cons_succ]
                  refine takeN (i := 26) (v := ?vb26) rfl (by kernel_rfl) (by kernel_rfl) (by kernel_rfl) (fun _ _ _ h => h) (Or.inl ⟨by rfl, ?yb26⟩) (HS8.out _ (HC2.out.trans HC4.out)) ?rb26
                  case yb26 => (intro w hSw; (try dsimp only at hSw); go_simp; first | done | with_reducible rfl)
                  try simp only [Act.put, List.setIfInBounds_toArray, List.set_cons_zero, List.set_cons_succ]
                  refine takeN (i := 27) (v := ?vb27) rfl (by kernel_rfl) (by kernel_rfl) (by kernel_rfl) (fun _ _ _ h => h) (Or.inl ⟨by rfl, ?yb27⟩) (HS8.out _ (HC2.out.trans HC4.out)) ?rb27
                  case yb27 => (intro w hSw; (try dsimp only at hSw); go_simp; first | done | with_reducible rfl)
                  try simp only [Act.put, List.setIfInBounds_toArray, List.set_cons_zero, List.set_cons_succ]
                  refine doneN (by kernel_rfl) ?_ _
                  go_wp2_with fail
                  go_meet
                  exact ⟨by first | rfl | (rw [← dV]), HC4⟩
        case rest =>
          obtain ⟨rfl, HC3⟩ := hcut
          have HC5 := Lib.hid (HC9.out.trans (HC2.out.trans HC3.out))
          clear x0 x1 x2 x3
          cases V with
          | true =>
            have HNO := Lib.hid (show ¬ okLm most l from fun h => by
              have h1 := HAT.out h
              have h2 := HV.out
              rw [decide_eq_true h1] at h2
              exact absurd h2 (by decide))
            have HCF := Lib.hid (HLM.out.2.2.1.trans HC5.out)
            clear HAT HST HZ HS HSB HV HC3
            go_wp2_with fail
            go_ret2
            exact .inl ⟨HNO.out, rfl, HCF.out⟩
          | false =>
            have hgood : T + y.n ≤ 9223372036854775807 ∧ 1 ≤ y.n ∧ y.lo ≤ y.hi ∧ (0 < k → ltL z y = true) := by
              have h2 := HV.out
              simp only [Bool.false_eq, Bool.not_eq_false', decide_eq_true_eq] at h2
              exact h2
            have HPR := Lib.hid (HST.out hgood.1 hgood.2.1 hgood.2.2.1 hgood.2.2.2)
            have hSe : S = T + y.n := by rw [HSB.out.1, if_pos hgood.1]
            subst hSe
            have HL5 := Lib.hid (HLM.out.1.chg HC5.out (by simp))
            have HB5 := Lib.hid (HB9.out.chg (HC2.out.trans HC3.out) (by simp))
            have HG5 := Lib.hid (show b9 ≠ p ∧ b9 < wc.heap.size ∧ p ∉ abl a ∧ b9 ∉ abl a from by
              have h1 := HLM.out.1.lt
              have h2 := HG9.out
              have h3 := h1 p (by simp [fpL])
              refine ⟨by omega, HB5.out.lt, by have := HL5.out.p_rv; simpa using this, fun hb => ?_⟩
              have := h1 b9 (by simp [fpL, hb])
              omega)
            have HCF := Lib.hid (HLM.out.2.2.1.trans HC5.out)
            have HFR := Lib.hid HLM.out.2.2.2
            have hsum := hgood.1
            clear HAT HST HZ HS HSB HV HC3 hgood HC9 HB9 HC2 HLM HG9
            go_wp2_with fail
            have HCE := Lib.hid (fun wx (hu : Chg [] wc wx) => show wx.cell? ⟨p, 1, none⟩ = some (.slice a k c) ∧ wx.cell? ⟨b9, 0, none⟩ = some (.int .u64 (y.n : Nat)) ∧ wx.cell? ⟨b9, 1, none⟩ = some (.int .i64 y.lo) ∧ wx.cell? ⟨b9, 2, none⟩ = some (.int .i64 y.hi) from ⟨(HL5.out.chg hu (by simp)).cells.2.1, (HB5.out.chg hu (by simp)).cell 0, (HB5.out.chg hu (by simp)).cell 1, (HB5.out.chg hu (by simp)).cell 2⟩)
            have HCW := Lib.hid ((Chg.refl [] wc).drew)
            have hSS := HCE.out _ HCW.out
            refine startG (S := fun wx => wx.cell? ⟨p, 1, none⟩ = some (.slice a k c) ∧ wx.cell? ⟨b9, 0, none⟩ = some (.int .u64 (y.n : Nat)) ∧ wx.cell? ⟨b9, 1, none⟩ = some (.int .i64 y.lo) ∧ wx.cell? ⟨b9, 2, none⟩ = some (.int .i64 y.hi)) (st := 12) (by kernel_rfl) hSS (fun hHeld => ?_)
            refine takeP (i := 0) (v := ?vc0) rfl (by kernel_rfl) (by kernel_rfl) (by kernel_rfl) (by decide) (fun _ _ _ h => h) (Or.inl ⟨by rfl, ?yc0⟩) hSS ?rc0
            case yc0 => (intro w _; go_simp; first | done | with_reducible rfl)
            try simp only [Act.put, List.setIfInBounds_toArray, List.set_cons_zero, List.set_cons_succ]
            refine takeP (i := 1) (v := ?vc1) rfl (by kernel_rfl) (by kernel_rfl) (by kernel_rfl) (by decide) (fun _ _ _ h => h) (Or.inl ⟨by rfl, ?yc1⟩) hSS ?rc1
            case yc1 => (intro w _; go_simp; first | done | with_reducible rfl)
            try simp only [Act.put, List.setIfInBounds_toArray, List.set_cons_zero, List.set_cons_succ]
            refine takeP (i := 2) (v := ?vc2) rfl (by kernel_rfl) (by kernel_rfl) (by kernel_rfl) (by decide) (fun _ _ _ h => h) (Or.inl ⟨by rfl, ?yc2⟩) hSS ?rc2
            case yc2 => (intro w _; go_simp; first | done | with_reducible rfl)
            try simp only [Act.put, List.setIfInBounds_toArray, List.set_cons_zero, List.set_cons_succ]
            refine takeP (i := 3) (v := ?vc3) rfl (by kernel_rfl) (by kernel_rfl) (by kernel_rfl) (by decide) (fun _ _ _ h => h) (Or.inl ⟨by rfl, ?yc3⟩) hSS ?rc3
            case yc3 => (intro w _; go_simp; first | done | with_reducible rfl)
            try simp only [Act.put, List.setIfInBounds_toArray, List.set_cons_zero, List.set_cons_succ]
            refine takeP (i := 4) (v := ?vc4) rfl (by kernel_rfl) (by kernel_rfl) (by kernel_rfl) (by decide) (fun _ _ _ h => h) (Or.inl ⟨by rfl, ?yc4⟩) hSS ?rc4
            case yc4 => (intro w _; go_simp; first | done | with_reducible rfl)
            try simp only [Act.put, List.setIfInBounds_toArray, List.set_cons_zero, List.set_cons_succ]
            refine takeG (i := 5) (v := ?vc5) rfl (by kernel_rfl) (by kernel_rfl) (by kernel_rfl) (by decide) (by kernel_rfl) (by kernel_rfl) (fun _ _ _ h => h) (Or.inl ⟨by rfl, ?yc5⟩) hSS ?rc5
            case yc5 => (intro w hSw; (try dsimp only at hSw); go_simp; first | done | with_reducible rfl)
            try simp only [Act.put, List.setIfInBounds_toArray, List.set_cons_zero, List.set_cons_succ]
            refine takeG (i := 6) (v := ?vc6) rfl (by kernel_rfl) (by kernel_rfl) (by kernel_rfl) (by decide) (by kernel_rfl) (by kernel_rfl) (fun _ _ _ h => h) (Or.inl ⟨by rfl, ?yc6⟩) hSS ?rc6
            case yc6 => (intro w hSw; (try dsimp only at hSw); go_simp; first | done | with_reducible rfl)
            try simp only [Act.put, List.setIfInBounds_toArray, List.set_cons_zero, List.set_cons_succ]
            refine takeP (i := 9) (v := ?vc9) rfl (by kernel_rfl) (by kernel_rfl) (by kernel_rfl) (by decide) (fun _ _ _ h => h) (Or.inl ⟨by rfl, ?yc9⟩) hSS ?rc9
            case yc9 => (intro w _; go_simp; first | done | with_reducible rfl)
            try simp only [Act.put, List.setIfInBounds_toArray, List.set_cons_zero, List.set_cons_succ]
            refine readyG (rs := [7]) (by kernel_rfl) (by simp) (consG rfl (fun K hK => ?_) nilG)
            refine step_bL1 rfl 72 rfl y (by simp [Act.eval]) ?_; intro gb w4 hb hc hg
            have HW4 := Lib.hid (HCW.out.trans hc)
            have HGB := Lib.hid (show wc.heap.size ≤ gb from by have := HCW.out.size; omega)
            have HR4 := Lib.hid (show Rd w4 3 (.slice (some ⟨gb, 0, none⟩) 1 1) 1 (lpCells [y]) from ⟨by simp [lpCells, Lp.cells], _, _, rfl, .inr ⟨gb, 0, rfl, fun j hj => by rw [Nat.zero_add, hb.cell j]; simp [lpCells, Lp.cells]⟩⟩)
            clear hb hc hg hSS
            have hSS := HCE.out _ HW4.out
            refine hK.out _ _ (fun _ _ => hSS) (fun hHeld => ?_)
            clear hK K hHeld
            try simp only [Act.put, List.setIfInBounds_toArray, List.set_cons_zero, List.set_cons_succ]
            refine readyG (rs := [8]) (by kernel_rfl) (by simp) (consG rfl (fun K hK => ?_) nilG)
            refine step_append_src rfl (.tmp 71) (.tmp 73) 235 235 rfl 256 _ 3 24 under_lumps info_lump rfl (by decide) (.slice a k c) k (lpCells (l.take k)) (by simp [Act.eval]) (by have h := (HL5.out.chg HW4.out (by simp)).own; rw [List.length_take, Nat.min_eq_left (by have := HN.out; omega)] at h; exact h) (.slice (some ⟨gb, 0, none⟩) 1 1) 1 (lpCells [y]) (by simp [Act.eval]) (Src.of_rd under_lumps HR4.out) (lpCells_oneCell _) (by unfold maxLen; omega) (by omega) ?_; intro a5 c5 w5 ho5 hg5 hf5
            have HW5 := Lib.hid ((HW4.out.nil (F := abl a)).trans (by simpa using hg5))
            have HO5 := Lib.hid ho5
            have HF5 := Lib.hid (show ∀ b ∈ abl a5, b ∈ abl a ∨ wc.heap.size ≤ b from fun b hb => by have h := hf5 b hb; rw [blkOf_slice] at h; exact h.imp id (fun h2 => Nat.le_trans HW4.out.size h2))
            have HP5 := Lib.hid (HL5.out.blk.chg HW5.out HG5.out.2.2.1)
            have HBX := Lib.hid (HB5.out.chg HW5.out HG5.out.2.2.2)
            clear ho5 hg5 hf5 hSS
            have hSS : w5.cell? ⟨p, 1, none⟩ = some (.slice a k c) ∧ w5.cell? ⟨b9, 0, none⟩ = some (.int .u64 (y.n : Nat)) ∧ w5.cell? ⟨b9, 1, none⟩ = some (.int .i64 y.lo) ∧ w5.cell? ⟨b9, 2, none⟩ = some (.int .i64 y.hi) := ⟨HP5.out.cell 1, HBX.out.cell 0, HBX.out.cell 1, HBX.out.cell 2⟩
            have fz1 := HP5.out.free 1
            have fz2 := HP5.out.free 2
            have cz1 : w5.cell? ⟨p, 1, none⟩ = some (.slice a k c) := HP5.out.cell 1
            have cz2 : w5.cell? ⟨p, 2, none⟩ = some (.int .u64 (T : Nat)) := HP5.out.cell 2
            refine hK.out _ _ (fun _ _ => hSS) (fun hHeld => ?_)
            clear hK K hHeld
            try simp only [Act.put, List.setIfInBounds_toArray, List.set_cons_zero, List.set_cons_succ]
            refine takeP (i := 10) (v := ?vc10) rfl (by kernel_rfl) (by kernel_rfl) (by kernel_rfl) (by decide) (fun _ _ _ h => h) (Or.inl ⟨by rfl, ?yc10⟩) hSS ?rc10
            case yc10 => (intro w _; go_simp; first | done | with_reducible rfl)
            try simp only [Act.put, List.setIfInBounds_toArray, List.set_cons_zero, List.set_cons_succ]
            refine takeP (i := 11) (v := ?vc11) rfl (by kernel_rfl) (by kernel_rfl) (by kernel_rfl) (by decide) (fun _ _ _ h => h) (Or.inl ⟨by rfl, ?yc11⟩) hSS ?rc11
            case yc11 => (intro w _; go_simp; first | done | with_reducible rfl)
            try simp only [Act.put, List.setIfInBounds_toArray, List.set_cons_zero, List.set_cons_succ]
            refine readyG (rs := [12]) (by kernel_rfl) (by simp) (consG rfl (fun K hK => ?_) nilG)
            go_simp
            refine hK.out _ _ (fun h => absurd rfl h) (fun hHeld => ?_)
            clear hK K hHeld
            try simp only [Act.put, List.setIfInBounds_toArray, List.set_cons_zero, List.set_cons_succ]
            refine readyG (rs := [13]) (by kernel_rfl) (by simp) (consG rfl (fun K hK => ?_) nilG)
            go_simp
            refine hK.out _ _ (fun _ h => absurd h (by decide)) (fun hHeld => ?_)
            clear hK K hHeld
            try simp only [Act.put, List.setIfInBounds_toArray, List.set_cons_zero, List.set_cons_succ]
            refine readyG (rs := [14]) (by kernel_rfl) (by simp) (consG rfl (fun K hK => ?_) nilG)
            go_simp
            refine hK.out _ _ (fun _ h => absurd h (by decide)) (fun hHeld => ?_)
            clear hK K hHeld
            try simp only [Act.put, List.setIfInBounds_toArray, List.set_cons_zero, List.set_cons_succ]
            refine readyG (rs := [15]) (by kernel_rfl) (by simp) (consG rfl (fun K hK => ?_) nilG)
            go_simp
            refine hK.out _ _ (fun _ h => absurd h (by decide)) (fun hHeld => ?_)
            clear hK K hHeld
            try simp only [Act.put, List.setIfInBounds_toArray, List.set_cons_zero, List.set_cons_succ]
            refine doneG (by kernel_rfl) ?_ _
            have hpa5 : p ∉ abl a5 := fun hb => by
              rcases HF5.out p hb with h | h
              · exact HG5.out.2.2.1 h
              · have := HL5.out.blk.lt; omega
            have hc6 : Chg [p] w5 ((w5.setCell ⟨p, 1, none⟩ (.slice a5 (k + 1) c5)).setCell ⟨p, 2, none⟩ (.int .u64 ((T + y.n : Nat) : Int))) := ((Chg.refl [p] w5).setCell (by simp) _).setCell (by simp) _
            have HNX := Lib.hid (show Lms ((w5.setCell ⟨p, 1, none⟩ (.slice a5 (k + 1) c5)).setCell ⟨p, 2, none⟩ (.int .u64 ((T + y.n : Nat) : Int))) p (.slice a5 (k + 1) c5) most (l.take (k + 1)) (totL (l.take (k + 1))) from by
              have hlen : (l.take (k + 1)).length = k + 1 := by rw [List.length_take]; have := HN.out; omega
              have htt : totL (l.take (k + 1)) = T + y.n := by rw [HTK.out, totL_app, totL_cons, totL_nil, HT.out]; omega
              refine ⟨?_, ?_⟩
              · rw [htt]
                have := (HP5.out.setCell 1 (.slice a5 (k + 1) c5)).setCell 2 (.int .u64 ((T + y.n : Nat) : Int))
                exact this
              · rw [hlen, HTK.out, lpCells_append]
                exact HO5.out.chg hc6 (fun b hb e => hpa5 (by rw [blkOf_slice] at hb; rw [← List.mem_singleton.1 e]; exact hb)))
            have HCX := Lib.hid (show Chg [] w ((w5.setCell ⟨p, 1, none⟩ (.slice a5 (k + 1) c5)).setCell ⟨p, 2, none⟩ (.int .u64 ((T + y.n : Nat) : Int))) from (HCF.out.trans' HW5.out (fun b hb => .inr (HFR.out b hb))).trans' hc6 (fun b hb => .inr (by rw [List.mem_singleton.1 hb]; exact Nat.le_trans (Nat.le_refl _) HP1.out)))
            have HFX := Lib.hid (show ∀ b ∈ abl a5, w.heap.size ≤ b from fun b hb => by
              rcases HF5.out b hb with h | h
              · exact HFR.out b h
              · have := HCF.out.size; omega)
            clear hSS fz1 fz2 cz1 cz2 hc6 hpa5 HP5 HBX HO5 HW5 HW4 HR4 HGB HCE HCW
            go_wp2_with fail
            exact ⟨⟨k + 1, a5, c5, by omega, by go_num, Lib.hid ⟨HNX.out, HPR.out, HCX.out, HFX.out⟩⟩, by simp [intOf]; omega⟩
      · obtain rfl : k = n := by omega
        have hfull : l.take k = l := List.take_of_length_le (by have := HN.out; omega)
        have hL := HLM.out
        rw [hfull] at hL
        have HL := Lib.hid hL
        have HPF := Lib.hid (show totL l ≤ 9223372036854775807 ∧ (∀ p ∈ l, 1 ≤ p.n ∧ p.lo ≤ p.hi) ∧ risesL l from by
          have h1 := hL.2.1.tot
          have h2 := hL.2.1.each
          have h3 := hL.2.1.rises
          rw [hfull] at h1 h2 h3
          exact ⟨h1, h2, h3⟩)
        clear hL hfull HLM
        by_cases hm : most < (k : Int)
        · have dm : decide (most < (k : Int)) = true := decide_eq_true hm
          have HX := Lib.hid (show ¬ okLm most l from fun h => by have h1 := h.few; have h2 := HN.out; omega)
          clear hm
          go_wp2_with fail
          go_ret2
          exact .inl ⟨HX.out, rfl, HL.out.2.2.1⟩
        · have dm : decide (most < (k : Int)) = false := decide_eq_false hm
          have HX := Lib.hid (show okLm most l from ⟨HMO.out.1, HMO.out.2, by have h2 := HN.out; omega, HPF.out.1, HPF.out.2.1, HPF.out.2.2⟩)
          clear hm
          go_wp2_with fail
          go_ret2
          refine .inr ⟨HX.out, p, _, rfl, HL.out.1, HL.out.2.2.1, fun b hb => ?_⟩
          simp only [fpL, blkOf_slice, List.mem_cons] at hb
          rcases hb with rfl | hb
          · exact HP1.out
          · exact HL.out.2.2.2 b hb
end Go.Proofs.YtmehcfocfljoeaaGreatDoor
