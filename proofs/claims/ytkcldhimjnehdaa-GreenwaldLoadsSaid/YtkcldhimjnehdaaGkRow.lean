/-
  The walks of slices.Clone, (*Sketch).Row, Quantile, Rank, Part (layer 19). Conditions: the form's own reach.
-/
import Derived.Test.YtkcldhimjnehdaaGkPut
import Derived.Test.YtkcldhimjnehdaaPlace
import Derived.Test.YtkcldhimjnehdaaTupAsk
namespace Go.Proofs.Ytkcldhimjnehdaa
open Go.RowKit

set_option maxRecDepth 100000 in
set_option maxHeartbeats 1000000 in
theorem clone_i (w : World) (ao : Option Addr) (cap n : Nat) (l : List Int) (hrd : Rd w 1 (.slice ao n cap) n (ints l)) (hl : n ≤ 1000000) :
    Calls Try.prog 53 #[.slice ao n cap] w fun e w' => ∃ a3 c3, e = .returned (.slice a3 n c3) ∧ Own w' 2 1 (.slice a3 n c3) n (ints l) ∧ Chg [] w w' ∧ ∀ b ∈ abl a3, w.heap.size ≤ b := by
  have hu : ∀ (w : World) (a : Option Addr) (n c n' c' : Nat), (binOp .eql 61 (.slice a n c) (.slice none n' c')).run Try.prog w = .ok (.bool a.isNone) w := fun w a n c n' c' => Lib.run_eql_slice_nil w _ _ a n c n' c' under_ints
  cases ao with
  | none =>
    obtain ⟨hx, ao, cp, h0, h1⟩ := hrd
    simp only [Value.slice.injEq] at h0
    obtain ⟨rfl, -, -⟩ := h0
    obtain rfl : n = 0 := by
      rcases h1 with h1 | ⟨_, _, h1, _⟩
      · exact h1
      · simp at h1
    have hxl : l = [] := List.eq_nil_of_length_eq_zero (by simpa using hx)
    subst hxl
    go_enter Try.func53, Try.ntmps53
    go_wp2
    go_ret
    exact ⟨none, 0, rfl, Own.nil _ _ _, Chg.refl _ _, by simp⟩
  | some a =>
    go_enter Try.func53, Try.ntmps53
    go_wp2_with (at_builtin; go_must (refine wpList_append_src _ rfl (.tmp 5) (.tmp 6) 61 61 rfl 2 _ 1 8 under_ints info_i64 rfl (by decide) (.slice (some ⟨w.heap.size, 0, none⟩) 0 0) 0 (ints []) rfl (Own.lit w 2 1 0 #[] rfl (by unfold maxLen; omega)) (.slice (some a) n cap) n (ints l) rfl (Src.of_rd under_ints (hrd.alloc _)) (ints_oneCell _) (by unfold maxLen; omega) (by omega) ?_; intro a5 c5 w2 ho2 hg2 hf2))
    go_ret
    rw [Nat.zero_add] at ho2
    refine ⟨a5, c5, by simp, by simpa [ints] using ho2, ((Chg.refl [] w).alloc _).trans' hg2 (by simp), fun b hb => ?_⟩
    rcases hf2 b hb with h | h
    · simp at h; omega
    · simp at h; omega
set_option maxRecDepth 100000 in
set_option maxHeartbeats 1000000 in
theorem clone_t (w : World) (ao : Option Addr) (cap n : Nat) (l : List Tp) (hrd : Rd w 3 (.slice ao n cap) n (tpCells l)) (hl : n ≤ 1000000) :
    Calls Try.prog 52 #[.slice ao n cap] w fun e w' => ∃ a3 c3, e = .returned (.slice a3 n c3) ∧ Own w' 28 3 (.slice a3 n c3) n (tpCells l) ∧ Chg [] w w' ∧ ∀ b ∈ abl a3, w.heap.size ≤ b := by
  have hu : ∀ (w : World) (a : Option Addr) (n c n' c' : Nat), (binOp .eql 22 (.slice a n c) (.slice none n' c')).run Try.prog w = .ok (.bool a.isNone) w := fun w a n c n' c' => Lib.run_eql_slice_nil w _ _ a n c n' c' under_tuples
  cases ao with
  | none =>
    obtain ⟨hx, ao, cp, h0, h1⟩ := hrd
    simp only [Value.slice.injEq] at h0
    obtain ⟨rfl, -, -⟩ := h0
    obtain rfl : n = 0 := by
      rcases h1 with h1 | ⟨_, _, h1, _⟩
      · exact h1
      · simp at h1
    have hxl : l = [] := List.eq_nil_of_length_eq_zero (by rw [tpCells_len] at hx; omega)
    subst hxl
    go_enter Try.func52, Try.ntmps52
    go_wp2
    go_ret
    exact ⟨none, 0, rfl, Own.nil _ _ _, Chg.refl _ _, by simp⟩
  | some a =>
    go_enter Try.func52, Try.ntmps52
    go_wp2_with (at_builtin; go_must (refine wpList_append_src _ rfl (.tmp 5) (.tmp 6) 22 22 rfl 28 _ 3 24 under_tuples info_tuple rfl (by decide) (.slice (some ⟨w.heap.size, 0, none⟩) 0 0) 0 (tpCells []) rfl (Own.lit w 28 3 0 #[] rfl (by unfold maxLen; omega)) (.slice (some a) n cap) n (tpCells l) rfl (Src.of_rd under_tuples (hrd.alloc _)) (tpCells_oneCell _) (by unfold maxLen; omega) (by omega) ?_; intro a5 c5 w2 ho2 hg2 hf2))
    go_ret
    rw [Nat.zero_add] at ho2
    refine ⟨a5, c5, by simp, by simpa [tpCells] using ho2, ((Chg.refl [] w).alloc _).trans' hg2 (by simp), fun b hb => ?_⟩
    rcases hf2 b hb with h | h
    · simp at h; omega
    · simp at h; omega

set_option maxRecDepth 100000 in
set_option maxHeartbeats 2000000 in
theorem gk_row (w : World) (p : Nat) (rv wv : Value) (D : GkD) (h : Gk w p rv wv D) (n m : Nat) (hn : n = D.row.length) (hm : m = D.waits.length) (hl : n ≤ 30000) (hl2 : m ≤ 100) :
    Calls Try.prog 27 #[.pointer (some ⟨p, 0, none⟩)] w fun e w' => ∃ a1 c1 a2 c2, e = .returned (.tuple #[.slice a1 n c1, .slice a2 m c2]) ∧ Own w' 28 3 (.slice a1 n c1) n (tpCells D.row) ∧ Own w' 2 1 (.slice a2 m c2) m (ints D.waits) ∧ Chg [] w w' ∧ (∀ b ∈ abl a1, w.heap.size ≤ b) ∧ ∀ b ∈ abl a2, w.heap.size ≤ b := by
  obtain ⟨ro, rc, hrv⟩ := h.row.shape
  obtain ⟨wo, wc, hwv⟩ := h.wait.shape
  subst hrv hwv
  rw [← hn, ← hm] at h
  obtain ⟨-, -, c2, c3, -⟩ := h.cells
  have hb := h.blk
  have HR := Lib.hid (fun u (hu : Chg [] w u) => clone_t u ro rc n D.row (by have h1 := (h.chg hu (by simp)).row.rd; rw [← hn] at h1; exact h1) (by omega))
  have HW := Lib.hid (fun u (hu : Chg [] w u) => clone_i u wo wc m D.waits (by have h1 := (h.chg hu (by simp)).wait.rd; rw [← hm] at h1; exact h1) (by omega))
  have HC := Lib.hid (fun u (hu : Chg [] w u) => show u.cell? ⟨p, 2, none⟩ = some (.slice ro n rc) ∧ u.cell? ⟨p, 3, none⟩ = some (.slice wo m wc) from by
    obtain ⟨-, -, c2, c3, -⟩ := (h.chg hu (by simp)).cells
    exact ⟨c2, c3⟩)
  clear h hb hn hm
  go_enter Try.func27, Try.ntmps27
  go_wp2_with fail
  go_region_with (first | (go_at_call 52; refine (HR.out _ (by with_reducible (repeat (first | exact Chg.refl _ _ | apply Chg.drew)))).mono ?_; rintro e w1 ⟨a1, c1, rfl, ho1, hc1, hf1⟩; (have h1w : Chg [] w w1 := Chg.trans (by with_reducible (repeat (first | exact Chg.refl _ _ | apply Chg.drew))) hc1); obtain ⟨q2, q3⟩ := HC.out _ h1w) | (go_at_call 53; refine (HW.out _ (by with_reducible (repeat (first | exact h1w | apply Chg.drew)))).mono ?_; rintro e w2 ⟨a2, c2', rfl, ho2, hc2, hf2⟩))
  all_goals
    go_wp2_with fail
    go_ret2
    exact ⟨a1, c1, a2, c2', rfl, ho1.chg hc2 (by simp), ho2, h1w.trans hc2, hf1, fun b hb => Nat.le_trans h1w.size (hf2 b hb)⟩

set_option maxRecDepth 100000 in
set_option maxHeartbeats 2000000 in
theorem gk_rank (w : World) (p : Nat) (rv wv : Value) (D : GkD) (h : Gk w p rv wv D) (hok : D.ok) (hg : goodK D.num D.den = true) (hn : D.total ≤ 30000) (x : Int) :
    Calls Try.prog 18 #[.pointer (some ⟨p, 0, none⟩), .int .i64 x] w fun e w' => e = .returned (.tuple #[.int .u64 ((rankF 0 D.flush.row x).1 : Nat), .int .u64 ((rankF 0 D.flush.row x).2 : Nat)]) ∧ ∃ rv' wv', Gk w' p rv' wv' D.flush ∧ Mv (fpK p rv wv) w (fpK p rv' wv') w' := by
  have HFL := Lib.hid (gk_flush w p rv wv D h ⟨hok.fine, hok.placed, hok.len, by have := hok.few; omega, hok.tight⟩ hg hn)
  have HO := Lib.hid (GkD.flush_ok0 hok)
  have ht := D.flush_same.2.2.1
  have hvl : D.flush.vals.length ≤ 30000 := by unfold GkD.total at ht hn; omega
  generalize D.flush = E at *
  obtain ⟨R1, hR1⟩ : ∃ z, z = (rankF 0 E.row x).1 := ⟨_, rfl⟩
  obtain ⟨R2, hR2⟩ : ∃ z, z = (rankF 0 E.row x).2 := ⟨_, rfl⟩
  have HR1 := Lib.hid hR1
  have HR2 := Lib.hid hR2
  rw [← hR1, ← hR2]
  clear h hok hg hn hR1 hR2 ht
  go_enter Try.func18, Try.ntmps18
  go_wp2_with fail
  refine HFL.out.mono ?_
  rintro e w1 ⟨rfl, rv1, wv1, hg1, hm1⟩
  obtain ⟨-, -, c2, -, -⟩ := hg1.cells
  obtain ⟨ro, rc, hrv⟩ := hg1.row.shape
  subst hrv
  have HG1 := Lib.hid hg1
  have HM1 := Lib.hid hm1
  have hlen := HO.out.len
  have hfine := HO.out.fine
  have HRK := Lib.hid (tup_rank w1 ro rc E.row x hg1.row.rd (by omega) (fun s hs => by have := hfine.high s hs; omega) hfine.pos)
  rw [← HR1.out, ← HR2.out] at HRK
  obtain ⟨n0, hn0⟩ : ∃ n, n = E.row.length := ⟨_, rfl⟩
  rw [← hn0] at c2 HRK HM1 HG1
  clear hg1 hm1 hlen hfine hn0 HFL
  go_wp2_with fail
  refine HRK.out.mono ?_
  rintro e w2 ⟨rfl, hc2⟩
  have HG2 := Lib.hid (HG1.out.chg hc2 (by simp))
  have HM2 := Lib.hid (HM1.out.trans (Mv.of_chg hc2.nil))
  clear hc2
  go_wp2_with fail
  go_ret2
  exact ⟨rfl, _, _, HG2.out, HM2.out⟩

set_option maxRecDepth 100000 in
set_option maxHeartbeats 4000000 in
theorem gk_quantile (w : World) (p : Nat) (rv wv : Value) (D : GkD) (h : Gk w p rv wv D) (hok : D.ok) (hg : goodK D.num D.den = true) (hn : D.total ≤ 30000) (num den : Nat) (hnum : num < 18446744073709551616) (hden : den < 18446744073709551616)
    (T E : Nat) (hT : T = placeT num den D.total) (hE : E = placeE num den D.total) :
    Calls Try.prog 23 #[.pointer (some ⟨p, 0, none⟩), .agg #[.int .u64 (num : Nat), .int .u64 (den : Nat)]] w fun e w' =>
      (E ≠ 0 ∧ e = .returned (.tuple #[.int .i64 0, .int .i64 (E : Nat)]) ∧ Gk w' p rv wv D ∧ Chg [] w w') ∨
      (E = 0 ∧ e = .returned (.tuple #[.int .i64 (foundX T D.flush.row), .int .i64 0]) ∧ ∃ rv' wv', Gk w' p rv' wv' D.flush ∧ Mv (fpK p rv wv) w (fpK p rv' wv') w') := by
  have hc := (Chg.refl [] w).alloc (.cells #[.int .u64 num, .int .u64 den] 25)
  have hbx := Blk.alloc_new w #[.int .u64 num, .int .u64 den] 25
  have b0 := hbx.cell 0
  have b1 := hbx.cell 1
  have HG0 := Lib.hid h
  obtain ⟨-, -, -, -, c4⟩ := (h.chg hc (by simp)).cells
  obtain ⟨Ei, hEi⟩ : ∃ z : Int, z = (E : Nat) := ⟨_, rfl⟩
  obtain ⟨N, hN⟩ : ∃ N, N = D.total := ⟨_, rfl⟩
  rw [← hN] at c4 hT hE hn
  have HPL := Lib.hid (fun u => show Calls Try.prog 50 #[.agg #[.int .u64 (num : Nat), .int .u64 (den : Nat)], .int .u64 (N : Nat)] u fun e w' => e = .returned (.tuple #[.int .u64 (T : Nat), .int .i64 Ei]) ∧ Chg [] u w' from by rw [hEi]; exact share_place u num den N hnum hden (by omega) T E hT hE)
  have HC := Lib.hid hc
  have HEI := Lib.hid hEi
  have HOK := Lib.hid hok
  have HGD := Lib.hid hg
  have HN := Lib.hid hN
  have HTE := Lib.hid (show E = 0 → 1 ≤ T ∧ T ≤ N from fun h => by rw [hT]; exact placeT_of (by rw [← hE]; exact h))
  rw [← hEi]
  clear h hok hg hc hbx hEi hN hT hE
  go_enter Try.func23, Try.ntmps23
  go_wp2_with fail
  go_cut [6, 7] (fun a b wx => a = .int .u64 (T : Nat) ∧ b = .int .i64 Ei ∧ Chg [] w wx)
  case first =>
    go_region_with (first | (go_at_call 50; refine (HPL.out _).mono ?_; rintro e w1 ⟨rfl, hc1⟩))
    all_goals
      go_wp2_with fail
      go_meet
      exact ⟨rfl, rfl, HC.out.trans ((Chg.drew (Chg.refl [] _)).trans hc1)⟩
  case rest =>
    obtain ⟨rfl, rfl, hc1⟩ := hcut
    have HG1 := Lib.hid (HG0.out.chg hc1 (by simp))
    have HC1 := Lib.hid hc1
    clear HPL HC b0 b1 c4 hc1 HG0
    by_cases hE : E = 0
    · subst hE
      obtain rfl : Ei = 0 := HEI.out
      obtain ⟨hT1, hT2⟩ := HTE.out rfl
      have HFL := Lib.hid (gk_flush wc p rv wv D HG1.out ⟨HOK.out.fine, HOK.out.placed, HOK.out.len, by have := HOK.out.few; omega, HOK.out.tight⟩ HGD.out (by have := HN.out; omega))
      have HO := Lib.hid (GkD.flush_ok0 HOK.out)
      have ht := D.flush_same.2.2.1
      have hvl : D.flush.vals.length ≤ 30000 := by have := HN.out; unfold GkD.total at ht this; omega
      obtain ⟨E, hE2⟩ : ∃ E, E = D.flush := ⟨_, rfl⟩
      rw [← hE2] at HFL HO hvl
      have HEQ := Lib.hid hE2
      obtain ⟨V, hV⟩ : ∃ V, V = foundX T E.row := ⟨_, rfl⟩
      have HV := Lib.hid hV
      clear ht hV HG1 hE2
      go_wp2_with fail
      refine HFL.out.mono ?_
      rintro e w1 ⟨rfl, rv1, wv1, hg1, hm1⟩
      obtain ⟨-, -, c2, -, -⟩ := hg1.cells
      obtain ⟨ro, rc, hrv⟩ := hg1.row.shape
      subst hrv
      have HG1 := Lib.hid hg1
      have HM1 := Lib.hid ((Mv.of_chg (F := fpK p rv wv) HC1.out.nil).trans hm1)
      have hlen := HO.out.len
      have hfine := HO.out.fine
      have HRK := Lib.hid (tup_find w1 ro rc E.row T (by omega) hg1.row.rd (by omega) (fun s hs => by have := hfine.high s hs; omega))
      rw [← HV.out] at HRK
      obtain ⟨n0, hn0⟩ : ∃ n, n = E.row.length := ⟨_, rfl⟩
      rw [← hn0] at c2 HRK HM1 HG1
      generalize decide (0 < n0) = bb at *
      clear hg1 hm1 hlen hfine hn0 HFL
      go_wp2_with fail
      refine HRK.out.mono ?_
      rintro e w2 ⟨rfl, hc2⟩
      have HG2 := Lib.hid (HG1.out.chg hc2 (by simp))
      have HM2 := Lib.hid (HM1.out.trans (Mv.of_chg hc2.nil))
      clear hc2
      go_wp2_with fail
      go_ret2
      rw [← HEQ.out, ← HV.out]
      first
      | exact ⟨rfl, _, _, HG2.out, HM2.out⟩
      | exact .inr ⟨rfl, rfl, _, _, HG2.out, HM2.out⟩
    · have hne : (Ei != 0) = true := by rw [bne_iff_ne]; have := HEI.out; omega
      have HNE := Lib.hid hE
      clear hE
      go_wp2_with fail
      go_ret2
      exact .inl ⟨HNE.out, rfl, HG1.out, HC1.out⟩
end Go.Proofs.Ytkcldhimjnehdaa
