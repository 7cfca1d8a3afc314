/-
  The walks of lumps.New, Total, Most, Lumps, Ends, Rank, Quantile (layer 22). Conditions: the form's own reach.
  suite's New of any config: it returns, and nothing that was is changed. Conditions: the document's tens.
  How a config is stored. Conditions: none.
-/
import Derived.Test.YtmehcfocfljoeaaGreatDoorSlotsErrorsB32
import Derived.Test.YtmehcfocfljoeaaGreatDoorSlotsErrorsB33
import Derived.Lib.Slices
import Derived.Test.YtmehcfocfljoeaaGreatDoorSlotsErrorsB4
import Derived.Test.YtmehcfocfljoeaaGreatDoorSlotsErrorsB14
import Derived.Test.YtmehcfocfljoeaaGreatDoorSlotsErrorsB16
import Derived.Test.YtmehcfocfljoeaaGreatDoorSlotsErrorsB23
import Derived.Test.YtmehcfocfljoeaaGreatDoorSlotsErrorsB28
namespace Go.Proofs.YtmehcfocfljoeaaGreatDoor
open Go.RowKit

set_option maxRecDepth 100000 in
set_option maxHeartbeats 1000000 in
theorem clone_lumps (w : World) (ao : Option Addr) (cap n : Nat) (l : List Lp) (hrd : Rd w 3 (.slice ao n cap) n (lpCells l)) (hl : n ≤ 1000000) :
    Calls Tryz.prog 456 #[.slice ao n cap] w fun e w' => ∃ a3 c3, e = .returned (.slice a3 n c3) ∧ Own w' 256 3 (.slice a3 n c3) n (lpCells l) ∧ Chg [] w w' ∧ ∀ b ∈ abl a3, w.heap.size ≤ b := by
  have hu : ∀ (w : World) (a : Option Addr) (n c n' c' : Nat), (binOp .eql 235 (.slice a n c) (.slice none n' c')).run Tryz.prog w = .ok (.bool a.isNone) w := fun w a n c n' c' => Lib.run_eql_slice_nil w _ _ a n c n' c' under_lumps
  cases ao with
  | none =>
    obtain ⟨hx, ao, cp, h0, h1⟩ := hrd
    simp only [Value.slice.injEq] at h0
    obtain ⟨rfl, -, -⟩ := h0
    obtain rfl : n = 0 := by
      rcases h1 with h1 | ⟨_, _, h1, _⟩
      · exact h1
      · simp at h1
    have hxl : l = [] := List.eq_nil_of_length_eq_zero (by rw [lpCells_len] at hx; omega)
    subst hxl
    go_enter Tryz.func456, Tryz.ntmps456
    go_wp2
    go_ret
    exact ⟨none, 0, rfl, Own.nil _ _ _, Chg.refl _ _, by simp⟩
  | some a =>
    go_enter Tryz.func456, Tryz.ntmps456
    go_wp2_with (at_builtin; go_must (refine wpList_append_src _ rfl (.tmp 5) (.tmp 6) 235 235 rfl 256 _ 3 24 under_lumps info_lump rfl (by decide) (.slice (some ⟨w.heap.size, 0, none⟩) 0 0) 0 (lpCells []) rfl (Own.lit w 256 3 0 #[] rfl (by unfold maxLen; omega)) (.slice (some a) n cap) n (lpCells l) rfl (Src.of_rd under_lumps (hrd.alloc _)) (lpCells_oneCell _) (by unfold maxLen; omega) (by omega) ?_; intro a5 c5 w2 ho2 hg2 hf2))
    go_ret
    rw [Nat.zero_add] at ho2
    refine ⟨a5, c5, by simp, by simpa [lpCells] using ho2, ((Chg.refl [] w).alloc _).trans' hg2 (by simp), fun b hb => ?_⟩
    rcases hf2 b hb with h | h
    · simp at h; omega
    · simp at h; omega

/-- What New answers. -/
def NewLm (w w' : World) (most : Int) (e : Ending) : Prop :=
  (¬ (2 ≤ most ∧ most ≤ 64) ∧ e = .returned (.tuple #[.pointer none, .int .i64 1]) ∧ Chg [] w w') ∨
  ((2 ≤ most ∧ most ≤ 64) ∧ ∃ p, e = .returned (.tuple #[.pointer (some ⟨p, 0, none⟩), .int .i64 0]) ∧ Lms w' p (.slice none 0 0) most [] 0 ∧ Chg [] w w' ∧ w.heap.size ≤ p)
set_option maxRecDepth 100000 in
set_option maxHeartbeats 1000000 in
theorem lump_new (w : World) (most : Int) : Calls Tryz.prog 72 #[.int .i64 most] w fun e w' => NewLm w w' most e := by
  by_cases h : 2 ≤ most ∧ most ≤ 64
  · have d1 : decide (most < 2) = false := decide_eq_false (by omega)
    have d2 : decide ((64 : Int) < most) = false := decide_eq_false (by omega)
    have H := Lib.hid h
    clear h
    go_enter Tryz.func72, Tryz.ntmps72
    go_wp2
    go_ret2
    exact .inr ⟨H.out, _, rfl, ⟨Blk.alloc_new _ _ _, Own.nil _ _ _⟩, (Chg.refl [] w).alloc _, Nat.le_refl _⟩
  · have H := Lib.hid h
    by_cases h1 : most < 2
    · have d1 : decide (most < 2) = true := decide_eq_true h1
      clear h h1
      go_enter Tryz.func72, Tryz.ntmps72
      go_wp2
      go_ret2
      exact .inl ⟨H.out, rfl, Chg.refl _ _⟩
    · have d1 : decide (most < 2) = false := decide_eq_false h1
      have d2 : decide ((64 : Int) < most) = true := decide_eq_true (by omega)
      clear h h1
      go_enter Tryz.func72, Tryz.ntmps72
      go_wp2
      go_ret2
      exact .inl ⟨H.out, rfl, Chg.refl _ _⟩
theorem lump_total (w : World) (p : Nat) (rv : Value) (most : Int) (l : List Lp) (T : Nat) (h : Lms w p rv most l T) : Calls Tryz.prog 435 #[.pointer (some ⟨p, 0, none⟩)] w fun e w' => e = .returned (.int .u64 (T : Nat)) ∧ Chg [] w w' := by
  obtain ⟨-, -, c2⟩ := h.cells
  go_enter Tryz.func435, Tryz.ntmps435
  go_wp2
  go_ret
  exact ⟨rfl, Chg.refl _ _⟩
theorem lump_most (w : World) (p : Nat) (rv : Value) (most : Int) (l : List Lp) (T : Nat) (h : Lms w p rv most l T) : Calls Tryz.prog 455 #[.pointer (some ⟨p, 0, none⟩)] w fun e w' => e = .returned (.int .i64 most) ∧ Chg [] w w' := by
  obtain ⟨c0, -, -⟩ := h.cells
  go_enter Tryz.func455, Tryz.ntmps455
  go_wp2
  go_ret
  exact ⟨rfl, Chg.refl _ _⟩
theorem lump_lumps (w : World) (p : Nat) (ao : Option Addr) (n cap : Nat) (most : Int) (l : List Lp) (T : Nat) (hn : n = l.length) (h : Lms w p (.slice ao n cap) most l T) (hl : n ≤ 1000000) : Calls Tryz.prog 454 #[.pointer (some ⟨p, 0, none⟩)] w fun e w' => ∃ a3 c3, e = .returned (.slice a3 n c3) ∧ Own w' 256 3 (.slice a3 n c3) n (lpCells l) ∧ Chg [] w w' ∧ ∀ b ∈ abl a3, w.heap.size ≤ b := by
  obtain ⟨-, c1, -⟩ := h.cells
  have HR := Lib.hid (clone_lumps w ao cap n l (h.own.rd.of_len hn) hl)
  clear h hn
  go_enter Tryz.func454, Tryz.ntmps454
  go_wp2_with fail
  refine HR.out.mono ?_
  rintro e w' ⟨a3, c3, rfl, h1, h2, h3⟩
  go_wp2
  go_ret
  exact ⟨a3, c3, rfl, h1, h2, h3⟩
theorem sumL_take (g : Lp → Bool) (l : List Lp) (k : Nat) (h : k < l.length) : sumL g (l.take (k + 1)) = sumL g (l.take k) + if g l[k] then l[k].n else 0 := by
  rw [List.take_succ_eq_append_getElem h, sumL_app, sumL_cons, sumL_nil]
  rfl
set_option maxRecDepth 100000 in
set_option maxHeartbeats 2000000 in
theorem lump_rank (w : World) (p : Nat) (rv : Value) (most : Int) (l : List Lp) (T : Nat) (h : Lms w p rv most l T) (hl : l.length ≤ 1000) (ht : totL l < 9223372036854775808) (x : Int) (A B : Nat) (hA : A = rankLoL l x) (hB : B = rankHiL l x) :
    Calls Tryz.prog 453 #[.pointer (some ⟨p, 0, none⟩), .int .i64 x] w fun e w' => e = .returned (.tuple #[.int .u64 (A : Nat), .int .u64 (B : Nat)]) ∧ Chg [] w w' := by
  obtain ⟨ao, cap, hrv⟩ := h.own.shape
  obtain ⟨n, hn⟩ : ∃ n, n = l.length := ⟨_, rfl⟩
  subst hrv
  rw [← hn] at h hl
  have HL := Lib.hid (lump_lumps w p ao n cap most l T hn h (by omega))
  have HN := Lib.hid hn
  have HT := Lib.hid (fun k => show sumL (fun p => decide (p.hi ≤ x)) (l.take k) < 9223372036854775808 ∧ sumL (fun p => decide (p.lo ≤ x)) (l.take k) < 9223372036854775808 from by
    have h1 := sumL_le (fun p => decide (p.hi ≤ x)) (l.take k)
    have h2 := sumL_le (fun p => decide (p.lo ≤ x)) (l.take k)
    have h3 := totL_take_le l k
    omega)
  have HAB := Lib.hid (And.intro hA hB)
  clear hn h hA hB ht
  go_enter Tryz.func453, Tryz.ntmps453
  go_wp2_with fail
  refine HL.out.mono ?_
  rintro e w1 ⟨a1, c1, rfl, ho1, hc1, -⟩
  have HO := Lib.hid ho1.rd
  have HC := Lib.hid hc1
  clear HL ho1 hc1
  go_wp2_with fail
  go_loopw [6, 7, 13] (fun s t i wx => ∃ (k S U : Nat), k ≤ n ∧ i = .int .i64 (k : Nat) ∧ s = .int .u64 (S : Nat) ∧ t = .int .u64 (U : Nat) ∧ Hid (S = sumL (fun p => decide (p.hi ≤ x)) (l.take k) ∧ U = sumL (fun p => decide (p.lo ≤ x)) (l.take k)) ∧ Chg [] w1 wx) (fun _ _ i _ => n - (intOf i).toNat)
  case atStart => exact ⟨0, 0, 0, Nat.zero_le _, rfl, rfl, rfl, Lib.hid ⟨rfl, rfl⟩, Chg.refl _ _⟩
  case round =>
    obtain ⟨k, S, U, hk, rfl, rfl, rfl, HS, hch⟩ := hrel
    by_cases hlt : k < n
    · have hkl : k < l.length := by have := HN.out; omega
      obtain ⟨b, o, hbo, hc⟩ := (HO.out.chg hch (by simp)).addr (by omega)
      subst hbo
      obtain ⟨c0, c1', c2⟩ := lp_at (l := l) (fun j hj => hc j (by rw [HN.out]; exact hj)) hkl
      have HT1 := Lib.hid (sumL_take (fun p => decide (p.hi ≤ x)) l k hkl)
      have HT2 := Lib.hid (sumL_take (fun p => decide (p.lo ≤ x)) l k hkl)
      obtain ⟨hb1, hb2⟩ := HT.out (k + 1)
      rw [HT1.out, ← HS.out.1] at hb1
      rw [HT2.out, ← HS.out.2] at hb2
      generalize l[k] = q at *
      clear hc
      by_cases hx : q.hi ≤ x
      · have d1 : decide (q.hi ≤ x) = true := decide_eq_true hx
        rw [d1, if_pos rfl] at HT1 hb1
        have HX := Lib.hid (show S + q.n = sumL (fun p => decide (p.hi ≤ x)) (l.take (k + 1)) from by rw [HT1.out, HS.out.1])
        by_cases hy : q.lo ≤ x
        · have d2 : decide (q.lo ≤ x) = true := decide_eq_true hy
          rw [d2, if_pos rfl] at HT2 hb2
          have HY := Lib.hid (show U + q.n = sumL (fun p => decide (p.lo ≤ x)) (l.take (k + 1)) from by rw [HT2.out, HS.out.2])
          clear hx hy
          go_wp2
          exact ⟨⟨k + 1, S + q.n, U + q.n, by omega, by go_num, by go_num, by go_num, Lib.hid ⟨HX.out, HY.out⟩, hch.alloc _⟩, by simp [intOf]; omega⟩
        · have d2 : decide (q.lo ≤ x) = false := decide_eq_false hy
          rw [d2, if_neg (by decide)] at HT2 hb2
          have HY := Lib.hid (show U = sumL (fun p => decide (p.lo ≤ x)) (l.take (k + 1)) from by rw [HT2.out, HS.out.2]; rfl)
          clear hx hy
          go_wp2
          exact ⟨⟨k + 1, S + q.n, U, by omega, by go_num, by go_num, rfl, Lib.hid ⟨HX.out, HY.out⟩, hch.alloc _⟩, by simp [intOf]; omega⟩
      · have d1 : decide (q.hi ≤ x) = false := decide_eq_false hx
        rw [d1, if_neg (by decide)] at HT1 hb1
        have HX := Lib.hid (show S = sumL (fun p => decide (p.hi ≤ x)) (l.take (k + 1)) from by rw [HT1.out, HS.out.1]; rfl)
        by_cases hy : q.lo ≤ x
        · have d2 : decide (q.lo ≤ x) = true := decide_eq_true hy
          rw [d2, if_pos rfl] at HT2 hb2
          have HY := Lib.hid (show U + q.n = sumL (fun p => decide (p.lo ≤ x)) (l.take (k + 1)) from by rw [HT2.out, HS.out.2])
          clear hx hy
          go_wp2
          exact ⟨⟨k + 1, S, U + q.n, by omega, by go_num, rfl, by go_num, Lib.hid ⟨HX.out, HY.out⟩, hch.alloc _⟩, by simp [intOf]; omega⟩
        · have d2 : decide (q.lo ≤ x) = false := decide_eq_false hy
          rw [d2, if_neg (by decide)] at HT2 hb2
          have HY := Lib.hid (show U = sumL (fun p => decide (p.lo ≤ x)) (l.take (k + 1)) from by rw [HT2.out, HS.out.2]; rfl)
          clear hx hy
          go_wp2
          exact ⟨⟨k + 1, S, U, by omega, by go_num, rfl, rfl, Lib.hid ⟨HX.out, HY.out⟩, hch.alloc _⟩, by simp [intOf]; omega⟩
    · obtain rfl : k = n := by omega
      have HE := Lib.hid (show S = A ∧ U = B from by
        have hl2 : k = l.length := HN.out
        obtain ⟨h1, h2⟩ := HAB.out
        obtain ⟨h3, h4⟩ := HS.out
        rw [h1, h2, h3, h4, List.take_of_length_le (by omega)]
        exact ⟨rfl, rfl⟩)
      go_wp2
      go_ret2
      rw [HE.out.1, HE.out.2]
      exact ⟨rfl, HC.out.trans hch⟩
theorem goL_full {t : Nat} : ∀ (l : List Lp) (x : Int) (s : Nat), t ≤ s → goL t l x s = x
  | [], _, _, _ => rfl
  | p :: l, x, s, h => by rw [goL, if_pos h]
set_option maxRecDepth 100000 in
set_option maxHeartbeats 4000000 in
theorem lump_quantile (w : World) (p : Nat) (rv : Value) (most : Int) (l : List Lp) (T : Nat) (h : Lms w p rv most l T) (hl : l.length ≤ 1000) (hT : T = totL l) (hT2 : T < 9223372036854775808) (num den : Nat) (hnum : num < 18446744073709551616) (hden : den < 18446744073709551616)
    (t E : Nat) (ht : t = placeT num den T) (hE : E = placeE num den T) (V : Int) (hV : V = if E = 0 then quantL l t else 0) :
    Calls Tryz.prog 434 #[.pointer (some ⟨p, 0, none⟩), .agg #[.int .u64 (num : Nat), .int .u64 (den : Nat)]] w fun e w' => e = .returned (.tuple #[.int .i64 V, .int .i64 (E : Nat)]) ∧ Chg [] w w' := by
  obtain ⟨ao, cap, hrv⟩ := h.own.shape
  obtain ⟨n, hn⟩ : ∃ n, n = l.length := ⟨_, rfl⟩
  subst hrv
  rw [← hn] at h hl
  have HH := Lib.hid h
  have hc := (Chg.refl [] w).alloc (.cells #[.int .u64 num, .int .u64 den] 25)
  have hbx := Blk.alloc_new w #[.int .u64 num, .int .u64 den] 25
  have b0 := hbx.cell 0
  have b1 := hbx.cell 1
  obtain ⟨-, c1, c2⟩ := (h.chg hc (by simp)).cells
  obtain ⟨Ei, hEi⟩ : ∃ z : Int, z = (E : Nat) := ⟨_, rfl⟩
  have HPL := Lib.hid (fun u => show Calls Tryz.prog 256 #[.agg #[.int .u64 (num : Nat), .int .u64 (den : Nat)], .int .u64 (T : Nat)] u fun e w' => e = .returned (.tuple #[.int .u64 (t : Nat), .int .i64 Ei]) ∧ Chg [] u w' from by rw [hEi]; exact share_place u num den T hnum hden (by omega) t E ht hE)
  rw [← hEi]
  have HEI := Lib.hid hEi
  have HC := Lib.hid hc
  have HV := Lib.hid hV
  have HE0 := Lib.hid (show E = 0 → 1 ≤ t ∧ t ≤ T from fun h => by rw [ht]; exact placeT_of (by rw [← hE]; exact h))
  have HN := Lib.hid hn
  have HTT := Lib.hid hT
  clear hEi h hc hbx hV ht hE hn hT
  go_enter Tryz.func434, Tryz.ntmps434
  go_wp2_with fail
  go_cut [6, 7] (fun a b wx => a = .int .u64 (t : Nat) ∧ b = .int .i64 Ei ∧ Chg [] w wx)
  case first =>
    go_region_with (first | (go_at_call 256; refine (HPL.out _).mono ?_; rintro e w1 ⟨rfl, hc1⟩))
    all_goals
      go_wp2_with fail
      go_meet
      exact ⟨rfl, rfl, HC.out.trans ((Chg.drew (Chg.refl [] _)).trans hc1)⟩
  case rest =>
    obtain ⟨rfl, rfl, hc1⟩ := hcut
    clear HPL HC c1 c2 b0 b1
    by_cases hE : E = 0
    · subst hE
      obtain rfl : Ei = 0 := HEI.out
      clear HEI
      have hv := HV.out
      rw [if_pos rfl] at hv
      have HVV := Lib.hid hv
      obtain ⟨hT1, hT2'⟩ := HE0.out rfl
      have hH1 := HH.out.chg hc1 (by simp)
      have hn0 : 0 < n := by
        rcases Nat.eq_zero_or_pos n with h0 | h0
        · exfalso
          have e : l = [] := List.eq_nil_of_length_eq_zero (by rw [← HN.out]; exact h0)
          have := HTT.out
          rw [e, totL_nil] at this
          omega
        · exact h0
      obtain ⟨g, o, rfl⟩ : ∃ g o, ao = some ⟨g, o, none⟩ := by
        obtain ⟨b, o, h, -⟩ := (hH1.own.rd.of_len HN.out).addr hn0
        exact ⟨b, o, h⟩
      have HR := Lib.hid (fun wx (hu : Chg [] wc wx) => show (∀ k (hk : k < l.length), wx.cell? ⟨g, o + k * 3, none⟩ = some (.int .u64 (l[k].n : Nat)) ∧ wx.cell? ⟨g, o + k * 3 + 1, none⟩ = some (.int .i64 l[k].lo) ∧ wx.cell? ⟨g, o + k * 3 + 2, none⟩ = some (.int .i64 l[k].hi)) from fun k hk => lp_at (l := l) (fun j hj => (hH1.chg hu (by simp)).own.cells j hj) hk)
      have HC1 := Lib.hid (fun wx (hu : Chg [] wc wx) => (hH1.chg hu (by simp)).cells.2.1)
      have HCW := Lib.hid hc1
      obtain ⟨z, hz⟩ : ∃ z, z = l[0]'(by have := HN.out; omega) := ⟨_, rfl⟩
      have HZ := Lib.hid (show quantL l t = goL t l z.hi 0 from by
        rw [quantL, hz]
        cases l with
        | nil => exact absurd HN.out (by simp; omega)
        | cons q l => rfl)
      obtain ⟨-, -, e2⟩ := HR.out wc (Chg.refl _ _) 0 (by have := HN.out; omega)
      rw [← hz] at e2
      simp only [Nat.zero_mul, Nat.add_zero] at e2
      have c1 := HC1.out wc (Chg.refl _ _)
      have hi0 : (0 : Int) < (n : Int) := by omega
      have HTK := Lib.hid (fun k => Nat.le_trans (totL_take_le l k) (Nat.le_of_eq HTT.out.symm))
      clear hz hv hH1 HH HE0 HV hc1
      go_wp2_with fail
      go_loopw [8, 9, 38] (fun a b i wx => ∃ (k S : Nat) (X : Int), k ≤ n ∧ i = .int .i64 (k : Nat) ∧ a = .int .i64 X ∧ b = .int .u64 (S : Nat) ∧ Hid (goL t (l.drop k) X S = goL t l z.hi 0 ∧ S = totL (l.take k)) ∧ Chg [] wc wx) (fun _ _ i _ => n - (intOf i).toNat)
      case atStart => exact ⟨0, 0, z.hi, Nat.zero_le _, rfl, rfl, rfl, Lib.hid ⟨rfl, rfl⟩, Chg.refl _ _⟩
      case round =>
        obtain ⟨k, S, X, hk, rfl, rfl, rfl, HS, hch⟩ := hrel
        by_cases hlt : k < n
        · have hkl : k < l.length := by have := HN.out; omega
          obtain ⟨d0, d1, d2⟩ := HR.out wr hch k hkl
          have hS1 := HTK.out k
          have hS2 := HTK.out (k + 1)
          rw [← HS.out.2] at hS1
          have hST : totL (l.take (k + 1)) = S + l[k].n := by rw [HS.out.2, List.take_succ_eq_append_getElem hkl, totL_app, totL_cons, totL_nil, Nat.add_zero]
          rw [hST] at hS2
          have HST := Lib.hid hST
          have HG := Lib.hid (show goL t (l.drop k) X S = if t ≤ S then X else goL t (l.drop (k + 1)) (max X l[k].hi) (S + l[k].n) from by rw [List.drop_eq_getElem_cons hkl, goL])
          generalize l[k] = q at *
          clear hST
          by_cases hts : t ≤ S
          · have hd : decide (t ≤ S) = true := decide_eq_true hts
            obtain rfl : X = V := by
              have h1 := HG.out
              rw [if_pos hts] at h1
              rw [HVV.out, HZ.out, ← HS.out.1, h1]
            clear hts
            go_wp2
            go_ret2
            exact ⟨rfl, HCW.out.trans (hch.alloc _)⟩
          · have hd : decide (t ≤ S) = false := decide_eq_false hts
            have hg := HG.out
            rw [if_neg hts] at hg
            have HG2 := Lib.hid hg
            clear hts hg HG
            go_wp2_with fail
            go_quiet (fail)
            go_wp2
            exact ⟨⟨k + 1, S + q.n, max X q.hi, by omega, by go_num, rfl, by go_num, Lib.hid ⟨by rw [← HG2.out]; exact HS.out.1, HST.out.symm⟩, (hch.alloc _).drewN _⟩, by simp [intOf]; omega⟩
        · obtain rfl : k = n := by omega
          have HE := Lib.hid (show X = V from by
            have h1 := HS.out.1
            rw [List.drop_of_length_le (by have := HN.out; omega), goL] at h1
            rw [HVV.out, HZ.out, ← h1])
          go_wp2
          go_ret2
          rw [HE.out]
          exact ⟨rfl, HCW.out.trans hch⟩
    · have hv := HV.out
      rw [if_neg hE] at hv
      subst hv
      have he : (Ei != 0) = true := by rw [bne_iff_ne, HEI.out]; omega
      clear HEI HV HE0
      go_wp2
      go_ret2
      exact ⟨rfl, hc1⟩
end Go.Proofs.YtmehcfocfljoeaaGreatDoor

namespace Go.Proofs.YtmehcfocfljoeaaGreatDoor
open Go.RowKit

set_option maxRecDepth 100000 in
set_option maxHeartbeats 4000000 in
theorem bare_log (w : World) (c : Cf) (hk : c.kind = 1) : Calls Tryz.prog 44 #[c.val] w fun e w' => e = .returned ({ Cf.none 1 with num := c.num, den := c.den, side := c.side, most := c.most } : Cf).val ∧ Chg [] w w' := by
  obtain ⟨k, num, den, side, most, digits, limit, depth, factor, width, word⟩ := c
  simp only at hk
  subst hk
  simp only [Cf.val, Cf.cells, Cf.none]
  go_enter Tryz.func44, Tryz.ntmps44
  go_wp2_with fail
  go_region_with (fail)
  all_goals
    go_wp2
    refine bodyPost_ret (v := .agg #[.int .i64 1, .int .u64 num, .int .u64 den, .int .i64 side, .int .i64 most, .int .i64 0, .int .u64 0, .int .i64 0, .int .i64 0, .int .i64 0, .int .u64 0]) (by simp [results, Tryz.results44, go_sem]) rfl ?_
    exact ⟨rfl, by with_reducible (repeat (first | exact Chg.refl _ _ | apply Chg.alloc | apply Chg.drew | (apply Chg.setCell; simp)))⟩
/-- A kind that there isn't. -/
def NoKind (k : Int) : Prop := k ≠ 1 ∧ k ≠ 2 ∧ k ≠ 3 ∧ k ≠ 4 ∧ k ≠ 5 ∧ k ≠ 6
theorem NoKind.out {k : Int} (h : NoKind k) : (k == 1) = false ∧ (k == 2) = false ∧ (k == 3) = false ∧ (k == 4) = false ∧ (k == 5) = false ∧ (k == 6) = false := by
  obtain ⟨h1, h2, h3, h4, h5, h6⟩ := h
  simp [h1, h2, h3, h4, h5, h6]
set_option maxRecDepth 100000 in
set_option maxHeartbeats 4000000 in
theorem bare_other (w : World) (c : Cf) (hk : NoKind c.kind) : Calls Tryz.prog 44 #[c.val] w fun e w' => e = .returned (Cf.none c.kind).val ∧ Chg [] w w' := by
  obtain ⟨k, num, den, side, most, digits, limit, depth, factor, width, word⟩ := c
  obtain ⟨d1, d2, d3, d4, d5, d6⟩ := hk.out
  clear hk
  simp only at d1 d2 d3 d4 d5 d6
  simp only [Cf.val, Cf.cells, Cf.none]
  go_enter Tryz.func44, Tryz.ntmps44
  go_wp2
  refine bodyPost_ret (v := .agg #[.int .i64 k, .int .u64 0, .int .u64 0, .int .i64 0, .int .i64 0, .int .i64 0, .int .u64 0, .int .i64 0, .int .i64 0, .int .i64 0, .int .u64 0]) (by simp [results, Tryz.results44, go_sem]) rfl ?_
  exact ⟨rfl, by with_reducible (repeat (first | exact Chg.refl _ _ | apply Chg.alloc | apply Chg.drew | (apply Chg.setCell; simp)))⟩
/-- What a kind's New answers: a pointer and an error, and nothing that was is changed. -/
def Some2 (w w' : World) (e : Ending) : Prop := ∃ (v : Option Addr) (k : Int), e = .returned (.tuple #[.pointer v, .int .i64 k]) ∧ Chg [] w w'
def FrA (w w' : World) (e : Ending) : Prop := ∃ T d k, e = .returned (.tuple #[.iface T d, .int .i64 k]) ∧ Chg [] w w'
theorem any_log (w : World) (num den : Nat) (side most : Int) : Calls Tryz.prog 67 #[.agg #[.int .u64 num, .int .u64 den, .int .i64 side, .int .i64 most]] w fun e w' => Some2 w w' e := by
  refine (logsk_new w num den side most).mono ?_
  rintro e w' (⟨k, -, rfl, hc⟩ | ⟨n, p, A, -, -, rfl, -, hc, -⟩)
  · exact ⟨_, _, rfl, hc⟩
  · exact ⟨_, _, rfl, hc⟩
theorem any_hdr (w : World) (ht : Tens4 w) (d : Int) (lim : Nat) : Calls Tryz.prog 68 #[.agg #[.int .i64 d, .int .u64 lim]] w fun e w' => Some2 w w' e := by
  refine (hdr_new w ht d lim).mono ?_
  rintro e w' (⟨-, rfl, hc⟩ | ⟨-, h, p, s0, s1, rfl, -, hc, -⟩)
  · exact ⟨_, _, rfl, hc⟩
  · exact ⟨_, _, rfl, hc⟩
theorem any_digest (w : World) (d f : Int) : Calls Tryz.prog 69 #[.agg #[.int .i64 d, .int .i64 f]] w fun e w' => Some2 w w' e := by
  refine (dg_new w d f).mono ?_
  rintro e w' (⟨-, rfl, hc⟩ | ⟨-, p, s, rfl, -, hc, -⟩)
  · exact ⟨_, _, rfl, hc⟩
  · exact ⟨_, _, rfl, hc⟩
theorem any_green (w : World) (num den : Nat) : Calls Tryz.prog 70 #[.agg #[.int .u64 num, .int .u64 den]] w fun e w' => Some2 w w' e := by
  cases hg : goodK num den with
  | false =>
    refine (gk_new_bad w num den hg).mono ?_
    rintro e w' ⟨rfl, hc⟩
    exact ⟨_, _, rfl, hc⟩
  | true =>
    refine (gk_new w num den hg).mono ?_
    rintro e w' ⟨p, rfl, ht, hc, -⟩
    exact ⟨_, _, rfl, hc⟩
theorem any_req (w : World) (W : Int) (word : Nat) : Calls Tryz.prog 71 #[.agg #[.int .i64 W, .int .u64 word]] w fun e w' => Some2 w w' e := by
  refine (req_newF w W word).mono ?_
  rintro e w' (⟨-, rfl, hc⟩ | ⟨-, p, tp, rv, rfl, -, hc, -⟩)
  · exact ⟨_, _, rfl, hc⟩
  · exact ⟨_, _, rfl, hc⟩
theorem any_lump (w : World) (most : Int) : Calls Tryz.prog 72 #[.int .i64 most] w fun e w' => Some2 w w' e := by
  refine (lump_new w most).mono ?_
  rintro e w' (⟨-, rfl, hc⟩ | ⟨-, p, rfl, -, hc, -⟩)
  · exact ⟨_, _, rfl, hc⟩
  · exact ⟨_, _, rfl, hc⟩
set_option maxRecDepth 100000 in
set_option maxHeartbeats 4000000 in
theorem fresha_log (w : World) (c : Cf) (hk : c.kind = 1) : Calls Tryz.prog 45 #[c.val] w fun e w' => FrA w w' e := by
  obtain ⟨k, num, den, side, most, digits, limit, depth, factor, width, word⟩ := c
  simp only at hk
  subst hk
  have HC0 := Lib.hid ((Chg.refl [] w).alloc (.cells #[.int .i64 1, .int .u64 num, .int .u64 den, .int .i64 side, .int .i64 most, .int .i64 digits, .int .u64 limit, .int .i64 depth, .int .i64 factor, .int .i64 width, .int .u64 word] 28))
  have HN := Lib.hid (fun u => any_log u num den side most)
  have HT : True := trivial
  clear HT
  simp only [Cf.val, Cf.cells]
  go_enter Tryz.func45, Tryz.ntmps45
  go_wp2_with fail
  first | skip | skip
  refine ((HN.out _)).mono ?_

  rintro e w1 ⟨v, k, rfl, hc1⟩
  have HC1 := Lib.hid hc1
  clear hc1 HN
  go_wp2
  go_ret2
  exact ⟨_, _, _, rfl, HC0.out.trans HC1.out⟩
set_option maxRecDepth 100000 in
set_option maxHeartbeats 4000000 in
theorem fresha_hdr (w : World) (ht : Tens4 w) (c : Cf) (hk : c.kind = 2) : Calls Tryz.prog 45 #[c.val] w fun e w' => FrA w w' e := by
  obtain ⟨k, num, den, side, most, digits, limit, depth, factor, width, word⟩ := c
  simp only at hk
  subst hk
  have HC0 := Lib.hid ((Chg.refl [] w).alloc (.cells #[.int .i64 2, .int .u64 num, .int .u64 den, .int .i64 side, .int .i64 most, .int .i64 digits, .int .u64 limit, .int .i64 depth, .int .i64 factor, .int .i64 width, .int .u64 word] 28))
  have HN := Lib.hid (fun u (hu : Tens4 u) => any_hdr u hu digits limit)
  have HT := Lib.hid ht
  clear ht
  simp only [Cf.val, Cf.cells]
  go_enter Tryz.func45, Tryz.ntmps45
  go_wp2_with fail
  first | skip | skip
  refine ((HN.out _ (HT.out.chg ?hq))).mono ?_
  case hq => with_reducible (repeat (first | exact Chg.refl _ _ | exact HC0.out | apply Chg.alloc | apply Chg.drew))
  rintro e w1 ⟨v, k, rfl, hc1⟩
  have HC1 := Lib.hid hc1
  clear hc1 HN
  go_wp2
  go_ret2
  exact ⟨_, _, _, rfl, HC0.out.trans HC1.out⟩
set_option maxRecDepth 100000 in
set_option maxHeartbeats 4000000 in
theorem fresha_digest (w : World) (c : Cf) (hk : c.kind = 3) : Calls Tryz.prog 45 #[c.val] w fun e w' => FrA w w' e := by
  obtain ⟨k, num, den, side, most, digits, limit, depth, factor, width, word⟩ := c
  simp only at hk
  subst hk
  have HC0 := Lib.hid ((Chg.refl [] w).alloc (.cells #[.int .i64 3, .int .u64 num, .int .u64 den, .int .i64 side, .int .i64 most, .int .i64 digits, .int .u64 limit, .int .i64 depth, .int .i64 factor, .int .i64 width, .int .u64 word] 28))
  have HN := Lib.hid (fun u => any_digest u depth factor)
  have HT : True := trivial
  clear HT
  simp only [Cf.val, Cf.cells]
  go_enter Tryz.func45, Tryz.ntmps45
  go_wp2_with fail
  first | skip | skip
  refine ((HN.out _)).mono ?_

  rintro e w1 ⟨v, k, rfl, hc1⟩
  have HC1 := Lib.hid hc1
  clear hc1 HN
  go_wp2
  go_ret2
  exact ⟨_, _, _, rfl, HC0.out.trans HC1.out⟩
set_option maxRecDepth 100000 in
set_option maxHeartbeats 4000000 in
theorem fresha_green (w : World) (c : Cf) (hk : c.kind = 4) : Calls Tryz.prog 45 #[c.val] w fun e w' => FrA w w' e := by
  obtain ⟨k, num, den, side, most, digits, limit, depth, factor, width, word⟩ := c
  simp only at hk
  subst hk
  have HC0 := Lib.hid ((Chg.refl [] w).alloc (.cells #[.int .i64 4, .int .u64 num, .int .u64 den, .int .i64 side, .int .i64 most, .int .i64 digits, .int .u64 limit, .int .i64 depth, .int .i64 factor, .int .i64 width, .int .u64 word] 28))
  have HN := Lib.hid (fun u => any_green u num den)
  have HT : True := trivial
  clear HT
  simp only [Cf.val, Cf.cells]
  go_enter Tryz.func45, Tryz.ntmps45
  go_wp2_with fail
  first | skip | skip
  refine ((HN.out _)).mono ?_

  rintro e w1 ⟨v, k, rfl, hc1⟩
  have HC1 := Lib.hid hc1
  clear hc1 HN
  go_wp2
  go_ret2
  exact ⟨_, _, _, rfl, HC0.out.trans HC1.out⟩
set_option maxRecDepth 100000 in
set_option maxHeartbeats 4000000 in
theorem fresha_req (w : World) (c : Cf) (hk : c.kind = 5) : Calls Tryz.prog 45 #[c.val] w fun e w' => FrA w w' e := by
  obtain ⟨k, num, den, side, most, digits, limit, depth, factor, width, word⟩ := c
  simp only at hk
  subst hk
  have HC0 := Lib.hid ((Chg.refl [] w).alloc (.cells #[.int .i64 5, .int .u64 num, .int .u64 den, .int .i64 side, .int .i64 most, .int .i64 digits, .int .u64 limit, .int .i64 depth, .int .i64 factor, .int .i64 width, .int .u64 word] 28))
  have HN := Lib.hid (fun u => any_req u width word)
  have HT : True := trivial
  clear HT
  simp only [Cf.val, Cf.cells]
  go_enter Tryz.func45, Tryz.ntmps45
  go_wp2_with fail
  first | skip | skip
  refine ((HN.out _)).mono ?_

  rintro e w1 ⟨v, k, rfl, hc1⟩
  have HC1 := Lib.hid hc1
  clear hc1 HN
  go_wp2
  go_ret2
  exact ⟨_, _, _, rfl, HC0.out.trans HC1.out⟩
set_option maxRecDepth 100000 in
set_option maxHeartbeats 4000000 in
theorem fresha_lump (w : World) (c : Cf) (hk : c.kind = 6) : Calls Tryz.prog 45 #[c.val] w fun e w' => FrA w w' e := by
  obtain ⟨k, num, den, side, most, digits, limit, depth, factor, width, word⟩ := c
  simp only at hk
  subst hk
  have HC0 := Lib.hid ((Chg.refl [] w).alloc (.cells #[.int .i64 6, .int .u64 num, .int .u64 den, .int .i64 side, .int .i64 most, .int .i64 digits, .int .u64 limit, .int .i64 depth, .int .i64 factor, .int .i64 width, .int .u64 word] 28))
  have HN := Lib.hid (fun u => any_lump u most)
  have HT : True := trivial
  clear HT
  simp only [Cf.val, Cf.cells]
  go_enter Tryz.func45, Tryz.ntmps45
  go_wp2_with fail
  first | skip | skip
  refine ((HN.out _)).mono ?_

  rintro e w1 ⟨v, k, rfl, hc1⟩
  have HC1 := Lib.hid hc1
  clear hc1 HN
  go_wp2
  go_ret2
  exact ⟨_, _, _, rfl, HC0.out.trans HC1.out⟩
set_option maxRecDepth 100000 in
set_option maxHeartbeats 4000000 in
theorem fresh_other (w : World) (c : Cf) (hk : NoKind c.kind) : Calls Tryz.prog 45 #[c.val] w fun e w' => e = .returned (.tuple #[.nilIface, .int .i64 1]) ∧ Chg [] w w' := by
  obtain ⟨k, num, den, side, most, digits, limit, depth, factor, width, word⟩ := c
  obtain ⟨d1, d2, d3, d4, d5, d6⟩ := hk.out
  clear hk
  simp only at d1 d2 d3 d4 d5 d6
  simp only [Cf.val, Cf.cells]
  go_enter Tryz.func45, Tryz.ntmps45
  go_wp2
  go_ret2
  exact ⟨rfl, by with_reducible (repeat (first | exact Chg.refl _ _ | apply Chg.alloc | apply Chg.drew | (apply Chg.setCell; simp)))⟩
set_option maxRecDepth 100000 in
set_option maxHeartbeats 4000000 in
theorem suite_newU (w : World) (c b : Cf) (HB0 : ∀ u, Calls Tryz.prog 44 #[c.val] u fun e w' => e = .returned b.val ∧ Chg [] u w') (HF0 : ∀ u, Calls Tryz.prog 45 #[c.val] u fun e w' => e = .returned (.tuple #[.nilIface, .int .i64 1]) ∧ Chg [] u w') : Calls Tryz.prog 30 #[c.val] w fun e w' => e = .returned (.tuple #[.pointer none, .int .i64 1]) ∧ Chg [] w w' := by
  have hb0 := Blk.alloc_new w c.cells 28
  have HC0 := Lib.hid ((Chg.refl [] w).alloc (.cells c.cells 28))
  obtain ⟨bq, hbq⟩ : ∃ z, z = w.heap.size := ⟨_, rfl⟩
  rw [← hbq] at hb0
  have HCE := Lib.hid (fun u (hu : Chg [] (w.alloc (.cells c.cells 28)) u) => cf_cells (hb0.chg hu (by simp)))
  have HB := Lib.hid HB0
  have HF := Lib.hid HF0
  have HEQ := Lib.hid (fun u => scfg_neq c b u)
  obtain ⟨S, hS⟩ : ∃ S, S = c.same b := ⟨_, rfl⟩
  rw [← hS] at HEQ
  clear HB0 HF0 hb0 hS
  obtain ⟨q1, q2, q3, q4, q5, q6, q7, q8, q9, q10, q11⟩ := b
  obtain ⟨k, num, den, side, most, digits, limit, depth, factor, width, word⟩ := c
  simp only [Cf.val, Cf.cells] at *
  go_enter Tryz.func30, Tryz.ntmps30
  go_upto_region 2 with (fail)
  rw [← hbq]
  clear hbq
  generalize w.alloc (.cells #[.int .i64 k, .int .u64 num, .int .u64 den, .int .i64 side, .int .i64 most, .int .i64 digits, .int .u64 limit, .int .i64 depth, .int .i64 factor, .int .i64 width, .int .u64 word] 28) = w0 at *
  obtain ⟨c0, c1, c2, c3, c4, c5, c6, c7, c8, c9, c10⟩ := HCE.out w0.drew (Chg.refl [] w0).drew
  have hq := HEQ.out
  go_region_with (go_at_call 44; refine (HB.out _).mono ?_; rintro e w1 ⟨rfl, hc1⟩; obtain ⟨k0, k1, k2, k3, k4, k5, k6, k7, k8, k9, k10⟩ := HCE.out w1 ((Chg.refl [] w0).drew.trans hc1))
  all_goals
    have HC1 := Lib.hid ((Chg.refl [] w0).drew.trans hc1)
    clear hc1 HB hq c0 c1 c2 c3 c4 c5 c6 c7 c8 c9 c10 k0 k1 k2 k3 k4 k5 k6 k7 k8 k9 k10
    obtain ⟨c0, c1, c2, c3, c4, c5, c6, c7, c8, c9, c10⟩ := HCE.out w1 HC1.out
    cases S with
    | false =>
      go_wp2
      go_ret2
      exact ⟨rfl, HC0.out.trans HC1.out⟩
    | true =>
      go_wp2_with fail
      refine (HF.out w1).mono ?_
      rintro e w2 ⟨rfl, hc2⟩
      have HC2 := Lib.hid (HC1.out.trans hc2)
      clear hc2 HF HEQ c0 c1 c2 c3 c4 c5 c6 c7 c8 c9 c10
      go_wp2
      go_ret2
      exact ⟨rfl, HC0.out.trans HC2.out⟩
theorem new_any_of {w : World} {c b : Cf} (HB : ∀ u, Calls Tryz.prog 44 #[c.val] u fun e w' => e = .returned b.val ∧ Chg [] u w') (HF : ∀ u, Chg [] w u → Calls Tryz.prog 45 #[c.val] u fun e w' => FrA u w' e) :
    Calls Tryz.prog 30 #[c.val] w fun e w' => Some2 w w' e := by
  refine (suite_newK w c b HB (fun _ _ _ _ => True) (fun u hu => (HF u hu).mono ?_)).mono ?_
  · rintro e w' ⟨T, d, k, rfl, hc⟩
    exact ⟨T, d, k, rfl, trivial, hc⟩
  · rintro e w' (⟨-, rfl, hc⟩ | ⟨-, T, d, k, w1, -, hc, ⟨-, rfl, rfl⟩ | ⟨-, rfl, rfl⟩⟩)
    · exact ⟨_, _, rfl, hc⟩
    · exact ⟨_, _, rfl, hc⟩
    · exact ⟨_, _, rfl, hc.trans ((Chg.refl _ _).alloc _)⟩
theorem suite_new_any (w : World) (ht : Tens4 w) (c : Cf) : Calls Tryz.prog 30 #[c.val] w fun e w' => Some2 w w' e := by
  by_cases h1 : c.kind = 1
  · exact new_any_of (fun u => bare_log u c h1) (fun u _ => fresha_log u c h1)
  by_cases h2 : c.kind = 2
  · exact new_any_of (fun u => bare_hdr u c h2) (fun u hu => fresha_hdr u (ht.chg hu) c h2)
  by_cases h3 : c.kind = 3
  · exact new_any_of (fun u => bare_digest u c h3) (fun u _ => fresha_digest u c h3)
  by_cases h4 : c.kind = 4
  · exact new_any_of (fun u => bare_green u c h4) (fun u _ => fresha_green u c h4)
  by_cases h5 : c.kind = 5
  · exact new_any_of (fun u => bare_req u c h5) (fun u _ => fresha_req u c h5)
  by_cases h6 : c.kind = 6
  · exact new_any_of (fun u => bare_lump u c h6) (fun u _ => fresha_lump u c h6)
  refine (suite_newU w c _ (fun u => bare_other u c ⟨h1, h2, h3, h4, h5, h6⟩) (fun u => fresh_other u c ⟨h1, h2, h3, h4, h5, h6⟩)).mono ?_
  rintro e w' ⟨rfl, hc⟩
  exact ⟨_, _, rfl, hc⟩
end Go.Proofs.YtmehcfocfljoeaaGreatDoor

namespace Go.Proofs.YtmehcfocfljoeaaGreatDoor
open Go.RowKit

/-- All cells of a config are stored. -/
def cfStore (w : World) (b : Nat) (c : Cf) : World :=
  ((((((((((w.setCell ⟨b, 0, none⟩ (.int .i64 c.kind)).setCell ⟨b, 1, none⟩ (.int .u64 c.num)).setCell ⟨b, 2, none⟩ (.int .u64 c.den)).setCell ⟨b, 3, none⟩ (.int .i64 c.side)).setCell ⟨b, 4, none⟩ (.int .i64 c.most)).setCell ⟨b, 5, none⟩ (.int .i64 c.digits)).setCell ⟨b, 6, none⟩ (.int .u64 c.limit)).setCell ⟨b, 7, none⟩ (.int .i64 c.depth)).setCell ⟨b, 8, none⟩ (.int .i64 c.factor)).setCell ⟨b, 9, none⟩ (.int .i64 c.width)).setCell ⟨b, 10, none⟩ (.int .u64 c.word)
theorem cfStore_ok {w : World} {b : Nat} {d : Cf} (h : Blk w b d.cells 28) (c : Cf) : Blk (cfStore w b c) b c.cells 28 ∧ Chg [b] w (cfStore w b c) := by
  unfold cfStore
  refine ⟨?_, ?_⟩
  · have h' := ((((((((((h.setCell 0 (.int .i64 c.kind)).setCell 1 (.int .u64 c.num)).setCell 2 (.int .u64 c.den)).setCell 3 (.int .i64 c.side)).setCell 4 (.int .i64 c.most)).setCell 5 (.int .i64 c.digits)).setCell 6 (.int .u64 c.limit)).setCell 7 (.int .i64 c.depth)).setCell 8 (.int .i64 c.factor)).setCell 9 (.int .i64 c.width)).setCell 10 (.int .u64 c.word)
    have e : c.cells = ((((((((((d.cells.setIfInBounds 0 (.int .i64 c.kind)).setIfInBounds 1 (.int .u64 c.num)).setIfInBounds 2 (.int .u64 c.den)).setIfInBounds 3 (.int .i64 c.side)).setIfInBounds 4 (.int .i64 c.most)).setIfInBounds 5 (.int .i64 c.digits)).setIfInBounds 6 (.int .u64 c.limit)).setIfInBounds 7 (.int .i64 c.depth)).setIfInBounds 8 (.int .i64 c.factor)).setIfInBounds 9 (.int .i64 c.width)).setIfInBounds 10 (.int .u64 c.word) := by
      simp only [Cf.cells, List.setIfInBounds_toArray, List.set_cons_zero, List.set_cons_succ]
    rw [e]
    exact h'
  · have k : ∀ {w1 : World} (_ : Chg [b] w w1) (j : Nat) (u : Value), Chg [b] w (w1.setCell ⟨b, j, none⟩ u) := fun h j u => h.setCell (.inl (by simp)) u
    exact (k (k (k (k (k (k (k (k (k (k (k (Chg.refl [b] w) 0 _) 1 _) 2 _) 3 _) 4 _) 5 _) 6 _) 7 _) 8 _) 9 _) 10 _)
end Go.Proofs.YtmehcfocfljoeaaGreatDoor
