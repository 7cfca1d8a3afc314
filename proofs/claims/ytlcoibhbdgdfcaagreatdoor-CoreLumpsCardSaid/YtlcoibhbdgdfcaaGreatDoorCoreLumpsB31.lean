/-
  The walks of lumps.New, Total, Most, Lumps, Ends, Rank, Quantile (layer 22). Conditions: the form's own reach.
  Slices of numbers that a drawn region builds. Conditions: none.
-/
import Derived.Test.YtlcoibhbdgdfcaaGreatDoorCoreLumpsB23
import Derived.Test.YtlcoibhbdgdfcaaGreatDoorCoreLumpsB14
import Derived.Test.YtlcoibhbdgdfcaaGreatDoorCoreLumpsB30
import Derived.Lib.Slices
import Derived.Test.YtlcoibhbdgdfcaaGreatDoorCoreLumpsB3
namespace Go.Proofs.YtlcoibhbdgdfcaaGreatDoor
open Go.RowKit

set_option maxRecDepth 100000 in
set_option maxHeartbeats 1000000 in
theorem clone_lumps (w : World) (ao : Option Addr) (cap n : Nat) (l : List Lp) (hrd : Rd w 3 (.slice ao n cap) n (lpCells l)) (hl : n ≤ 1000000) :
    Calls Tryz.prog 383 #[.slice ao n cap] w fun e w' => ∃ a3 c3, e = .returned (.slice a3 n c3) ∧ Own w' 194 3 (.slice a3 n c3) n (lpCells l) ∧ Chg [] w w' ∧ ∀ b ∈ abl a3, w.heap.size ≤ b := by
  have hu : ∀ (w : World) (a : Option Addr) (n c n' c' : Nat), (binOp .eql 101 (.slice a n c) (.slice none n' c')).run Tryz.prog w = .ok (.bool a.isNone) w := fun w a n c n' c' => Lib.run_eql_slice_nil w _ _ a n c n' c' under_lumps
  cases ao with
  | none =>
    obtain ⟨hx, ao, cp, h0, h1⟩ := hrd
    simp only [Value.slice.injEq] at h0
    obtain ⟨rfl, -, -⟩ := h0
    obtain rfl : n = 0 := by
      rcases h1 with h1 | ⟨_, _, h1, _⟩
      · exact h1
      · simp at h1
    have hxl : l = [] := List.eq_nil_of_length_eq_zero (by rw [lpCells_len] at hx; omega)
    subst hxl
    go_enter Tryz.func383, Tryz.ntmps383
    go_wp2
    go_ret
    exact ⟨none, 0, rfl, Own.nil _ _ _, Chg.refl _ _, by simp⟩
  | some a =>
    go_enter Tryz.func383, Tryz.ntmps383
    go_wp2_with (at_builtin; go_must (refine wpList_append_src _ rfl (.tmp 5) (.tmp 6) 101 101 rfl 194 _ 3 24 under_lumps info_lump rfl (by decide) (.slice (some ⟨w.heap.size, 0, none⟩) 0 0) 0 (lpCells []) rfl (Own.lit w 194 3 0 #[] rfl (by unfold maxLen; omega)) (.slice (some a) n cap) n (lpCells l) rfl (Src.of_rd under_lumps (hrd.alloc _)) (lpCells_oneCell _) (by unfold maxLen; omega) (by omega) ?_; intro a5 c5 w2 ho2 hg2 hf2))
    go_ret
    rw [Nat.zero_add] at ho2
    refine ⟨a5, c5, by simp, by simpa [lpCells] using ho2, ((Chg.refl [] w).alloc _).trans' hg2 (by simp), fun b hb => ?_⟩
    rcases hf2 b hb with h | h
    · simp at h; omega
    · simp at h; omega

/-- What New answers. -/
def NewLm (w w' : World) (most : Int) (e : Ending) : Prop :=
  (¬ (2 ≤ most ∧ most ≤ 64) ∧ e = .returned (.tuple #[.pointer none, .int .i64 1]) ∧ Chg [] w w') ∨
  ((2 ≤ most ∧ most ≤ 64) ∧ ∃ p, e = .returned (.tuple #[.pointer (some ⟨p, 0, none⟩), .int .i64 0]) ∧ Lms w' p (.slice none 0 0) most [] 0 ∧ Chg [] w w' ∧ w.heap.size ≤ p)
set_option maxRecDepth 100000 in
set_option maxHeartbeats 1000000 in
theorem lump_new (w : World) (most : Int) : Calls Tryz.prog 20 #[.int .i64 most] w fun e w' => NewLm w w' most e := by
  by_cases h : 2 ≤ most ∧ most ≤ 64
  · have d1 : decide (most < 2) = false := decide_eq_false (by omega)
    have d2 : decide ((64 : Int) < most) = false := decide_eq_false (by omega)
    have H := Lib.hid h
    clear h
    go_enter Tryz.func20, Tryz.ntmps20
    go_wp2
    go_ret2
    exact .inr ⟨H.out, _, rfl, ⟨Blk.alloc_new _ _ _, Own.nil _ _ _⟩, (Chg.refl [] w).alloc _, Nat.le_refl _⟩
  · have H := Lib.hid h
    by_cases h1 : most < 2
    · have d1 : decide (most < 2) = true := decide_eq_true h1
      clear h h1
      go_enter Tryz.func20, Tryz.ntmps20
      go_wp2
      go_ret2
      exact .inl ⟨H.out, rfl, Chg.refl _ _⟩
    · have d1 : decide (most < 2) = false := decide_eq_false h1
      have d2 : decide ((64 : Int) < most) = true := decide_eq_true (by omega)
      clear h h1
      go_enter Tryz.func20, Tryz.ntmps20
      go_wp2
      go_ret2
      exact .inl ⟨H.out, rfl, Chg.refl _ _⟩
theorem lump_total (w : World) (p : Nat) (rv : Value) (most : Int) (l : List Lp) (T : Nat) (h : Lms w p rv most l T) : Calls Tryz.prog 181 #[.pointer (some ⟨p, 0, none⟩)] w fun e w' => e = .returned (.int .u64 (T : Nat)) ∧ Chg [] w w' := by
  obtain ⟨-, -, c2⟩ := h.cells
  go_enter Tryz.func181, Tryz.ntmps181
  go_wp2
  go_ret
  exact ⟨rfl, Chg.refl _ _⟩
theorem lump_most (w : World) (p : Nat) (rv : Value) (most : Int) (l : List Lp) (T : Nat) (h : Lms w p rv most l T) : Calls Tryz.prog 21 #[.pointer (some ⟨p, 0, none⟩)] w fun e w' => e = .returned (.int .i64 most) ∧ Chg [] w w' := by
  obtain ⟨c0, -, -⟩ := h.cells
  go_enter Tryz.func21, Tryz.ntmps21
  go_wp2
  go_ret
  exact ⟨rfl, Chg.refl _ _⟩
theorem lump_lumps (w : World) (p : Nat) (ao : Option Addr) (n cap : Nat) (most : Int) (l : List Lp) (T : Nat) (hn : n = l.length) (h : Lms w p (.slice ao n cap) most l T) (hl : n ≤ 1000000) : Calls Tryz.prog 382 #[.pointer (some ⟨p, 0, none⟩)] w fun e w' => ∃ a3 c3, e = .returned (.slice a3 n c3) ∧ Own w' 194 3 (.slice a3 n c3) n (lpCells l) ∧ Chg [] w w' ∧ ∀ b ∈ abl a3, w.heap.size ≤ b := by
  obtain ⟨-, c1, -⟩ := h.cells
  have HR := Lib.hid (clone_lumps w ao cap n l (h.own.rd.of_len hn) hl)
  clear h hn
  go_enter Tryz.func382, Tryz.ntmps382
  go_wp2_with fail
  refine HR.out.mono ?_
  rintro e w' ⟨a3, c3, rfl, h1, h2, h3⟩
  go_wp2
  go_ret
  exact ⟨a3, c3, rfl, h1, h2, h3⟩
theorem sumL_take (g : Lp → Bool) (l : List Lp) (k : Nat) (h : k < l.length) : sumL g (l.take (k + 1)) = sumL g (l.take k) + if g l[k] then l[k].n else 0 := by
  rw [List.take_succ_eq_append_getElem h, sumL_app, sumL_cons, sumL_nil]
  rfl
set_option maxRecDepth 100000 in
set_option maxHeartbeats 2000000 in
theorem lump_rank (w : World) (p : Nat) (rv : Value) (most : Int) (l : List Lp) (T : Nat) (h : Lms w p rv most l T) (hl : l.length ≤ 1000) (ht : totL l < 9223372036854775808) (x : Int) (A B : Nat) (hA : A = rankLoL l x) (hB : B = rankHiL l x) :
    Calls Tryz.prog 381 #[.pointer (some ⟨p, 0, none⟩), .int .i64 x] w fun e w' => e = .returned (.tuple #[.int .u64 (A : Nat), .int .u64 (B : Nat)]) ∧ Chg [] w w' := by
  obtain ⟨ao, cap, hrv⟩ := h.own.shape
  obtain ⟨n, hn⟩ : ∃ n, n = l.length := ⟨_, rfl⟩
  subst hrv
  rw [← hn] at h hl
  have HL := Lib.hid (lump_lumps w p ao n cap most l T hn h (by omega))
  have HN := Lib.hid hn
  have HT := Lib.hid (fun k => show sumL (fun p => decide (p.hi ≤ x)) (l.take k) < 9223372036854775808 ∧ sumL (fun p => decide (p.lo ≤ x)) (l.take k) < 9223372036854775808 from by
    have h1 := sumL_le (fun p => decide (p.hi ≤ x)) (l.take k)
    have h2 := sumL_le (fun p => decide (p.lo ≤ x)) (l.take k)
    have h3 := totL_take_le l k
    omega)
  have HAB := Lib.hid (And.intro hA hB)
  clear hn h hA hB ht
  go_enter Tryz.func381, Tryz.ntmps381
  go_wp2_with fail
  refine HL.out.mono ?_
  rintro e w1 ⟨a1, c1, rfl, ho1, hc1, -⟩
  have HO := Lib.hid ho1.rd
  have HC := Lib.hid hc1
  clear HL ho1 hc1
  go_wp2_with fail
  go_loopw [6, 7, 13] (fun s t i wx => ∃ (k S U : Nat), k ≤ n ∧ i = .int .i64 (k : Nat) ∧ s = .int .u64 (S : Nat) ∧ t = .int .u64 (U : Nat) ∧ Hid (S = sumL (fun p => decide (p.hi ≤ x)) (l.take k) ∧ U = sumL (fun p => decide (p.lo ≤ x)) (l.take k)) ∧ Chg [] w1 wx) (fun _ _ i _ => n - (intOf i).toNat)
  case atStart => exact ⟨0, 0, 0, Nat.zero_le _, rfl, rfl, rfl, Lib.hid ⟨rfl, rfl⟩, Chg.refl _ _⟩
  case round =>
    obtain ⟨k, S, U, hk, rfl, rfl, rfl, HS, hch⟩ := hrel
    by_cases hlt : k < n
    · have hkl : k < l.length := by have := HN.out; omega
      obtain ⟨b, o, hbo, hc⟩ := (HO.out.chg hch (by simp)).addr (by omega)
      subst hbo
      obtain ⟨c0, c1', c2⟩ := lp_at (l := l) (fun j hj => hc j (by rw [HN.out]; exact hj)) hkl
      have HT1 := Lib.hid (sumL_take (fun p => decide (p.hi ≤ x)) l k hkl)
      have HT2 := Lib.hid (sumL_take (fun p => decide (p.lo ≤ x)) l k hkl)
      obtain ⟨hb1, hb2⟩ := HT.out (k + 1)
      rw [HT1.out, ← HS.out.1] at hb1
      rw [HT2.out, ← HS.out.2] at hb2
      generalize l[k] = q at *
      clear hc
      by_cases hx : q.hi ≤ x
      · have d1 : decide (q.hi ≤ x) = true := decide_eq_true hx
        rw [d1, if_pos rfl] at HT1 hb1
        have HX := Lib.hid (show S + q.n = sumL (fun p => decide (p.hi ≤ x)) (l.take (k + 1)) from by rw [HT1.out, HS.out.1])
        by_cases hy : q.lo ≤ x
        · have d2 : decide (q.lo ≤ x) = true := decide_eq_true hy
          rw [d2, if_pos rfl] at HT2 hb2
          have HY := Lib.hid (show U + q.n = sumL (fun p => decide (p.lo ≤ x)) (l.take (k + 1)) from by rw [HT2.out, HS.out.2])
          clear hx hy
          go_wp2
          exact ⟨⟨k + 1, S + q.n, U + q.n, by omega, by go_num, by go_num, by go_num, Lib.hid ⟨HX.out, HY.out⟩, hch.alloc _⟩, by simp [intOf]; omega⟩
        · have d2 : decide (q.lo ≤ x) = false := decide_eq_false hy
          rw [d2, if_neg (by decide)] at HT2 hb2
          have HY := Lib.hid (show U = sumL (fun p => decide (p.lo ≤ x)) (l.take (k + 1)) from by rw [HT2.out, HS.out.2]; rfl)
          clear hx hy
          go_wp2
          exact ⟨⟨k + 1, S + q.n, U, by omega, by go_num, by go_num, rfl, Lib.hid ⟨HX.out, HY.out⟩, hch.alloc _⟩, by simp [intOf]; omega⟩
      · have d1 : decide (q.hi ≤ x) = false := decide_eq_false hx
        rw [d1, if_neg (by decide)] at HT1 hb1
        have HX := Lib.hid (show S = sumL (fun p => decide (p.hi ≤ x)) (l.take (k + 1)) from by rw [HT1.out, HS.out.1]; rfl)
        by_cases hy : q.lo ≤ x
        · have d2 : decide (q.lo ≤ x) = true := decide_eq_true hy
          rw [d2, if_pos rfl] at HT2 hb2
          have HY := Lib.hid (show U + q.n = sumL (fun p => decide (p.lo ≤ x)) (l.take (k + 1)) from by rw [HT2.out, HS.out.2])
          clear hx hy
          go_wp2
          exact ⟨⟨k + 1, S, U + q.n, by omega, by go_num, rfl, by go_num, Lib.hid ⟨HX.out, HY.out⟩, hch.alloc _⟩, by simp [intOf]; omega⟩
        · have d2 : decide (q.lo ≤ x) = false := decide_eq_false hy
          rw [d2, if_neg (by decide)] at HT2 hb2
          have HY := Lib.hid (show U = sumL (fun p => decide (p.lo ≤ x)) (l.take (k + 1)) from by rw [HT2.out, HS.out.2]; rfl)
          clear hx hy
          go_wp2
          exact ⟨⟨k + 1, S, U, by omega, by go_num, rfl, rfl, Lib.hid ⟨HX.out, HY.out⟩, hch.alloc _⟩, by simp [intOf]; omega⟩
    · obtain rfl : k = n := by omega
      have HE := Lib.hid (show S = A ∧ U = B from by
        have hl2 : k = l.length := HN.out
        obtain ⟨h1, h2⟩ := HAB.out
        obtain ⟨h3, h4⟩ := HS.out
        rw [h1, h2, h3, h4, List.take_of_length_le (by omega)]
        exact ⟨rfl, rfl⟩)
      go_wp2
      go_ret2
      rw [HE.out.1, HE.out.2]
      exact ⟨rfl, HC.out.trans hch⟩
theorem goL_full {t : Nat} : ∀ (l : List Lp) (x : Int) (s : Nat), t ≤ s → goL t l x s = x
  | [], _, _, _ => rfl
  | p :: l, x, s, h => by rw [goL, if_pos h]
set_option maxRecDepth 100000 in
set_option maxHeartbeats 4000000 in
theorem lump_quantile (w : World) (p : Nat) (rv : Value) (most : Int) (l : List Lp) (T : Nat) (h : Lms w p rv most l T) (hl : l.length ≤ 1000) (hT : T = totL l) (hT2 : T < 9223372036854775808) (num den : Nat) (hnum : num < 18446744073709551616) (hden : den < 18446744073709551616)
    (t E : Nat) (ht : t = placeT num den T) (hE : E = placeE num den T) (V : Int) (hV : V = if E = 0 then quantL l t else 0) :
    Calls Tryz.prog 180 #[.pointer (some ⟨p, 0, none⟩), .agg #[.int .u64 (num : Nat), .int .u64 (den : Nat)]] w fun e w' => e = .returned (.tuple #[.int .i64 V, .int .i64 (E : Nat)]) ∧ Chg [] w w' := by
  obtain ⟨ao, cap, hrv⟩ := h.own.shape
  obtain ⟨n, hn⟩ : ∃ n, n = l.length := ⟨_, rfl⟩
  subst hrv
  rw [← hn] at h hl
  have HH := Lib.hid h
  have hc := (Chg.refl [] w).alloc (.cells #[.int .u64 num, .int .u64 den] 27)
  have hbx := Blk.alloc_new w #[.int .u64 num, .int .u64 den] 27
  have b0 := hbx.cell 0
  have b1 := hbx.cell 1
  obtain ⟨-, c1, c2⟩ := (h.chg hc (by simp)).cells
  obtain ⟨Ei, hEi⟩ : ∃ z : Int, z = (E : Nat) := ⟨_, rfl⟩
  have HPL := Lib.hid (fun u => show Calls Tryz.prog 184 #[.agg #[.int .u64 (num : Nat), .int .u64 (den : Nat)], .int .u64 (T : Nat)] u fun e w' => e = .returned (.tuple #[.int .u64 (t : Nat), .int .i64 Ei]) ∧ Chg [] u w' from by rw [hEi]; exact share_place u num den T hnum hden (by omega) t E ht hE)
  rw [← hEi]
  have HEI := Lib.hid hEi
  have HC := Lib.hid hc
  have HV := Lib.hid hV
  have HE0 := Lib.hid (show E = 0 → 1 ≤ t ∧ t ≤ T from fun h => by rw [ht]; exact placeT_of (by rw [← hE]; exact h))
  have HN := Lib.hid hn
  have HTT := Lib.hid hT
  clear hEi h hc hbx hV ht hE hn hT
  go_enter Tryz.func180, Tryz.ntmps180
  go_wp2_with fail
  go_cut [6, 7] (fun a b wx => a = .int .u64 (t : Nat) ∧ b = .int .i64 Ei ∧ Chg [] w wx)
  case first =>
    go_region_with (first | (go_at_call 184; refine (HPL.out _).mono ?_; rintro e w1 ⟨rfl, hc1⟩))
    all_goals
      go_wp2_with fail
      go_meet
      exact ⟨rfl, rfl, HC.out.trans ((Chg.drew (Chg.refl [] _)).trans hc1)⟩
  case rest =>
    obtain ⟨rfl, rfl, hc1⟩ := hcut
    clear HPL HC c1 c2 b0 b1
    by_cases hE : E = 0
    · subst hE
      obtain rfl : Ei = 0 := HEI.out
      clear HEI
      have hv := HV.out
      rw [if_pos rfl] at hv
      have HVV := Lib.hid hv
      obtain ⟨hT1, hT2'⟩ := HE0.out rfl
      have hH1 := HH.out.chg hc1 (by simp)
      have hn0 : 0 < n := by
        rcases Nat.eq_zero_or_pos n with h0 | h0
        · exfalso
          have e : l = [] := List.eq_nil_of_length_eq_zero (by rw [← HN.out]; exact h0)
          have := HTT.out
          rw [e, totL_nil] at this
          omega
        · exact h0
      obtain ⟨g, o, rfl⟩ : ∃ g o, ao = some ⟨g, o, none⟩ := by
        obtain ⟨b, o, h, -⟩ := (hH1.own.rd.of_len HN.out).addr hn0
        exact ⟨b, o, h⟩
      have HR := Lib.hid (fun wx (hu : Chg [] wc wx) => show (∀ k (hk : k < l.length), wx.cell? ⟨g, o + k * 3, none⟩ = some (.int .u64 (l[k].n : Nat)) ∧ wx.cell? ⟨g, o + k * 3 + 1, none⟩ = some (.int .i64 l[k].lo) ∧ wx.cell? ⟨g, o + k * 3 + 2, none⟩ = some (.int .i64 l[k].hi)) from fun k hk => lp_at (l := l) (fun j hj => (hH1.chg hu (by simp)).own.cells j hj) hk)
      have HC1 := Lib.hid (fun wx (hu : Chg [] wc wx) => (hH1.chg hu (by simp)).cells.2.1)
      have HCW := Lib.hid hc1
      obtain ⟨z, hz⟩ : ∃ z, z = l[0]'(by have := HN.out; omega) := ⟨_, rfl⟩
      have HZ := Lib.hid (show quantL l t = goL t l z.hi 0 from by
        rw [quantL, hz]
        cases l with
        | nil => exact absurd HN.out (by simp; omega)
        | cons q l => rfl)
      obtain ⟨-, -, e2⟩ := HR.out wc (Chg.refl _ _) 0 (by have := HN.out; omega)
      rw [← hz] at e2
      simp only [Nat.zero_mul, Nat.add_zero] at e2
      have c1 := HC1.out wc (Chg.refl _ _)
      have hi0 : (0 : Int) < (n : Int) := by omega
      have HTK := Lib.hid (fun k => Nat.le_trans (totL_take_le l k) (Nat.le_of_eq HTT.out.symm))
      clear hz hv hH1 HH HE0 HV hc1
      go_wp2_with fail
      go_loopw [8, 9, 38] (fun a b i wx => ∃ (k S : Nat) (X : Int), k ≤ n ∧ i = .int .i64 (k : Nat) ∧ a = .int .i64 X ∧ b = .int .u64 (S : Nat) ∧ Hid (goL t (l.drop k) X S = goL t l z.hi 0 ∧ S = totL (l.take k)) ∧ Chg [] wc wx) (fun _ _ i _ => n - (intOf i).toNat)
      case atStart => exact ⟨0, 0, z.hi, Nat.zero_le _, rfl, rfl, rfl, Lib.hid ⟨rfl, rfl⟩, Chg.refl _ _⟩
      case round =>
        obtain ⟨k, S, X, hk, rfl, rfl, rfl, HS, hch⟩ := hrel
        by_cases hlt : k < n
        · have hkl : k < l.length := by have := HN.out; omega
          obtain ⟨d0, d1, d2⟩ := HR.out wr hch k hkl
          have hS1 := HTK.out k
          have hS2 := HTK.out (k + 1)
          rw [← HS.out.2] at hS1
          have hST : totL (l.take (k + 1)) = S + l[k].n := by rw [HS.out.2, List.take_succ_eq_append_getElem hkl, totL_app, totL_cons, totL_nil, Nat.add_zero]
          rw [hST] at hS2
          have HST := Lib.hid hST
          have HG := Lib.hid (show goL t (l.drop k) X S = if t ≤ S then X else goL t (l.drop (k + 1)) (max X l[k].hi) (S + l[k].n) from by rw [List.drop_eq_getElem_cons hkl, goL])
          generalize l[k] = q at *
          clear hST
          by_cases hts : t ≤ S
          · have hd : decide (t ≤ S) = true := decide_eq_true hts
            obtain rfl : X = V := by
              have h1 := HG.out
              rw [if_pos hts] at h1
              rw [HVV.out, HZ.out, ← HS.out.1, h1]
            clear hts
            go_wp2
            go_ret2
            exact ⟨rfl, HCW.out.trans (hch.alloc _)⟩
          · have hd : decide (t ≤ S) = false := decide_eq_false hts
            have hg := HG.out
            rw [if_neg hts] at hg
            have HG2 := Lib.hid hg
            clear hts hg HG
            go_wp2_with fail
            go_quiet (fail)
            go_wp2
            exact ⟨⟨k + 1, S + q.n, max X q.hi, by omega, by go_num, rfl, by go_num, Lib.hid ⟨by rw [← HG2.out]; exact HS.out.1, HST.out.symm⟩, (hch.alloc _).drewN _⟩, by simp [intOf]; omega⟩
        · obtain rfl : k = n := by omega
          have HE := Lib.hid (show X = V from by
            have h1 := HS.out.1
            rw [List.drop_of_length_le (by have := HN.out; omega), goL] at h1
            rw [HVV.out, HZ.out, ← h1])
          go_wp2
          go_ret2
          rw [HE.out]
          exact ⟨rfl, HCW.out.trans hch⟩
    · have hv := HV.out
      rw [if_neg hE] at hv
      subst hv
      have he : (Ei != 0) = true := by rw [bne_iff_ne, HEI.out]; omega
      clear HEI HV HE0
      go_wp2
      go_ret2
      exact ⟨rfl, hc1⟩
end Go.Proofs.YtlcoibhbdgdfcaaGreatDoor

namespace Go.Proofs.YtlcoibhbdgdfcaaGreatDoor
open Go.RowKit

set_option maxRecDepth 100000 in
theorem step_bU3 {ops : Array Oper} {w : World} {o : Oper} {a : Act} {K : Act → World → Prop} {Q : Exit → Act → World → Prop} {E : Prop} (hg : o.guard = none) (t0 t1 t2 : Tmp)
    (ho : o.op = .buildSlice 124 3 #[(0, .tmp t0), (1, .tmp t1), (2, .tmp t2)]) (x0 x1 x2 : Nat) (h0 : a.eval (.tmp t0) = .int .u64 (x0 : Nat)) (h1 : a.eval (.tmp t1) = .int .u64 (x1 : Nat)) (h2 : a.eval (.tmp t2) = .int .u64 (x2 : Nat))
    (h : ∀ g w', Rd w' 1 (.slice (some ⟨g, 0, none⟩) 3 3) 3 (u64s [x0, x1, x2]) → Chg [] w w' → w.heap.size ≤ g → K (a.put o.dst (.slice (some ⟨g, 0, none⟩) 3 3)) w') :
    if Region.wanted o (yielded ops a.tmps) = true then Oper.wp Tryz.prog o a w K Q else E := by
  obtain ⟨dst, op, ty, pos, af, gd⟩ := o
  simp only at hg ho h
  subst hg ho
  have H := h w.heap.size (w.alloc (.cells #[.int .u64 (x0 : Nat), .int .u64 (x1 : Nat), .int .u64 (x2 : Nat)] 25)) (Rd.lit w #[.int .u64 (x0 : Nat), .int .u64 (x1 : Nat), .int .u64 (x2 : Nat)] 25 1 3 3 rfl) ((Chg.refl [] w).alloc _) (Nat.le_refl _)
  clear h
  have h0' : a.tmps[t0]?.getD undef = .int .u64 (x0 : Nat) := by simpa [Act.eval] using h0
  have h1' : a.tmps[t1]?.getD undef = .int .u64 (x1 : Nat) := by simpa [Act.eval] using h1
  have h2' : a.tmps[t2]?.getD undef = .int .u64 (x2 : Nat) := by simpa [Act.eval] using h2
  clear h0 h1 h2
  go_simp
  exact H
set_option maxRecDepth 100000 in
theorem step_bU2 {ops : Array Oper} {w : World} {o : Oper} {a : Act} {K : Act → World → Prop} {Q : Exit → Act → World → Prop} {E : Prop} (hg : o.guard = none) (t0 t1 : Tmp)
    (ho : o.op = .buildSlice 124 2 #[(0, .tmp t0), (1, .tmp t1)]) (x0 x1 : Nat) (h0 : a.eval (.tmp t0) = .int .u64 (x0 : Nat)) (h1 : a.eval (.tmp t1) = .int .u64 (x1 : Nat))
    (h : ∀ g w', Rd w' 1 (.slice (some ⟨g, 0, none⟩) 2 2) 2 (u64s [x0, x1]) → Chg [] w w' → w.heap.size ≤ g → K (a.put o.dst (.slice (some ⟨g, 0, none⟩) 2 2)) w') :
    if Region.wanted o (yielded ops a.tmps) = true then Oper.wp Tryz.prog o a w K Q else E := by
  obtain ⟨dst, op, ty, pos, af, gd⟩ := o
  simp only at hg ho h
  subst hg ho
  have H := h w.heap.size (w.alloc (.cells #[.int .u64 (x0 : Nat), .int .u64 (x1 : Nat)] 25)) (Rd.lit w #[.int .u64 (x0 : Nat), .int .u64 (x1 : Nat)] 25 1 2 2 rfl) ((Chg.refl [] w).alloc _) (Nat.le_refl _)
  clear h
  have h0' : a.tmps[t0]?.getD undef = .int .u64 (x0 : Nat) := by simpa [Act.eval] using h0
  have h1' : a.tmps[t1]?.getD undef = .int .u64 (x1 : Nat) := by simpa [Act.eval] using h1
  clear h0 h1
  go_simp
  exact H
end Go.Proofs.YtlcoibhbdgdfcaaGreatDoor
