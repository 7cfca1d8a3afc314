/-
  The walk of the law QuillReads. Conditions: the form's own reach.
-/
import Derived.Test.YtgpnnfgaphcklaaQuillNumbersW
import Derived.Test.YtgpnnfgaphcklaaBase2
namespace Go.Proofs.Ytgpnnfgaphcklaa
open Go.RowKit

/-- Something that is asked for: its kind, a number, how many. -/
structure Asq where
  k : Int
  u : Nat
  n : Int
def Asq.cells (i : Asq) : List Value := [.int .i64 i.k, .int .u64 i.u, .int .i64 i.n]
def Asq.ok (i : Asq) : Prop := -9223372036854775808 ≤ i.k ∧ i.k < 9223372036854775808 ∧ i.u < 18446744073709551616 ∧ -9223372036854775808 ≤ i.n ∧ i.n < 9223372036854775808
def asqCells (l : List Asq) : List Value := (l.map Asq.cells).flatten
theorem asqCells_get (l : List Asq) (k j : Nat) (hk : k < l.length) (hj : j < 3) : (asqCells l)[k * 3 + j]? = (l[k].cells)[j]? := by
  induction l generalizing k with
  | nil => simp at hk
  | cons a r ih =>
    cases k with
    | zero =>
      simp only [asqCells, List.map_cons, List.flatten_cons, Nat.zero_mul, Nat.zero_add, List.getElem_cons_zero]
      rw [List.getElem?_append_left (by simpa [Asq.cells] using hj)]
    | succ k =>
      have := ih k (by simpa using hk)
      simp only [asqCells, List.map_cons, List.flatten_cons, List.getElem_cons_succ] at *
      rw [List.getElem?_append_right (by simp [Asq.cells]; omega), ← this]
      congr 1
      simp [Asq.cells]
      omega
theorem asq_at {w : World} {b o k : Nat} {l : List Asq} (hc : ∀ j, j < l.length * 3 → w.cell? ⟨b, o + j, none⟩ = (asqCells l)[j]?) (h : k < l.length) :
    w.cell? ⟨b, o + k * 3, none⟩ = some (.int .i64 l[k].k) ∧ w.cell? ⟨b, o + k * 3 + 1, none⟩ = some (.int .u64 l[k].u) ∧ w.cell? ⟨b, o + k * 3 + 2, none⟩ = some (.int .i64 l[k].n) := by
  have g : ∀ j, j < 3 → w.cell? ⟨b, o + k * 3 + j, none⟩ = (l[k].cells)[j]? := fun j hj => by
    rw [← asqCells_get l k j h hj, ← hc (k * 3 + j) (by omega), Nat.add_assoc]
  exact ⟨g 0 (by omega), g 1 (by omega), g 2 (by omega)⟩

theorem eNat_hit {most : Nat} {l : List UInt8} (h : (takenP most l).2 ≠ 0) : eNat most (some l) = ((takenP most l).1, some (l.drop (takenP most l).2)) ∧ (takenP most l).2 ≤ l.length := by
  cases hl : leb 0 l with
  | none => simp [takenP, hl] at h
  | some p =>
    obtain ⟨v, r⟩ := p
    obtain ⟨e, _, _⟩ := leb_sound l 0 v r (by omega) hl
    have := natB_pos v
    have hll : l.length = (natB v).length + r.length := by rw [e, List.length_append]
    by_cases hv : v ≤ most
    · have e2 : takenP most l = (v, l.length - r.length) := by simp [takenP, hl, hv]
      have e3 : l.length - r.length = (natB v).length := by omega
      rw [e2]
      refine ⟨?_, by simp⟩
      simp only [eNat_some, hl, if_pos hv, e3]
      rw [e]
      simp
    · simp [takenP, hl, hv] at h
theorem eNat_miss {most : Nat} {l : List UInt8} (h : (takenP most l).2 = 0) : eNat most (some l) = (0, none) ∧ takenP most l = (0, 0) := by
  cases hl : leb 0 l with
  | none => simp [takenP, eNat_some, hl]
  | some p =>
    obtain ⟨v, r⟩ := p
    obtain ⟨e, _, _⟩ := leb_sound l 0 v r (by omega) hl
    have := natB_pos v
    have hll : l.length = (natB v).length + r.length := by rw [e, List.length_append]
    by_cases hv : v ≤ most
    · simp [takenP, hl, hv] at h; omega
    · simp [takenP, eNat_some, hl, hv]

theorem takenP_lt {most : Nat} {l : List UInt8} (h : most < 18446744073709551616) : (takenP most l).1 < 18446744073709551616 := by
  have := eNat_le most (some l)
  rw [(eNat_taken most l).1] at this
  omega

theorem takenP_le (most : Nat) (l : List UInt8) : (takenP most l).1 ≤ most ∧ (takenP most l).2 ≤ l.length := by
  have h1 := eNat_le most (some l)
  rw [(eNat_taken most l).1] at h1
  refine ⟨h1, ?_⟩
  by_cases h : (takenP most l).2 = 0
  · omega
  · exact (eNat_hit h).2

attribute [local go_sem] ByteArray.extract_mk

set_option maxRecDepth 100000 in
set_option maxHeartbeats 16000000 in
theorem law_QuillReads (w : World) (bs : List UInt8) (_hb : bs.length ≤ 140737488351232) (ao : Option Addr) (ca : Nat) (l : List Asq) (hok : ∀ i ∈ l, i.ok)
    (hr : Rd w 3 (.slice ao l.length ca) l.length (asqCells l)) (_hao : Old w.heap.size (.slice ao l.length ca) l.length) (hl : l.length * 24 ≤ 140737488351232) :
    Calls Try.prog 9 #[.string ⟨bs.toArray⟩, .slice ao l.length ca] w fun e w' => e = .returned (.bool true) ∧ Chg [] w w' := by
  go_enter Try.func9, Try.ntmps9
  go_wp2_with fail
  refine (law_alive w).mono ?_
  rintro e w1 ⟨rfl, hc1⟩
  by_cases h60 : 60 < l.length
  · go_wp2
    go_ret
    exact ⟨rfl, hc1⟩
  by_cases h100 : 4096 < bs.length
  · go_wp2
    go_ret
    exact ⟨rfl, hc1⟩
  go_wp2_with fail
  refine (eye_on w1 bs).mono ?_
  rintro e w2 ⟨rfl, he2, hc2⟩
  have hs1 := hc1.size
  have hc2 := hc1.trans hc2
  go_wp2
  go_loopw [0, 6, 30] (fun b bad i wr => ∃ (k : Nat) (st : Option (List UInt8)), k ≤ l.length ∧ i = .int .i64 (k : Nat) ∧ b = .string ⟨(st.getD []).toArray⟩ ∧ bad = .bool st.isNone ∧ (st.getD []).length ≤ 4096 ∧ EyeAt wr w1.heap.size st ∧ Chg [] w wr) (fun _ _ i _ => l.length - (intOf i).toNat)
  case atStart => exact ⟨0, some bs, Nat.zero_le _, rfl, rfl, rfl, by simp; omega, he2, hc2⟩
  case round =>
    obtain ⟨k, st, hk, rfl, rfl, rfl, hst, he, hch⟩ := hrel
    by_cases hlt : k < l.length
    · have hr1 := hr.chg hch (by simp)
      obtain ⟨bb, o, rfl, hc⟩ := hr1.addr (by omega)
      obtain ⟨c0, c1, c2⟩ := asq_at hc hlt
      have hi := hok l[k] (List.getElem_mem _)
      generalize l[k] = it at *
      clear hr1 hr hc hok he2 hc2 hc1 _hao
      obtain ⟨i0, i1, i2, i3, i4⟩ := hi
      have heA := he.chg (w1 := wr.alloc (.cells #[.int .i64 it.k, .int .u64 it.u, .int .i64 it.n] 62)) ((Chg.refl [] wr).alloc _) (by simp)
      have hcA := hch.alloc (.cells #[.int .i64 it.k, .int .u64 it.u, .int .i64 it.n] 62)
      have hba := Blk.alloc_new wr #[.int .i64 it.k, .int .u64 it.u, .int .i64 it.n] 62
      have hne : w1.heap.size < wr.heap.size := Blk.lt he
      have HE := Lib.hid heA
      have HC := Lib.hid hcA
      clear he hch heA hcA
      by_cases h0 : it.k = 0
      · have t0 : (it.k == 0) = true := by simp [h0]
        clear h0
        as_aux_lemma =>
          go_wp2_with fail
          refine (ref_taken _ (st.getD []) it.u i2 (by omega)).mono ?_
          rintro e w3 ⟨rfl, hc3⟩
          have hb3 := hba.chg hc3 (by simp)
          have d0 := hb3.cell 0
          have d1 := hb3.cell 1
          have d2 := hb3.cell 2
          have he3 := HE.out.chg hc3 (by simp)
          have hw3 := HC.out.trans hc3
          cases st with
          | none =>
            have e1 : takenP it.u [] = (0, 0) := rfl
            simp only [Option.getD_none]
            rw [e1]
            have HX := Lib.hid (show eNat it.u none = (0, none) from rfl)
            clear e1
            go_wp2_with fail
            refine (eye_nat w3 w1.heap.size it.u none i2 he3 (by simp)).mono ?_
            rintro e w4 ⟨rfl, he4, hc4⟩
            have hw4 : Chg [] w w4 := hw3.trans' hc4 (by simp; omega)
            rw [HX.out] at he4 ⊢
            clear hw3 hc4
            go_wp2_with fail
            refine (eye_bad w4 w1.heap.size none he4).mono ?_
            rintro e w8 ⟨rfl, rfl⟩
            go_wp2_with fail
            refine (eye_left w4 w1.heap.size none he4).mono ?_
            rintro e w8 ⟨rfl, rfl⟩
            go_wp2_with fail
            refine (eye_over w4 w1.heap.size none he4).mono ?_
            rintro e w8 ⟨rfl, rfl⟩
            go_wp2
            exact ⟨⟨k + 1, none, by omega, by go_num, by simp, rfl, by first | exact hlen5 | simp, he4, hw4⟩, by simp [intOf]; omega⟩
          | some b =>
            simp only [Option.getD_some] at hst ⊢
            by_cases htu : (takenP it.u b).2 = 0
            · obtain ⟨x1, x2⟩ := eNat_miss htu
              rw [x2]
              have HX := Lib.hid (x1)
              clear x1 x2 htu
              go_wp2_with fail
              refine (eye_nat w3 w1.heap.size it.u (some b) i2 he3 (by intro l h; cases h; omega)).mono ?_
              rintro e w4 ⟨rfl, he4, hc4⟩
              have hw4 : Chg [] w w4 := hw3.trans' hc4 (by simp; omega)
              rw [HX.out] at he4 ⊢
              clear hw3 hc4
              go_wp2_with fail
              refine (eye_bad w4 w1.heap.size none he4).mono ?_
              rintro e w8 ⟨rfl, rfl⟩
              go_wp2_with fail
              refine (eye_left w4 w1.heap.size none he4).mono ?_
              rintro e w8 ⟨rfl, rfl⟩
              go_wp2_with fail
              refine (eye_over w4 w1.heap.size none he4).mono ?_
              rintro e w8 ⟨rfl, rfl⟩
              go_wp2
              exact ⟨⟨k + 1, none, by omega, by go_num, by simp, rfl, by first | exact hlen5 | simp, he4, hw4⟩, by simp [intOf]; omega⟩
            · obtain ⟨x1, x2⟩ := eNat_hit htu
              have x3 := takenP_le it.u b
              generalize takenP it.u b = tk at *
              obtain ⟨tv, tu⟩ := tk
              simp only at x1 x2 x3 htu ⊢
              have t5 : ((tu : Int) == 0) = false := by simp; omega
              have hlen5 : (b.drop tu).length ≤ 4096 := by simp; omega
              have hdd : (b.drop tu).take (b.length - tu) = b.drop tu := List.take_of_length_le (by simp)
              clear htu
              have HX := Lib.hid (x1)
              clear x1
              go_wp2_with fail
              refine (eye_nat w3 w1.heap.size it.u (some b) i2 he3 (by intro l h; cases h; omega)).mono ?_
              rintro e w4 ⟨rfl, he4, hc4⟩
              have hw4 : Chg [] w w4 := hw3.trans' hc4 (by simp; omega)
              rw [HX.out] at he4 ⊢
              clear hw3 hc4
              generalize b.drop tu = r at *
              cases r with
              | nil =>
                go_wp2_with fail
                refine (eye_bad w4 w1.heap.size (some []) he4).mono ?_
                rintro e w8 ⟨rfl, rfl⟩
                go_wp2_with fail
                refine (eye_left w4 w1.heap.size (some []) he4).mono ?_
                rintro e w8 ⟨rfl, rfl⟩
                go_wp2_with fail
                refine (eye_over w4 w1.heap.size (some []) he4).mono ?_
                rintro e w8 ⟨rfl, rfl⟩
                go_wp2
                exact ⟨⟨k + 1, (some []), by omega, by go_num, by simp, rfl, by first | exact hlen5 | simp, he4, hw4⟩, by simp [intOf]; omega⟩
              | cons c r =>
                go_wp2_with fail
                refine (eye_bad w4 w1.heap.size (some (c :: r)) he4).mono ?_
                rintro e w8 ⟨rfl, rfl⟩
                go_wp2_with fail
                refine (eye_left w4 w1.heap.size (some (c :: r)) he4).mono ?_
                rintro e w8 ⟨rfl, rfl⟩
                go_wp2_with fail
                refine (eye_over w4 w1.heap.size (some (c :: r)) he4).mono ?_
                rintro e w8 ⟨rfl, rfl⟩
                go_wp2
                exact ⟨⟨k + 1, (some (c :: r)), by omega, by go_num, by simp, rfl, by first | exact hlen5 | simp, he4, hw4⟩, by simp [intOf]; omega⟩
      · have t0 : (it.k == 0) = false := by simp [h0]
        clear h0
        by_cases h1 : it.k = 1
        · have t1 : (it.k == 1) = true := by simp [h1]
          clear h1
          as_aux_lemma =>
            go_wp2_with fail
            refine (ref_taken _ (st.getD []) 18446744073709551615 (by omega) (by omega)).mono ?_
            rintro e w3 ⟨rfl, hc3⟩
            have hb3 := hba.chg hc3 (by simp)
            have d0 := hb3.cell 0
            have d1 := hb3.cell 1
            have d2 := hb3.cell 2
            have he3 := HE.out.chg hc3 (by simp)
            have hw3 := HC.out.trans hc3
            cases st with
            | none =>
              have e1 : takenP 18446744073709551615 [] = (0, 0) := rfl
              simp only [Option.getD_none]
              rw [e1]
              have HX := Lib.hid (show eNat 18446744073709551615 none = (0, none) from rfl)
              clear e1
              go_wp2_with fail
              refine (eye_int w3 w1.heap.size none he3 (by simp)).mono ?_
              rintro e w4 ⟨rfl, he4, hc4⟩
              have hw4 : Chg [] w w4 := hw3.trans' hc4 (by simp; omega)
              rw [HX.out] at he4 ⊢
              clear hw3 hc4
              go_wp2_with fail
              refine (eye_bad w4 w1.heap.size none he4).mono ?_
              rintro e w8 ⟨rfl, rfl⟩
              go_wp2_with fail
              refine (eye_left w4 w1.heap.size none he4).mono ?_
              rintro e w8 ⟨rfl, rfl⟩
              go_wp2_with fail
              refine (eye_over w4 w1.heap.size none he4).mono ?_
              rintro e w8 ⟨rfl, rfl⟩
              go_wp2
              exact ⟨⟨k + 1, none, by omega, by go_num, by simp, rfl, by first | exact hlen5 | simp, he4, hw4⟩, by simp [intOf]; omega⟩
            | some b =>
              simp only [Option.getD_some] at hst ⊢
              by_cases htu : (takenP 18446744073709551615 b).2 = 0
              · obtain ⟨x1, x2⟩ := eNat_miss htu
                rw [x2]
                have HX := Lib.hid (x1)
                clear x1 x2 htu
                go_wp2_with fail
                refine (eye_int w3 w1.heap.size (some b) he3 (by intro l h; cases h; omega)).mono ?_
                rintro e w4 ⟨rfl, he4, hc4⟩
                have hw4 : Chg [] w w4 := hw3.trans' hc4 (by simp; omega)
                rw [HX.out] at he4 ⊢
                clear hw3 hc4
                go_wp2_with fail
                refine (eye_bad w4 w1.heap.size none he4).mono ?_
                rintro e w8 ⟨rfl, rfl⟩
                go_wp2_with fail
                refine (eye_left w4 w1.heap.size none he4).mono ?_
                rintro e w8 ⟨rfl, rfl⟩
                go_wp2_with fail
                refine (eye_over w4 w1.heap.size none he4).mono ?_
                rintro e w8 ⟨rfl, rfl⟩
                go_wp2
                exact ⟨⟨k + 1, none, by omega, by go_num, by simp, rfl, by first | exact hlen5 | simp, he4, hw4⟩, by simp [intOf]; omega⟩
              · obtain ⟨x1, x2⟩ := eNat_hit htu
                have x3 := takenP_le 18446744073709551615 b
                generalize takenP 18446744073709551615 b = tk at *
                obtain ⟨tv, tu⟩ := tk
                simp only at x1 x2 x3 htu ⊢
                have t5 : ((tu : Int) == 0) = false := by simp; omega
                have hlen5 : (b.drop tu).length ≤ 4096 := by simp; omega
                have hdd : (b.drop tu).take (b.length - tu) = b.drop tu := List.take_of_length_le (by simp)
                clear htu
                have HX := Lib.hid x1
                clear x1
                have hz := zag_range (u := tv) (by omega)
                go_wp2_with fail
                refine (eye_int w3 w1.heap.size (some b) he3 (by intro l h; cases h; omega)).mono ?_
                rintro e w4 ⟨rfl, he4, hc4⟩
                have hw4 : Chg [] w w4 := hw3.trans' hc4 (by simp; omega)
                rw [HX.out] at he4 ⊢
                clear hw3 hc4
                have hlz := natB_len10 (n := tv) (by omega)
                go_wp2_with fail
                refine (ref_int w4 (zag tv) hz.1 hz.2).mono ?_
                rintro e w5 ⟨rfl, hc5⟩
                rw [zig_zag]
                have he5 := he4.chg hc5 (by simp)
                have hw5 := hw4.trans hc5
                clear he4 hw4 hc5
                go_wp2_with fail
                refine (ref_nat w5 tv (by omega)).mono ?_
                rintro e w6 ⟨rfl, hc6⟩
                have he4 := he5.chg hc6 (by simp)
                have hw4 := hw5.trans hc6
                clear he5 hw5 hc6
                generalize b.drop tu = r at *
                cases r with
                | nil =>
                  go_wp2_with fail
                  refine (eye_bad w6 w1.heap.size (some []) he4).mono ?_
                  rintro e w8 ⟨rfl, rfl⟩
                  go_wp2_with fail
                  refine (eye_left w6 w1.heap.size (some []) he4).mono ?_
                  rintro e w8 ⟨rfl, rfl⟩
                  go_wp2_with fail
                  refine (eye_over w6 w1.heap.size (some []) he4).mono ?_
                  rintro e w8 ⟨rfl, rfl⟩
                  go_wp2
                  exact ⟨⟨k + 1, (some []), by omega, by go_num, by simp, rfl, by first | exact hlen5 | simp, he4, hw4⟩, by simp [intOf]; omega⟩
                | cons c r =>
                  go_wp2_with fail
                  refine (eye_bad w6 w1.heap.size (some (c :: r)) he4).mono ?_
                  rintro e w8 ⟨rfl, rfl⟩
                  go_wp2_with fail
                  refine (eye_left w6 w1.heap.size (some (c :: r)) he4).mono ?_
                  rintro e w8 ⟨rfl, rfl⟩
                  go_wp2_with fail
                  refine (eye_over w6 w1.heap.size (some (c :: r)) he4).mono ?_
                  rintro e w8 ⟨rfl, rfl⟩
                  go_wp2
                  exact ⟨⟨k + 1, (some (c :: r)), by omega, by go_num, by simp, rfl, by first | exact hlen5 | simp, he4, hw4⟩, by simp [intOf]; omega⟩
        · have t1 : (it.k == 1) = false := by simp [h1]
          clear h1
          by_cases h2 : it.k = 2
          · have t2 : (it.k == 2) = true := by simp [h2]
            clear h2
            as_aux_lemma =>
              go_wp2_with fail
              refine (ref_taken _ (st.getD []) 18446744073709551615 (by omega) (by omega)).mono ?_
              rintro e w3 ⟨rfl, hc3⟩
              have hb3 := hba.chg hc3 (by simp)
              have d0 := hb3.cell 0
              have d1 := hb3.cell 1
              have d2 := hb3.cell 2
              have he3 := HE.out.chg hc3 (by simp)
              have hw3 := HC.out.trans hc3
              generalize takenP 18446744073709551615 (st.getD []) = tk at *
              obtain ⟨tv, tu⟩ := tk
              simp only
              cases st with
              | none =>
                simp only [Option.getD_none]
                have HX := Lib.hid (show eRaw it.n none = ([], none) from rfl)
                go_wp2_with fail
                refine (eye_raw w3 w1.heap.size none it.n he3 (by simp)).mono ?_
                rintro e w4 ⟨rfl, he4, hc4⟩
                have hw4 : Chg [] w w4 := hw3.trans' hc4 (by simp; omega)
                rw [HX.out] at he4 ⊢
                clear hw3 hc4
                go_wp2_with fail
                refine (eye_bad w4 w1.heap.size none he4).mono ?_
                rintro e w8 ⟨rfl, rfl⟩
                go_wp2_with fail
                refine (eye_left w4 w1.heap.size none he4).mono ?_
                rintro e w8 ⟨rfl, rfl⟩
                go_wp2_with fail
                refine (eye_over w4 w1.heap.size none he4).mono ?_
                rintro e w8 ⟨rfl, rfl⟩
                go_wp2
                exact ⟨⟨k + 1, none, by omega, by go_num, by simp, rfl, by first | exact hlen5 | simp, he4, hw4⟩, by simp [intOf]; omega⟩
              | some b =>
                simp only [Option.getD_some] at hst ⊢
                by_cases hn0 : it.n < 0
                · have HX := Lib.hid (show eRaw it.n (some b) = ([], none) from if_neg (by omega))
                  go_wp2_with fail
                  refine (eye_raw w3 w1.heap.size (some b) it.n he3 (by intro l h; cases h; omega)).mono ?_
                  rintro e w4 ⟨rfl, he4, hc4⟩
                  have hw4 : Chg [] w w4 := hw3.trans' hc4 (by simp; omega)
                  rw [HX.out] at he4 ⊢
                  clear hw3 hc4
                  go_wp2_with fail
                  refine (eye_bad w4 w1.heap.size none he4).mono ?_
                  rintro e w8 ⟨rfl, rfl⟩
                  go_wp2_with fail
                  refine (eye_left w4 w1.heap.size none he4).mono ?_
                  rintro e w8 ⟨rfl, rfl⟩
                  go_wp2_with fail
                  refine (eye_over w4 w1.heap.size none he4).mono ?_
                  rintro e w8 ⟨rfl, rfl⟩
                  go_wp2
                  exact ⟨⟨k + 1, none, by omega, by go_num, by simp, rfl, by first | exact hlen5 | simp, he4, hw4⟩, by simp [intOf]; omega⟩
                · by_cases hn1 : (b.length : Int) < it.n
                  · have HX := Lib.hid (show eRaw it.n (some b) = ([], none) from if_neg (by omega))
                    go_wp2_with fail
                    refine (eye_raw w3 w1.heap.size (some b) it.n he3 (by intro l h; cases h; omega)).mono ?_
                    rintro e w4 ⟨rfl, he4, hc4⟩
                    have hw4 : Chg [] w w4 := hw3.trans' hc4 (by simp; omega)
                    rw [HX.out] at he4 ⊢
                    clear hw3 hc4
                    go_wp2_with fail
                    refine (eye_bad w4 w1.heap.size none he4).mono ?_
                    rintro e w8 ⟨rfl, rfl⟩
                    go_wp2_with fail
                    refine (eye_left w4 w1.heap.size none he4).mono ?_
                    rintro e w8 ⟨rfl, rfl⟩
                    go_wp2_with fail
                    refine (eye_over w4 w1.heap.size none he4).mono ?_
                    rintro e w8 ⟨rfl, rfl⟩
                    go_wp2
                    exact ⟨⟨k + 1, none, by omega, by go_num, by simp, rfl, by first | exact hlen5 | simp, he4, hw4⟩, by simp [intOf]; omega⟩
                  · have HX0 := Lib.hid (show eRaw it.n (some b) = (b.take it.n.toNat, some (b.drop it.n.toNat)) from if_pos (by omega))
                    obtain ⟨m, hm⟩ := Int.eq_ofNat_of_zero_le (show 0 ≤ it.n by omega)
                    have HX := HX0
                    rw [hm] at HX d2 hn0 hn1 i3 i4 ⊢
                    rw [Int.toNat_natCast] at HX
                    have hmb : m ≤ b.length := by omega
                    have hlen5 : (b.drop m).length ≤ 4096 := by simp; omega
                    have hdd : (b.drop m).take (b.length - m) = b.drop m := List.take_of_length_le (by simp)
                    have HM := Lib.hid hm
                    clear HX0 hm
                    go_wp2_with fail
                    refine (eye_raw w3 w1.heap.size (some b) m he3 (by intro l h; cases h; omega)).mono ?_
                    rintro e w4 ⟨rfl, he4, hc4⟩
                    have hw4 : Chg [] w w4 := hw3.trans' hc4 (by simp; omega)
                    rw [HX.out] at he4 ⊢
                    clear hw3 hc4
                    generalize b.drop m = r at *
                    cases r with
                    | nil =>
                      go_wp2_with fail
                      refine (eye_bad w4 w1.heap.size (some []) he4).mono ?_
                      rintro e w8 ⟨rfl, rfl⟩
                      go_wp2_with fail
                      refine (eye_left w4 w1.heap.size (some []) he4).mono ?_
                      rintro e w8 ⟨rfl, rfl⟩
                      go_wp2_with fail
                      refine (eye_over w4 w1.heap.size (some []) he4).mono ?_
                      rintro e w8 ⟨rfl, rfl⟩
                      go_wp2
                      exact ⟨⟨k + 1, (some []), by omega, by go_num, by simp, rfl, by first | exact hlen5 | simp, he4, hw4⟩, by simp [intOf]; omega⟩
                    | cons c r =>
                      go_wp2_with fail
                      refine (eye_bad w4 w1.heap.size (some (c :: r)) he4).mono ?_
                      rintro e w8 ⟨rfl, rfl⟩
                      go_wp2_with fail
                      refine (eye_left w4 w1.heap.size (some (c :: r)) he4).mono ?_
                      rintro e w8 ⟨rfl, rfl⟩
                      go_wp2_with fail
                      refine (eye_over w4 w1.heap.size (some (c :: r)) he4).mono ?_
                      rintro e w8 ⟨rfl, rfl⟩
                      go_wp2
                      exact ⟨⟨k + 1, (some (c :: r)), by omega, by go_num, by simp, rfl, by first | exact hlen5 | simp, he4, hw4⟩, by simp [intOf]; omega⟩
          · have t2 : (it.k == 2) = false := by simp [h2]
            clear h2
            by_cases h3 : it.k = 3
            · have t3 : (it.k == 3) = true := by simp [h3]
              clear h3
              as_aux_lemma =>
                by_cases hneg : it.n < 0
                · have t6 : it.n.toNat = 0 := by omega
                  go_wp2_with fail
                  refine (ref_taken _ (st.getD []) 0 (by omega) (by omega)).mono ?_
                  rintro e w3 ⟨rfl, hc3⟩
                  have hb3 := hba.chg hc3 (by simp)
                  have d0 := hb3.cell 0
                  have d1 := hb3.cell 1
                  have d2 := hb3.cell 2
                  have he3 := HE.out.chg hc3 (by simp)
                  have hw3 := HC.out.trans hc3
                  cases st with
                  | none =>
                    have e1 : takenP 0 [] = (0, 0) := rfl
                    simp only [Option.getD_none]
                    rw [e1]
                    have HX := Lib.hid (show eNat it.n.toNat none = (0, none) from rfl)
                    clear e1
                    go_wp2_with fail
                    refine (eye_small w3 w1.heap.size none it.n i4 he3 (by simp)).mono ?_
                    rintro e w4 ⟨rfl, he4, hc4⟩
                    have hw4 : Chg [] w w4 := hw3.trans' hc4 (by simp; omega)
                    rw [HX.out] at he4 ⊢
                    clear hw3 hc4
                    go_wp2_with fail
                    refine (eye_bad w4 w1.heap.size none he4).mono ?_
                    rintro e w8 ⟨rfl, rfl⟩
                    go_wp2_with fail
                    refine (eye_left w4 w1.heap.size none he4).mono ?_
                    rintro e w8 ⟨rfl, rfl⟩
                    go_wp2_with fail
                    refine (eye_over w4 w1.heap.size none he4).mono ?_
                    rintro e w8 ⟨rfl, rfl⟩
                    go_wp2
                    exact ⟨⟨k + 1, none, by omega, by go_num, by simp, rfl, by first | exact hlen5 | simp, he4, hw4⟩, by simp [intOf]; omega⟩
                  | some b =>
                    simp only [Option.getD_some] at hst ⊢
                    by_cases htu : (takenP 0 b).2 = 0
                    · obtain ⟨x1, x2⟩ := eNat_miss htu
                      rw [x2]
                      have HX := Lib.hid (show eNat it.n.toNat (some b) = (0, none) from by rw [t6]; exact x1)
                      clear x1 x2 htu
                      go_wp2_with fail
                      refine (eye_small w3 w1.heap.size (some b) it.n i4 he3 (by intro l h; cases h; omega)).mono ?_
                      rintro e w4 ⟨rfl, he4, hc4⟩
                      have hw4 : Chg [] w w4 := hw3.trans' hc4 (by simp; omega)
                      rw [HX.out] at he4 ⊢
                      clear hw3 hc4
                      go_wp2_with fail
                      refine (eye_bad w4 w1.heap.size none he4).mono ?_
                      rintro e w8 ⟨rfl, rfl⟩
                      go_wp2_with fail
                      refine (eye_left w4 w1.heap.size none he4).mono ?_
                      rintro e w8 ⟨rfl, rfl⟩
                      go_wp2_with fail
                      refine (eye_over w4 w1.heap.size none he4).mono ?_
                      rintro e w8 ⟨rfl, rfl⟩
                      go_wp2
                      exact ⟨⟨k + 1, none, by omega, by go_num, by simp, rfl, by first | exact hlen5 | simp, he4, hw4⟩, by simp [intOf]; omega⟩
                    · obtain ⟨x1, x2⟩ := eNat_hit htu
                      have x3 := takenP_le 0 b
                      generalize takenP 0 b = tk at *
                      obtain ⟨tv, tu⟩ := tk
                      simp only at x1 x2 x3 htu ⊢
                      have t5 : ((tu : Int) == 0) = false := by simp; omega
                      have hlen5 : (b.drop tu).length ≤ 4096 := by simp; omega
                      have hdd : (b.drop tu).take (b.length - tu) = b.drop tu := List.take_of_length_le (by simp)
                      clear htu
                      have HX := Lib.hid (show eNat it.n.toNat (some b) = (tv, some (b.drop tu)) from by rw [t6]; exact x1)
                      clear x1
                      go_wp2_with fail
                      refine (eye_small w3 w1.heap.size (some b) it.n i4 he3 (by intro l h; cases h; omega)).mono ?_
                      rintro e w4 ⟨rfl, he4, hc4⟩
                      have hw4 : Chg [] w w4 := hw3.trans' hc4 (by simp; omega)
                      rw [HX.out] at he4 ⊢
                      clear hw3 hc4
                      generalize b.drop tu = r at *
                      cases r with
                      | nil =>
                        go_wp2_with fail
                        refine (eye_bad w4 w1.heap.size (some []) he4).mono ?_
                        rintro e w8 ⟨rfl, rfl⟩
                        go_wp2_with fail
                        refine (eye_left w4 w1.heap.size (some []) he4).mono ?_
                        rintro e w8 ⟨rfl, rfl⟩
                        go_wp2_with fail
                        refine (eye_over w4 w1.heap.size (some []) he4).mono ?_
                        rintro e w8 ⟨rfl, rfl⟩
                        go_wp2
                        exact ⟨⟨k + 1, (some []), by omega, by go_num, by simp, rfl, by first | exact hlen5 | simp, he4, hw4⟩, by simp [intOf]; omega⟩
                      | cons c r =>
                        go_wp2_with fail
                        refine (eye_bad w4 w1.heap.size (some (c :: r)) he4).mono ?_
                        rintro e w8 ⟨rfl, rfl⟩
                        go_wp2_with fail
                        refine (eye_left w4 w1.heap.size (some (c :: r)) he4).mono ?_
                        rintro e w8 ⟨rfl, rfl⟩
                        go_wp2_with fail
                        refine (eye_over w4 w1.heap.size (some (c :: r)) he4).mono ?_
                        rintro e w8 ⟨rfl, rfl⟩
                        go_wp2
                        exact ⟨⟨k + 1, (some (c :: r)), by omega, by go_num, by simp, rfl, by first | exact hlen5 | simp, he4, hw4⟩, by simp [intOf]; omega⟩
                · obtain ⟨m, hm⟩ := Int.eq_ofNat_of_zero_le (show 0 ≤ it.n by omega)
                  rw [hm] at HE HC hba i4 c2
                  clear hm hneg i3
                  go_wp2_with fail
                  refine (ref_taken _ (st.getD []) m (by omega) (by omega)).mono ?_
                  rintro e w3 ⟨rfl, hc3⟩
                  have hb3 := hba.chg hc3 (by simp)
                  have d0 := hb3.cell 0
                  have d1 := hb3.cell 1
                  have d2 := hb3.cell 2
                  have he3 := HE.out.chg hc3 (by simp)
                  have hw3 := HC.out.trans hc3
                  cases st with
                  | none =>
                    have e1 : takenP m [] = (0, 0) := rfl
                    simp only [Option.getD_none]
                    rw [e1]
                    have HX := Lib.hid (show eNat m none = (0, none) from rfl)
                    clear e1
                    go_wp2_with fail
                    refine (eye_small w3 w1.heap.size none (m : Int) i4 he3 (by simp)).mono ?_
                    rintro e w4 ⟨rfl, he4, hc4⟩
                    have hw4 : Chg [] w w4 := hw3.trans' hc4 (by simp; omega)
                    rw [Int.toNat_natCast, HX.out] at he4 ⊢
                    clear hw3 hc4
                    go_wp2_with fail
                    refine (eye_bad w4 w1.heap.size none he4).mono ?_
                    rintro e w8 ⟨rfl, rfl⟩
                    go_wp2_with fail
                    refine (eye_left w4 w1.heap.size none he4).mono ?_
                    rintro e w8 ⟨rfl, rfl⟩
                    go_wp2_with fail
                    refine (eye_over w4 w1.heap.size none he4).mono ?_
                    rintro e w8 ⟨rfl, rfl⟩
                    go_wp2
                    exact ⟨⟨k + 1, none, by omega, by go_num, by simp, rfl, by first | exact hlen5 | simp, he4, hw4⟩, by simp [intOf]; omega⟩
                  | some b =>
                    simp only [Option.getD_some] at hst ⊢
                    by_cases htu : (takenP m b).2 = 0
                    · obtain ⟨x1, x2⟩ := eNat_miss htu
                      rw [x2]
                      have HX := Lib.hid (show eNat m (some b) = (0, none) from x1)
                      clear x1 x2 htu
                      go_wp2_with fail
                      refine (eye_small w3 w1.heap.size (some b) (m : Int) i4 he3 (by intro l h; cases h; omega)).mono ?_
                      rintro e w4 ⟨rfl, he4, hc4⟩
                      have hw4 : Chg [] w w4 := hw3.trans' hc4 (by simp; omega)
                      rw [Int.toNat_natCast, HX.out] at he4 ⊢
                      clear hw3 hc4
                      go_wp2_with fail
                      refine (eye_bad w4 w1.heap.size none he4).mono ?_
                      rintro e w8 ⟨rfl, rfl⟩
                      go_wp2_with fail
                      refine (eye_left w4 w1.heap.size none he4).mono ?_
                      rintro e w8 ⟨rfl, rfl⟩
                      go_wp2_with fail
                      refine (eye_over w4 w1.heap.size none he4).mono ?_
                      rintro e w8 ⟨rfl, rfl⟩
                      go_wp2
                      exact ⟨⟨k + 1, none, by omega, by go_num, by simp, rfl, by first | exact hlen5 | simp, he4, hw4⟩, by simp [intOf]; omega⟩
                    · obtain ⟨x1, x2⟩ := eNat_hit htu
                      have x3 := takenP_le m b
                      generalize takenP m b = tk at *
                      obtain ⟨tv, tu⟩ := tk
                      simp only at x1 x2 x3 htu ⊢
                      have t5 : ((tu : Int) == 0) = false := by simp; omega
                      have hlen5 : (b.drop tu).length ≤ 4096 := by simp; omega
                      have hdd : (b.drop tu).take (b.length - tu) = b.drop tu := List.take_of_length_le (by simp)
                      clear htu
                      have HX := Lib.hid (show eNat m (some b) = (tv, some (b.drop tu)) from x1)
                      clear x1
                      have HK := Lib.hid (eye_small w3 w1.heap.size (some b) (m : Int) i4 he3 (by intro l h; cases h; omega))
                      have HT7 := Lib.hid (show IntKind.u64.wrap (tv : Int) = (tv : Int) from by rw [wrap_u64']; omega)
                      clear i4 x3
                      go_wp2_with fail
                      refine HK.out.mono ?_
                      rintro e w4 ⟨rfl, he4, hc4⟩
                      have hw4 : Chg [] w w4 := hw3.trans' hc4 (by simp; omega)
                      rw [Int.toNat_natCast, HX.out] at he4 ⊢
                      clear hw3 hc4
                      generalize b.drop tu = r at *
                      cases r with
                      | nil =>
                        have t7 := HT7.out
                        go_wp2_with fail
                        refine (eye_bad w4 w1.heap.size (some []) he4).mono ?_
                        rintro e w8 ⟨rfl, rfl⟩
                        go_wp2_with fail
                        refine (eye_left w4 w1.heap.size (some []) he4).mono ?_
                        rintro e w8 ⟨rfl, rfl⟩
                        go_wp2_with fail
                        refine (eye_over w4 w1.heap.size (some []) he4).mono ?_
                        rintro e w8 ⟨rfl, rfl⟩
                        go_wp2
                        exact ⟨⟨k + 1, (some []), by omega, by go_num, by simp, rfl, by first | exact hlen5 | simp, he4, hw4⟩, by simp [intOf]; omega⟩
                      | cons c r =>
                        have t7 := HT7.out
                        go_wp2_with fail
                        refine (eye_bad w4 w1.heap.size (some (c :: r)) he4).mono ?_
                        rintro e w8 ⟨rfl, rfl⟩
                        go_wp2_with fail
                        refine (eye_left w4 w1.heap.size (some (c :: r)) he4).mono ?_
                        rintro e w8 ⟨rfl, rfl⟩
                        go_wp2_with fail
                        refine (eye_over w4 w1.heap.size (some (c :: r)) he4).mono ?_
                        rintro e w8 ⟨rfl, rfl⟩
                        go_wp2
                        exact ⟨⟨k + 1, (some (c :: r)), by omega, by go_num, by simp, rfl, by first | exact hlen5 | simp, he4, hw4⟩, by simp [intOf]; omega⟩
            · have t3 : (it.k == 3) = false := by simp [h3]
              clear h3
              by_cases h4 : it.k = 4
              · have t4 : (it.k == 4) = true := by simp [h4]
                clear h4
                as_aux_lemma =>
                  go_wp2_with fail
                  refine (ref_taken _ (st.getD []) 9223372036854775807 (by omega) (by omega)).mono ?_
                  rintro e w3 ⟨rfl, hc3⟩
                  have hb3 := hba.chg hc3 (by simp)
                  have d0 := hb3.cell 0
                  have d1 := hb3.cell 1
                  have d2 := hb3.cell 2
                  have he3 := HE.out.chg hc3 (by simp)
                  have hw3 := HC.out.trans hc3
                  cases st with
                  | none =>
                    have e1 : takenP 9223372036854775807 [] = (0, 0) := rfl
                    simp only [Option.getD_none]
                    rw [e1]
                    have HX := Lib.hid (show eCount none = (0, none) from rfl)
                    clear e1
                    go_wp2_with fail
                    refine (eye_count w3 w1.heap.size none he3 (by simp)).mono ?_
                    rintro e w4 ⟨rfl, he4, hc4⟩
                    have hw4 : Chg [] w w4 := hw3.trans' hc4 (by simp; omega)
                    rw [HX.out] at he4 ⊢
                    clear hw3 hc4
                    go_wp2_with fail
                    refine (eye_bad w4 w1.heap.size none he4).mono ?_
                    rintro e w8 ⟨rfl, rfl⟩
                    go_wp2_with fail
                    refine (eye_left w4 w1.heap.size none he4).mono ?_
                    rintro e w8 ⟨rfl, rfl⟩
                    go_wp2_with fail
                    refine (eye_over w4 w1.heap.size none he4).mono ?_
                    rintro e w8 ⟨rfl, rfl⟩
                    go_wp2
                    exact ⟨⟨k + 1, none, by omega, by go_num, by simp, rfl, by first | exact hlen5 | simp, he4, hw4⟩, by simp [intOf]; omega⟩
                  | some b =>
                    simp only [Option.getD_some] at hst ⊢
                    by_cases htu : (takenP 9223372036854775807 b).2 = 0
                    · obtain ⟨x1, x2⟩ := eNat_miss htu
                      rw [x2]
                      have HX := Lib.hid (show eCount (some b) = (0, none) from by unfold eCount; rw [x1]; rfl)
                      clear x1 x2 htu
                      go_wp2_with fail
                      refine (eye_count w3 w1.heap.size (some b) he3 (by intro l h; cases h; omega)).mono ?_
                      rintro e w4 ⟨rfl, he4, hc4⟩
                      have hw4 : Chg [] w w4 := hw3.trans' hc4 (by simp; omega)
                      rw [HX.out] at he4 ⊢
                      clear hw3 hc4
                      go_wp2_with fail
                      refine (eye_bad w4 w1.heap.size none he4).mono ?_
                      rintro e w8 ⟨rfl, rfl⟩
                      go_wp2_with fail
                      refine (eye_left w4 w1.heap.size none he4).mono ?_
                      rintro e w8 ⟨rfl, rfl⟩
                      go_wp2_with fail
                      refine (eye_over w4 w1.heap.size none he4).mono ?_
                      rintro e w8 ⟨rfl, rfl⟩
                      go_wp2
                      exact ⟨⟨k + 1, none, by omega, by go_num, by simp, rfl, by first | exact hlen5 | simp, he4, hw4⟩, by simp [intOf]; omega⟩
                    · obtain ⟨x1, x2⟩ := eNat_hit htu
                      have x3 := takenP_le 9223372036854775807 b
                      generalize takenP 9223372036854775807 b = tk at *
                      obtain ⟨tv, tu⟩ := tk
                      simp only at x1 x2 x3 htu ⊢
                      have t5 : ((tu : Int) == 0) = false := by simp; omega
                      have hlen5 : (b.drop tu).length ≤ 4096 := by simp; omega
                      have hdd : (b.drop tu).take (b.length - tu) = b.drop tu := List.take_of_length_le (by simp)
                      clear htu
                      by_cases htv : tv = 0
                      · have HX := Lib.hid (show eCount (some b) = (0, none) from by unfold eCount; rw [x1, if_pos (by exact htv)])
                        have t8 : ((tv : Int) == 0) = true := by simp; omega
                        clear x1 htv
                        go_wp2_with fail
                        refine (eye_count w3 w1.heap.size (some b) he3 (by intro l h; cases h; omega)).mono ?_
                        rintro e w4 ⟨rfl, he4, hc4⟩
                        have hw4 : Chg [] w w4 := hw3.trans' hc4 (by simp; omega)
                        rw [HX.out] at he4 ⊢
                        clear hw3 hc4
                        go_wp2_with fail
                        refine (eye_bad w4 w1.heap.size none he4).mono ?_
                        rintro e w8 ⟨rfl, rfl⟩
                        go_wp2_with fail
                        refine (eye_left w4 w1.heap.size none he4).mono ?_
                        rintro e w8 ⟨rfl, rfl⟩
                        go_wp2_with fail
                        refine (eye_over w4 w1.heap.size none he4).mono ?_
                        rintro e w8 ⟨rfl, rfl⟩
                        go_wp2
                        exact ⟨⟨k + 1, none, by omega, by go_num, by simp, rfl, by first | exact hlen5 | simp, he4, hw4⟩, by simp [intOf]; omega⟩
                      · have HX := Lib.hid (show eCount (some b) = (tv, some (b.drop tu)) from by unfold eCount; rw [x1, if_neg (by exact htv)])
                        have t8 : ((tv : Int) == 0) = false := by simp; omega
                        clear x1 htv
                        go_wp2_with fail
                        refine (eye_count w3 w1.heap.size (some b) he3 (by intro l h; cases h; omega)).mono ?_
                        rintro e w4 ⟨rfl, he4, hc4⟩
                        have hw4 : Chg [] w w4 := hw3.trans' hc4 (by simp; omega)
                        rw [HX.out] at he4 ⊢
                        clear hw3 hc4
                        generalize b.drop tu = r at *
                        cases r with
                        | nil =>
                          go_wp2_with fail
                          refine (eye_bad w4 w1.heap.size (some []) he4).mono ?_
                          rintro e w8 ⟨rfl, rfl⟩
                          go_wp2_with fail
                          refine (eye_left w4 w1.heap.size (some []) he4).mono ?_
                          rintro e w8 ⟨rfl, rfl⟩
                          go_wp2_with fail
                          refine (eye_over w4 w1.heap.size (some []) he4).mono ?_
                          rintro e w8 ⟨rfl, rfl⟩
                          go_wp2
                          exact ⟨⟨k + 1, (some []), by omega, by go_num, by simp, rfl, by first | exact hlen5 | simp, he4, hw4⟩, by simp [intOf]; omega⟩
                        | cons c r =>
                          go_wp2_with fail
                          refine (eye_bad w4 w1.heap.size (some (c :: r)) he4).mono ?_
                          rintro e w8 ⟨rfl, rfl⟩
                          go_wp2_with fail
                          refine (eye_left w4 w1.heap.size (some (c :: r)) he4).mono ?_
                          rintro e w8 ⟨rfl, rfl⟩
                          go_wp2_with fail
                          refine (eye_over w4 w1.heap.size (some (c :: r)) he4).mono ?_
                          rintro e w8 ⟨rfl, rfl⟩
                          go_wp2
                          exact ⟨⟨k + 1, (some (c :: r)), by omega, by go_num, by simp, rfl, by first | exact hlen5 | simp, he4, hw4⟩, by simp [intOf]; omega⟩
              · have t4 : (it.k == 4) = false := by simp [h4]
                clear h4
                go_wp2_with fail
                refine (ref_taken _ (st.getD []) 18446744073709551615 (by omega) (by omega)).mono ?_
                rintro e w3 ⟨rfl, hc3⟩
                have hb3 := hba.chg hc3 (by simp)
                have d0 := hb3.cell 0
                have d1 := hb3.cell 1
                have d2 := hb3.cell 2
                have hw3 := HC.out.trans hc3
                have x3 : ∀ b, st = some b → (takenP 18446744073709551615 b).2 ≤ b.length := fun b _ => (takenP_le _ b).2
                generalize htk : takenP 18446744073709551615 (st.getD []) = tk at *
                obtain ⟨tv, tu⟩ := tk
                have htu : tu ≤ (st.getD []).length := by
                  cases st with
                  | none => have := (takenP_le 18446744073709551615 []).2; simp only [Option.getD_none] at htk; rw [htk] at this; exact this
                  | some b => have := (takenP_le 18446744073709551615 b).2; simp only [Option.getD_some] at htk; rw [htk] at this; exact this
                clear htk x3
                simp only
                cases st with
                | none =>
                  simp only [Option.getD_none] at htu ⊢
                  go_wp2
                  all_goals go_ret
                  all_goals exact ⟨rfl, hw3⟩
                | some b =>
                  simp only [Option.getD_some] at htu ⊢
                  by_cases ht0 : tu = 0
                  · have t5 : ((tu : Int) == 0) = true := by simp; omega
                    clear ht0
                    go_wp2
                    all_goals go_ret
                    all_goals exact ⟨rfl, hw3⟩
                  · have t5 : ((tu : Int) == 0) = false := by simp; omega
                    clear ht0
                    go_wp2
                    all_goals go_ret
                    all_goals exact ⟨rfl, hw3⟩
    · obtain rfl : k = l.length := by omega
      go_wp2_with fail
      refine (eye_shut_nil wr).mono ?_
      rintro e w5 ⟨rfl, rfl⟩
      go_wp2_with fail
      refine (eye_raw_nil wr 0).mono ?_
      rintro e w5 ⟨rfl, rfl⟩
      go_wp2_with fail
      refine (eye_nat_nil wr 9 (by omega)).mono ?_
      rintro e w5 ⟨rfl, rfl⟩
      go_wp2_with fail
      refine (eye_int_nil wr).mono ?_
      rintro e w5 ⟨rfl, rfl⟩
      go_wp2_with fail
      refine (eye_small_nil wr 9 (by omega) (by omega)).mono ?_
      rintro e w5 ⟨rfl, rfl⟩
      go_wp2_with fail
      refine (eye_count_nil wr).mono ?_
      rintro e w5 ⟨rfl, rfl⟩
      go_wp2_with fail
      refine (eye_bad_nil wr).mono ?_
      rintro e w5 ⟨rfl, rfl⟩
      go_wp2_with fail
      refine (eye_over_nil wr).mono ?_
      rintro e w5 ⟨rfl, rfl⟩
      go_wp2_with fail
      refine (eye_left_nil wr).mono ?_
      rintro e w5 ⟨rfl, rfl⟩
      go_wp2
      go_ret
      exact ⟨rfl, hch⟩
end Go.Proofs.Ytgpnnfgaphcklaa
