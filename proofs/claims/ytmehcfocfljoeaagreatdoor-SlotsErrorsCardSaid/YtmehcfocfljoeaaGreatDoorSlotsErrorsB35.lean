/-
  The engine's methods where at answers an error: they tell just that, and nothing that was is changed. Conditions: the form's own reach.
  The engine's set, Make, Put, Copy, Total where all goes well, over whatever a sketch keeps to. Conditions: the form's own reach.
  The engine's Put, over whatever a sketch keeps to. Conditions: the form's own reach.
-/
import Derived.Test.YtmehcfocfljoeaaGreatDoorSlotsErrorsB3
import Derived.Test.YtmehcfocfljoeaaGreatDoorSlotsErrorsB34
namespace Go.Proofs.YtmehcfocfljoeaaGreatDoor
open Go.RowKit

/-- at answers the error k, whatever comes. -/
def AtE (w : World) (g : Option Addr) (i : Int) (k : Int) : Prop :=
  k ≠ 0 ∧ ∀ u, Chg [] w u → Calls Tryz.prog 23 #[.pointer g, .int .i64 i] u fun e w' => e = .returned (.tuple #[.pointer none, .int .i64 k]) ∧ w' = u
theorem AtE.nil (w : World) (i : Int) : AtE w none i 2 := ⟨by decide, fun u _ => at_nil u i⟩
theorem AtE.eng {w : World} {g : Nat} {ps : List (Option Addr)} {fs : List Bool} (h : Eng w g ps fs) (i : Int) {k : Int} (hk : k ≠ 0) (ha : atV ps i = (none, k)) : AtE w (some ⟨g, 0, none⟩) i k :=
  ⟨hk, fun u hu => by have := eng_at u g ps fs (h.chg hu (by simp)) i; rw [ha] at this; exact this⟩
theorem AtE.chg {w w1 : World} {g : Option Addr} {i k : Int} (h : AtE w g i k) (hc : Chg [] w w1) : AtE w1 g i k := ⟨h.1, fun u hu => h.2 u (hc.trans hu)⟩
set_option maxRecDepth 100000 in
theorem cfg_nil (w : World) : Calls Tryz.prog 29 #[.pointer none] w fun e w' => e = .returned (Cf.none 0).val ∧ Chg [] w w' := by
  simp only [Cf.val, Cf.cells, Cf.none]
  go_enter Tryz.func29, Tryz.ntmps29
  go_wp2
  refine bodyPost_ret (v := .agg #[.int .i64 0, .int .u64 0, .int .u64 0, .int .i64 0, .int .i64 0, .int .i64 0, .int .u64 0, .int .i64 0, .int .i64 0, .int .i64 0, .int .u64 0]) (by simp [results, Tryz.results29, go_sem]) rfl ?_
  exact ⟨rfl, by with_reducible (repeat (first | exact Chg.refl _ _ | apply Chg.alloc | apply Chg.drew | (apply Chg.setCell; simp)))⟩
set_option maxRecDepth 100000 in
theorem save_err (w : World) (g : Option Addr) (i : Int) (k : Int) (h : AtE w g i k) : Calls Tryz.prog 6 #[.pointer g, .int .i64 i] w fun e w' => e = .returned (.tuple #[.string ⟨#[]⟩, .int .i64 k]) ∧ Chg [] w w' := by
  have HK : (k != 0) = true := by rw [bne_iff_ne]; exact h.1
  have HK2 : (k == 0) = false := by rw [beq_eq_false_iff_ne]; exact h.1
  have HA := Lib.hid h.2
  clear h
  go_enter Tryz.func6, Tryz.ntmps6
  go_wp2_with fail
  refine (HA.out _ (by with_reducible (repeat (first | exact Chg.refl _ _ | apply Chg.alloc | apply Chg.drew)))).mono ?_
  rintro e w1 ⟨rfl, rfl⟩
  clear HA
  go_wp2
  go_ret2
  exact ⟨rfl, by with_reducible (repeat (first | exact Chg.refl _ _ | apply Chg.alloc | apply Chg.drew))⟩
set_option maxRecDepth 100000 in
theorem quant_err (w : World) (g : Option Addr) (i : Int) (k : Int) (h : AtE w g i k) (num den : Int) : Calls Tryz.prog 7 #[.pointer g, .int .i64 i, .agg #[.int .u64 num, .int .u64 den]] w fun e w' => e = .returned (.tuple #[.int .i64 0, .int .i64 k]) ∧ Chg [] w w' := by
  have HK : (k != 0) = true := by rw [bne_iff_ne]; exact h.1
  have HK2 : (k == 0) = false := by rw [beq_eq_false_iff_ne]; exact h.1
  have HA := Lib.hid h.2
  clear h
  go_enter Tryz.func7, Tryz.ntmps7
  go_wp2_with fail
  refine (HA.out _ (by with_reducible (repeat (first | exact Chg.refl _ _ | apply Chg.alloc | apply Chg.drew)))).mono ?_
  rintro e w1 ⟨rfl, rfl⟩
  clear HA
  go_wp2
  go_ret2
  exact ⟨rfl, by with_reducible (repeat (first | exact Chg.refl _ _ | apply Chg.alloc | apply Chg.drew))⟩
set_option maxRecDepth 100000 in
theorem rank_err (w : World) (g : Option Addr) (i : Int) (k : Int) (h : AtE w g i k) (x : Int) : Calls Tryz.prog 8 #[.pointer g, .int .i64 i, .int .i64 x] w fun e w' => e = .returned (.tuple #[.int .u64 0, .int .u64 0, .int .i64 k]) ∧ Chg [] w w' := by
  have HK : (k != 0) = true := by rw [bne_iff_ne]; exact h.1
  have HK2 : (k == 0) = false := by rw [beq_eq_false_iff_ne]; exact h.1
  have HA := Lib.hid h.2
  clear h
  go_enter Tryz.func8, Tryz.ntmps8
  go_wp2_with fail
  refine (HA.out _ (by with_reducible (repeat (first | exact Chg.refl _ _ | apply Chg.alloc | apply Chg.drew)))).mono ?_
  rintro e w1 ⟨rfl, rfl⟩
  clear HA
  go_wp2
  refine bodyPost_ret (v := .tuple #[.int .u64 0, .int .u64 0, .int .i64 k]) (by simp [results, Tryz.results8, go_sem]) rfl ?_
  exact ⟨rfl, by with_reducible (repeat (first | exact Chg.refl _ _ | apply Chg.alloc | apply Chg.drew))⟩
set_option maxRecDepth 100000 in
theorem total_err (w : World) (g : Option Addr) (i : Int) (k : Int) (h : AtE w g i k) : Calls Tryz.prog 9 #[.pointer g, .int .i64 i] w fun e w' => e = .returned (.tuple #[.int .u64 0, .int .i64 k]) ∧ Chg [] w w' := by
  have HK : (k != 0) = true := by rw [bne_iff_ne]; exact h.1
  have HK2 : (k == 0) = false := by rw [beq_eq_false_iff_ne]; exact h.1
  have HA := Lib.hid h.2
  clear h
  go_enter Tryz.func9, Tryz.ntmps9
  go_wp2_with fail
  refine (HA.out _ (by with_reducible (repeat (first | exact Chg.refl _ _ | apply Chg.alloc | apply Chg.drew)))).mono ?_
  rintro e w1 ⟨rfl, rfl⟩
  clear HA
  go_wp2
  go_ret2
  exact ⟨rfl, by with_reducible (repeat (first | exact Chg.refl _ _ | apply Chg.alloc | apply Chg.drew))⟩
set_option maxRecDepth 100000 in
theorem ends_err (w : World) (g : Option Addr) (i : Int) (k : Int) (h : AtE w g i k) : Calls Tryz.prog 10 #[.pointer g, .int .i64 i] w fun e w' => e = .returned (.tuple #[.int .i64 0, .int .i64 0, .int .i64 k]) ∧ Chg [] w w' := by
  have HK : (k != 0) = true := by rw [bne_iff_ne]; exact h.1
  have HK2 : (k == 0) = false := by rw [beq_eq_false_iff_ne]; exact h.1
  have HA := Lib.hid h.2
  clear h
  go_enter Tryz.func10, Tryz.ntmps10
  go_wp2_with fail
  refine (HA.out _ (by with_reducible (repeat (first | exact Chg.refl _ _ | apply Chg.alloc | apply Chg.drew)))).mono ?_
  rintro e w1 ⟨rfl, rfl⟩
  clear HA
  go_wp2
  refine bodyPost_ret (v := .tuple #[.int .i64 0, .int .i64 0, .int .i64 k]) (by simp [results, Tryz.results10, go_sem]) rfl ?_
  exact ⟨rfl, by with_reducible (repeat (first | exact Chg.refl _ _ | apply Chg.alloc | apply Chg.drew))⟩
set_option maxRecDepth 100000 in
theorem drop_err (w : World) (g : Option Addr) (i : Int) (k : Int) (h : AtE w g i k) : Calls Tryz.prog 13 #[.pointer g, .int .i64 i] w fun e w' => e = .returned (.int .i64 k) ∧ Chg [] w w' := by
  have HK : (k != 0) = true := by rw [bne_iff_ne]; exact h.1
  have HK2 : (k == 0) = false := by rw [beq_eq_false_iff_ne]; exact h.1
  have HA := Lib.hid h.2
  clear h
  go_enter Tryz.func13, Tryz.ntmps13
  go_wp2_with fail
  refine (HA.out _ (by with_reducible (repeat (first | exact Chg.refl _ _ | apply Chg.alloc | apply Chg.drew)))).mono ?_
  rintro e w1 ⟨rfl, rfl⟩
  clear HA
  go_wp2
  go_ret
  exact ⟨rfl, by with_reducible (repeat (first | exact Chg.refl _ _ | apply Chg.alloc | apply Chg.drew))⟩
set_option maxRecDepth 100000 in
theorem reset_err (w : World) (g : Option Addr) (i : Int) (k : Int) (h : AtE w g i k) : Calls Tryz.prog 14 #[.pointer g, .int .i64 i] w fun e w' => e = .returned (.int .i64 k) ∧ Chg [] w w' := by
  have HK : (k != 0) = true := by rw [bne_iff_ne]; exact h.1
  have HK2 : (k == 0) = false := by rw [beq_eq_false_iff_ne]; exact h.1
  have HA := Lib.hid h.2
  clear h
  go_enter Tryz.func14, Tryz.ntmps14
  go_wp2_with fail
  refine (HA.out _ (by with_reducible (repeat (first | exact Chg.refl _ _ | apply Chg.alloc | apply Chg.drew)))).mono ?_
  rintro e w1 ⟨rfl, rfl⟩
  clear HA
  go_wp2
  go_ret
  exact ⟨rfl, by with_reducible (repeat (first | exact Chg.refl _ _ | apply Chg.alloc | apply Chg.drew))⟩
set_option maxRecDepth 100000 in
theorem putE_err (w : World) (g : Option Addr) (i : Int) (k : Int) (h : AtE w g i k) (n : Int) (v : Value) : Calls Tryz.prog 15 #[.pointer g, .int .i64 i, .int .u64 n, v] w fun e w' => e = .returned (.int .i64 k) ∧ Chg [] w w' := by
  have HK : (k != 0) = true := by rw [bne_iff_ne]; exact h.1
  have HK2 : (k == 0) = false := by rw [beq_eq_false_iff_ne]; exact h.1
  have HA := Lib.hid h.2
  clear h
  go_enter Tryz.func15, Tryz.ntmps15
  go_wp2_with fail
  refine (HA.out _ (by with_reducible (repeat (first | exact Chg.refl _ _ | apply Chg.alloc | apply Chg.drew)))).mono ?_
  rintro e w1 ⟨rfl, rfl⟩
  clear HA
  go_wp2
  go_ret
  exact ⟨rfl, by with_reducible (repeat (first | exact Chg.refl _ _ | apply Chg.alloc | apply Chg.drew))⟩
set_option maxRecDepth 100000 in
theorem foreign_err (w : World) (g : Option Addr) (i : Int) (k : Int) (h : AtE w g i k) : Calls Tryz.prog 19 #[.pointer g, .int .i64 i] w fun e w' => e = .returned (.bool false) ∧ Chg [] w w' := by
  have HK : (k != 0) = true := by rw [bne_iff_ne]; exact h.1
  have HK2 : (k == 0) = false := by rw [beq_eq_false_iff_ne]; exact h.1
  have HA := Lib.hid h.2
  clear h
  go_enter Tryz.func19, Tryz.ntmps19
  go_wp2_with fail
  refine (HA.out _ (by with_reducible (repeat (first | exact Chg.refl _ _ | apply Chg.alloc | apply Chg.drew)))).mono ?_
  rintro e w1 ⟨rfl, rfl⟩
  clear HA
  go_wp2
  go_ret
  exact ⟨rfl, by with_reducible (repeat (first | exact Chg.refl _ _ | apply Chg.alloc | apply Chg.drew))⟩
set_option maxRecDepth 100000 in
theorem joinE_err (w : World) (g : Option Addr) (i : Int) (k : Int) (h : AtE w g i k) (j : Int) : Calls Tryz.prog 16 #[.pointer g, .int .i64 i, .int .i64 j] w fun e w' => e = .returned (.int .i64 k) ∧ Chg [] w w' := by
  have HK : (k != 0) = true := by rw [bne_iff_ne]; exact h.1
  have HK2 : (k == 0) = false := by rw [beq_eq_false_iff_ne]; exact h.1
  have HA := Lib.hid h.2
  clear h
  go_enter Tryz.func16, Tryz.ntmps16
  go_wp2_with fail
  refine (HA.out _ (by with_reducible (repeat (first | exact Chg.refl _ _ | apply Chg.alloc | apply Chg.drew)))).mono ?_
  rintro e w1 ⟨rfl, rfl⟩
  clear HA
  go_wp2
  go_ret
  exact ⟨rfl, by with_reducible (repeat (first | exact Chg.refl _ _ | apply Chg.alloc | apply Chg.drew))⟩
set_option maxRecDepth 100000 in
theorem copyE_err (w : World) (g : Option Addr) (i : Int) (k : Int) (h : AtE w g i k) (j : Int) : Calls Tryz.prog 17 #[.pointer g, .int .i64 j, .int .i64 i] w fun e w' => e = .returned (.int .i64 k) ∧ Chg [] w w' := by
  have HK : (k != 0) = true := by rw [bne_iff_ne]; exact h.1
  have HA := Lib.hid h.2
  clear h
  go_enter Tryz.func17, Tryz.ntmps17
  go_wp2_with fail
  refine (HA.out _ (Chg.refl _ _)).mono ?_
  rintro e w1 ⟨rfl, rfl⟩
  clear HA
  go_wp2
  go_ret
  exact ⟨rfl, Chg.refl _ _⟩
set_option maxRecDepth 100000 in
theorem restore_err (w : World) (g : Option Addr) (i : Int) (k : Int) (h : AtE w g i k) (hk : k = 1 ∨ k = 2) (b : Array UInt8) : Calls Tryz.prog 18 #[.pointer g, .int .i64 i, .string ⟨b⟩] w fun e w' => e = .returned (.int .i64 k) ∧ Chg [] w w' := by
  have HA := Lib.hid h.2
  clear h
  rcases hk with rfl | rfl
  all_goals
    go_enter Tryz.func18, Tryz.ntmps18
    go_wp2_with fail
    refine (HA.out _ (Chg.refl _ _)).mono ?_
    rintro e w1 ⟨rfl, rfl⟩
    clear HA
    go_wp2
    go_ret
    exact ⟨rfl, Chg.refl _ _⟩
set_option maxRecDepth 100000 in
theorem make_err (w : World) (ht : Tens4 w) (g : Option Addr) (i : Int) (k : Int) (h : AtE w g i k) (hk : k = 1 ∨ k = 2) (c : Cf) : Calls Tryz.prog 12 #[.pointer g, .int .i64 i, c.val] w fun e w' => e = .returned (.int .i64 k) ∧ Chg [] w w' := by
  have HA := Lib.hid h.2
  have HN := Lib.hid (fun u (hu : Chg [] w u) => suite_new_any u (ht.chg hu) c)
  have HC0 := Lib.hid ((Chg.refl [] w).alloc (.cells c.cells 28))
  clear h ht
  obtain ⟨q1, num, den, side, most, digits, limit, depth, factor, width, word⟩ := c
  simp only [Cf.val, Cf.cells] at *
  rcases hk with rfl | rfl
  all_goals
    go_enter Tryz.func12, Tryz.ntmps12
    go_wp2_with fail
    refine (HN.out _ HC0.out).mono ?_
    rintro e w1 ⟨v, k, rfl, hc1⟩
    have HC := Lib.hid (HC0.out.trans hc1)
    clear hc1 HN HC0
    go_wp2_with fail
    refine (HA.out _ HC.out).mono ?_
    rintro e w2 ⟨rfl, rfl⟩
    clear HA
    go_wp2
    go_ret
    exact ⟨rfl, HC.out⟩
set_option maxRecDepth 100000 in
theorem config_err (w : World) (g : Option Addr) (i : Int) (k : Int) (h : AtE w g i k) : Calls Tryz.prog 11 #[.pointer g, .int .i64 i] w fun e w' => e = .returned (.tuple #[(Cf.none 0).val, .int .i64 k]) ∧ Chg [] w w' := by
  have HA := Lib.hid h.2
  have HN := Lib.hid cfg_nil
  have HC0 := Lib.hid ((Chg.refl [] w).alloc (.cells (Cf.none 0).cells 28))
  obtain ⟨b, hb⟩ : ∃ z, z = w.heap.size := ⟨_, rfl⟩
  have HB := Lib.hid (show Blk (w.alloc (.cells (Cf.none 0).cells 28)) b (Cf.none 0).cells 28 from by rw [hb]; exact Blk.alloc_new _ _ _)
  have HBW := Lib.hid (show w.heap.size ≤ b by omega)
  clear h
  simp only [Cf.val, Cf.cells, Cf.none] at HN HC0 ⊢
  go_enter Tryz.func11, Tryz.ntmps11
  go_wp2_with fail
  rw [← hb]
  clear hb
  refine (HA.out _ HC0.out).mono ?_
  rintro e w1 ⟨rfl, rfl⟩
  clear HA
  go_wp2_with fail
  refine (HN.out _).mono ?_
  rintro e w2 ⟨rfl, hc2⟩
  clear HN
  have HB2 := HB.out.chg hc2 (by simp)
  have HC2 := Lib.hid (HC0.out.trans hc2)
  obtain ⟨x0, x1, x2, x3, x4, x5, x6, x7, x8, x9, x10⟩ := cf_cells (c := Cf.none 0) (b := b) HB2
  have f2 := HB2.free
  have hl8 := HB2.lt
  simp only [Cf.none] at x0 x1 x2 x3 x4 x5 x6 x7 x8 x9 x10
  have HST := Lib.hid (cfStore_ok (d := Cf.none 0) HB2 (Cf.none 0))
  obtain ⟨w9, hw9⟩ : ∃ z, z = cfStore w2 b (Cf.none 0) := ⟨_, rfl⟩
  rw [← hw9] at HST
  have HW9 := Lib.hid hw9
  clear hc2 HC0 hw9 HB2
  go_wp2_with fail
  have hww := HW9.out
  simp only [cfStore, Cf.none, Int.natCast_zero] at hww
  rw [← hww]
  clear hww
  have HC9 : Chg [] w w9 := HC2.out.trans' HST.out.2 (fun b' hb' => by rw [List.mem_singleton.1 hb']; exact .inr HBW.out)
  obtain ⟨x0, x1, x2, x3, x4, x5, x6, x7, x8, x9, x10⟩ := cf_cells HST.out.1
  simp only [Cf.none] at x0 x1 x2 x3 x4 x5 x6 x7 x8 x9 x10
  refine bodyPost_ret (v := .tuple #[.agg #[.int .i64 0, .int .u64 0, .int .u64 0, .int .i64 0, .int .i64 0, .int .i64 0, .int .u64 0, .int .i64 0, .int .i64 0, .int .i64 0, .int .u64 0], .int .i64 k]) (by simp [results, Tryz.results11, go_sem, x0, x1, x2, x3, x4, x5, x6, x7, x8, x9, x10]) rfl ?_
  exact ⟨rfl, HC9⟩
end Go.Proofs.YtmehcfocfljoeaaGreatDoor

namespace Go.Proofs.YtmehcfocfljoeaaGreatDoor
open Go.RowKit

namespace Eng
variable {w w1 : World} {g : Nat} {ps : List (Option Addr)} {fs : List Bool}
theorem setP (h : Eng w g ps fs) (i : Nat) (hi : i < 16) (v : Option Addr) : Eng (w.setCell ⟨g, i, none⟩ (.pointer v)) g (ps.set i v) fs := by
  refine ⟨?_, by simp [h.lp], h.lf⟩
  have := h.blk.setCell i (.pointer v)
  rw [show engCells (ps.set i v) fs = (engCells ps fs).setIfInBounds i (.pointer v) from ?_]
  · exact this
  · have hl := h.lp
    simp [engCells, hl, hi]
theorem setF (h : Eng w g ps fs) (i : Nat) (v : Bool) : Eng (w.setCell ⟨g, 16 + i, none⟩ (.bool v)) g ps (fs.set i v) := by
  refine ⟨?_, h.lp, by simp [h.lf]⟩
  have := h.blk.setCell (16 + i) (.bool v)
  rw [show engCells ps (fs.set i v) = (engCells ps fs).setIfInBounds (16 + i) (.bool v) from ?_]
  · exact this
  · have hl := h.lp
    simp [engCells, hl]
theorem free (h : Eng w g ps fs) (j : Nat) : w.frozen? ⟨g, j, none⟩ = false := h.blk.free j
end Eng
theorem atV_full {ps : List (Option Addr)} {i : Nat} (hi : i < 16) {a : Addr} (h : ps.getD i none = some a) : atV ps i = (some a, 0) := by
  unfold atV
  rw [if_neg (by omega), Int.toNat_natCast, h]
theorem atV_in {ps : List (Option Addr)} {i : Nat} (hi : i < 16) : ((atV ps i).2 == 1) = false ∧ ((atV ps i).2 == 2) = false := by
  unfold atV
  rw [if_neg (by omega), Int.toNat_natCast]
  cases ps.getD i none <;> exact ⟨rfl, rfl⟩
set_option maxRecDepth 100000 in
set_option maxHeartbeats 2000000 in
theorem eng_set (w : World) (g : Nat) (ps : List (Option Addr)) (fs : List Bool) (h : Eng w g ps fs) (i : Nat) (hi : i < 16) (v : Option Addr) (b : Bool) :
    Calls Tryz.prog 31 #[.pointer (some ⟨g, 0, none⟩), .int .i64 (i : Nat), .pointer v, .bool b] w fun e w' => e = .returned (.int .i64 0) ∧ Eng w' g (ps.set i v) (fs.set i b) ∧ Chg [g] w w' := by
  have HA := Lib.hid (eng_at w g ps fs h i)
  obtain ⟨e1, e2⟩ := atV_in (ps := ps) hi
  generalize atV ps i = V at *
  obtain ⟨V1, V2⟩ := V
  simp only at e1 e2
  have HE := Lib.hid h
  have hd : decide (i < 16) = true := decide_eq_true hi
  have hd2 : decide ((i : Int) < 16) = true := decide_eq_true (by omega)
  have c1 := h.cellP i hi
  have c2 := h.cellF i hi
  have f1 := h.free i
  have f2 := h.free (16 + i)
  clear h
  go_enter Tryz.func31, Tryz.ntmps31
  go_wp2_with fail
  refine HA.out.mono ?_
  rintro e w1 ⟨rfl, rfl⟩
  clear HA
  go_wp2_with fail
  go_region_with (fail)
  all_goals
    go_wp2
    go_ret
    exact ⟨rfl, ((HE.out.setP i hi v).setF i b).chg (Chg.refl [] _).drew (by simp), (((Chg.refl _ _).setCell (.inl (by simp)) _).setCell (.inl (by simp)) _).drew⟩
set_option maxRecDepth 100000 in
set_option maxHeartbeats 2000000 in
/-- Make where New answers a sketch. -/
theorem eng_make (w : World) (g : Nat) (ps : List (Option Addr)) (fs : List Bool) (h : Eng w g ps fs) (i : Nat) (hi : i < 16) (c : Cf) (R : World → Nat → Prop)
    (HN0 : ∀ u, Chg [] w u → Calls Tryz.prog 30 #[c.val] u fun e w' => ∃ s, e = .returned (.tuple #[.pointer (some ⟨s, 0, none⟩), .int .i64 0]) ∧ R w' s ∧ Chg [] w w') :
    Calls Tryz.prog 12 #[.pointer (some ⟨g, 0, none⟩), .int .i64 (i : Nat), c.val] w fun e w' => e = .returned (.int .i64 0) ∧ ∃ s w1, R w1 s ∧ Chg [] w w1 ∧ Chg [g] w1 w' ∧ Eng w' g (ps.set i (some ⟨s, 0, none⟩)) (fs.set i false) := by
  have HA := Lib.hid (fun u (hu : Chg [] w u) => eng_at u g ps fs (h.chg hu (by simp)) i)
  have HS := Lib.hid (fun u (hu : Chg [] w u) s => eng_set u g ps fs (h.chg hu (by simp)) i hi (some ⟨s, 0, none⟩) false)
  obtain ⟨e1, e2⟩ := atV_in (ps := ps) hi
  generalize atV ps i = V at *
  obtain ⟨V1, V2⟩ := V
  simp only at e1 e2
  have HN := Lib.hid HN0
  have HC0 := Lib.hid ((Chg.refl [] w).alloc (.cells c.cells 28))
  clear h HN0
  obtain ⟨q1, num, den, side, most, digits, limit, depth, factor, width, word⟩ := c
  simp only [Cf.val, Cf.cells] at *
  go_enter Tryz.func12, Tryz.ntmps12
  go_wp2_with fail
  refine (HN.out _ HC0.out).mono ?_
  rintro e w1 ⟨s, rfl, hR, hc1⟩
  have HC := Lib.hid hc1
  have HR := Lib.hid hR
  clear hc1 hR HN HC0
  go_wp2_with fail
  refine (HA.out _ HC.out).mono ?_
  rintro e w2 ⟨rfl, rfl⟩
  clear HA
  go_wp2_with fail
  refine (HS.out _ HC.out s).mono ?_
  rintro e w3 ⟨rfl, hE, hc3⟩
  have HE := Lib.hid (And.intro hE hc3)
  clear hE hc3 HS
  go_wp2
  go_ret
  exact ⟨rfl, s, w2, HR.out, HC.out, HE.out.2, HE.out.1⟩
set_option maxRecDepth 100000 in
set_option maxHeartbeats 2000000 in
/-- Copy where the sketch's own Copy answers a sketch. -/
theorem eng_copy (w : World) (g : Nat) (ps : List (Option Addr)) (fs : List Bool) (h : Eng w g ps fs) (i : Nat) (hi : i < 16) (j : Nat) (hj : j < 16) (s : Nat) (hs : ps.getD j none = some ⟨s, 0, none⟩) (R : World → Nat → Prop)
    (HN0 : Calls Tryz.prog 33 #[.pointer (some ⟨s, 0, none⟩)] w fun e w' => ∃ s2, e = .returned (.tuple #[.pointer (some ⟨s2, 0, none⟩), .int .i64 0]) ∧ R w' s2 ∧ Chg [] w w') :
    Calls Tryz.prog 17 #[.pointer (some ⟨g, 0, none⟩), .int .i64 (i : Nat), .int .i64 (j : Nat)] w fun e w' => e = .returned (.int .i64 0) ∧ ∃ s2 w1, R w1 s2 ∧ Chg [] w w1 ∧ Chg [g] w1 w' ∧ Eng w' g (ps.set i (some ⟨s2, 0, none⟩)) (fs.set i (fs.getD j false)) := by
  have HA := Lib.hid (eng_at w g ps fs h j)
  rw [atV_full hj hs] at HA
  have HS := Lib.hid (fun u (hu : Chg [] w u) s b => eng_set u g ps fs (h.chg hu (by simp)) i hi (some ⟨s, 0, none⟩) b)
  have HN := Lib.hid HN0
  have hd : decide (j < 16) = true := decide_eq_true hj
  have hd2 : decide ((j : Int) < 16) = true := decide_eq_true (by omega)
  have HCF := Lib.hid (fun u (hu : Chg [] w u) => (h.chg hu (by simp)).cellF j hj)
  clear h HN0 hs
  generalize fs.getD j false = B at *
  go_enter Tryz.func17, Tryz.ntmps17
  go_wp2_with fail
  refine HA.out.mono ?_
  rintro e w2 ⟨rfl, rfl⟩
  clear HA
  go_wp2_with fail
  refine HN.out.mono ?_
  rintro e w1 ⟨s2, rfl, hR, hc1⟩
  have HC := Lib.hid hc1
  have HR := Lib.hid hR
  have c1 := HCF.out _ hc1
  clear hc1 hR HN HCF
  go_wp2_with fail
  refine (HS.out _ HC.out s2 B).mono ?_
  rintro e w3 ⟨rfl, hE, hc3⟩
  have HE := Lib.hid (And.intro hE hc3)
  clear hE hc3 HS c1
  go_wp2
  go_ret
  exact ⟨rfl, s2, w1, HR.out, HC.out, HE.out.2, HE.out.1⟩
set_option maxRecDepth 100000 in
set_option maxHeartbeats 2000000 in
theorem eng_total (w : World) (g : Nat) (ps : List (Option Addr)) (fs : List Bool) (h : Eng w g ps fs) (j : Nat) (hj : j < 16) (s : Nat) (hs : ps.getD j none = some ⟨s, 0, none⟩) (n : Nat)
    (HN0 : Calls Tryz.prog 27 #[.pointer (some ⟨s, 0, none⟩)] w fun e w' => e = .returned (.int .u64 (n : Nat)) ∧ Chg [] w w') :
    Calls Tryz.prog 9 #[.pointer (some ⟨g, 0, none⟩), .int .i64 (j : Nat)] w fun e w' => e = .returned (.tuple #[.int .u64 (n : Nat), .int .i64 0]) ∧ Chg [] w w' := by
  have HA := Lib.hid (eng_at w g ps fs h j)
  rw [atV_full hj hs] at HA
  have HN := Lib.hid HN0
  clear h HN0 hs
  go_enter Tryz.func9, Tryz.ntmps9
  go_wp2_with fail
  refine HA.out.mono ?_
  rintro e w2 ⟨rfl, rfl⟩
  clear HA
  go_wp2_with fail
  refine HN.out.mono ?_
  rintro e w1 ⟨rfl, hc1⟩
  go_wp2
  go_ret2
  exact ⟨rfl, hc1⟩
end Go.Proofs.YtmehcfocfljoeaaGreatDoor

namespace Go.Proofs.YtmehcfocfljoeaaGreatDoor
open Go.RowKit

/-- What a row of values leads to: each step answers no error. -/
inductive Runs {σ : Type} (St : σ → Int → Int → σ → Prop) : σ → List Int → σ → Prop
  | nil (d : σ) : Runs St d [] d
  | snoc {d d1 d2 : σ} {l : List Int} {x : Int} : Runs St d l d1 → St d1 x 0 d2 → Runs St d (l ++ [x]) d2
/-- What Put answers. -/
def PutP {σ : Type} (CE : Int → Prop) (P : World → Nat → List Nat → σ → Prop) (St : σ → Int → Int → σ → Prop) (d0 : σ) (vs : List Int) (w w' : World) (g : Nat) (ps : List (Option Addr)) (fs : List Bool) (i : Nat) (e : Ending) : Prop :=
  (∃ k : Int, k ≠ 0 ∧ (CE k ∨ ∃ (j : Nat) (x : Int) (d d' : σ), vs[j]? = some x ∧ Runs St d0 (vs.take j) d ∧ St d x k d') ∧ e = .returned (.int .i64 k) ∧ Chg [] w w') ∨
  (e = .returned (.int .i64 0) ∧ ∃ s2 F2 d w1, Runs St d0 vs d ∧ P w1 s2 F2 d ∧ (∀ b ∈ F2, w.heap.size ≤ b) ∧ Chg [] w w1 ∧ Chg [g] w1 w' ∧ Eng w' g (ps.set i (some ⟨s2, 0, none⟩)) fs)
set_option maxRecDepth 100000 in
set_option maxHeartbeats 4000000 in
theorem eng_put {σ : Type} (CE : Int → Prop) (P : World → Nat → List Nat → σ → Prop) (St : σ → Int → Int → σ → Prop) (n : Nat)
    (w : World) (g : Nat) (ps : List (Option Addr)) (fs : List Bool) (h : Eng w g ps fs) (i : Nat) (hi : i < 16) (s : Nat) (hs : ps.getD i none = some ⟨s, 0, none⟩) (d0 : σ)
    (HN0 : Calls Tryz.prog 33 #[.pointer (some ⟨s, 0, none⟩)] w fun e w' => (∃ k : Int, k ≠ 0 ∧ CE k ∧ e = .returned (.tuple #[.pointer none, .int .i64 k]) ∧ Chg [] w w') ∨ (∃ s2 F2, e = .returned (.tuple #[.pointer (some ⟨s2, 0, none⟩), .int .i64 0]) ∧ P w' s2 F2 d0 ∧ Chg [] w w' ∧ ∀ b ∈ F2, w.heap.size ≤ b))
    (ao : Option Addr) (ca m : Nat) (vs : List Int) (hm : m = vs.length) (hm2 : m ≤ 140737488351232) (hr : Rd w 1 (.slice ao m ca) m (ints vs))
    (HP0 : ∀ u s F d, P u s F d → ∀ k (hk : k < vs.length), ∀ pre, Runs St d0 (vs.take k) pre → d = pre → Calls Tryz.prog 34 #[.pointer (some ⟨s, 0, none⟩), .int .i64 vs[k], .int .u64 (n : Nat)] u fun e w' => ∃ (k2 : Int) (F' : List Nat) (d' : σ), e = .returned (.int .i64 k2) ∧ Mv F u F' w' ∧ St d vs[k] k2 d' ∧ P w' s F' d') :
    Calls Tryz.prog 15 #[.pointer (some ⟨g, 0, none⟩), .int .i64 (i : Nat), .int .u64 (n : Nat), .slice ao m ca] w fun e w' => PutP CE P St d0 vs w w' g ps fs i e := by
  have HA := Lib.hid (eng_at w g ps fs h i)
  rw [atV_full hi hs] at HA
  have HE := Lib.hid h
  have HN := Lib.hid HN0
  have HP := Lib.hid HP0
  have HR := Lib.hid hr
  have HM := Lib.hid hm
  have hd : decide (i < 16) = true := decide_eq_true hi
  have hd2 : decide ((i : Int) < 16) = true := decide_eq_true (by omega)
  clear h HN0 HP0 hr hm hs
  go_enter Tryz.func15, Tryz.ntmps15
  go_wp2_with fail
  refine HA.out.mono ?_
  rintro e w2 ⟨rfl, rfl⟩
  clear HA
  go_wp2_with fail
  refine HN.out.mono ?_
  rintro e w1 (⟨k, hk, hce, rfl, hc1⟩ | ⟨s2, F2, rfl, hP1, hc1, hF2⟩)
  · have hkb : (k != 0) = true := by rw [bne_iff_ne]; exact hk
    have HC := Lib.hid (And.intro hk (And.intro hce hc1))
    clear HN hk hce hc1
    go_wp2
    go_ret
    exact .inl ⟨k, HC.out.1, .inl HC.out.2.1, rfl, HC.out.2.2⟩
  have HC1 := Lib.hid hc1
  have HP1 := Lib.hid hP1
  have HF2 := Lib.hid hF2
  clear hc1 hP1 hF2 HN
  go_wp2_with fail
  go_loopw [34] (fun ix wx => ∃ (k : Nat) (F' : List Nat) (d : σ), k ≤ m ∧ ix = .int .i64 (k : Nat) ∧ Hid (Runs St d0 (vs.take k) d) ∧ Hid (P wx s2 F' d) ∧ Hid (∀ b ∈ F', w2.heap.size ≤ b) ∧ Hid (Chg [] w2 wx)) (fun ix _ => m - (intOf ix).toNat)
  case atStart => exact ⟨0, F2, d0, Nat.zero_le _, rfl, Lib.hid (by rw [List.take_zero]; exact .nil _), HP1, HF2, HC1⟩
  case round =>
    obtain ⟨k, F', d, hk, rfl, HRu, HPk, HFk, HCk⟩ := hrel
    clear HC1 HP1 HF2
    by_cases hlt' : k < m
    · have hkl : k < vs.length := by have := HM.out; omega
      obtain ⟨b, o, rfl, hcl⟩ := (HR.out.chg HCk.out (by simp)).addr (by omega)
      have c0 := hcl k (by omega)
      rw [ints_getE vs k hkl] at c0
      have HPP := Lib.hid (HP.out _ _ _ _ HPk.out k hkl d HRu.out rfl)
      have HGX := Lib.hid (show vs[k]? = some vs[k] from List.getElem?_eq_getElem hkl)
      have HTK := Lib.hid (show vs.take (k + 1) = vs.take k ++ [vs[k]] from by rw [List.take_succ_eq_append_getElem hkl])
      generalize vs[k] = x at *
      clear hcl
      go_wp2_with fail
      refine HPP.out.mono ?_
      rintro e w3 ⟨k2, F3, d', rfl, hmv, hSt, hP3⟩
      have HC3 := Lib.hid (hmv.chg_own HCk.out HFk.out)
      have HF3 := Lib.hid (hmv.low HCk.out.size HFk.out)
      have HST := Lib.hid hSt
      have HP3 := Lib.hid hP3
      clear hmv hSt hP3 c0
      by_cases hk2 : k2 = 0
      · subst hk2
        go_wp2
        exact ⟨⟨k + 1, F3, d', hlt', by go_num, Lib.hid (by rw [HTK.out]; exact .snoc HRu.out HST.out), HP3, HF3, HC3⟩, by simp [intOf]; omega⟩
      · have hkb : (k2 != 0) = true := by rw [bne_iff_ne]; exact hk2
        go_wp2
        go_ret
        exact .inl ⟨k2, hk2, .inr ⟨k, x, d, d', HGX.out, HRu.out, HST.out⟩, rfl, HC3.out⟩
    · obtain rfl : k = m := by omega
      have HRu2 := Lib.hid (show Runs St d0 vs d from by have := HRu.out; rwa [HM.out, List.take_length] at this)
      have hE := HE.out.chg HCk.out (by simp)
      have hc := hE.cellP i hi
      have f1 := hE.free i
      have HEk := Lib.hid hE
      clear hE HE
      go_wp2
      go_ret
      exact .inr ⟨rfl, s2, F', d, _, HRu2.out, HPk.out, HFk.out, HCk.out, (Chg.refl _ _).setCell (.inl (by simp)) _, HEk.out.setP i hi _⟩
end Go.Proofs.YtmehcfocfljoeaaGreatDoor
