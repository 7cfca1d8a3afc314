/-
  The walk of suite's bare at the kinds Lumps, Green, Digest, Log. Conditions: none.
  When suite's New takes a config: '!=' at configs. Conditions: none.
  The walk of suite's New, of any kind whose parts are known. Conditions: the form's own reach.
  Rows of pairs: their cells. Conditions: none.
  The walks of runs.by, slices.BinarySearchFunc over it, and runs.Find. Conditions: the form's own reach.
  Additions to rows of pairs, plainly: how the document adds and how the program does. Conditions: none.
-/
import Derived.Test.YtmehcfocfljoeaaGreatDoorSlotsErrorsB3
import Derived.Test.YtmehcfocfljoeaaGreatDoorProg
import Derived.Test.YtmehcfocfljoeaaGreatDoorSlotsErrorsB1
namespace Go.Proofs.YtmehcfocfljoeaaGreatDoor
open Go.RowKit

set_option maxRecDepth 100000 in
set_option maxHeartbeats 2000000 in
theorem bare_lump (w : World) (c : Cf) (hk : c.kind = 6) : Calls Tryz.prog 44 #[c.val] w fun e w' => e = .returned ({ Cf.none 6 with most := c.most } : Cf).val ∧ Chg [] w w' := by
  obtain ⟨k, num, den, side, most, digits, limit, depth, factor, width, word⟩ := c
  simp only at hk
  subst hk
  simp only [Cf.val, Cf.cells, Cf.none]
  go_enter Tryz.func44, Tryz.ntmps44
  go_wp2
  refine bodyPost_ret (v := .agg #[.int .i64 6, .int .u64 0, .int .u64 0, .int .i64 0, .int .i64 most, .int .i64 0, .int .u64 0, .int .i64 0, .int .i64 0, .int .i64 0, .int .u64 0]) (by simp [results, Tryz.results44, go_sem]) rfl ?_
  exact ⟨rfl, by with_reducible (repeat (first | exact Chg.refl _ _ | apply Chg.alloc | apply Chg.drew | (apply Chg.setCell; simp)))⟩
set_option maxRecDepth 100000 in
set_option maxHeartbeats 2000000 in
theorem bare_green (w : World) (c : Cf) (hk : c.kind = 4) : Calls Tryz.prog 44 #[c.val] w fun e w' => e = .returned ({ Cf.none 4 with num := c.num, den := c.den } : Cf).val ∧ Chg [] w w' := by
  obtain ⟨k, num, den, side, most, digits, limit, depth, factor, width, word⟩ := c
  simp only at hk
  subst hk
  simp only [Cf.val, Cf.cells, Cf.none]
  go_enter Tryz.func44, Tryz.ntmps44
  go_wp2
  refine bodyPost_ret (v := .agg #[.int .i64 4, .int .u64 num, .int .u64 den, .int .i64 0, .int .i64 0, .int .i64 0, .int .u64 0, .int .i64 0, .int .i64 0, .int .i64 0, .int .u64 0]) (by simp [results, Tryz.results44, go_sem]) rfl ?_
  exact ⟨rfl, by with_reducible (repeat (first | exact Chg.refl _ _ | apply Chg.alloc | apply Chg.drew | (apply Chg.setCell; simp)))⟩
set_option maxRecDepth 100000 in
set_option maxHeartbeats 2000000 in
theorem bare_digest (w : World) (c : Cf) (hk : c.kind = 3) : Calls Tryz.prog 44 #[c.val] w fun e w' => e = .returned ({ Cf.none 3 with depth := c.depth, factor := c.factor } : Cf).val ∧ Chg [] w w' := by
  obtain ⟨k, num, den, side, most, digits, limit, depth, factor, width, word⟩ := c
  simp only at hk
  subst hk
  simp only [Cf.val, Cf.cells, Cf.none]
  go_enter Tryz.func44, Tryz.ntmps44
  go_wp2_with fail
  go_region_with (fail)
  all_goals
    go_wp2
    refine bodyPost_ret (v := .agg #[.int .i64 3, .int .u64 0, .int .u64 0, .int .i64 0, .int .i64 0, .int .i64 0, .int .u64 0, .int .i64 depth, .int .i64 factor, .int .i64 0, .int .u64 0]) (by simp [results, Tryz.results44, go_sem]) rfl ?_
    exact ⟨rfl, by with_reducible (repeat (first | exact Chg.refl _ _ | apply Chg.alloc | apply Chg.drew | (apply Chg.setCell; simp)))⟩
end Go.Proofs.YtmehcfocfljoeaaGreatDoor

namespace Go.Proofs.YtmehcfocfljoeaaGreatDoor
open Go.RowKit

theorem scfg_under : Tryz.prog.underlying 28 = some (.struct (Tryz.prog.fieldsOf 28)) := by kernel_rfl
theorem scfg_stood : Tryz.prog.stoodInHeld 28 = false := by kernel_rfl
theorem rat_under : Tryz.prog.underlying 25 = some (.struct (Tryz.prog.fieldsOf 25)) := by kernel_rfl
theorem rat_stood : Tryz.prog.stoodInHeld 25 = false := by kernel_rfl
def Cf.same (a b : Cf) : Bool := a.kind == b.kind && a.num == b.num && a.den == b.den && a.side == b.side && a.most == b.most && a.digits == b.digits && a.limit == b.limit && a.depth == b.depth && a.factor == b.factor && a.width == b.width && a.word == b.word
set_option maxHeartbeats 2000000 in
theorem scfg_neq (a b : Cf) (w : World) : (binOp .neq 28 a.val b.val).run Tryz.prog w = .ok (.bool (!(a.same b))) w := by
  obtain ⟨a1, a2, a3, a4, a5, a6, a7, a8, a9, a10, a11⟩ := a
  obtain ⟨b1, b2, b3, b4, b5, b6, b7, b8, b9, b10, b11⟩ := b
  simp only [Cf.val, Cf.cells, Cf.same]
  have u1 := Tryz.underlying22
  have u2 := Tryz.underlying25
  have u3 := Tryz.underlying26
  have u4 := Tryz.underlying3
  have u5 := Tryz.underlying23
  have a1 := Tryz.isAgg22
  have a2 := Tryz.isAgg25
  have a3 := Tryz.isAgg26
  have a4 := Tryz.isAgg3
  have a5 := Tryz.isAgg23
  have z1 := Tryz.sizeOf22
  have z2 := Tryz.sizeOf25
  have z3 := Tryz.sizeOf26
  have z4 := Tryz.sizeOf3
  have z5 := Tryz.sizeOf23
  rw [run_neq_struct, show (10000 : Nat) = 9999 + 1 from rfl, run_equalIn_agg w 9999 28 _ _ scfg_under scfg_stood]
  simp only [Program.fieldsOf, Tryz.underlying28]
  go_simp
  clear u1 u2 u3 u4 u5 a1 a2 a3 a4 a5 z1 z2 z3 z4 z5
  repeat' split
  all_goals simp_all
  all_goals omega
end Go.Proofs.YtmehcfocfljoeaaGreatDoor

namespace Go.Proofs.YtmehcfocfljoeaaGreatDoor
open Go.RowKit

theorem cf_cells {w : World} {b : Nat} {c : Cf} (h : Blk w b c.cells 28) : w.cell? ⟨b, 0, none⟩ = some (.int .i64 c.kind) ∧ w.cell? ⟨b, 1, none⟩ = some (.int .u64 c.num) ∧ w.cell? ⟨b, 2, none⟩ = some (.int .u64 c.den) ∧ w.cell? ⟨b, 3, none⟩ = some (.int .i64 c.side) ∧ w.cell? ⟨b, 4, none⟩ = some (.int .i64 c.most) ∧ w.cell? ⟨b, 5, none⟩ = some (.int .i64 c.digits) ∧ w.cell? ⟨b, 6, none⟩ = some (.int .u64 c.limit) ∧ w.cell? ⟨b, 7, none⟩ = some (.int .i64 c.depth) ∧ w.cell? ⟨b, 8, none⟩ = some (.int .i64 c.factor) ∧ w.cell? ⟨b, 9, none⟩ = some (.int .i64 c.width) ∧ w.cell? ⟨b, 10, none⟩ = some (.int .u64 c.word) :=
  ⟨h.cell 0, h.cell 1, h.cell 2, h.cell 3, h.cell 4, h.cell 5, h.cell 6, h.cell 7, h.cell 8, h.cell 9, h.cell 10⟩
/-- What New answers. -/
def NewP (w w' : World) (same : Bool) (cs : Array Value) (R : World → Nat → Value → Int → Prop) (e : Ending) : Prop := (same = false ∧ e = .returned (.tuple #[.pointer none, .int .i64 1]) ∧ Chg [] w w') ∨
      (same = true ∧ ∃ T d k w1, R w1 T d k ∧ Chg [] w w1 ∧ ((k ≠ 0 ∧ e = .returned (.tuple #[.pointer none, .int .i64 k]) ∧ w' = w1) ∨ (k = 0 ∧ e = .returned (.tuple #[.pointer (some ⟨w1.heap.size, 0, none⟩), .int .i64 0]) ∧ w' = w1.alloc (.cells (cs ++ #[.iface T d]) 101))))
set_option maxRecDepth 100000 in
set_option maxHeartbeats 4000000 in
theorem suite_newK (w : World) (c b : Cf) (HB0 : ∀ u, Calls Tryz.prog 44 #[c.val] u fun e w' => e = .returned b.val ∧ Chg [] u w') (R : World → Nat → Value → Int → Prop)
    (HF0 : ∀ u, Chg [] w u → Calls Tryz.prog 45 #[c.val] u fun e w' => ∃ T d k, e = .returned (.tuple #[.iface T d, .int .i64 k]) ∧ R w' T d k ∧ Chg [] u w') :
    Calls Tryz.prog 30 #[c.val] w fun e w' => NewP w w' (c.same b) c.cells R e := by
  have hb0 := Blk.alloc_new w c.cells 28
  have HC0 := Lib.hid ((Chg.refl [] w).alloc (.cells c.cells 28))
  obtain ⟨bq, hbq⟩ : ∃ z, z = w.heap.size := ⟨_, rfl⟩
  rw [← hbq] at hb0
  have HCE := Lib.hid (fun u (hu : Chg [] (w.alloc (.cells c.cells 28)) u) => cf_cells (hb0.chg hu (by simp)))
  have HB := Lib.hid HB0
  have HF := Lib.hid HF0
  have HEQ := Lib.hid (fun u => scfg_neq c b u)
  obtain ⟨S, hS⟩ : ∃ S, S = c.same b := ⟨_, rfl⟩
  rw [← hS] at HEQ ⊢
  clear HB0 HF0 hb0 hS
  obtain ⟨q1, q2, q3, q4, q5, q6, q7, q8, q9, q10, q11⟩ := b
  obtain ⟨k, num, den, side, most, digits, limit, depth, factor, width, word⟩ := c
  simp only [Cf.val, Cf.cells] at *
  go_enter Tryz.func30, Tryz.ntmps30
  go_upto_region 2 with (fail)
  rw [← hbq]
  clear hbq
  generalize w.alloc (.cells #[.int .i64 k, .int .u64 num, .int .u64 den, .int .i64 side, .int .i64 most, .int .i64 digits, .int .u64 limit, .int .i64 depth, .int .i64 factor, .int .i64 width, .int .u64 word] 28) = w0 at *
  obtain ⟨c0, c1, c2, c3, c4, c5, c6, c7, c8, c9, c10⟩ := HCE.out w0.drew (Chg.refl [] w0).drew
  have hq := HEQ.out
  go_region_with (go_at_call 44; refine (HB.out _).mono ?_; rintro e w1 ⟨rfl, hc1⟩; obtain ⟨k0, k1, k2, k3, k4, k5, k6, k7, k8, k9, k10⟩ := HCE.out w1 ((Chg.refl [] w0).drew.trans hc1))
  all_goals
    have HC1 := Lib.hid ((Chg.refl [] w0).drew.trans hc1)
    clear hc1 HB hq c0 c1 c2 c3 c4 c5 c6 c7 c8 c9 c10 k0 k1 k2 k3 k4 k5 k6 k7 k8 k9 k10
    obtain ⟨c0, c1, c2, c3, c4, c5, c6, c7, c8, c9, c10⟩ := HCE.out w1 HC1.out
    cases S with
    | false =>
      go_wp2
      go_ret2
      exact .inl ⟨rfl, rfl, HC0.out.trans HC1.out⟩
    | true =>
      go_wp2_with fail
      refine (HF.out w1 (HC0.out.trans HC1.out)).mono ?_
      rintro e w2 ⟨T, d, e', rfl, hR, hc2⟩
      have HC2 := Lib.hid (HC1.out.trans hc2)
      have HR := Lib.hid hR
      clear hc2 hR HF HEQ c0 c1 c2 c3 c4 c5 c6 c7 c8 c9 c10
      obtain ⟨c0, c1, c2, c3, c4, c5, c6, c7, c8, c9, c10⟩ := HCE.out w2 HC2.out
      by_cases he : e' = 0
      · subst he
        go_wp2
        go_ret2
        exact .inr ⟨rfl, T, d, 0, w2, HR.out, HC0.out.trans HC2.out, .inr ⟨rfl, rfl, by simp⟩⟩
      · have hb : (e' != 0) = true := by rw [bne_iff_ne]; exact he
        go_wp2
        go_ret2
        exact .inr ⟨rfl, T, d, e', w2, HR.out, HC0.out.trans HC2.out, .inl ⟨he, rfl, rfl⟩⟩
/-- A sketch of any kind. -/
def Sk (w : World) (s : Nat) (c : Cf) (T : Nat) (p : Nat) : Prop := Blk w s (c.cells ++ #[.iface T (.agg #[.pointer (some ⟨p, 0, none⟩)])]) 101
namespace Sk
variable {w w1 : World} {s T p : Nat} {c : Cf}
theorem kind (h : Sk w s c T p) : w.cell? ⟨s, 0, none⟩ = some (.int .i64 c.kind) := Blk.cell h 0
theorem core (h : Sk w s c T p) : w.cell? ⟨s, 11, none⟩ = some (.iface T (.agg #[.pointer (some ⟨p, 0, none⟩)])) := Blk.cell h 11
theorem chg {F : List Nat} (h : Sk w s c T p) (k : Chg F w w1) (hs : s ∉ F) : Sk w1 s c T p := Blk.chg h k hs
theorem nil (h : Sk w s c T p) (k : Chg [] w w1) : Sk w1 s c T p := Blk.chg h k (by simp)
end Sk
theorem Cf.same_eq {a b : Cf} (h : a.same b = true) : a = b := by
  cases a
  cases b
  simp only [Cf.same, Bool.and_eq_true, beq_iff_eq] at h
  simp only [Cf.mk.injEq]
  simp_all
/-- What a tower's Put or Join may move, within a sketch. -/
theorem mv_sk {s : Nat} {F F' : List Nat} {w w' : World} (h : Mv F w F' w') : Mv (s :: F) w (s :: F') w' :=
  ⟨h.chg.mono (fun b hb => .inl (by simp [hb])), fun b hb => by
    rcases List.mem_cons.1 hb with rfl | hb
    · exact .inl (by simp)
    · rcases h.fr b hb with h1 | h1
      · exact .inl (by simp [h1])
      · exact .inr h1⟩
end Go.Proofs.YtmehcfocfljoeaaGreatDoor

namespace Go.Proofs.YtmehcfocfljoeaaGreatDoor
open Go.RowKit

structure Pr where
  i : Int
  c : Nat
def Pr.cells (p : Pr) : List Value := [.int .i64 p.i, .int .u64 p.c]
def Pr.ok (p : Pr) : Prop := -9223372036854775808 ≤ p.i ∧ p.i < 9223372036854775808 ∧ p.c < 18446744073709551616
instance : Inhabited Pr := ⟨⟨0, 0⟩⟩
def prCells (l : List Pr) : List Value := (l.map Pr.cells).flatten
theorem prCells_len (l : List Pr) : (prCells l).length = l.length * 2 := by
  induction l with
  | nil => rfl
  | cons a r ih => simp only [prCells, List.map_cons, List.flatten_cons, List.length_append, List.length_cons] at *; rw [ih]; simp [Pr.cells]; omega
theorem prCells_append (a b : List Pr) : prCells (a ++ b) = prCells a ++ prCells b := by simp [prCells]
theorem prCells_get (l : List Pr) (k j : Nat) (hk : k < l.length) (hj : j < 2) : (prCells l)[k * 2 + j]? = (l[k].cells)[j]? := by
  induction l generalizing k with
  | nil => simp at hk
  | cons a r ih =>
    cases k with
    | zero =>
      simp only [prCells, List.map_cons, List.flatten_cons, Nat.zero_mul, Nat.zero_add, List.getElem_cons_zero]
      rw [List.getElem?_append_left (by simpa [Pr.cells] using hj)]
    | succ k =>
      have := ih k (by simpa using hk)
      simp only [prCells, List.map_cons, List.flatten_cons, List.getElem_cons_succ] at *
      rw [List.getElem?_append_right (by simp [Pr.cells]; omega), ← this]
      congr 1
      simp [Pr.cells]
      omega
theorem pr_at {w : World} {b o k : Nat} {l : List Pr} (hc : ∀ j, j < l.length * 2 → w.cell? ⟨b, o + j, none⟩ = (prCells l)[j]?) (h : k < l.length) :
    w.cell? ⟨b, o + k * 2, none⟩ = some (.int .i64 l[k].i) ∧ w.cell? ⟨b, o + k * 2 + 1, none⟩ = some (.int .u64 l[k].c) := by
  have g : ∀ j, j < 2 → w.cell? ⟨b, o + k * 2 + j, none⟩ = (l[k].cells)[j]? := fun j hj => by
    rw [← prCells_get l k j h hj, ← hc (k * 2 + j) (by omega), Nat.add_assoc]
  exact ⟨g 0 (by omega), g 1 (by omega)⟩
theorem prCells_oneCell (l : List Pr) : ∀ y ∈ prCells l, y.oneCell' = true := by
  intro y hy
  simp only [prCells, List.mem_flatten, List.mem_map] at hy
  obtain ⟨x, ⟨i, _, rfl⟩, hy⟩ := hy
  simp only [Pr.cells, List.mem_cons, List.not_mem_nil, or_false] at hy
  rcases hy with rfl | rfl <;> rfl

theorem under_pairs : Tryz.prog.underlying 242 = some (.slice 286) := by kernel_rfl
theorem info_pair : (Tryz.prog.info? 286).map (fun i => (i.zero, i.size, i.bytes)) = some (some (.agg #[.int .i64 0, .int .u64 0]), 2, 16) := by kernel_rfl
def totP (l : List Pr) : Nat := (l.map Pr.c).sum
theorem totP_cons (p : Pr) (l : List Pr) : totP (p :: l) = p.c + totP l := by simp [totP]
theorem totP_app (a b : List Pr) : totP (a ++ b) = totP a + totP b := by simp [totP]
theorem mem_tot {l : List Pr} {p : Pr} (h : p ∈ l) : p.c ≤ totP l := by
  induction l with
  | nil => simp at h
  | cons q l ih =>
    rw [totP_cons]
    rcases List.mem_cons.1 h with rfl | h
    · omega
    · have := ih h; omega
theorem take_tot (l : List Pr) (k : Nat) : totP (l.take k) ≤ totP l := by
  conv => rhs; rw [← List.take_append_drop k l, totP_app]
  omega
/-- May a row be: indexes that rise, counts from 1 to 2^63 - 1. -/
def goodTo (l : List Pr) (k : Nat) : Bool := (List.range k).all fun j => decide (1 ≤ (l.getD j default).c ∧ (l.getD j default).c ≤ 9223372036854775807 ∧ (0 < j → (l.getD (j - 1) default).i < (l.getD j default).i))
def goodP (l : List Pr) : Bool := goodTo l l.length
theorem goodTo_succ (l : List Pr) (k : Nat) : goodTo l (k + 1) = (goodTo l k && decide (1 ≤ (l.getD k default).c ∧ (l.getD k default).c ≤ 9223372036854775807 ∧ (0 < k → (l.getD (k - 1) default).i < (l.getD k default).i))) := by
  simp [goodTo, List.range_succ]
theorem goodTo_false {l : List Pr} {k m : Nat} (h : goodTo l k = false) (hm : k ≤ m) : goodTo l m = false := by
  induction m with
  | zero => rw [show k = 0 from by omega] at h; exact h
  | succ m ih =>
    rcases Nat.lt_or_ge m k with h1 | h1
    · obtain rfl : k = m + 1 := by omega
      exact h
    · rw [goodTo_succ, ih h1]; rfl
end Go.Proofs.YtmehcfocfljoeaaGreatDoor

namespace Go.Proofs.YtmehcfocfljoeaaGreatDoor
open Go.RowKit

def byV (p i : Int) : Int := if p < i then -1 else if i < p then 1 else 0
theorem byV_neg (p i : Int) : byV p i < 0 ↔ p < i := by
  unfold byV
  by_cases h : p < i
  · rw [if_pos h]; simp [h]
  · by_cases h2 : i < p
    · rw [if_neg h, if_pos h2]; omega
    · rw [if_neg h, if_neg h2]; omega
theorem byV_zero (p i : Int) : (byV p i == 0) = decide (p = i) := by
  unfold byV
  by_cases h : p < i
  · rw [if_pos h, decide_eq_false (by omega)]; rfl
  · by_cases h2 : i < p
    · rw [if_neg h, if_pos h2, decide_eq_false (by omega)]; rfl
    · rw [if_neg h, if_neg h2, decide_eq_true (by omega)]; rfl
set_option maxRecDepth 100000 in
theorem runs_by (w : World) (p : Pr) (i : Int) :
    Calls Tryz.prog 206 #[.agg #[.int .i64 p.i, .int .u64 p.c], .int .i64 i] w fun e w' => e = .returned (.int .i64 (byV p.i i)) ∧ Chg [] w w' := by
  have hc := (Chg.refl [] w).alloc (.cells #[.int .i64 p.i, .int .u64 p.c] 286)
  go_enter Tryz.func206, Tryz.ntmps206
  by_cases h1 : p.i < i
  · have hd : decide (p.i < i) = true := decide_eq_true h1
    have HV := Lib.hid (show byV p.i i = -1 from if_pos h1)
    go_wp2
    go_ret
    exact ⟨by rw [HV.out]; rfl, hc⟩
  · have hd : decide (p.i < i) = false := decide_eq_false h1
    by_cases h2 : i < p.i
    · have hd2 : decide (i < p.i) = true := decide_eq_true h2
      have HV := Lib.hid (show byV p.i i = 1 from by rw [byV, if_neg h1, if_pos h2])
      go_wp2
      go_ret
      exact ⟨by rw [HV.out]; rfl, hc⟩
    · have hd2 : decide (i < p.i) = false := decide_eq_false h2
      have HV := Lib.hid (show byV p.i i = 0 from by rw [byV, if_neg h1, if_neg h2])
      go_wp2
      go_ret
      exact ⟨by rw [HV.out]; rfl, hc⟩

/-- How many indexes are below one. -/
def cntLt (l : List Pr) (i : Int) : Nat := l.countP fun p => decide (p.i < i)
def hasI (l : List Pr) (i : Int) : Bool := l.any fun p => p.i == i
/-- Indexes that rise. -/
def rises (l : List Pr) : Prop := ∀ j k, (hjk : j < k) → (h : k < l.length) → (l[j]'(by omega)).i < l[k].i

theorem cntLt_eq {l : List Pr} {i : Int} {n : Nat} (hn : n ≤ l.length) (h0 : ∀ k, (h : k < l.length) → k < n → l[k].i < i) (h1 : ∀ k, (h : k < l.length) → n ≤ k → i ≤ l[k].i) : cntLt l i = n := by
  induction l generalizing n with
  | nil => simp at hn; subst hn; rfl
  | cons p l ih =>
    rw [cntLt, List.countP_cons]
    cases n with
    | zero =>
      have hp := h1 0 (by simp) (Nat.le_refl _)
      have := ih (n := 0) (Nat.zero_le _) (fun k _ hk => (Nat.not_lt_zero k hk).elim) (fun k h _ => by have := h1 (k + 1) (by simpa using h) (by omega); simpa using this)
      rw [cntLt] at this
      rw [this]
      simp only [List.getElem_cons_zero] at hp
      rw [if_neg (by simp; omega)]
    | succ n =>
      have hp := h0 0 (by simp) (by omega)
      have := ih (n := n) (by simpa using hn) (fun k h hk => by have := h0 (k + 1) (by simpa using h) (by omega); simpa using this) (fun k h hk => by have := h1 (k + 1) (by simpa using h) (by omega); simpa using this)
      rw [cntLt] at this
      rw [this]
      simpa using hp
theorem hasI_eq {l : List Pr} {i : Int} {n : Nat} (h0 : ∀ k, (h : k < l.length) → k < n → l[k].i < i) (h1 : ∀ k, (h : k < l.length) → n ≤ k → i ≤ l[k].i) (hr : rises l) : hasI l i = (decide (n < l.length) && decide ((l.getD n default).i = i)) := by
  rw [Bool.eq_iff_iff]
  simp only [hasI, List.any_eq_true, beq_iff_eq, Bool.and_eq_true, decide_eq_true_eq]
  constructor
  · rintro ⟨p, hp, rfl⟩
    obtain ⟨k, hk, rfl⟩ := List.getElem_of_mem hp
    have hnk : n ≤ k := by
      rcases Nat.lt_or_ge k n with h | h
      · have := h0 k hk h; omega
      · exact h
    have hn : n < l.length := by omega
    rcases Nat.lt_or_ge n k with h | h
    · have := hr n k h hk
      have := h1 n hn (Nat.le_refl _)
      omega
    · obtain rfl : n = k := by omega
      exact ⟨hn, by simp [List.getD, hn]⟩
  · rintro ⟨hn, he⟩
    refine ⟨l[n], List.getElem_mem _, ?_⟩
    rw [← he]
    simp [List.getD, hn]

set_option maxRecDepth 100000 in
set_option maxHeartbeats 1000000 in
theorem bsf_pairs (w : World) (ao : Option Addr) (cap : Nat) (l : List Pr) (i : Int) (hrs : rises l) (hr : Rd w 2 (.slice ao l.length cap) l.length (prCells l)) (hl : l.length ≤ 100000) :
    Calls Tryz.prog 205 #[.slice ao l.length cap, .int .i64 i, .func (.func 206) #[] #[]] w fun e w' => e = .returned (.tuple #[.int .i64 (cntLt l i), .bool (hasI l i)]) ∧ Chg [] w w' := by
  go_enter Tryz.func205, Tryz.ntmps205
  go_wp2
  go_loopw [9, 10] (fun a b wx => ∃ lo hi : Nat, lo ≤ hi ∧ hi ≤ l.length ∧ a = .int .i64 (lo : Nat) ∧ b = .int .i64 (hi : Nat) ∧ Hid (∀ k, (h : k < l.length) → k < lo → l[k].i < i) ∧ Hid (∀ k, (h : k < l.length) → hi ≤ k → i ≤ l[k].i) ∧ Chg [] w wx) (fun a b _ => (intOf b).toNat - (intOf a).toNat)
  case atStart => exact ⟨0, l.length, by omega, by omega, rfl, rfl, Lib.hid (fun k _ hk => (Nat.not_lt_zero k hk).elim), Lib.hid (fun k h hk => absurd h (by omega)), Chg.refl _ _⟩
  case round =>
    obtain ⟨lo, hi, hlh, hhl, rfl, rfl, H0, H1, hch⟩ := hrel
    have hr1 := hr.chg hch (by simp)
    by_cases hlt : lo < hi
    · obtain ⟨b, o, rfl, hc⟩ := hr1.addr (by omega)
      obtain ⟨m, hm⟩ : ∃ m, m = (lo + hi) / 2 := ⟨_, rfl⟩
      have hmi : ((lo : Int) + (hi : Int)) / 2 = (m : Int) := by omega
      have hml : m < l.length := by omega
      have hmlo : lo ≤ m := by omega
      have hmhi : m < hi := by omega
      have hmi2 : (m : Int) < (l.length : Int) := by omega
      have hmi3 : (0 : Int) ≤ (m : Int) := by omega
      obtain ⟨c0, c1⟩ := pr_at hc hml
      have HBY := Lib.hid (runs_by wr l[m] i)
      have hdl : decide ((lo : Int) < (hi : Int)) = true := decide_eq_true (by omega)
      have HR := Lib.hid hrs
      have HV := Lib.hid (show byV l[m].i i < 0 ↔ l[m].i < i from byV_neg _ _)
      clear hm hc hr1 hrs
      go_wp2_with fail
      refine HBY.out.mono ?_
      rintro e w2 ⟨rfl, hc2⟩
      have hc3 := hch.trans hc2
      clear hch hc2 HBY c0 c1 hr
      by_cases hb : l[m].i < i
      · have hv : byV l[m].i i < 0 := HV.out.2 hb
        have hd2 := decide_eq_true hv
        have HN := Lib.hid (show ∀ k, (h : k < l.length) → k < m + 1 → l[k].i < i from fun k h hk => by
          rcases Nat.lt_or_ge k m with h1 | h1
          · have := HR.out k m h1 hml; omega
          · obtain rfl : k = m := by omega
            exact hb)
        clear HV hb hv
        generalize byV l[m].i i = v at *
        go_wp2
        exact ⟨⟨m + 1, hi, by omega, by omega, by go_num, rfl, HN, H1, hc3⟩, by simp [intOf]; omega⟩
      · have hv : ¬ byV l[m].i i < 0 := fun h => hb (HV.out.1 h)
        have hd2 := decide_eq_false hv
        have HN := Lib.hid (show ∀ k, (h : k < l.length) → m ≤ k → i ≤ l[k].i from fun k h hk => by
          rcases Nat.lt_or_ge m k with h1 | h1
          · have := HR.out m k h1 h; omega
          · obtain rfl : k = m := by omega
            omega)
        clear HV hb hv
        generalize byV l[m].i i = v at *
        go_wp2
        exact ⟨⟨lo, m, by omega, by omega, rfl, rfl, H0, HN, hc3⟩, by simp [intOf]; omega⟩
    · obtain rfl : lo = hi := by omega
      have HC := Lib.hid (cntLt_eq hhl H0.out H1.out)
      have HH := Lib.hid (hasI_eq H0.out H1.out hrs)
      clear hrs
      by_cases hn : lo < l.length
      · obtain ⟨b, o, rfl, hc⟩ := hr1.addr (by omega)
        obtain ⟨c0, c1⟩ := pr_at hc hn
        have hdn : decide ((lo : Int) < (l.length : Int)) = true := decide_eq_true (by omega)
        have hn0 : (0 : Int) ≤ (lo : Int) := by omega
        have HBY := Lib.hid (runs_by wr l[lo] i)
        have HV := Lib.hid (show (byV l[lo].i i == 0) = hasI l i from by
          rw [HH.out, decide_eq_true hn, Bool.true_and, show l.getD lo default = l[lo] from by simp [List.getD, hn]]
          exact byV_zero _ _)
        clear hc hr1 HH
        go_wp2_with fail
        refine HBY.out.mono ?_
        rintro e w2 ⟨rfl, hc2⟩
        have hv := HV.out
        clear HV
        generalize byV l[lo].i i = v at *
        go_wp2
        go_ret2
        exact ⟨by rw [HC.out]; rfl, hch.trans hc2⟩
      · have hdn : decide ((lo : Int) < (l.length : Int)) = false := decide_eq_false (by omega)
        have HV := Lib.hid (show hasI l i = false from by rw [HH.out, decide_eq_false hn]; rfl)
        clear HH
        go_wp2
        go_ret2
        exact ⟨by rw [HC.out, HV.out]; rfl, hch⟩

set_option maxRecDepth 100000 in
theorem runs_find (w : World) (ao : Option Addr) (cap : Nat) (l : List Pr) (i : Int) (hrs : rises l) (hr : Rd w 2 (.slice ao l.length cap) l.length (prCells l)) (hl : l.length ≤ 100000) :
    Calls Tryz.prog 184 #[.slice ao l.length cap, .int .i64 i] w fun e w' => e = .returned (.tuple #[.int .i64 (cntLt l i), .bool (hasI l i)]) ∧ Chg [] w w' := by
  have HB := Lib.hid (bsf_pairs w ao cap l i hrs hr hl)
  clear hrs
  go_enter Tryz.func184, Tryz.ntmps184
  go_wp2_with fail
  refine HB.out.mono ?_
  rintro e w2 ⟨rfl, hc2⟩
  go_wp2
  go_ret2
  exact ⟨rfl, hc2⟩
end Go.Proofs.YtmehcfocfljoeaaGreatDoor

namespace Go.Proofs.YtmehcfocfljoeaaGreatDoor

def cntI (l : List Pr) (i : Int) : Nat := (l.map fun p => if p.i = i then p.c else 0).sum
/-- How the document adds. -/
def refAdd (l : List Pr) (i : Int) (c : Nat) : List Pr := l.filter (fun p => decide (p.i < i)) ++ (if 0 < cntI l i + c then [⟨i, cntI l i + c⟩] else []) ++ l.filter (fun p => decide (i < p.i))
/-- How the program does. -/
def addV (l : List Pr) (i : Int) (c : Nat) : List Pr :=
  if c = 0 then l else if hasI l i then l.set (cntLt l i) ⟨i, (l.getD (cntLt l i) default).c + c⟩ else l.take (cntLt l i) ++ [⟨i, c⟩] ++ l.drop (cntLt l i)

theorem rises_tail {p : Pr} {l : List Pr} (h : rises (p :: l)) : rises l := fun j k hjk hk => by
  have := h (j + 1) (k + 1) (by omega) (by simpa using hk)
  simpa using this
theorem rises_head {p : Pr} {l : List Pr} (h : rises (p :: l)) : ∀ q ∈ l, p.i < q.i := fun q hq => by
  obtain ⟨k, hk, rfl⟩ := List.getElem_of_mem hq
  have := h 0 (k + 1) (by omega) (by simpa using hk)
  simpa using this
theorem rises_cons {p : Pr} {l : List Pr} (h : rises l) (hp : ∀ q ∈ l, p.i < q.i) : rises (p :: l) := fun j k hjk hk => by
  cases k with
  | zero => omega
  | succ k =>
    have hk' : k < l.length := by simpa using hk
    cases j with
    | zero => simpa using hp _ (List.getElem_mem hk')
    | succ j => simpa using h j k (by omega) hk'
theorem rises_app {a b : List Pr} (ha : rises a) (hb : rises b) (hab : ∀ p ∈ a, ∀ q ∈ b, p.i < q.i) : rises (a ++ b) := by
  induction a with
  | nil => simpa using hb
  | cons p a ih =>
    refine rises_cons (ih (rises_tail ha) (fun p hp q hq => hab p (by simp [hp]) q hq)) (fun q hq => ?_)
    rcases List.mem_append.1 hq with h | h
    · exact rises_head ha q h
    · exact hab p (by simp) q h
theorem rises_left {a b : List Pr} (h : rises (a ++ b)) : rises a := by
  induction a with
  | nil => intro j k _ hk; simp at hk
  | cons p a ih => exact rises_cons (ih (rises_tail h)) (fun q hq => rises_head h q (by simp [hq]))
theorem rises_right {a b : List Pr} (h : rises (a ++ b)) : rises b := by
  induction a with
  | nil => simpa using h
  | cons p a ih => exact ih (rises_tail h)

/-- A row that rises, parted at an index. -/
structure Parted (l : List Pr) (i : Int) (A M B : List Pr) : Prop where
  eq : l = A ++ M ++ B
  lo : ∀ p ∈ A, p.i < i
  hi : ∀ p ∈ B, i < p.i
  mid : M = [] ∨ ∃ c, M = [⟨i, c⟩]
theorem parted {l : List Pr} (h : rises l) (i : Int) : ∃ A M B, Parted l i A M B := by
  induction l with
  | nil => exact ⟨[], [], [], rfl, by simp, by simp, .inl rfl⟩
  | cons p l ih =>
    obtain ⟨A, M, B, e, h1, h2, h3⟩ := ih (rises_tail h)
    have hp := rises_head h
    rcases Int.lt_trichotomy p.i i with hlt | heq | hgt
    · exact ⟨p :: A, M, B, by rw [e]; simp, by simpa using ⟨hlt, h1⟩, h2, h3⟩
    · refine ⟨[], [p], l, rfl, by simp, fun q hq => by have := hp q hq; omega, .inr ⟨p.c, ?_⟩⟩
      cases p
      simp only at heq
      subst heq
      rfl
    · exact ⟨[], [], p :: l, rfl, by simp, fun q hq => by
        rcases List.mem_cons.1 hq with rfl | hq
        · exact hgt
        · have := hp q hq; omega, .inl rfl⟩
theorem cntI_app (a b : List Pr) (i : Int) : cntI (a ++ b) i = cntI a i + cntI b i := by simp [cntI]
theorem cntI_none {a : List Pr} {i : Int} (h : ∀ p ∈ a, p.i ≠ i) : cntI a i = 0 := by
  induction a with
  | nil => rfl
  | cons p a ih =>
    have h1 := h p (by simp)
    have h2 := ih (fun q hq => h q (by simp [hq]))
    rw [cntI] at h2 ⊢
    simp [h1, h2]
section
variable {l A M B : List Pr} {i : Int}
theorem Parted.filter_lt (h : Parted l i A M B) : l.filter (fun p => decide (p.i < i)) = A := by
  have e1 : A.filter (fun p => decide (p.i < i)) = A := List.filter_eq_self.2 (fun p hp => by simpa using h.lo p hp)
  have e2 : B.filter (fun p => decide (p.i < i)) = [] := List.filter_eq_nil_iff.2 (fun p hp => by have := h.hi p hp; simp; omega)
  rw [h.eq, List.filter_append, List.filter_append, e1, e2]
  rcases h.mid with rfl | ⟨c, rfl⟩ <;> simp
theorem Parted.filter_gt (h : Parted l i A M B) : l.filter (fun p => decide (i < p.i)) = B := by
  have e1 : B.filter (fun p => decide (i < p.i)) = B := List.filter_eq_self.2 (fun p hp => by simpa using h.hi p hp)
  have e2 : A.filter (fun p => decide (i < p.i)) = [] := List.filter_eq_nil_iff.2 (fun p hp => by have := h.lo p hp; simp; omega)
  rw [h.eq, List.filter_append, List.filter_append, e1, e2]
  rcases h.mid with rfl | ⟨c, rfl⟩ <;> simp
theorem Parted.cnt (h : Parted l i A M B) : cntI l i = cntI M i := by
  rw [h.eq, cntI_app, cntI_app, cntI_none (fun p hp => by have := h.lo p hp; omega), cntI_none (a := B) (fun p hp => by have := h.hi p hp; omega)]
  omega
theorem Parted.lt (h : Parted l i A M B) : cntLt l i = A.length := by
  rw [cntLt, List.countP_eq_length_filter, h.filter_lt]
theorem Parted.has (h : Parted l i A M B) : hasI l i = !M.isEmpty := by
  have e1 : (A.any fun p => p.i == i) = false := List.any_eq_false.2 (fun p hp => by have := h.lo p hp; simp; omega)
  have e2 : (B.any fun p => p.i == i) = false := List.any_eq_false.2 (fun p hp => by have := h.hi p hp; simp; omega)
  rw [hasI, h.eq, List.any_append, List.any_append, e1, e2]
  rcases h.mid with rfl | ⟨c, rfl⟩ <;> simp
/-- The two ways of adding are one, of rows that rise and have no nothings. -/
theorem add_same (hr : rises l) (h1 : ∀ p ∈ l, 1 ≤ p.c) (c : Nat) : refAdd l i c = addV l i c := by
  obtain ⟨A, M, B, h⟩ := parted hr i
  rw [refAdd, addV, h.filter_lt, h.filter_gt, h.cnt, h.lt, h.has]
  rcases h.mid with rfl | ⟨c0, rfl⟩
  · have hz : cntI [] i = 0 := rfl
    rw [hz, Nat.zero_add]
    have he := h.eq
    simp only [List.append_nil] at he
    by_cases hc : c = 0
    · rw [if_pos hc, hc]; simp [he]
    · rw [if_neg hc, if_pos (by omega)]
      simp [he]
  · have hz : cntI [⟨i, c0⟩] i = c0 := by simp [cntI]
    have hc0 : 1 ≤ c0 := h1 ⟨i, c0⟩ (by rw [h.eq]; simp)
    rw [hz, if_pos (by omega)]
    by_cases hc : c = 0
    · rw [if_pos hc, hc, h.eq]; rfl
    · rw [if_neg hc, h.eq]
      simp [List.getD]
theorem refAdd_rises (hr : rises l) (c : Nat) : rises (refAdd l i c) := by
  obtain ⟨A, M, B, h⟩ := parted hr i
  rw [refAdd, h.filter_lt, h.filter_gt]
  have he := h.eq
  rw [he] at hr
  have hA := rises_left (rises_left hr)
  have hB := rises_right hr
  have one : ∀ c, rises [⟨i, c⟩] := fun c j k hjk hk => by simp at hk; omega
  split
  · exact rises_app (rises_app hA (one _) (fun p hp q hq => by simp at hq; subst hq; exact h.lo p hp)) hB (fun p hp q hq => by
      have hq := h.hi q hq
      rcases List.mem_append.1 hp with hp | hp
      · have := h.lo p hp; omega
      · simp at hp; subst hp; exact hq)
  · rw [List.append_nil]
    exact rises_app hA hB (fun p hp q hq => by have := h.lo p hp; have := h.hi q hq; omega)
theorem refAdd_pos (h1 : ∀ p ∈ l, 1 ≤ p.c) (c : Nat) : ∀ p ∈ refAdd l i c, 1 ≤ p.c := by
  intro p hp
  rw [refAdd] at hp
  simp only [List.mem_append, List.mem_filter] at hp
  rcases hp with (hp | hp) | hp
  · exact h1 p hp.1
  · split at hp
    · simp at hp; subst hp; simp only; omega
    · simp at hp
  · exact h1 p hp.1
theorem cntI_le (hr : rises l) {m : Nat} (hm : ∀ p ∈ l, p.c ≤ m) (i : Int) : cntI l i ≤ m := by
  obtain ⟨A, M, B, h⟩ := parted hr i
  rw [h.cnt]
  rcases h.mid with rfl | ⟨c0, rfl⟩
  · exact Nat.zero_le _
  · have := hm ⟨i, c0⟩ (by rw [h.eq]; simp)
    simpa [cntI] using this
theorem refAdd_max (hr : rises l) {m : Nat} (hm : ∀ p ∈ l, p.c ≤ m) (c : Nat) : ∀ p ∈ refAdd l i c, p.c ≤ m + c := by
  intro p hp
  rw [refAdd] at hp
  simp only [List.mem_append, List.mem_filter] at hp
  have hc := cntI_le hr hm i
  rcases hp with (hp | hp) | hp
  · have := hm p hp.1; omega
  · split at hp
    · simp at hp; subst hp; simp only; omega
    · simp at hp
  · have := hm p hp.1; omega
theorem refAdd_ix (hr : ∀ p ∈ l, -9223372036854775808 ≤ p.i ∧ p.i < 9223372036854775808) (hi : -9223372036854775808 ≤ i ∧ i < 9223372036854775808) (c : Nat) : ∀ p ∈ refAdd l i c, -9223372036854775808 ≤ p.i ∧ p.i < 9223372036854775808 := by
  intro p hp
  rw [refAdd] at hp
  simp only [List.mem_append, List.mem_filter] at hp
  rcases hp with (hp | hp) | hp
  · exact hr p hp.1
  · split at hp
    · simp at hp; subst hp; exact hi
    · simp at hp
  · exact hr p hp.1
theorem refAdd_len (hr : rises l) (c : Nat) : (refAdd l i c).length ≤ l.length + 1 := by
  obtain ⟨A, M, B, h⟩ := parted hr i
  rw [refAdd, h.filter_lt, h.filter_gt]
  have := congrArg List.length h.eq
  simp only [List.length_append] at this ⊢
  split
  · simp; omega
  · simp; omega
end
theorem cntI_tot (l : List Pr) (i : Int) : cntI l i ≤ totP l := by
  induction l with
  | nil => exact Nat.le_refl _
  | cons p l ih =>
    rw [cntI] at ih ⊢
    rw [totP_cons, List.map_cons, List.sum_cons]
    split <;> omega
theorem Parted.tot {l A M B : List Pr} {i : Int} (h : Parted l i A M B) : totP l = totP A + totP M + totP B := by
  rw [h.eq, totP_app, totP_app]
theorem refAdd_tot {l : List Pr} {i : Int} (hr : rises l) (c : Nat) : totP (refAdd l i c) = totP l + c := by
  obtain ⟨A, M, B, h⟩ := parted hr i
  rw [refAdd, h.filter_lt, h.filter_gt, h.cnt, totP_app, totP_app, h.tot]
  rcases h.mid with rfl | ⟨c0, rfl⟩
  · have hz : cntI [] i = 0 := rfl
    rw [hz]
    split
    · simp [totP]; omega
    · simp [totP]; omega
  · have hz : cntI [⟨i, c0⟩] i = c0 := by simp [cntI]
    rw [hz]
    split
    · simp [totP]; omega
    · simp [totP]; omega
end Go.Proofs.YtmehcfocfljoeaaGreatDoor
