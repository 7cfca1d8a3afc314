/-
  The walks of wide.Times and Over. Conditions: none.
  The walks of wide.Floor and tuples.Limit. Conditions: none.
  Slices of numbers that a drawn region builds. Conditions: none.
  Rows of int64: their cells. Conditions: none. append as one step of a region that draws its order. Conditions: none. append at an operation that has a guard. Conditions: none. A slice of the program's own, one cell of it set. Conditions: none. A call of a function as one step of a region that draws its order. Conditions: none. A drawn region whose last operation stores what the region's loads have read: the loads may be taken first. Conditions: none. A call at an operation that has a guard, under the walks of drawn regions. Conditions: none.
  A drawn region in which a property of worlds is kept throughout: what yields wherever it is kept may be taken first. Conditions: none.
  A call of a function value in a drawn region. Conditions: none.
  The walks of cells.Good, next, New (layer 11). Conditions: the form's own reach.
-/
import Derived.Test.YtmehcfocfljoeaaGreatDoorSlotsErrorsB10
import Derived.Test.YtmehcfocfljoeaaGreatDoorSlotsErrorsB1
import Derived.Test.YtmehcfocfljoeaaGreatDoorSlotsErrorsB3
import Derived.Test.YtmehcfocfljoeaaGreatDoorProg
import Derived.Shelf.Abstract
import Derived.Test.YtmehcfocfljoeaaGreatDoorSlotsErrorsB8
namespace Go.Proofs.YtmehcfocfljoeaaGreatDoor
open Go.RowKit

set_option maxRecDepth 100000 in
set_option maxHeartbeats 1000000 in
theorem wide_times (w : World) (x y hi lo : Nat) (hx : x < 18446744073709551616) (hy : y < 18446744073709551616) (hhi : x * y / 18446744073709551616 = hi) (hlo : x * y % 18446744073709551616 = lo) :
    Calls Tryz.prog 198 #[.int .u64 x, .int .u64 y] w fun e w' => e = .returned (.agg #[.int .u64 hi, .int .u64 lo]) ∧ Chg [] w w' := by
  have HM := Lib.hid (bits_mul (w.alloc (.cells #[.int .u64 0, .int .u64 0] 343)) x y hx hy)
  rw [hhi, hlo] at HM
  have hc := (Chg.refl [] w).alloc (.cells #[.int .u64 0, .int .u64 0] 343)
  have hbx := Blk.alloc_new w #[.int .u64 0, .int .u64 0] 343
  go_enter Tryz.func198, Tryz.ntmps198
  go_wp2_with fail
  refine HM.out.mono ?_
  rintro e w1 ⟨rfl, rfl⟩
  clear HM hhi hlo
  go_wp2
  have hb := Blk.alloc_new w #[.int .u64 hi, .int .u64 lo] 343
  have z0 := hb.cell 0
  have z1 := hb.cell 1
  refine bodyPost_ret (v := .agg #[.int .u64 hi, .int .u64 lo]) (by simp [results, Tryz.results198, go_sem, z0, z1]) rfl ⟨rfl, (Chg.refl [] w).alloc _⟩

/-- What is left of a division by words. -/
def overV (n y : Nat) : Value := if n < y * 18446744073709551616 then .tuple #[.int .u64 (n / y : Nat), .int .u64 (n % y : Nat), .bool true] else .tuple #[.int .u64 0, .int .u64 0, .bool false]

set_option maxRecDepth 100000 in
set_option maxHeartbeats 1000000 in
theorem wide_over (w : World) (hi lo y n : Nat) (hn : hi * 18446744073709551616 + lo = n) (hh : hi < 18446744073709551616) (hl : lo < 18446744073709551616) (hy : y < 18446744073709551616) :
    Calls Tryz.prog 197 #[.agg #[.int .u64 hi, .int .u64 lo], .int .u64 y] w fun e w' => e = .returned (overV n y) ∧ Chg [] w w' := by
  have hc := (Chg.refl [] w).alloc (.cells #[.int .u64 hi, .int .u64 lo] 343)
  have hbx := Blk.alloc_new w #[.int .u64 hi, .int .u64 lo] 343
  have c0 := hbx.cell 0
  have c1 := hbx.cell 1
  by_cases hlt : y ≤ hi
  · have HV := Lib.hid (show overV n y = .tuple #[.int .u64 0, .int .u64 0, .bool false] from if_neg (by
      have := Nat.mul_le_mul_right 18446744073709551616 hlt
      omega))
    have hd : decide (y ≤ hi) = true := decide_eq_true hlt
    clear hn
    go_enter Tryz.func197, Tryz.ntmps197
    go_wp2
    go_ret3
    rw [HV.out]
    exact ⟨rfl, hc⟩
  · have HV := Lib.hid (show overV n y = .tuple #[.int .u64 (n / y : Nat), .int .u64 (n % y : Nat), .bool true] from if_pos (by
      have := Nat.mul_le_mul_right 18446744073709551616 (show hi + 1 ≤ y by omega)
      omega))
    have hd : decide (y ≤ hi) = false := decide_eq_false hlt
    have HD : Hid (Calls Tryz.prog 210 #[.int .u64 hi, .int .u64 lo, .int .u64 y] (w.alloc (.cells #[.int .u64 hi, .int .u64 lo] 343)) fun e w' => e = .returned (.tuple #[.int .u64 (n / y : Nat), .int .u64 (n % y : Nat)]) ∧ Chg [] (w.alloc (.cells #[.int .u64 hi, .int .u64 lo] 343)) w') := by
      by_cases h0 : hi = 0
      · subst h0
        have hnl : n = lo := by omega
        rw [hnl]
        exact Lib.hid (bits_div_small _ lo y hl hy (by omega))
      · exact Lib.hid ((bits_div _ hi lo y n hn hl hy (by omega) (by omega)).mono fun e w' h => ⟨h.1, h.2 ▸ Chg.refl _ _⟩)
    generalize n / y = q at *
    generalize n % y = r at *
    go_enter Tryz.func197, Tryz.ntmps197
    go_wp2_with fail
    refine HD.out.mono ?_
    rintro e w1 ⟨rfl, hc1⟩
    go_wp2
    go_ret3
    rw [HV.out]
    exact ⟨rfl, hc.trans hc1⟩
end Go.Proofs.YtmehcfocfljoeaaGreatDoor

namespace Go.Proofs.YtmehcfocfljoeaaGreatDoor
open Go.RowKit

/-- A product divided, rounded down. -/
def floorV (n y : Nat) : Value := if n < y * 18446744073709551616 then .tuple #[.int .u64 (n / y : Nat), .bool true] else .tuple #[.int .u64 0, .bool false]
set_option maxRecDepth 100000 in
set_option maxHeartbeats 1000000 in
theorem wide_floor (w : World) (a b y n : Nat) (hn : a * b = n) (ha : a < 18446744073709551616) (hb : b < 18446744073709551616) (hy : y < 18446744073709551616) :
    Calls Tryz.prog 178 #[.int .u64 a, .int .u64 b, .int .u64 y] w fun e w' => e = .returned (floorV n y) ∧ Chg [] w w' := by
  have hh : n / 18446744073709551616 < 18446744073709551616 := by
    rw [← hn, Nat.div_lt_iff_lt_mul (by decide)]
    exact Nat.mul_lt_mul'' ha hb
  have hl : n % 18446744073709551616 < 18446744073709551616 := Nat.mod_lt _ (by decide)
  have HT := Lib.hid (wide_times w a b (n / 18446744073709551616) (n % 18446744073709551616) ha hb (by rw [hn]) (by rw [hn]))
  have HO := Lib.hid (fun W => wide_over W (n / 18446744073709551616) (n % 18446744073709551616) y n (by omega) hh hl hy)
  generalize n / 18446744073709551616 = h at *
  generalize n % 18446744073709551616 = l at *
  by_cases hf : n < y * 18446744073709551616
  · have HV := Lib.hid (show floorV n y = .tuple #[.int .u64 (n / y : Nat), .bool true] from if_pos hf)
    have HV2 := Lib.hid (show overV n y = .tuple #[.int .u64 (n / y : Nat), .int .u64 (n % y : Nat), .bool true] from if_pos hf)
    clear hn hf
    generalize n / y = q at *
    generalize n % y = r at *
    go_enter Tryz.func178, Tryz.ntmps178
    go_wp2_with fail
    refine HT.out.mono ?_
    rintro e w1 ⟨rfl, hc1⟩
    go_wp2_with fail
    refine (HO.out w1).mono ?_
    rintro e w2 ⟨rfl, hc2⟩
    rw [HV2.out]
    go_wp2
    go_ret2
    rw [HV.out]
    exact ⟨rfl, hc1.trans hc2⟩
  · have HV := Lib.hid (show floorV n y = .tuple #[.int .u64 0, .bool false] from if_neg hf)
    have HV2 := Lib.hid (show overV n y = .tuple #[.int .u64 0, .int .u64 0, .bool false] from if_neg hf)
    clear hn hf
    go_enter Tryz.func178, Tryz.ntmps178
    go_wp2_with fail
    refine HT.out.mono ?_
    rintro e w1 ⟨rfl, hc1⟩
    go_wp2_with fail
    refine (HO.out w1).mono ?_
    rintro e w2 ⟨rfl, hc2⟩
    rw [HV2.out]
    go_wp2
    go_ret2
    rw [HV.out]
    exact ⟨rfl, hc1.trans hc2⟩

/-- How great step and slack together may be, of so many. -/
def limT (num n den : Nat) : Nat := if 2 * num * n < den * 18446744073709551616 then max (2 * num * n / den) 1 else n
set_option maxRecDepth 100000 in
set_option maxHeartbeats 1000000 in
theorem tup_limit (w : World) (num den n : Nat) (hN : 2 * num < 18446744073709551616) (hd : den < 18446744073709551616) (hn : n < 18446744073709551616) :
    Calls Tryz.prog 155 #[.agg #[.int .u64 num, .int .u64 den], .int .u64 n] w fun e w' => e = .returned (.int .u64 (limT num n den : Nat)) ∧ Chg [] w w' := by
  have hc := (Chg.refl [] w).alloc (.cells #[.int .u64 num, .int .u64 den] 25)
  have hbx := Blk.alloc_new w #[.int .u64 num, .int .u64 den] 25
  have c0 := hbx.cell 0
  have c1 := hbx.cell 1
  have HF := Lib.hid (wide_floor (w.alloc (.cells #[.int .u64 num, .int .u64 den] 25)) (2 * num) n den (2 * num * n) rfl hN hn hd)
  have e2 : IntKind.u64.wrap (2 * (num : Int)) = ((2 * num : Nat) : Int) := by rw [IntKind.wrap_u64]; omega
  by_cases hf : 2 * num * n < den * 18446744073709551616
  · have HL := Lib.hid (show limT num n den = max (2 * num * n / den) 1 from if_pos hf)
    have HF2 := Lib.hid (show floorV (2 * num * n) den = .tuple #[.int .u64 (2 * num * n / den : Nat), .bool true] from if_pos hf)
    clear hf
    generalize 2 * num * n / den = q at *
    generalize 2 * num = m at *
    go_enter Tryz.func155, Tryz.ntmps155
    go_wp2_with fail
    refine HF.out.mono ?_
    rintro e w1 ⟨rfl, hc1⟩
    rw [HF2.out]
    have hcc := hc.trans hc1
    clear HF
    go_wp2
    go_ret
    rw [HL.out]
    refine ⟨?_, hcc⟩
    rw [show ((max q 1 : Nat) : Int) = max (q : Int) 1 from by omega]
    rfl
  · have HL := Lib.hid (show limT num n den = n from if_neg hf)
    have HF2 := Lib.hid (show floorV (2 * num * n) den = .tuple #[.int .u64 0, .bool false] from if_neg hf)
    clear hf
    generalize 2 * num = m at *
    go_enter Tryz.func155, Tryz.ntmps155
    go_wp2_with fail
    refine HF.out.mono ?_
    rintro e w1 ⟨rfl, hc1⟩
    rw [HF2.out]
    go_wp2
    go_ret
    rw [HL.out]
    exact ⟨rfl, hc.trans hc1⟩
end Go.Proofs.YtmehcfocfljoeaaGreatDoor

namespace Go.Proofs.YtmehcfocfljoeaaGreatDoor
open Go.RowKit

set_option maxRecDepth 100000 in
theorem step_bU3 {ops : Array Oper} {w : World} {o : Oper} {a : Act} {K : Act → World → Prop} {Q : Exit → Act → World → Prop} {E : Prop} (hg : o.guard = none) (t0 t1 t2 : Tmp)
    (ho : o.op = .buildSlice 81 3 #[(0, .tmp t0), (1, .tmp t1), (2, .tmp t2)]) (x0 x1 x2 : Nat) (h0 : a.eval (.tmp t0) = .int .u64 (x0 : Nat)) (h1 : a.eval (.tmp t1) = .int .u64 (x1 : Nat)) (h2 : a.eval (.tmp t2) = .int .u64 (x2 : Nat))
    (h : ∀ g w', Rd w' 1 (.slice (some ⟨g, 0, none⟩) 3 3) 3 (u64s [x0, x1, x2]) → Chg [] w w' → w.heap.size ≤ g → K (a.put o.dst (.slice (some ⟨g, 0, none⟩) 3 3)) w') :
    if Region.wanted o (yielded ops a.tmps) = true then Oper.wp Tryz.prog o a w K Q else E := by
  obtain ⟨dst, op, ty, pos, af, gd⟩ := o
  simp only at hg ho h
  subst hg ho
  have H := h w.heap.size (w.alloc (.cells #[.int .u64 (x0 : Nat), .int .u64 (x1 : Nat), .int .u64 (x2 : Nat)] 23)) (Rd.lit w #[.int .u64 (x0 : Nat), .int .u64 (x1 : Nat), .int .u64 (x2 : Nat)] 23 1 3 3 rfl) ((Chg.refl [] w).alloc _) (Nat.le_refl _)
  clear h
  have h0' : a.tmps[t0]?.getD undef = .int .u64 (x0 : Nat) := by simpa [Act.eval] using h0
  have h1' : a.tmps[t1]?.getD undef = .int .u64 (x1 : Nat) := by simpa [Act.eval] using h1
  have h2' : a.tmps[t2]?.getD undef = .int .u64 (x2 : Nat) := by simpa [Act.eval] using h2
  clear h0 h1 h2
  go_simp
  exact H
set_option maxRecDepth 100000 in
theorem step_bU2 {ops : Array Oper} {w : World} {o : Oper} {a : Act} {K : Act → World → Prop} {Q : Exit → Act → World → Prop} {E : Prop} (hg : o.guard = none) (t0 t1 : Tmp)
    (ho : o.op = .buildSlice 81 2 #[(0, .tmp t0), (1, .tmp t1)]) (x0 x1 : Nat) (h0 : a.eval (.tmp t0) = .int .u64 (x0 : Nat)) (h1 : a.eval (.tmp t1) = .int .u64 (x1 : Nat))
    (h : ∀ g w', Rd w' 1 (.slice (some ⟨g, 0, none⟩) 2 2) 2 (u64s [x0, x1]) → Chg [] w w' → w.heap.size ≤ g → K (a.put o.dst (.slice (some ⟨g, 0, none⟩) 2 2)) w') :
    if Region.wanted o (yielded ops a.tmps) = true then Oper.wp Tryz.prog o a w K Q else E := by
  obtain ⟨dst, op, ty, pos, af, gd⟩ := o
  simp only at hg ho h
  subst hg ho
  have H := h w.heap.size (w.alloc (.cells #[.int .u64 (x0 : Nat), .int .u64 (x1 : Nat)] 23)) (Rd.lit w #[.int .u64 (x0 : Nat), .int .u64 (x1 : Nat)] 23 1 2 2 rfl) ((Chg.refl [] w).alloc _) (Nat.le_refl _)
  clear h
  have h0' : a.tmps[t0]?.getD undef = .int .u64 (x0 : Nat) := by simpa [Act.eval] using h0
  have h1' : a.tmps[t1]?.getD undef = .int .u64 (x1 : Nat) := by simpa [Act.eval] using h1
  clear h0 h1
  go_simp
  exact H
set_option maxRecDepth 100000 in
theorem step_bU1 {ops : Array Oper} {w : World} {o : Oper} {a : Act} {K : Act → World → Prop} {Q : Exit → Act → World → Prop} {E : Prop} (hg : o.guard = none) (t0 : Tmp)
    (ho : o.op = .buildSlice 81 1 #[(0, .tmp t0)]) (x0 : Nat) (h0 : a.eval (.tmp t0) = .int .u64 (x0 : Nat))
    (h : ∀ g w', Rd w' 1 (.slice (some ⟨g, 0, none⟩) 1 1) 1 (u64s [x0]) → Chg [] w w' → w.heap.size ≤ g → K (a.put o.dst (.slice (some ⟨g, 0, none⟩) 1 1)) w') :
    if Region.wanted o (yielded ops a.tmps) = true then Oper.wp Tryz.prog o a w K Q else E := by
  obtain ⟨dst, op, ty, pos, af, gd⟩ := o
  simp only at hg ho h
  subst hg ho
  have H := h w.heap.size (w.alloc (.cells #[.int .u64 (x0 : Nat)] 23)) (Rd.lit w #[.int .u64 (x0 : Nat)] 23 1 1 1 rfl) ((Chg.refl [] w).alloc _) (Nat.le_refl _)
  clear h
  have h0' : a.tmps[t0]?.getD undef = .int .u64 (x0 : Nat) := by simpa [Act.eval] using h0
  clear h0
  go_simp
  exact H
end Go.Proofs.YtmehcfocfljoeaaGreatDoor

namespace Go.Proofs.YtmehcfocfljoeaaGreatDoor
open Go.RowKit

end Go.Proofs.YtmehcfocfljoeaaGreatDoor

namespace Go.Proofs.YtmehcfocfljoeaaGreatDoor
open Go.RowKit

end Go.Proofs.YtmehcfocfljoeaaGreatDoor

namespace Go.Proofs.YtmehcfocfljoeaaGreatDoor
open Go.RowKit

end Go.Proofs.YtmehcfocfljoeaaGreatDoor

namespace Go.Proofs.YtmehcfocfljoeaaGreatDoor
open Go.RowKit

end Go.Proofs.YtmehcfocfljoeaaGreatDoor

namespace Go.Proofs.YtmehcfocfljoeaaGreatDoor
open Go.RowKit

section
variable {P : Program} {ops : Array Oper} {Q : Exit → Act → World → Prop} {md : Region.Mode} {S : World → Prop} {st : Nat}

end

section
variable {P : Program} {l : List Oper} {Q : Exit → Act → World → Prop} {md : Region.Mode} {S : World → Prop} {st : Nat}
end
end Go.Proofs.YtmehcfocfljoeaaGreatDoor

namespace Go.Proofs.YtmehcfocfljoeaaGreatDoor
open Go.RowKit

end Go.Proofs.YtmehcfocfljoeaaGreatDoor

namespace Go.Proofs.YtmehcfocfljoeaaGreatDoor
open Go.RowKit

section
variable {P : Program} {ops : Array Oper} {Q : Exit → Act → World → Prop} {md : Region.Mode} {S : World → Prop}
/-- Whatever comes up next; behind each operation S is there. -/
def wpN (P : Program) (md : Region.Mode) (ops : Array Oper) (Q : Exit → Act → World → Prop) (S : World → Prop) : Nat → Array Bool → Act → World → Prop
  | 0, seen, a, w => Region.ready md ops seen = [] ∧ Q .normal a w
  | m + 1, seen, a, w => (Region.ready md ops seen = [] → Q .normal a w) ∧
    ∀ j ∈ Region.ready md ops seen, wpOp P ops Q j (fun b u => S u ∧ wpN P md ops Q S m (seen.setIfInBounds j true) b u) a w

theorem wpN_any : ∀ (m : Nat) (seen : Array Bool) (a : Act) (w : World), wpN P md ops Q S m seen a w → wpAny P md ops Q m seen a w
  | 0, _, _, _, h => h
  | m + 1, _, _, _, h => ⟨h.1, fun j hj => wpOp_mono (fun b u k => wpN_any m _ b u k.2) (h.2 j hj)⟩

theorem wpN_first {i : Nat} {oi : Oper} {v : Value} (hi : ops[i]? = some oi) (hno : Region.noSelect ops = true)
    (hQ : ∀ c a w, Q (.panic c) (a.put oi.dst v) w → Q (.panic c) a w) :
    ∀ (m : Nat) (seen : Array Bool) (a : Act) (w : World),
      (∀ j oj, ops[j]? = some oj → j ≠ i → seen.getD j true = false → (∀ e ∈ oj.after, Region.binds md e = true → e.on ≠ i) → oi.apart ops oj = true) →
      i ∈ Region.ready md ops seen → YieldsIf P ops S oi v a → S w →
      wpN P md ops Q S m (seen.setIfInBounds i true) (a.put oi.dst v) w → wpN P md ops Q S (m + 1) seen a w
  | m, seen, a, w => fun hap hr hy hS H => by
    have hun := (mem_ready.1 hr).1
    refine ⟨fun h => (by rw [h] at hr; cases hr), fun j hj => ?_⟩
    rcases Decidable.em (j = i) with rfl | hji
    · exact hy.wpOp hi hS ⟨hS, H⟩
    · obtain ⟨hjun, oj, hoj, hall⟩ := mem_ready.1 hj
      have hwait : ∀ e ∈ oj.after, Region.binds md e = true → e.on ≠ i := fun e he hb heq => by
        have h1 := hall e he hb
        rw [heq] at h1
        by_cases hlt : i < seen.size
        · simp [hlt] at hun h1
          rw [hun] at h1
          cases h1
        · simp [Array.getElem?_eq_none (Nat.le_of_not_lt hlt)] at h1
      match m, H with
      | 0, H =>
        have h1 := ready_mono hj hji
        rw [H.1] at h1
        cases h1
      | m + 1, H =>
        have h2 := wpOp_putIf hoj (hap j oj hoj hji hjun hwait) (fun cs b => Region.noSelect_spec hno i oi cs b hi) (fun cs b => Region.noSelect_spec hno j oj cs b hoj) hQ hy (H.2 j (ready_mono hj hji))
        refine wpOp_mono (fun b u h3 => ⟨h3.2.1, wpN_first hi hno hQ m (seen.setIfInBounds j true) b u (fun k ok hk hki hkun hkno => ?_) (ready_mono hr (Ne.symm hji)) h3.1 h3.2.1 ?_⟩) h2
        · refine hap k ok hk hki ?_ hkno
          by_cases hjk : j = k
          · subst hjk; exact hjun
          · rw [getD_set_ne true hjk] at hkun; exact hkun
        · rw [Array.setIfInBounds_comm _ _ hji]
          exact h3.2.2
end

section
variable {P : Program} {l : List Oper} {Q : Exit → Act → World → Prop} {md : Region.Mode} {S : World → Prop}
theorem startN {id : Nat} {a : Act} {w : World} (hm : P.follows .mixedOrders = true) (hS : S w.drew)
    (h : S w.drew → wpN P .any l.toArray Q S l.toArray.size (Array.replicate l.toArray.size false) a w.drew) : (Code.region id l.toArray true).wp P Q a w :=
  wp_region_any hm (wpN_any _ _ _ _ (h hS))
/-- An operation that yields wherever S is kept is taken first. -/
theorem takeN {i : Nat} {oi : Oper} {v : Value} {m : Nat} {seen : Array Bool} {a : Act} {w : World} (hi : l[i]? = some oi)
    (hno : Region.noSelect l.toArray = true) (hf : Region.free md l.toArray seen i = true) (hr : (Region.ready md l.toArray seen).contains i = true)
    (hQ : ∀ c a w, Q (.panic c) (a.put oi.dst v) w → Q (.panic c) a w) (hy : YieldsIf P l.toArray S oi v a) (hS : S w)
    (h : wpN P md l.toArray Q S m (seen.setIfInBounds i true) (a.put oi.dst v) w) : wpN P md l.toArray Q S (m + 1) seen a w := by
  have hi' : l.toArray[i]? = some oi := by simpa using hi
  exact wpN_first hi' hno hQ m seen a w (Region.free_spec hi' hf) (by simpa using hr) hy hS h
/-- The ways on. -/
def WaysN (P : Program) (md : Region.Mode) (l : List Oper) (Q : Exit → Act → World → Prop) (S : World → Prop) (m : Nat) (seen : Array Bool) (a : Act) (w : World) (rs : List Nat) : Prop :=
  ∀ i ∈ rs, wpOp P l.toArray Q i (fun b u => S u ∧ wpN P md l.toArray Q S m (seen.setIfInBounds i true) b u) a w
theorem nilN {m : Nat} {seen : Array Bool} {a : Act} {w : World} : WaysN P md l Q S m seen a w [] := fun _ h => by cases h
theorem consN {m : Nat} {seen : Array Bool} {a : Act} {w : World} {i : Nat} {o : Oper} {rs : List Nat} (ho : l[i]? = some o)
    (h : ∀ K' : Act → World → Prop, Shut (∀ b u, S u → (S u → wpN P md l.toArray Q S m (seen.setIfInBounds i true) b u) → K' b u) → if Region.wanted o (yielded l.toArray a.tmps) = true then Oper.wp P o a w K' Q else K' (a.put o.dst undef) w)
    (hs : WaysN P md l Q S m seen a w rs) : WaysN P md l Q S m seen a w (i :: rs) := fun j hj => by
  rcases List.mem_cons.1 hj with rfl | hj
  · exact wpOp_step (by simpa using ho) (fun K' hK => h K' (fun b u hS hW => hK b u ⟨hS, hW hS⟩))
  · exact hs j hj
theorem readyN {rs : List Nat} {m : Nat} {seen : Array Bool} {a : Act} {w : World} (hr : Region.ready md l.toArray seen = rs) (hne : rs ≠ [])
    (h : WaysN P md l Q S m seen a w rs) : wpN P md l.toArray Q S (m + 1) seen a w := ⟨fun h0 => absurd (hr ▸ h0) hne, hr ▸ h⟩
theorem doneN {seen : Array Bool} {a : Act} {w : World} (hr : Region.ready md l.toArray seen = []) (h : Q .normal a w) : ∀ m, wpN P md l.toArray Q S m seen a w
  | 0 => ⟨hr, h⟩
  | _ + 1 => ⟨fun _ => h, by rw [hr]; simp⟩
end
end Go.Proofs.YtmehcfocfljoeaaGreatDoor

namespace Go.Proofs.YtmehcfocfljoeaaGreatDoor
open Go.RowKit

theorem step_callsV {P : Program} {ops : Array Oper} {w : World} {o : Oper} {a : Act} {K : Act → World → Prop} {Q : Exit → Act → World → Prop} {E : Prop} (hw : Region.wanted o (yielded ops a.tmps) = true) (f : Nat) (op : Operand) (args : Array Operand) (ts : Array TypeId)
    (ho : o.op = .call { callee := .value op, args := args, argTypes := ts }) (hop : a.eval op = .func (.func f) #[] #[])
    (he : ∀ args w, (callFunc f args).run P w = .ok (.enter f args) w) (R : Ending → World → Prop) (vs : Array Value) (hv : args.map a.eval = vs) (hc : Calls P f vs w R)
    (h : ∀ e w', R e w' → ∃ v, e = .returned v ∧ K (a.put o.dst v) w') :
    if Region.wanted o (yielded ops a.tmps) = true then Oper.wp P o a w K Q else E := by
  rw [if_pos hw]
  have hrun : (execOp a.eval o).run P w = .ok (.enter f vs) w := by
    unfold execOp
    rw [ho]
    simp only [resolve, hop, Deferred.ofValue]
    simp [invoke, go_sem, he, hv]
  rw [Oper.wp, hrun, Oper.upon_enter]
  refine hc.mono fun e w' hr => ?_
  obtain ⟨v, rfl, hk⟩ := h e w' hr
  exact hk
end Go.Proofs.YtmehcfocfljoeaaGreatDoor

namespace Go.Proofs.YtmehcfocfljoeaaGreatDoor
open Go.RowKit

set_option maxRecDepth 100000 in
theorem cells_good (w : World) (num den : Nat) :
    Calls Tryz.prog 137 #[.agg #[.int .u64 (num : Nat), .int .u64 (den : Nat)]] w fun e w' => e = .returned (.bool (goodC11 num den)) ∧ Chg [] w w' := by
  have HG := Lib.hid (show goodC11 num den = (decide (0 < num) && (decide (num < den) && decide (den ≤ 2147483648))) from rfl)
  generalize goodC11 num den = G at *
  have hc := (Chg.refl [] w).alloc (.cells #[.int .u64 num, .int .u64 den] 25)
  have hbx := Blk.alloc_new w #[.int .u64 num, .int .u64 den] 25
  have c0 := hbx.cell 0
  have c1 := hbx.cell 1
  by_cases h1 : 0 < num
  case neg =>
    have d1 : decide ((0 : Int) < (num : Int)) = false := decide_eq_false (by omega)
    have d1' : decide (0 < num) = false := decide_eq_false h1
    have e1 : G = false := by rw [HG.out, d1']; rfl
    subst e1
    clear HG h1
    go_enter Tryz.func137, Tryz.ntmps137
    go_wp2
    go_ret
    exact ⟨rfl, hc⟩
  case pos =>
  have d1 : decide ((0 : Int) < (num : Int)) = true := decide_eq_true (by omega)
  have d1' : decide (0 < num) = true := decide_eq_true h1
  rw [d1', Bool.true_and] at HG
  by_cases h2 : num < den
  case neg =>
    have d2 : decide (num < den) = false := decide_eq_false h2
    have e1 : G = false := by rw [HG.out, d2]; rfl
    subst e1
    clear HG h1 h2
    go_enter Tryz.func137, Tryz.ntmps137
    go_wp2
    go_ret
    exact ⟨rfl, hc⟩
  case pos =>
  have d2 : decide (num < den) = true := decide_eq_true h2
  rw [d2, Bool.true_and] at HG
  clear h1 h2
  by_cases h3 : den ≤ 2147483648
  case neg =>
    have d3 : decide ((den : Int) ≤ 2147483648) = false := decide_eq_false (by omega)
    have e1 : G = false := by rw [HG.out]; exact decide_eq_false h3
    subst e1
    clear HG h3
    go_enter Tryz.func137, Tryz.ntmps137
    go_wp2
    go_ret
    exact ⟨rfl, hc⟩
  case pos =>
  have d3 : decide ((den : Int) ≤ 2147483648) = true := decide_eq_true (by omega)
  have e1 : G = true := by rw [HG.out]; exact decide_eq_true h3
  subst e1
  clear HG h3
  go_enter Tryz.func137, Tryz.ntmps137
  go_wp2
  go_ret
  exact ⟨rfl, hc⟩
theorem floor_in {low den num : Nat} (h1 : num < den) (hl : low ≤ 9223372036854775808) : low * (den + num) < den * 18446744073709551616 := by
  have a := Nat.mul_le_mul_right (den + num) hl
  omega
set_option maxRecDepth 100000 in
set_option maxHeartbeats 4000000 in
theorem cells_next (w : World) (num den low : Nat) (h0 : 0 < num) (h1 : num < den) (h2 : den ≤ 2147483648) (hl : low ≤ 9223372036854775808) (A B : Nat) (hA : A = (nextC num den low).1) (hB : B = (nextC num den low).2) :
    Calls Tryz.prog 138 #[.agg #[.int .u64 (num : Nat), .int .u64 (den : Nat)], .int .u64 (low : Nat)] w fun e w' => e = .returned (.tuple #[.int .u64 (A : Nat), .int .u64 (B : Nat)]) ∧ Chg [] w w' := by
  obtain ⟨r, hr⟩ : ∃ r, r = low * (den + num) / den := ⟨_, rfl⟩
  obtain ⟨s, hs⟩ : ∃ s, s = den + num := ⟨_, rfl⟩
  obtain ⟨d, hd⟩ : ∃ d, d = den - num := ⟨_, rfl⟩
  have hf := floor_in h1 hl
  have HF1 := Lib.hid (fun u => wide_floor u low s den (low * (den + num)) (by rw [hs]) (by omega) (by omega) (by omega))
  have e1 : floorV (low * (den + num)) den = .tuple #[.int .u64 (r : Nat), .bool true] := by unfold floorV; rw [if_pos hf, hr]
  rw [e1] at HF1
  have hrb : r < 18446744073709551616 := by rw [hr]; exact Nat.div_lt_of_lt_mul hf
  have HF2 := Lib.hid (fun u => wide_floor u r den d (r * den) rfl hrb (by omega) (by omega))
  have HA := Lib.hid (show A = (if 9223372036854775808 < r then 9223372036854775807 else min r 9223372036854775807) ∧ B = (if 9223372036854775808 < r then 9223372036854775808 else min (r * den / d) 9223372036854775808) from by
    rw [hA, hB, hd]
    unfold nextC
    simp only [two63, ← hr]
    split <;> simp)
  have HDB := Lib.hid (show 1 ≤ d ∧ d ≤ 2147483648 from by omega)
  have hbx := Blk.alloc_new w #[.int .u64 num, .int .u64 den] 25
  have HC0 := Lib.hid ((Chg.refl [] w).alloc (.cells #[.int .u64 num, .int .u64 den] 25))
  have hw1 : IntKind.u64.wrap ((den : Int) + (num : Int)) = (s : Int) := by rw [IntKind.wrap_u64]; omega
  have hw2 : IntKind.u64.wrap ((den : Int) - (num : Int)) = (d : Int) := by rw [IntKind.wrap_u64]; omega
  obtain ⟨b2, hb2⟩ : ∃ z, z = w.heap.size := ⟨_, rfl⟩
  rw [← hb2] at hbx
  have HBX := Lib.hid hbx
  clear e1 hf hA hB hr hs hd hbx h0 h1 h2 hl
  go_enter Tryz.func138, Tryz.ntmps138
  go_wp2_with fail
  rw [← hb2]
  clear hb2
  generalize w.alloc (.cells #[.int .u64 num, .int .u64 den] 25) = w0 at *
  have c0 := HBX.out.cell 0
  have c1 := HBX.out.cell 1
  simp only [List.getElem?_toArray, List.getElem?_cons_zero, List.getElem?_cons_succ] at c0 c1
  go_wp2_with fail
  refine (HF1.out w0).mono ?_
  rintro e w1 ⟨rfl, hc1⟩
  have HC1 := Lib.hid (HC0.out.trans hc1)
  have HB1 := Lib.hid (HBX.out.chg hc1 (by simp))
  clear c0 c1 hc1 HF1 HC0 HBX hw1
  by_cases hbig : 9223372036854775808 < r
  · have db : decide (9223372036854775808 < (r : Int)) = true := decide_eq_true (by omega)
    have db' : decide (9223372036854775808 < r) = true := decide_eq_true hbig
    have HAB := Lib.hid (show A = 9223372036854775807 ∧ B = 9223372036854775808 from by have := HA.out; rw [if_pos hbig, if_pos hbig] at this; exact this)
    clear hbig HA HF2
    go_wp2
    go_ret2
    rw [HAB.out.1, HAB.out.2]
    exact ⟨rfl, HC1.out⟩
  · have db : decide (9223372036854775808 < (r : Int)) = false := decide_eq_false (by omega)
    have db' : decide (9223372036854775808 < r) = false := decide_eq_false hbig
    have HAB := Lib.hid (show A = min r 9223372036854775807 ∧ B = min (r * den / d) 9223372036854775808 from by have := HA.out; rw [if_neg hbig, if_neg hbig] at this; exact this)
    have c0 := HB1.out.cell 0
    have c1 := HB1.out.cell 1
    simp only [List.getElem?_toArray, List.getElem?_cons_zero, List.getElem?_cons_succ] at c0 c1
    have HRB := Lib.hid (show r ≤ 9223372036854775808 from by omega)
    clear hbig HA
    obtain ⟨Q, hQ⟩ : ∃ Q, Q = r * den / d := ⟨_, rfl⟩
    rw [← hQ] at HAB
    by_cases hok : r * den < d * 18446744073709551616
    · have e2 : floorV (r * den) d = .tuple #[.int .u64 (Q : Nat), .bool true] := by unfold floorV; rw [if_pos hok, hQ]
      rw [e2] at HF2
      have HQB := Lib.hid (show Q < 18446744073709551616 from by rw [hQ]; exact Nat.div_lt_of_lt_mul hok)
      clear e2 hok hQ
      go_wp2_with fail
      refine (HF2.out w1).mono ?_
      rintro e w2 ⟨rfl, hc2⟩
      have HC2 := Lib.hid (HC1.out.trans hc2)
      clear hc2 HF2 c0 c1
      by_cases hq : 9223372036854775808 < Q
      · have dq : decide (9223372036854775808 < (Q : Int)) = true := decide_eq_true (by omega)
        have dq' : decide (9223372036854775808 < Q) = true := decide_eq_true hq
        have HE := Lib.hid (show B = 9223372036854775808 from by rw [HAB.out.2]; omega)
        clear hq
        go_wp2
        go_ret2
        have hA : (A : Int) = min (r : Int) 9223372036854775807 := by have := HAB.out.1; omega
        have hB : (B : Int) = 9223372036854775808 := by have := HE.out; omega
        rw [hA, hB]
        exact ⟨rfl, HC2.out⟩
      · have dq : decide (9223372036854775808 < (Q : Int)) = false := decide_eq_false (by omega)
        have dq' : decide (9223372036854775808 < Q) = false := decide_eq_false hq
        have HE := Lib.hid (show B = Q from by rw [HAB.out.2]; omega)
        clear hq
        go_wp2
        go_ret2
        have hA : (A : Int) = min (r : Int) 9223372036854775807 := by have := HAB.out.1; omega
        have hB : (B : Int) = (Q : Int) := by have := HE.out; omega
        rw [hA, hB]
        exact ⟨rfl, HC2.out⟩
    · have e2 : floorV (r * den) d = .tuple #[.int .u64 0, .bool false] := by unfold floorV; rw [if_neg hok]
      rw [e2] at HF2
      have HE := Lib.hid (show B = 9223372036854775808 from by
        have : 18446744073709551616 ≤ Q := by rw [hQ, Nat.le_div_iff_mul_le (by have := HDB.out; omega), Nat.mul_comm]; omega
        rw [HAB.out.2]; omega)
      clear e2 hok hQ
      go_wp2_with fail
      refine (HF2.out w1).mono ?_
      rintro e w2 ⟨rfl, hc2⟩
      have HC2 := Lib.hid (HC1.out.trans hc2)
      clear hc2 HF2 c0 c1
      go_wp2
      go_ret2
      have hA : (A : Int) = min (r : Int) 9223372036854775807 := by have := HAB.out.1; omega
      have hB : (B : Int) = 9223372036854775808 := by have := HE.out; omega
      rw [hA, hB]
      exact ⟨rfl, HC2.out⟩
end Go.Proofs.YtmehcfocfljoeaaGreatDoor
