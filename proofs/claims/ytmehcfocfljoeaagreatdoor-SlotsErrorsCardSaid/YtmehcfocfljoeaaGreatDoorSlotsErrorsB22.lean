/-
  The walk of slices.Delete at rows of tuples, one tuple taken away. Conditions: the form's own reach.
  A scope with labels, to which the run may jump back and forth: what holds at every jump, and a measure that every pass lowers. Conditions: none.
  The walk of tuples.Squeeze. Conditions: the form's own reach.
-/
import Derived.Test.YtmehcfocfljoeaaGreatDoorSlotsErrorsB20
import Derived.WalkKit
import Derived.ScopeJumps
import Derived.Test.YtmehcfocfljoeaaGreatDoorSlotsErrorsB3
namespace Go.Proofs.YtmehcfocfljoeaaGreatDoor
open Go.RowKit

theorem step_append_runK {P : Program} {ops : Array Oper} {o : Oper} {a : Act} {w : World} {K : Act → World → Prop} {Q : Exit → Act → World → Prop} {E : Prop}
    (hg : o.guard = none) (d x : Operand) (dT sT : TypeId) (hop : o.op = Op.call { callee := Callee.builtin Builtin.append, args := #[d, x], argTypes := #[dT, sT] })
    (v u : Value) (hd : a.eval d = v) (hx : a.eval x = u) {v' : Value} {w' : World} (hr : (Builtin.append_ #[dT, sT] o.type #[v, u]).run P w = .ok v' w') (hK : K (a.put o.dst v') w') :
    if Region.wanted o (yielded ops a.tmps) = true then Oper.wp P o a w K Q else E := by
  have hw : Region.wanted o (yielded ops a.tmps) = true := by simp [Region.wanted, hg]
  rw [if_pos hw]
  unfold Oper.wp
  simp [execOp, hop, resolve, invoke, builtin, hd, hx, hr, Result.andThen]
  exact hK
theorem wpList_clear_runK {P : Program} {w : World} {ops : Array Oper} {rest : List Oper} {o : Oper} {a : Act} {Q : Exit → Act → World → Prop} (hgd : o.guard = none) (d : Operand) (dT : TypeId)
    (ho : o.op = .call { callee := .builtin .clear, args := #[d], argTypes := #[dT] }) (v : Value) (hd : a.eval d = v) {v' : Value} {w' : World}
    (hr : (Builtin.clear_ #[dT] o.type #[v]).run P w = .ok v' w') (h : wpList P ops Q rest (a.put o.dst v') w') : wpList P ops Q (o :: rest) a w := by
  refine wpList_plain hgd fun K hK => ?_
  unfold Oper.wp
  simp [execOp, ho, resolve, invoke, builtin, hd, hr, Result.andThen]
  exact hK _ _ h

/-- append where there is room: the row's own cells turn. -/
theorem run_append_fit {P : Program} (w : World) (t u ty e : TypeId) (i : TypeInfo) (size : Nat) (ht : P.underlying t = some (.slice e)) (hi : P.info? e = some i) (hsize : i.size = size)
    (g o n cap : Nat) (cur : Array Value) (hg : w.heap[g]? = some (.cells cur e (0, 0))) (x : Value) (m : Nat) (news : List Value) (hsrc : Src P w u size x m news) (h1 : ∀ y ∈ news, y.oneCell' = true)
    (hfit : n + m ≤ cap) (hroom : o + cap * size ≤ cur.size) :
    (Builtin.append_ #[t, u] ty #[.slice (some ⟨g, o, none⟩) n cap, x]).run P w =
      .ok (.slice (some ⟨g, o, none⟩) (n + m) cap) (w.setRow g (cur.toList.take (o + n * size) ++ news ++ cur.toList.drop (o + n * size + news.length)).toArray) := by
  subst hsize
  obtain ⟨hu, hlen, hl, hf, hfd⟩ := hsrc
  have hfit' : o + n * i.size + 0 + news.length ≤ cur.size := by
    have := Nat.mul_le_mul_right i.size hfit
    rw [Nat.add_mul] at this
    omega
  have hst := run_storeCells_at P g (o + n * i.size) e news 0 cur w hg hfit' h1
  simp only [Nat.add_zero] at hst
  have hadd : (⟨g, o, none⟩ : Addr).add (n * i.size) = ⟨g, o + n * i.size, none⟩ := by
    unfold Addr.add; split
    · simp_all
    · rfl
  rcases hu with ⟨e', hu⟩ | hu <;> simp [Builtin.append_, run_underlying ht, run_underlying hu, sizeOf, typeInfo, hi, hlen, hfit, hf, hadd, hst]

def z3 : List Value := [Value.int .i64 0, Value.int .u64 0, Value.int .u64 0]
theorem run_clear_tuple (w : World) (ty : TypeId) (g o c : Nat) (cur : Array Value) (hg : w.heap[g]? = some (.cells cur 251 (0, 0))) (hs : o + 3 ≤ cur.size) :
    (Builtin.clear_ #[227] ty #[.slice (some ⟨g, o, none⟩) 1 c]).run Tryz.prog w =
      .ok (.tuple #[]) (w.setRow g (cur.toList.take o ++ z3 ++ cur.toList.drop (o + 3)).toArray) := by
  obtain ⟨i0, hi0, hz0, hzs, hzb⟩ := info_parts info_tuple
  have hst := run_storeCells_at Tryz.prog g o 251 z3 0 cur w hg (by simpa [z3] using hs) (by simp [z3, Value.oneCell'])
  have hzc : (Builtin.zeroCells (Value.agg #[.int .i64 0, .int .u64 0, .int .u64 0]).cells 1).toList = z3 := by first | rfl | kernel_rfl | (simp [Builtin.zeroCells, z3, Value.cells]; rfl)
  simp only [Nat.add_zero] at hst
  have hz3 : z3.length = 3 := rfl
  rw [hz3] at hst
  simp [Builtin.clear_, run_underlying under_tuples, zeroValue, typeInfo, hi0, hz0, hzc, hst]

/-- What stands in a row behind a piece that is cut out. -/
theorem cut_rows {α : Type} (C A P B : List α) (o a e b : Nat) (hA : A.length = a) (hB : B.length = b) (hP : P.length = e) (hX : (C.drop o).take (a + e + b) = A ++ P ++ B) (hC : o + (a + e + b) ≤ C.length) :
    let R := C.take (o + a) ++ B ++ C.drop (o + a + b)
    R.length = C.length ∧ (R.drop o).take (a + b) = A ++ B := by
  intro R
  have hl0 : (C.take o).length = o := by rw [List.length_take]; omega
  have e0 : (C.drop o).take a = A := by
    have h : ((C.drop o).take (a + e + b)).take a = A := by
      rw [hX, List.append_assoc, ← hA]
      exact List.take_left
    rw [List.take_take, Nat.min_eq_left (by omega)] at h
    exact h
  have e1 : C.take (o + a) = C.take o ++ A := by rw [List.take_add, e0]
  have e2 : R = C.take o ++ (A ++ B ++ C.drop (o + a + b)) := by
    show C.take (o + a) ++ B ++ C.drop (o + a + b) = _
    rw [e1]
    simp only [List.append_assoc]
  refine ⟨?_, ?_⟩
  · show (C.take (o + a) ++ B ++ C.drop (o + a + b)).length = _
    simp only [List.length_append, List.length_take, List.length_drop]
    omega
  · rw [e2, drop_len hl0.symm]
    exact take_len (by simp only [List.length_append]; omega)
theorem pad_rows {α : Type} (C X Z : List α) (o n z : Nat) (hz : Z.length = z) (hX : (C.drop o).take n = X) (hC : o + n + z ≤ C.length) :
    let R := C.take (o + n) ++ Z ++ C.drop (o + n + z)
    R.length = C.length ∧ (R.drop o).take n = X := by
  intro R
  have hl0 : (C.take o).length = o := by rw [List.length_take]; omega
  have hXl : X.length = n := by rw [← hX, List.length_take, List.length_drop]; omega
  have e1 : C.take (o + n) = C.take o ++ X := by rw [List.take_add, hX]
  have e2 : R = C.take o ++ (X ++ (Z ++ C.drop (o + n + z))) := by
    show C.take (o + n) ++ Z ++ C.drop (o + n + z) = _
    rw [e1]
    simp only [List.append_assoc]
  refine ⟨?_, ?_⟩
  · show (C.take (o + n) ++ Z ++ C.drop (o + n + z)).length = _
    simp only [List.length_append, List.length_take, List.length_drop]
    omega
  · rw [e2, drop_len hl0.symm]
    exact take_len hXl.symm

set_option maxRecDepth 100000 in
set_option maxHeartbeats 1000000 in
theorem delete_tuple (w : World) (g o cap : Nat) (l : List Tp) (k : Nat) (hk : k < l.length) (hl : l.length ≤ 100000) (ho : Own w 251 3 (.slice (some ⟨g, o, none⟩) l.length cap) l.length (tpCells l)) :
    Calls Tryz.prog 356 #[.slice (some ⟨g, o, none⟩) l.length cap, .int .i64 (k : Nat), .int .i64 ((k : Int) + 1)] w fun e w' =>
      e = .returned (.slice (some ⟨g, o, none⟩) (l.length - 1) cap) ∧
      Own w' 251 3 (.slice (some ⟨g, o, none⟩) (l.length - 1) cap) (l.length - 1) (tpCells (l.take k ++ l.drop (k + 1))) ∧ Chg [g] w w' := by
  obtain ⟨hlen, ⟨hv0, _⟩ | ⟨g', o', cp, cur, hv1, hg, hnc, hm, hsz, hxs⟩⟩ := id ho
  · simp at hv0
  simp only [Value.slice.injEq, Option.some.injEq, Addr.mk.injEq, true_and, and_true] at hv1
  obtain ⟨⟨rfl, rfl⟩, rfl⟩ := hv1
  obtain ⟨oa, hoa⟩ : ∃ oa, oa = if k + 1 = cap then o else o + (k + 1) * 3 := ⟨_, rfl⟩
  have hrest0 : Rd w 3 (.slice (some ⟨g, o + (k + 1) * 3, none⟩) (l.length - (k + 1)) (cap - (k + 1))) (l.length - (k + 1)) (tpCells (l.drop (k + 1))) := by
    refine ⟨by rw [tpCells_len, List.length_drop], _, _, rfl, .inr ⟨g, o + (k + 1) * 3, rfl, fun j hj => ?_⟩⟩
    have hb : Blk w g cur 251 := hg
    rw [hb.cell, Nat.add_assoc]
    have e : tpCells l = tpCells (l.take (k + 1)) ++ tpCells (l.drop (k + 1)) := by rw [← tpCells_append, List.take_append_drop]
    have hlk : (tpCells (l.take (k + 1))).length = (k + 1) * 3 := by rw [tpCells_len, List.length_take, Nat.min_eq_left (by omega)]
    have h1 : (tpCells l)[(k + 1) * 3 + j]? = (tpCells (l.drop (k + 1)))[j]? := by
      rw [e, List.getElem?_append_right (by omega), hlk, Nat.add_sub_cancel_left]
    rw [← h1, ← hxs, List.getElem?_take, if_pos (by omega), List.getElem?_drop, Array.getElem?_toList]
  have hrest : Rd w 3 (.slice (some ⟨g, oa, none⟩) (l.length - (k + 1)) (cap - (k + 1))) (l.length - (k + 1)) (tpCells (l.drop (k + 1))) := by
    by_cases hkc : k + 1 = cap
    · refine ⟨by rw [tpCells_len, List.length_drop], _, _, rfl, .inl (by omega)⟩
    · rw [hoa, if_neg hkc]
      exact hrest0
  have hsplit : tpCells l = tpCells (l.take k) ++ tpCells [l[k]] ++ tpCells (l.drop (k + 1)) := by
    rw [← tpCells_append, ← tpCells_append]
    congr 1
    rw [List.append_assoc, List.singleton_append, ← List.drop_eq_getElem_cons hk, List.take_append_drop]
  have hA : (tpCells (l.take k)).length = k * 3 := by rw [tpCells_len, List.length_take, Nat.min_eq_left (by omega)]
  have hB : (tpCells (l.drop (k + 1))).length = (l.length - (k + 1)) * 3 := by rw [tpCells_len, List.length_drop]
  obtain ⟨i0, hi0, _, hzs, _⟩ := info_parts info_tuple
  have happ : ∀ ty, (Builtin.append_ #[227, 227] ty #[.slice (some ⟨g, o, none⟩) k cap, .slice (some ⟨g, oa, none⟩) (l.length - (k + 1)) (cap - (k + 1))]).run Tryz.prog w.drew = _ := fun ty =>
    run_append_fit w.drew 227 227 ty 251 i0 3 under_tuples hi0 hzs g o k cap cur hg _ _ _ (Src.of_rd under_tuples (show Rd w.drew 3 _ _ _ from hrest)) (tpCells_oneCell _) (by omega) hsz
  obtain ⟨C, hC⟩ : ∃ C, C = cur.toList := ⟨_, rfl⟩
  have hCl : C.length = cur.size := by rw [hC, Array.length_toList]
  have hcut := cut_rows C (tpCells (l.take k)) (tpCells [l[k]]) (tpCells (l.drop (k + 1))) o (k * 3) 3 ((l.length - (k + 1)) * 3) hA hB rfl (by rw [← hsplit, ← hxs, hC]; congr 1; omega) (by omega)
  rw [hB, ← hC] at happ
  obtain ⟨hR1, hR2⟩ := hcut
  have hbR := setRow_heap w.drew g cur (C.take (o + k * 3) ++ tpCells (l.drop (k + 1)) ++ C.drop (o + k * 3 + (l.length - (k + 1)) * 3)).toArray 251 (0, 0) hg
  have hcR : Chg [g] w (w.drew.setRow g (C.take (o + k * 3) ++ tpCells (l.drop (k + 1)) ++ C.drop (o + k * 3 + (l.length - (k + 1)) * 3)).toArray) := (Chg.drew (Chg.refl [g] w)).setRow (.inl (by simp)) _
  generalize hRR : (C.take (o + k * 3) ++ tpCells (l.drop (k + 1)) ++ C.drop (o + k * 3 + (l.length - (k + 1)) * 3)) = R at *
  generalize w.drew.setRow g R.toArray = w1 at *
  have hpad := pad_rows R _ z3 o (k * 3 + (l.length - (k + 1)) * 3) 3 rfl hR2 (by have : z3.length = 3 := rfl; omega)
  obtain ⟨hP1, hP2⟩ := hpad
  have hclr := fun ty c => run_clear_tuple w1 ty g (o + (k * 3 + (l.length - (k + 1)) * 3)) c R.toArray hbR (by simp only [List.size_toArray]; omega)
  have hbP := setRow_heap w1 g R.toArray (R.take (o + (k * 3 + (l.length - (k + 1)) * 3)) ++ z3 ++ R.drop (o + (k * 3 + (l.length - (k + 1)) * 3) + 3)).toArray 251 (0, 0) hbR
  have hcP : Chg [g] w (w1.setRow g (R.take (o + (k * 3 + (l.length - (k + 1)) * 3)) ++ z3 ++ R.drop (o + (k * 3 + (l.length - (k + 1)) * 3) + 3)).toArray) := hcR.setRow (.inl (by simp)) _
  generalize hPP : (R.take (o + (k * 3 + (l.length - (k + 1)) * 3)) ++ z3 ++ R.drop (o + (k * 3 + (l.length - (k + 1)) * 3) + 3)) = PP at *
  have hfin : Own (w1.setRow g PP.toArray) 251 3 (.slice (some ⟨g, o, none⟩) (l.length - 1) cap) (l.length - 1) (tpCells (l.take k ++ l.drop (k + 1))) := by
    refine ⟨by rw [tpCells_len]; simp; omega, .inr ⟨g, o, cap, _, rfl, hbP, by omega, hm, by simp only [List.size_toArray]; omega, ?_⟩⟩
    rw [tpCells_append, ← hP2]
    congr 1
    omega
  generalize w1.setRow g PP.toArray = w2 at *
  have HF := Lib.hid (And.intro hfin hcP)
  have HA := Lib.hid happ
  have HC := Lib.hid hclr
  have hk0 : (0 : Int) ≤ (k : Int) := by omega
  have hk1 : (0 : Int) ≤ (k : Int) + 1 := by omega
  have hk2 : (k : Int) + 1 ≤ (l.length : Int) := by omega
  have hk3 : (k : Int) ≤ (l.length : Int) := by omega
  have hk4 : (k : Int) ≤ (k : Int) + 1 := by omega
  have hkne : ((k : Int) == (k : Int) + 1) = false := by simp; omega
  have htn : ((k : Int) + 1).toNat = k + 1 := by omega
  have hln : ((k + (l.length - (k + 1)) : Nat) : Int) = ((l.length - 1 : Nat) : Int) := by omega
  clear hfin hcP happ hclr hsplit hA hB hR1 hR2 hbR hcR hRR hP1 hP2 hbP hPP hxs hCl hrest hrest0 hg hm hlen hi0 hzs
  go_enter Tryz.func356, Tryz.ntmps356
  by_cases hkc : k + 1 = cap
  · rw [if_pos hkc] at hoa
    subst hkc
    subst hoa
    have hll : l.length = k + 1 := by omega
    have HA1 := Lib.hid (show ∀ ty, (Builtin.append_ #[227, 227] ty #[.slice (some ⟨g, oa, none⟩) k (k + 1), .slice (some ⟨g, oa, none⟩) 0 0]).run Tryz.prog w.drew = .ok (.slice (some ⟨g, oa, none⟩) k (k + 1)) w1 from fun ty => by
      have h := HA.out ty
      rw [show l.length - (k + 1) = 0 from by omega, show k + 1 - (k + 1) = 0 from by omega, Nat.add_zero] at h
      exact h)
    have HC1 := Lib.hid (show ∀ ty c, (Builtin.clear_ #[227] ty #[.slice (some ⟨g, oa + k * 3, none⟩) (l.length - k) c]).run Tryz.prog w1 = .ok (.tuple #[]) w2 from fun ty c => by
      have h := HC.out ty c
      rw [show l.length - (k + 1) = 0 from by omega, Nat.zero_mul, Nat.add_zero] at h
      rw [show l.length - k = 1 from by omega]
      exact h)
    rw [show l.length - 1 = k from by omega] at HF ⊢
    clear HA HC hll
    have hz : ¬ (k + 1 = k) := by omega
    have hz0 : k + 1 - (k + 1) = 0 := by omega
    have hz1 : l.length - (k + 1) = 0 := by omega
    have hkl2 : k ≤ l.length := by omega
    go_wp2
    go_region_law (refine step_append_runK rfl _ _ 227 227 rfl _ _ (by simp [Act.eval, Act.put]) (by simp [Act.eval, Act.put]) (HA1.out _) ?_)
    go_wp2_with (with_reducible refine wpList_clear_runK rfl (.tmp 31) 227 rfl _ rfl (HC1.out _ _) ?_)
    go_ret
    exact ⟨rfl, HF.out.1, HF.out.2⟩
  · rw [if_neg hkc] at hoa
    subst hoa
    have hkc2 : ¬ (cap = k + 1) := fun h => hkc h.symm
    have hkc3 : k ≤ cap := by omega
    have HA1 := Lib.hid (show ∀ ty, (Builtin.append_ #[227, 227] ty #[.slice (some ⟨g, o, none⟩) k cap, .slice (some ⟨g, o + (k + 1) * 3, none⟩) (l.length - (k + 1)) (cap - (k + 1))]).run Tryz.prog w.drew = .ok (.slice (some ⟨g, o, none⟩) (l.length - 1) cap) w1 from fun ty => by
      have h := HA.out ty
      rw [show k + (l.length - (k + 1)) = l.length - 1 from by omega] at h
      exact h)
    have HC1 := Lib.hid (show ∀ ty c, (Builtin.clear_ #[227] ty #[.slice (some ⟨g, o + (l.length - 1) * 3, none⟩) (l.length - (l.length - 1)) c]).run Tryz.prog w1 = .ok (.tuple #[]) w2 from fun ty c => by
      have h := HC.out ty c
      rw [show k * 3 + (l.length - (k + 1)) * 3 = (l.length - 1) * 3 from by omega] at h
      rw [show l.length - (l.length - 1) = 1 from by omega]
      exact h)
    clear HA HC
    have hm1 : ¬ (cap = l.length - 1) := by omega
    have hm2 : l.length - 1 ≤ l.length := by omega
    have hm3 : l.length - 1 ≤ cap := by omega
    go_wp2
    go_region_law (refine step_append_runK rfl _ _ 227 227 rfl _ _ (by simp [Act.eval, Act.put]) (by simp [Act.eval, Act.put]) (HA1.out _) ?_)
    go_wp2_with (with_reducible refine wpList_clear_runK rfl (.tmp 31) 227 rfl _ rfl (HC1.out _ _) ?_)
    go_ret
    exact ⟨rfl, HF.out.1, HF.out.2⟩
end Go.Proofs.YtmehcfocfljoeaaGreatDoor

namespace Go.Proofs.YtmehcfocfljoeaaGreatDoor
open Go.RowKit

/-- By a goto to label l: J l; else as Q. -/
def jumps (J : Nat → Act → World → Prop) (Q : Exit → Act → World → Prop) : Exit → Act → World → Prop
  | .goto l, a, w => J l a w
  | e, a, w => Q e a w
section
variable {J : Nat → Act → World → Prop} {Q : Exit → Act → World → Prop} {a : Act} {w : World}
@[go_sem] theorem jumps_goto (l : Nat) : jumps J Q (.goto l) a w = J l a w := rfl
@[go_sem] theorem jumps_normal : jumps J Q .normal a w = Q .normal a w := rfl
@[go_sem] theorem jumps_exit (id : Nat) : jumps J Q (.exit id) a w = Q (.exit id) a w := rfl
@[go_sem] theorem jumps_ret : jumps J Q .ret a w = Q .ret a w := rfl
@[go_sem] theorem jumps_panic (ch : List PanicEntry) : jumps J Q (.panic ch) a w = Q (.panic ch) a w := rfl

theorem wp_scope_labels {P : Program} {c : Code} (J : Nat → Act → World → Prop) (μ : Nat → Act → World → Nat)
    (first : c.wp P (jumps J Q) a w)
    (pass : ∀ l a w, J l a w → ∃ R, findLabel c l = some (.seq .skip R) ∧ R.wp P (jumps (fun l' a' w' => J l' a' w' ∧ μ l' a' w' < μ l a w) Q) a w) : (Code.scope c).wp P Q a w := by
  intro b k cs
  have hg : ∀ l rest, findLabel c l = some rest → gotoIn l (.inScope c :: k) = some (.code rest :: .inScope c :: k) := fun l rest hf => by simp [gotoIn, hf]
  have key : ∀ n l a w rest, μ l a w = n → J l a w → findLabel c l = some rest → ∃ e a' w', Q e a' w' ∧ Arrives P (lone (b.at a (.code rest :: .inScope c :: k)) cs w) b k cs e a' w' := by
    intro n
    induction n using Nat.strongRecOn with
    | _ n ih =>
      intro l a w rest hn hJ hf
      obtain ⟨R, hf', hp0⟩ := pass l a w hJ
      rw [hf] at hf'
      obtain rfl := Option.some.inj hf'
      have hp := wp_seq (x := Code.skip) (y := R) (wp_skip (P := P) (Q := Exit.then (R.wp P _) _) (a := a) (w := w) hp0)
      obtain ⟨e, a₁, w₁, hq, harr⟩ := hp b (.inScope c :: k) cs
      cases e with
      | normal => exact ⟨.normal, a₁, w₁, hq, Steps.trans harr (.one step_inScope)⟩
      | exit id => exact ⟨.exit id, a₁, w₁, hq, fun k' hk => harr k' (by simp [exitTo, hk])⟩
      | goto l' =>
        obtain ⟨hJ', hlt⟩ := hq
        obtain ⟨rest2, hf2, _⟩ := pass l' a₁ w₁ hJ'
        obtain ⟨e₂, a₂, w₂, hq₂, harr₂⟩ := ih _ (by omega) l' a₁ w₁ _ rfl hJ' hf2
        exact ⟨e₂, a₂, w₂, hq₂, .of_steps (harr _ (hg l' _ hf2)) harr₂⟩
      | ret => exact ⟨_, a₁, w₁, hq, harr⟩
      | panic ch => exact ⟨_, a₁, w₁, hq, harr⟩
      | outgrown => exact ⟨_, a₁, w₁, hq, harr⟩
  obtain ⟨e, a₁, w₁, hq, harr⟩ := first b (.inScope c :: k) cs
  cases e with
  | normal => exact ⟨.normal, a₁, w₁, hq, .head step_scope (Steps.trans harr (.one step_inScope))⟩
  | exit id => exact ⟨.exit id, a₁, w₁, hq, fun k' hk => .head step_scope (harr k' (by simp [exitTo, hk]))⟩
  | goto l' =>
    obtain ⟨rest2, hf2, _⟩ := pass l' a₁ w₁ hq
    obtain ⟨e₂, a₂, w₂, hq₂, harr₂⟩ := key _ l' a₁ w₁ _ rfl hq hf2
    exact ⟨e₂, a₂, w₂, hq₂, .of_steps (.head step_scope (harr _ (hg l' _ hf2))) harr₂⟩
  | ret => exact ⟨_, a₁, w₁, hq, .of_steps (.one step_scope) harr⟩
  | panic ch => exact ⟨_, a₁, w₁, hq, .of_steps (.one step_scope) harr⟩
  | outgrown => exact ⟨_, a₁, w₁, hq, .of_steps (.one step_scope) harr⟩
end
end Go.Proofs.YtmehcfocfljoeaaGreatDoor

namespace Go.Proofs.YtmehcfocfljoeaaGreatDoor
open Go.RowKit

def sqFrame (ao : Option Addr) (n cap m : Nat) (i : Int) (f : Nat → Value) : Act :=
  { tmps := #[.slice ao n cap, .int .u64 m, undef, undef, .slice none 0 0, .int .i64 i, f 6, f 7, f 8, f 9, f 10, f 11, f 12, f 13, f 14, f 15, f 16, f 17, f 18, f 19, f 20, f 21, f 22, f 23, f 24, f 25, f 26, f 27, f 28, f 29, f 30, f 31, f 32, f 33, f 34, f 35, f 36, f 37, f 38, f 39, f 40, f 41, f 42, f 43, f 44, f 45, f 46, f 47, f 48, f 49, f 50, f 51], defers := [] }
/-- What holds where the label stands. -/
def sqJ (w : World) (ao : Option Addr) (cap m N : Nat) (l : List Tp) : Nat → Act → World → Prop
  | 0, a, w' => ∃ (i : Int) (r : List Tp), a = sqFrame ao r.length cap m i (fun k => a.tmps.getD k undef) ∧ -2 ≤ i ∧ (1 ≤ i → i + 1 < r.length) ∧ r.length ≤ 100000 ∧ FineT r N ∧ sqTo m i.toNat r = sqT m l ∧
      Own w' 251 3 (.slice ao r.length cap) r.length (tpCells r) ∧ Chg (abl ao) w w'
  | _, _, _ => False
def sqM : Nat → Act → World → Nat := fun _ a _ => (intOf (a.tmps.getD 5 undef) + 2).toNat

/-- Of a row that is fine no sum of two that stand side by side is above its total. -/
theorem FineT.two {row : List Tp} {n i : Nat} (h : FineT row n) (hi : i + 1 < row.length) : row[i].st + row[i + 1].st + row[i + 1].sl ≤ n := by
  have e : row = row.take i ++ row[i] :: row[i + 1] :: row.drop (i + 2) := by
    have h1 := List.take_append_drop i row
    rw [List.drop_eq_getElem_cons (by omega), List.drop_eq_getElem_cons hi] at h1
    exact h1.symm
  have hs := h.high
  rw [e, spF_app] at hs
  have := hs ⟨row[i + 1].x, 0 + tot (row.take i) + row[i].st + row[i + 1].st, 0 + tot (row.take i) + row[i].st + row[i + 1].st + row[i + 1].sl⟩ (by simp [spF])
  simp only at this
  omega
theorem FineT.one {row : List Tp} {n i : Nat} (h : FineT row n) (hi : i < row.length) : row[i].st + row[i].sl ≤ n := by
  have e : row = row.take i ++ row[i] :: row.drop (i + 1) := by
    have h1 := List.take_append_drop i row
    rw [List.drop_eq_getElem_cons hi] at h1
    exact h1.symm
  have hs := h.high
  rw [e, spF_app] at hs
  have := hs ⟨row[i].x, 0 + tot (row.take i) + row[i].st, 0 + tot (row.take i) + row[i].st + row[i].sl⟩ (by simp [spF])
  simp only at this
  omega
theorem tpCells_setStep (l : List Tp) (n : Nat) (hn : n < l.length) (c : Nat) : tpCells (l.set n ⟨l[n].x, c, l[n].sl⟩) = (tpCells l).set (n * 3 + 1) (.int .u64 c) := by
  induction l generalizing n with
  | nil => simp at hn
  | cons p l ih =>
    cases n with
    | zero => simp [tpCells, Tp.cells]
    | succ n =>
      have := ih n (by simpa using hn)
      simp only [tpCells, List.set_cons_succ, List.map_cons, List.flatten_cons, List.getElem_cons_succ] at this ⊢
      rw [this, show (n + 1) * 3 + 1 = (n * 3 + 1) + 3 from by omega]
      simp [Tp.cells]
theorem sqStep_yes {m i : Nat} {r : List Tp} (hi : i + 1 < r.length) (h : r[i].st + r[i + 1].st + r[i + 1].sl ≤ m) :
    sqStep m i r = (r.set (i + 1) ⟨r[i + 1].x, r[i + 1].st + r[i].st, r[i + 1].sl⟩).take i ++ (r.set (i + 1) ⟨r[i + 1].x, r[i + 1].st + r[i].st, r[i + 1].sl⟩).drop (i + 1) := by
  have g1 : r.getD i default = r[i] := by simp [List.getD, show i < r.length by omega]
  have g2 : r.getD (i + 1) default = r[i + 1] := by simp [List.getD, hi]
  rw [sqStep, g1, g2, if_pos h]
  rw [List.take_set_of_le (by omega), List.drop_set, if_neg (by omega), Nat.sub_self, List.append_assoc, List.drop_eq_getElem_cons hi]
  rfl
theorem sqStep_no {m i : Nat} {r : List Tp} (hi : i + 1 < r.length) (h : ¬ r[i].st + r[i + 1].st + r[i + 1].sl ≤ m) : sqStep m i r = r := by
  have g1 : r.getD i default = r[i] := by simp [List.getD, show i < r.length by omega]
  have g2 : r.getD (i + 1) default = r[i + 1] := by simp [List.getD, hi]
  rw [sqStep, g1, g2, if_neg h]

theorem sqTo_down (m k : Nat) (r : List Tp) (hk : 0 < k) : sqTo m k r = sqTo m (k - 1) (sqStep m k r) := by
  obtain ⟨j, rfl⟩ : ∃ j, k = j + 1 := ⟨k - 1, by omega⟩
  rfl
theorem delete_tuple' (w : World) (g o cap : Nat) (l : List Tp) (n : Nat) (hn : n = l.length) (k : Nat) (hk : k < n) (hl : n ≤ 100000) (ho : Own w 251 3 (.slice (some ⟨g, o, none⟩) n cap) n (tpCells l)) :
    Calls Tryz.prog 356 #[.slice (some ⟨g, o, none⟩) n cap, .int .i64 (k : Nat), .int .i64 ((k : Int) + 1)] w fun e w' =>
      e = .returned (.slice (some ⟨g, o, none⟩) (n - 1) cap) ∧
      Own w' 251 3 (.slice (some ⟨g, o, none⟩) (n - 1) cap) (n - 1) (tpCells (l.take k ++ l.drop (k + 1))) ∧ Chg [g] w w' := by
  subst hn
  exact delete_tuple w g o cap l k hk hl ho

set_option maxRecDepth 100000 in
set_option maxHeartbeats 2000000 in
theorem tup_squeeze (w : World) (ao : Option Addr) (cap : Nat) (l : List Tp) (m N : Nat) (_hm : m < 18446744073709551616) (hf : FineT l N) (hN : N ≤ 9223372036854775807) (hl : l.length ≤ 100000)
    (ho : Own w 251 3 (.slice ao l.length cap) l.length (tpCells l)) :
    Calls Tryz.prog 351 #[.slice ao l.length cap, .int .u64 m] w fun e w' => e = .returned (.slice ao (sqT m l).length cap) ∧
      Own w' 251 3 (.slice ao (sqT m l).length cap) (sqT m l).length (tpCells (sqT m l)) ∧ Chg (abl ao) w w' := by
  have HN := Lib.hid hN
  have HM := Lib.hid _hm
  clear hN _hm
  go_enter Tryz.func351, Tryz.ntmps351
  go_wp2
  refine (fun pass => wp_scope_labels (sqJ w ao cap m N l) sqM ?_ pass) ?_
  · go_wp2
    rename_i K hK
    refine wp_label (hK _ _ ?_)
    obtain ⟨R, hf0, hp⟩ := pass 0 (sqFrame ao l.length cap m ((l.length : Int) - 2) (fun k => (#[undef, undef, undef, undef, undef, undef, undef, .slice ao l.length cap, .int .i64 l.length, .int .i64 ((l.length : Int) - 2)] : Array Value).getD k undef)) w
      ⟨_, l, rfl, by omega, by omega, hl, hf, by rw [sqT]; congr 1; omega, ho, Chg.refl _ _⟩
    obtain rfl := (Code.seq.inj (Option.some.inj hf0)).2
    refine wp_mono hp (fun ex a1 w1 hq => ?_)
    cases ex <;> first | exact hq.1 | exact hq
  · intro lb a wr hJ
    match lb with
    | 0 =>
      obtain ⟨i, r, ha, hi2, hi1, hrl, hfr, hsq, hor, hch⟩ := hJ
      generalize (fun k => a.tmps.getD k undef) = f at ha
      subst ha
      refine ⟨_, rfl, ?_⟩
      have HQ := Lib.hid hsq
      clear hsq hf hl ho
      by_cases hlt : i < 1
      · have hd : decide (i < 1) = true := decide_eq_true hlt
        have HE := Lib.hid (show sqT m l = r from by
          have h := HQ.out
          rw [show i.toNat = 0 from by omega] at h
          exact h.symm)
        clear HQ hi1 hi2
        unfold sqFrame
        go_wp2
        go_ret
        rw [HE.out]
        exact ⟨rfl, hor, hch⟩
      · obtain ⟨k, rfl⟩ : ∃ k : Nat, i = (k : Int) := ⟨i.toNat, by omega⟩
        have hk1 : k + 1 < r.length := by have := hi1 (by omega); omega
        have hk0 : 0 < k := by omega
        rw [Int.toNat_natCast] at HQ
        obtain ⟨b, o, rfl, hc⟩ := hor.rd.addr (by omega)
        obtain ⟨c0, c1, c2⟩ := tp_at hc (show k < r.length by omega)
        obtain ⟨d0, d1, d2⟩ := tp_at hc hk1
        have hsum := hfr.two hk1
        have hN := HN.out
        have HT := Lib.hid (fun h => sqStep_yes (m := m) hk1 h)
        have HF := Lib.hid (fun h => sqStep_no (m := m) hk1 h)
        have HST := Lib.hid (hfr.step m k hk0 hk1)
        have HC := Lib.hid (tpCells_setStep r (k + 1) hk1)
        have hdd : decide ((k : Int) < 1) = false := decide_eq_false hlt
        have hkp : (0 : Int) ≤ (k : Int) := by omega
        have hkl : (k : Int) < (r.length : Int) := by omega
        have hkp1 : (0 : Int) ≤ (k : Int) + 1 := by omega
        have hkl1 : (k : Int) + 1 < (r.length : Int) := by omega
        have htn : ((k : Int) + 1).toNat = k + 1 := by omega
        have HR := Lib.hid hor
        have HFR := Lib.hid hfr
        have hbl := hor.lt b (by simp)
        clear hlt hi1 hi2 hc hor hfr
        generalize r[k] = p at *
        generalize r[k + 1] = q at *
        have hws : IntKind.u64.wrap ((p.st : Int) + (q.st : Int)) = (p.st : Int) + (q.st : Int) := IntWalk.u64_in _ (by omega)
        have hwt : IntKind.u64.wrap ((p.st : Int) + (q.st : Int) + (q.sl : Int)) = (p.st : Int) + (q.st : Int) + (q.sl : Int) := IntWalk.u64_in _ (by omega)
        have hkw : IntKind.i64.wrap ((k : Int) + 1) = (k : Int) + 1 := IntWalk.i64_in _ (by omega)
        unfold sqFrame
        go_wp2
        have hcW := (Chg.refl [] wr).alloc (.cells #[.int .i64 q.x, .int .u64 q.st, .int .u64 q.sl] 251)
        have c1' := hcW.cell c1 (by simp)
        have d1' := hcW.cell d1 (by simp)
        have hbx := Blk.alloc_new wr #[.int .i64 q.x, .int .u64 q.st, .int .u64 q.sl] 251
        have HO := Lib.hid (HR.out.chg hcW (by simp))
        have HCH := Lib.hid (hch.trans hcW.nil)
        generalize wr.alloc (.cells #[.int .i64 q.x, .int .u64 q.st, .int .u64 q.sl] 251) = W at *
        generalize wr.heap.size = B at *
        have e1 := hbx.cell 1
        have e2 := hbx.cell 2
        clear c0 c1 c2 d0 d1 d2 hbx hcW HR hch
        by_cases hle : p.st + q.st + q.sl ≤ m
        · have hdl : decide ((p.st : Int) + (q.st : Int) + (q.sl : Int) ≤ (m : Int)) = true := decide_eq_true (by omega)
          have HS := Lib.hid (HT.out hle)
          clear hle HT HF
          go_quiet (fail)
          have HO2 := Lib.hid (show Own (W.drewN nq) 251 3 _ _ _ from HO.out.chg ((Chg.refl [] W).drewN nq) (by simp))
          have HCH2 := Lib.hid (HCH.out.drewN nq)
          have c1'' : (W.drewN nq).cell? ⟨b, o + k * 3 + 1, none⟩ = _ := c1'
          have d1'' : (W.drewN nq).cell? ⟨b, o + (k + 1) * 3 + 1, none⟩ = _ := d1'
          generalize W.drewN nq = W2 at *
          clear c1' d1' e1 e2 HO HCH hws hwt
          have hfz := HO2.out.free (o + (k + 1) * 3 + 1)
          have hwu : IntKind.u64.wrap ((q.st : Int) + (p.st : Int)) = (q.st : Int) + (p.st : Int) := IntWalk.u64_in _ (by omega)
          go_wp2
          go_still_tail 14, (by kernel_rfl)
          change wpList _ _ _ _ _ (World.drew _)
          clear hwu hkw c1''
          have hoS0 := HO2.out.set ((k + 1) * 3 + 1) (.int .u64 ((q.st + p.st : Nat) : Int))
          rw [← HC.out (q.st + p.st), ← Nat.add_assoc o] at hoS0
          have hoS : Own (W2.setCell ⟨b, o + (k + 1) * 3 + 1, none⟩ (.int .u64 ((q.st : Int) + (p.st : Int)))) 251 3 (.slice (some ⟨b, o, none⟩) r.length cap) r.length (tpCells (r.set (k + 1) ⟨q.x, q.st + p.st, q.sl⟩)) := hoS0
          clear hoS0
          have HCS := Lib.hid (HCH2.out.setCell (a := ⟨b, o + (k + 1) * 3 + 1, none⟩) (.inl (by simp)) (.int .u64 ((q.st : Int) + (p.st : Int)))).drew
          clear HO2 HCH2 HC
          go_wp2_with fail
          refine (delete_tuple' _ b o cap (r.set (k + 1) ⟨q.x, q.st + p.st, q.sl⟩) r.length (by simp) k (by omega) hrl hoS.drew).mono ?_
          rintro e w7 ⟨rfl, ho7, hg7⟩
          rw [← HS.out] at ho7
          have hlen : (sqStep m k r).length = r.length - 1 := by rw [HS.out]; simp; omega
          have HL := Lib.hid hlen
          clear hlen hoS d1'' hfz
          go_wp2
          go_step3
          refine ⟨⟨_, sqStep m k r, by rw [HL.out]; rfl, by omega, by rw [HL.out]; omega, by rw [HL.out]; omega, HST.out, ?_, by rw [HL.out]; exact ho7, HCS.out.trans hg7⟩, by simp [sqM, intOf]; omega⟩
          rw [← HQ.out, show ((k : Int) - 1).toNat = k - 1 from by omega, ← sqTo_down m k r hk0]
        · have hdl : decide ((p.st : Int) + (q.st : Int) + (q.sl : Int) ≤ (m : Int)) = false := decide_eq_false (by omega)
          have HS := Lib.hid (HF.out hle)
          clear hle HT HF
          go_quiet (fail)
          go_wp2
          go_step3
          refine ⟨⟨_, r, rfl, by omega, by omega, hrl, HFR.out, ?_, HO.out, HCH.out.drewN nq⟩, by simp [sqM, intOf]; omega⟩
          rw [← HQ.out, show ((k : Int) - 1).toNat = k - 1 from by omega, sqTo_down m k r hk0, HS.out]
    | _ + 1 => exact hJ.elim
end Go.Proofs.YtmehcfocfljoeaaGreatDoor
