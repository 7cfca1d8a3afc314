/-
  The walk of slices.Delete at rows of tuples, one tuple taken away. Conditions: the form's own reach.
-/
import Derived.Test.YtlcoibhbdgdfcaaGreatDoorCoreLumpsB20
namespace Go.Proofs.YtlcoibhbdgdfcaaGreatDoor
open Go.RowKit

theorem step_append_runK {P : Program} {ops : Array Oper} {o : Oper} {a : Act} {w : World} {K : Act → World → Prop} {Q : Exit → Act → World → Prop} {E : Prop}
    (hg : o.guard = none) (d x : Operand) (dT sT : TypeId) (hop : o.op = Op.call { callee := Callee.builtin Builtin.append, args := #[d, x], argTypes := #[dT, sT] })
    (v u : Value) (hd : a.eval d = v) (hx : a.eval x = u) {v' : Value} {w' : World} (hr : (Builtin.append_ #[dT, sT] o.type #[v, u]).run P w = .ok v' w') (hK : K (a.put o.dst v') w') :
    if Region.wanted o (yielded ops a.tmps) = true then Oper.wp P o a w K Q else E := by
  have hw : Region.wanted o (yielded ops a.tmps) = true := by simp [Region.wanted, hg]
  rw [if_pos hw]
  unfold Oper.wp
  simp [execOp, hop, resolve, invoke, builtin, hd, hx, hr, Result.andThen]
  exact hK
theorem wpList_clear_runK {P : Program} {w : World} {ops : Array Oper} {rest : List Oper} {o : Oper} {a : Act} {Q : Exit → Act → World → Prop} (hgd : o.guard = none) (d : Operand) (dT : TypeId)
    (ho : o.op = .call { callee := .builtin .clear, args := #[d], argTypes := #[dT] }) (v : Value) (hd : a.eval d = v) {v' : Value} {w' : World}
    (hr : (Builtin.clear_ #[dT] o.type #[v]).run P w = .ok v' w') (h : wpList P ops Q rest (a.put o.dst v') w') : wpList P ops Q (o :: rest) a w := by
  refine wpList_plain hgd fun K hK => ?_
  unfold Oper.wp
  simp [execOp, ho, resolve, invoke, builtin, hd, hr, Result.andThen]
  exact hK _ _ h

/-- append where there is room: the row's own cells turn. -/
theorem run_append_fit {P : Program} (w : World) (t u ty e : TypeId) (i : TypeInfo) (size : Nat) (ht : P.underlying t = some (.slice e)) (hi : P.info? e = some i) (hsize : i.size = size)
    (g o n cap : Nat) (cur : Array Value) (hg : w.heap[g]? = some (.cells cur e (0, 0))) (x : Value) (m : Nat) (news : List Value) (hsrc : Src P w u size x m news) (h1 : ∀ y ∈ news, y.oneCell' = true)
    (hfit : n + m ≤ cap) (hroom : o + cap * size ≤ cur.size) :
    (Builtin.append_ #[t, u] ty #[.slice (some ⟨g, o, none⟩) n cap, x]).run P w =
      .ok (.slice (some ⟨g, o, none⟩) (n + m) cap) (w.setRow g (cur.toList.take (o + n * size) ++ news ++ cur.toList.drop (o + n * size + news.length)).toArray) := by
  subst hsize
  obtain ⟨hu, hlen, hl, hf, hfd⟩ := hsrc
  have hfit' : o + n * i.size + 0 + news.length ≤ cur.size := by
    have := Nat.mul_le_mul_right i.size hfit
    rw [Nat.add_mul] at this
    omega
  have hst := run_storeCells_at P g (o + n * i.size) e news 0 cur w hg hfit' h1
  simp only [Nat.add_zero] at hst
  have hadd : (⟨g, o, none⟩ : Addr).add (n * i.size) = ⟨g, o + n * i.size, none⟩ := by
    unfold Addr.add; split
    · simp_all
    · rfl
  rcases hu with ⟨e', hu⟩ | hu <;> simp [Builtin.append_, run_underlying ht, run_underlying hu, sizeOf, typeInfo, hi, hlen, hfit, hf, hadd, hst]

def z3 : List Value := [Value.int .i64 0, Value.int .u64 0, Value.int .u64 0]
theorem run_clear_tuple (w : World) (ty : TypeId) (g o c : Nat) (cur : Array Value) (hg : w.heap[g]? = some (.cells cur 188 (0, 0))) (hs : o + 3 ≤ cur.size) :
    (Builtin.clear_ #[186] ty #[.slice (some ⟨g, o, none⟩) 1 c]).run Tryz.prog w =
      .ok (.tuple #[]) (w.setRow g (cur.toList.take o ++ z3 ++ cur.toList.drop (o + 3)).toArray) := by
  obtain ⟨i0, hi0, hz0, hzs, hzb⟩ := info_parts info_tuple
  have hst := run_storeCells_at Tryz.prog g o 188 z3 0 cur w hg (by simpa [z3] using hs) (by simp [z3, Value.oneCell'])
  have hzc : (Builtin.zeroCells (Value.agg #[.int .i64 0, .int .u64 0, .int .u64 0]).cells 1).toList = z3 := by first | rfl | kernel_rfl | (simp [Builtin.zeroCells, z3, Value.cells]; rfl)
  simp only [Nat.add_zero] at hst
  have hz3 : z3.length = 3 := rfl
  rw [hz3] at hst
  simp [Builtin.clear_, run_underlying under_tuples, zeroValue, typeInfo, hi0, hz0, hzc, hst]

/-- What stands in a row behind a piece that is cut out. -/
theorem cut_rows {α : Type} (C A P B : List α) (o a e b : Nat) (hA : A.length = a) (hB : B.length = b) (hP : P.length = e) (hX : (C.drop o).take (a + e + b) = A ++ P ++ B) (hC : o + (a + e + b) ≤ C.length) :
    let R := C.take (o + a) ++ B ++ C.drop (o + a + b)
    R.length = C.length ∧ (R.drop o).take (a + b) = A ++ B := by
  intro R
  have hl0 : (C.take o).length = o := by rw [List.length_take]; omega
  have e0 : (C.drop o).take a = A := by
    have h : ((C.drop o).take (a + e + b)).take a = A := by
      rw [hX, List.append_assoc, ← hA]
      exact List.take_left
    rw [List.take_take, Nat.min_eq_left (by omega)] at h
    exact h
  have e1 : C.take (o + a) = C.take o ++ A := by rw [List.take_add, e0]
  have e2 : R = C.take o ++ (A ++ B ++ C.drop (o + a + b)) := by
    show C.take (o + a) ++ B ++ C.drop (o + a + b) = _
    rw [e1]
    simp only [List.append_assoc]
  refine ⟨?_, ?_⟩
  · show (C.take (o + a) ++ B ++ C.drop (o + a + b)).length = _
    simp only [List.length_append, List.length_take, List.length_drop]
    omega
  · rw [e2, drop_len hl0.symm]
    exact take_len (by simp only [List.length_append]; omega)
theorem pad_rows {α : Type} (C X Z : List α) (o n z : Nat) (hz : Z.length = z) (hX : (C.drop o).take n = X) (hC : o + n + z ≤ C.length) :
    let R := C.take (o + n) ++ Z ++ C.drop (o + n + z)
    R.length = C.length ∧ (R.drop o).take n = X := by
  intro R
  have hl0 : (C.take o).length = o := by rw [List.length_take]; omega
  have hXl : X.length = n := by rw [← hX, List.length_take, List.length_drop]; omega
  have e1 : C.take (o + n) = C.take o ++ X := by rw [List.take_add, hX]
  have e2 : R = C.take o ++ (X ++ (Z ++ C.drop (o + n + z))) := by
    show C.take (o + n) ++ Z ++ C.drop (o + n + z) = _
    rw [e1]
    simp only [List.append_assoc]
  refine ⟨?_, ?_⟩
  · show (C.take (o + n) ++ Z ++ C.drop (o + n + z)).length = _
    simp only [List.length_append, List.length_take, List.length_drop]
    omega
  · rw [e2, drop_len hl0.symm]
    exact take_len hXl.symm

set_option maxRecDepth 100000 in
set_option maxHeartbeats 1000000 in
theorem delete_tuple (w : World) (g o cap : Nat) (l : List Tp) (k : Nat) (hk : k < l.length) (hl : l.length ≤ 100000) (ho : Own w 188 3 (.slice (some ⟨g, o, none⟩) l.length cap) l.length (tpCells l)) :
    Calls Tryz.prog 299 #[.slice (some ⟨g, o, none⟩) l.length cap, .int .i64 (k : Nat), .int .i64 ((k : Int) + 1)] w fun e w' =>
      e = .returned (.slice (some ⟨g, o, none⟩) (l.length - 1) cap) ∧
      Own w' 188 3 (.slice (some ⟨g, o, none⟩) (l.length - 1) cap) (l.length - 1) (tpCells (l.take k ++ l.drop (k + 1))) ∧ Chg [g] w w' := by
  obtain ⟨hlen, ⟨hv0, _⟩ | ⟨g', o', cp, cur, hv1, hg, hnc, hm, hsz, hxs⟩⟩ := id ho
  · simp at hv0
  simp only [Value.slice.injEq, Option.some.injEq, Addr.mk.injEq, true_and, and_true] at hv1
  obtain ⟨⟨rfl, rfl⟩, rfl⟩ := hv1
  obtain ⟨oa, hoa⟩ : ∃ oa, oa = if k + 1 = cap then o else o + (k + 1) * 3 := ⟨_, rfl⟩
  have hrest0 : Rd w 3 (.slice (some ⟨g, o + (k + 1) * 3, none⟩) (l.length - (k + 1)) (cap - (k + 1))) (l.length - (k + 1)) (tpCells (l.drop (k + 1))) := by
    refine ⟨by rw [tpCells_len, List.length_drop], _, _, rfl, .inr ⟨g, o + (k + 1) * 3, rfl, fun j hj => ?_⟩⟩
    have hb : Blk w g cur 188 := hg
    rw [hb.cell, Nat.add_assoc]
    have e : tpCells l = tpCells (l.take (k + 1)) ++ tpCells (l.drop (k + 1)) := by rw [← tpCells_append, List.take_append_drop]
    have hlk : (tpCells (l.take (k + 1))).length = (k + 1) * 3 := by rw [tpCells_len, List.length_take, Nat.min_eq_left (by omega)]
    have h1 : (tpCells l)[(k + 1) * 3 + j]? = (tpCells (l.drop (k + 1)))[j]? := by
      rw [e, List.getElem?_append_right (by omega), hlk, Nat.add_sub_cancel_left]
    rw [← h1, ← hxs, List.getElem?_take, if_pos (by omega), List.getElem?_drop, Array.getElem?_toList]
  have hrest : Rd w 3 (.slice (some ⟨g, oa, none⟩) (l.length - (k + 1)) (cap - (k + 1))) (l.length - (k + 1)) (tpCells (l.drop (k + 1))) := by
    by_cases hkc : k + 1 = cap
    · refine ⟨by rw [tpCells_len, List.length_drop], _, _, rfl, .inl (by omega)⟩
    · rw [hoa, if_neg hkc]
      exact hrest0
  have hsplit : tpCells l = tpCells (l.take k) ++ tpCells [l[k]] ++ tpCells (l.drop (k + 1)) := by
    rw [← tpCells_append, ← tpCells_append]
    congr 1
    rw [List.append_assoc, List.singleton_append, ← List.drop_eq_getElem_cons hk, List.take_append_drop]
  have hA : (tpCells (l.take k)).length = k * 3 := by rw [tpCells_len, List.length_take, Nat.min_eq_left (by omega)]
  have hB : (tpCells (l.drop (k + 1))).length = (l.length - (k + 1)) * 3 := by rw [tpCells_len, List.length_drop]
  obtain ⟨i0, hi0, _, hzs, _⟩ := info_parts info_tuple
  have happ : ∀ ty, (Builtin.append_ #[186, 186] ty #[.slice (some ⟨g, o, none⟩) k cap, .slice (some ⟨g, oa, none⟩) (l.length - (k + 1)) (cap - (k + 1))]).run Tryz.prog w.drew = _ := fun ty =>
    run_append_fit w.drew 186 186 ty 188 i0 3 under_tuples hi0 hzs g o k cap cur hg _ _ _ (Src.of_rd under_tuples (show Rd w.drew 3 _ _ _ from hrest)) (tpCells_oneCell _) (by omega) hsz
  obtain ⟨C, hC⟩ : ∃ C, C = cur.toList := ⟨_, rfl⟩
  have hCl : C.length = cur.size := by rw [hC, Array.length_toList]
  have hcut := cut_rows C (tpCells (l.take k)) (tpCells [l[k]]) (tpCells (l.drop (k + 1))) o (k * 3) 3 ((l.length - (k + 1)) * 3) hA hB rfl (by rw [← hsplit, ← hxs, hC]; congr 1; omega) (by omega)
  rw [hB, ← hC] at happ
  obtain ⟨hR1, hR2⟩ := hcut
  have hbR := setRow_heap w.drew g cur (C.take (o + k * 3) ++ tpCells (l.drop (k + 1)) ++ C.drop (o + k * 3 + (l.length - (k + 1)) * 3)).toArray 188 (0, 0) hg
  have hcR : Chg [g] w (w.drew.setRow g (C.take (o + k * 3) ++ tpCells (l.drop (k + 1)) ++ C.drop (o + k * 3 + (l.length - (k + 1)) * 3)).toArray) := (Chg.drew (Chg.refl [g] w)).setRow (.inl (by simp)) _
  generalize hRR : (C.take (o + k * 3) ++ tpCells (l.drop (k + 1)) ++ C.drop (o + k * 3 + (l.length - (k + 1)) * 3)) = R at *
  generalize w.drew.setRow g R.toArray = w1 at *
  have hpad := pad_rows R _ z3 o (k * 3 + (l.length - (k + 1)) * 3) 3 rfl hR2 (by have : z3.length = 3 := rfl; omega)
  obtain ⟨hP1, hP2⟩ := hpad
  have hclr := fun ty c => run_clear_tuple w1 ty g (o + (k * 3 + (l.length - (k + 1)) * 3)) c R.toArray hbR (by simp only [List.size_toArray]; omega)
  have hbP := setRow_heap w1 g R.toArray (R.take (o + (k * 3 + (l.length - (k + 1)) * 3)) ++ z3 ++ R.drop (o + (k * 3 + (l.length - (k + 1)) * 3) + 3)).toArray 188 (0, 0) hbR
  have hcP : Chg [g] w (w1.setRow g (R.take (o + (k * 3 + (l.length - (k + 1)) * 3)) ++ z3 ++ R.drop (o + (k * 3 + (l.length - (k + 1)) * 3) + 3)).toArray) := hcR.setRow (.inl (by simp)) _
  generalize hPP : (R.take (o + (k * 3 + (l.length - (k + 1)) * 3)) ++ z3 ++ R.drop (o + (k * 3 + (l.length - (k + 1)) * 3) + 3)) = PP at *
  have hfin : Own (w1.setRow g PP.toArray) 188 3 (.slice (some ⟨g, o, none⟩) (l.length - 1) cap) (l.length - 1) (tpCells (l.take k ++ l.drop (k + 1))) := by
    refine ⟨by rw [tpCells_len]; simp; omega, .inr ⟨g, o, cap, _, rfl, hbP, by omega, hm, by simp only [List.size_toArray]; omega, ?_⟩⟩
    rw [tpCells_append, ← hP2]
    congr 1
    omega
  generalize w1.setRow g PP.toArray = w2 at *
  have HF := Lib.hid (And.intro hfin hcP)
  have HA := Lib.hid happ
  have HC := Lib.hid hclr
  have hk0 : (0 : Int) ≤ (k : Int) := by omega
  have hk1 : (0 : Int) ≤ (k : Int) + 1 := by omega
  have hk2 : (k : Int) + 1 ≤ (l.length : Int) := by omega
  have hk3 : (k : Int) ≤ (l.length : Int) := by omega
  have hk4 : (k : Int) ≤ (k : Int) + 1 := by omega
  have hkne : ((k : Int) == (k : Int) + 1) = false := by simp; omega
  have htn : ((k : Int) + 1).toNat = k + 1 := by omega
  have hln : ((k + (l.length - (k + 1)) : Nat) : Int) = ((l.length - 1 : Nat) : Int) := by omega
  clear hfin hcP happ hclr hsplit hA hB hR1 hR2 hbR hcR hRR hP1 hP2 hbP hPP hxs hCl hrest hrest0 hg hm hlen hi0 hzs
  go_enter Tryz.func299, Tryz.ntmps299
  by_cases hkc : k + 1 = cap
  · rw [if_pos hkc] at hoa
    subst hkc
    subst hoa
    have hll : l.length = k + 1 := by omega
    have HA1 := Lib.hid (show ∀ ty, (Builtin.append_ #[186, 186] ty #[.slice (some ⟨g, oa, none⟩) k (k + 1), .slice (some ⟨g, oa, none⟩) 0 0]).run Tryz.prog w.drew = .ok (.slice (some ⟨g, oa, none⟩) k (k + 1)) w1 from fun ty => by
      have h := HA.out ty
      rw [show l.length - (k + 1) = 0 from by omega, show k + 1 - (k + 1) = 0 from by omega, Nat.add_zero] at h
      exact h)
    have HC1 := Lib.hid (show ∀ ty c, (Builtin.clear_ #[186] ty #[.slice (some ⟨g, oa + k * 3, none⟩) (l.length - k) c]).run Tryz.prog w1 = .ok (.tuple #[]) w2 from fun ty c => by
      have h := HC.out ty c
      rw [show l.length - (k + 1) = 0 from by omega, Nat.zero_mul, Nat.add_zero] at h
      rw [show l.length - k = 1 from by omega]
      exact h)
    rw [show l.length - 1 = k from by omega] at HF ⊢
    clear HA HC hll
    have hz : ¬ (k + 1 = k) := by omega
    have hz0 : k + 1 - (k + 1) = 0 := by omega
    have hz1 : l.length - (k + 1) = 0 := by omega
    have hkl2 : k ≤ l.length := by omega
    go_wp2
    go_region_law (refine step_append_runK rfl _ _ 186 186 rfl _ _ (by simp [Act.eval, Act.put]) (by simp [Act.eval, Act.put]) (HA1.out _) ?_)
    go_wp2_with (with_reducible refine wpList_clear_runK rfl (.tmp 31) 186 rfl _ rfl (HC1.out _ _) ?_)
    go_ret
    exact ⟨rfl, HF.out.1, HF.out.2⟩
  · rw [if_neg hkc] at hoa
    subst hoa
    have hkc2 : ¬ (cap = k + 1) := fun h => hkc h.symm
    have hkc3 : k ≤ cap := by omega
    have HA1 := Lib.hid (show ∀ ty, (Builtin.append_ #[186, 186] ty #[.slice (some ⟨g, o, none⟩) k cap, .slice (some ⟨g, o + (k + 1) * 3, none⟩) (l.length - (k + 1)) (cap - (k + 1))]).run Tryz.prog w.drew = .ok (.slice (some ⟨g, o, none⟩) (l.length - 1) cap) w1 from fun ty => by
      have h := HA.out ty
      rw [show k + (l.length - (k + 1)) = l.length - 1 from by omega] at h
      exact h)
    have HC1 := Lib.hid (show ∀ ty c, (Builtin.clear_ #[186] ty #[.slice (some ⟨g, o + (l.length - 1) * 3, none⟩) (l.length - (l.length - 1)) c]).run Tryz.prog w1 = .ok (.tuple #[]) w2 from fun ty c => by
      have h := HC.out ty c
      rw [show k * 3 + (l.length - (k + 1)) * 3 = (l.length - 1) * 3 from by omega] at h
      rw [show l.length - (l.length - 1) = 1 from by omega]
      exact h)
    clear HA HC
    have hm1 : ¬ (cap = l.length - 1) := by omega
    have hm2 : l.length - 1 ≤ l.length := by omega
    have hm3 : l.length - 1 ≤ cap := by omega
    go_wp2
    go_region_law (refine step_append_runK rfl _ _ 186 186 rfl _ _ (by simp [Act.eval, Act.put]) (by simp [Act.eval, Act.put]) (HA1.out _) ?_)
    go_wp2_with (with_reducible refine wpList_clear_runK rfl (.tmp 31) 186 rfl _ rfl (HC1.out _ _) ?_)
    go_ret
    exact ⟨rfl, HF.out.1, HF.out.2⟩
end Go.Proofs.YtlcoibhbdgdfcaaGreatDoor
