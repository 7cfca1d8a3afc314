/-
  'copy' of rows whose elements have several cells. Conditions: none.
  What insertions of all kinds share: copies of cells, rows that are shifted. Conditions: none.
-/
import Derived.Test.YtlcoibhbdgdfcaaGreatDoorCoreLumpsB1
import Derived.Laws.CopyOwn
import Derived.Deep.RegionLaw
namespace Go.Proofs.YtlcoibhbdgdfcaaGreatDoor
open Go.RowKit

theorem run_copy_rowK {P : Program} (w : World) (dT sT ty elem : TypeId) (size g o dLen dCap : Nat) (a : Addr) (sLen sCap : Nat) (cur : Array Value) (t : TypeId) (cs : List Value)
    (hu : P.underlying dT = some (.slice elem)) (hs : (P.info? elem).map (·.size) = some size)
    (hg : w.heap[g]? = some (.cells cur t (0, 0))) (hn : cs.length = Nat.min sLen dLen * size)
    (hsrc : ∀ j v, cs[j]? = some v → w.cell? (a.add j) = some v) (hfit : o + cs.length ≤ cur.size) (h1 : ∀ v ∈ cs, v.oneCell' = true) :
    (Builtin.copy_ #[dT, sT] ty #[.slice (some ⟨g, o, none⟩) dLen dCap, .slice (some a) sLen sCap]).run P w =
      .ok (goInt (Nat.min sLen dLen)) (w.setRow g (cur.toList.take o ++ cs ++ cur.toList.drop (o + cs.length)).toArray) := by
  have hl := run_loadCells_list (P := P) w a cs hsrc
  have hst := run_storeCells_at P g o t cs 0 cur w hg (by simpa using hfit) h1
  cases hq : P.info? elem with
  | none => simp [hq] at hs
  | some i =>
    have hi : i.size = size := by simpa [hq] using hs
    simp [Builtin.copy_, run_underlying hu, Builtin.lenOf, Builtin.firstCells, sizeOf, typeInfo, hq, hi, ← hn, hl, hst]
theorem wpList_copy_rowK {P : Program} {w : World} {ops : Array Oper} {rest : List Oper} {o : Oper} {a : Act} {Q : Exit → Act → World → Prop} (hgd : o.guard = none) (d s : Operand) (dT sT : TypeId)
    (ho : o.op = .call { callee := .builtin .copy, args := #[d, s], argTypes := #[dT, sT] }) (v u : Value) (hd : a.eval d = v) (hs : a.eval s = u) {v' : Value} {w' : World}
    (hr : (Builtin.copy_ #[dT, sT] o.type #[v, u]).run P w = .ok v' w') (h : wpList P ops Q rest (a.put o.dst v') w') : wpList P ops Q (o :: rest) a w := by
  refine wpList_plain hgd fun K hK => ?_
  unfold Oper.wp
  simp [execOp, ho, resolve, invoke, builtin, hd, hs, hr, Result.andThen]
  exact hK _ _ h
end Go.Proofs.YtlcoibhbdgdfcaaGreatDoor

namespace Go.Proofs.YtlcoibhbdgdfcaaGreatDoor
open Go.RowKit

theorem step_copy_rowK {P : Program} {ops : Array Oper} {o : Oper} {a : Act} {w : World} {K : Act → World → Prop} {Q : Exit → Act → World → Prop} {E : Prop}
    (hg : o.guard = none) (d x : Operand) (dT sT : TypeId) (hop : o.op = Op.call { callee := Callee.builtin Builtin.copy, args := #[d, x], argTypes := #[dT, sT] })
    (v u : Value) (hd : a.eval d = v) (hx : a.eval x = u) {v' : Value} {w' : World} (hr : (Builtin.copy_ #[dT, sT] o.type #[v, u]).run P w = .ok v' w') (hK : K (a.put o.dst v') w') :
    if Region.wanted o (yielded ops a.tmps) = true then Oper.wp P o a w K Q else E := by
  have hw : Region.wanted o (yielded ops a.tmps) = true := by simp [Region.wanted, hg]
  rw [if_pos hw]
  unfold Oper.wp
  simp [execOp, hop, resolve, invoke, builtin, hd, hx, hr, Result.andThen]
  exact hK
theorem wpList_append_runK {P : Program} {w : World} {ops : Array Oper} {rest : List Oper} {o : Oper} {a : Act} {Q : Exit → Act → World → Prop} (hgd : o.guard = none) (d s : Operand) (dT sT : TypeId)
    (ho : o.op = .call { callee := .builtin .append, args := #[d, s], argTypes := #[dT, sT] }) (v u : Value) (hd : a.eval d = v) (hs : a.eval s = u) {v' : Value} {w' : World}
    (hr : (Builtin.append_ #[dT, sT] o.type #[v, u]).run P w = .ok v' w') (h : wpList P ops Q rest (a.put o.dst v') w') : wpList P ops Q (o :: rest) a w := by
  refine wpList_plain hgd fun K hK => ?_
  unfold Oper.wp
  simp [execOp, ho, resolve, invoke, builtin, hd, hs, hr, Result.andThen]
  exact hK _ _ h

theorem take_len {α : Type} {x y : List α} {n : Nat} (h : n = x.length) : (x ++ y).take n = x := by rw [h, List.take_left]
theorem drop_len {α : Type} {x y : List α} {n : Nat} (h : n = x.length) : (x ++ y).drop n = y := by rw [h, List.drop_left]
/-- What stands in a row behind the two copies of an insertion in place. -/
theorem shift_rows {α : Type} (e : Nat) (C A B P : List α) (o a b cap : Nat) (hA : A.length = a) (hB : B.length = b) (hP : P.length = e) (hX : (C.drop o).take (a + b) = A ++ B) (hC : o + cap ≤ C.length) (hcap : a + b + e ≤ cap) :
    let R2 := C.take (o + (a + e)) ++ B ++ C.drop (o + (a + e) + b)
    let R3 := R2.take (o + a) ++ P ++ R2.drop (o + a + e)
    R2.length = C.length ∧ R3.length = C.length ∧ (R3.drop o).take (a + b + e) = A ++ P ++ B := by
  intro R2 R3
  have h1 : C = C.take o ++ (A ++ (B ++ (C.drop o).drop (a + b))) := by
    rw [← List.append_assoc A, ← hX, List.take_append_drop, List.take_append_drop]
  have hl0 : (C.take o).length = o := by rw [List.length_take]; omega
  have hlR : e ≤ (B ++ (C.drop o).drop (a + b)).length := by simp only [List.length_append, List.length_drop]; omega
  generalize C.take o = C0 at *
  generalize B ++ (C.drop o).drop (a + b) = S at *
  have e1 : C.take (o + (a + e)) = C0 ++ (A ++ S.take e) := by
    rw [h1, show o + (a + e) = C0.length + (a + e) from by omega, List.take_length_add_append, show a + e = A.length + e from by omega, List.take_length_add_append]
  have e2 : R2 = C0 ++ (A ++ (S.take e ++ (B ++ C.drop (o + (a + e) + b)))) := by
    show C.take (o + (a + e)) ++ B ++ C.drop (o + (a + e) + b) = _
    rw [e1]
    simp only [List.append_assoc]
  have e3 : R2.take (o + a) = C0 ++ A := by
    rw [e2, ← List.append_assoc]
    exact take_len (by rw [List.length_append]; omega)
  have e4 : R2.drop (o + a + e) = B ++ C.drop (o + (a + e) + b) := by
    rw [e2, ← List.append_assoc, ← List.append_assoc]
    exact drop_len (by rw [List.length_append, List.length_append, List.length_take]; omega)
  have e5 : R3 = C0 ++ (A ++ (P ++ (B ++ C.drop (o + (a + e) + b)))) := by
    show R2.take (o + a) ++ P ++ R2.drop (o + a + e) = _
    rw [e3, e4]
    simp only [List.append_assoc]
  refine ⟨?_, ?_, ?_⟩
  · rw [e2]
    simp only [List.length_append, List.length_take, List.length_drop]
    omega
  · rw [e5]
    simp only [List.length_append, List.length_drop]
    omega
  · rw [e5, drop_len hl0.symm, ← List.append_assoc, ← List.append_assoc]
    exact take_len (by simp only [List.length_append]; omega)
/-- .. and of an insertion into a new row. -/
theorem grow_rows {α : Type} (e : Nat) (C A B P : List α) (a b : Nat) (hA : A.length = a) (hB : B.length = b) (hP : P.length = e) (hX : C.take a = A) (hC : a + b + e ≤ C.length) :
    let R2 := C.take a ++ P ++ C.drop (a + e)
    let R3 := R2.take (a + e) ++ B ++ R2.drop (a + e + b)
    R2.length = C.length ∧ R3.length = C.length ∧ R3.take (a + b + e) = A ++ P ++ B := by
  intro R2 R3
  have e2 : R2.length = C.length := by
    show (C.take a ++ P ++ C.drop (a + e)).length = _
    simp only [List.length_append, List.length_take, List.length_drop]
    omega
  have e3 : R2.take (a + e) = A ++ P := by
    show (C.take a ++ P ++ C.drop (a + e)).take (a + e) = _
    rw [hX]
    exact take_len (by rw [List.length_append]; omega)
  have e5 : R3 = A ++ P ++ B ++ R2.drop (a + e + b) := by
    show R2.take (a + e) ++ B ++ R2.drop (a + e + b) = _
    rw [e3]
  refine ⟨e2, ?_, ?_⟩
  · rw [e5]
    simp only [List.length_append, List.length_drop]
    omega
  · rw [e5]
    exact take_len (by simp only [List.length_append]; omega)

end Go.Proofs.YtlcoibhbdgdfcaaGreatDoor
