/-
  Closed facts of the row SlotsErrors. Conditions: none.
  Rows of int64: their cells. Conditions: none. append as one step of a region that draws its order. Conditions: none. append at an operation that has a guard. Conditions: none. A slice of the program's own, one cell of it set. Conditions: none. A call of a function as one step of a region that draws its order. Conditions: none. A drawn region whose last operation stores what the region's loads have read: the loads may be taken first. Conditions: none. A call at an operation that has a guard, under the walks of drawn regions. Conditions: none.
  The walks of suite's bare: a config with what its kind asks for alone. Conditions: the form's own reach.
  The ranges of opened numbers. Conditions: none.
  How a config that came in is opened. Conditions: the form's own reach.
  The engine of slots in the heap; its at, whatever is asked for; a new one. Conditions: the form's own reach.
-/
import Derived.Test.YtmehcfocfljoeaaGreatDoorRows
import Derived.Test.YtmehcfocfljoeaaGreatDoorSlotsErrorsB2
import Derived.Test.YtmehcfocfljoeaaGreatDoorProg
import Derived.Test.YtmehcfocfljoeaaGreatDoorSlotsErrorsB1
import Derived.Laws.StructEq
import Derived.Lib.SmallJoins
namespace Go.Proofs.YtmehcfocfljoeaaGreatDoor.slotsErrors
open Go.ChangeShapes Go.WideShapes Go.ChangeAt Go.RowKit

theorem pcp : Tryz.pinned.checked.prog = Tryz.prog := by kernel_rfl
set_option maxRecDepth 100000 in
set_option maxHeartbeats 40000000 in
theorem closedP : joinedFacts Tryz.prog 3 Tryz.f3 Rows.slotsErrorsSpec Rows.slotsErrorsRow = true := by
  unfold joinedFacts
  simp only [Bool.and_eq_true]
  refine ⟨⟨⟨⟨⟨⟨⟨⟨⟨⟨⟨⟨⟨⟨⟨⟨⟨⟨⟨⟨⟨⟨⟨⟨⟨⟨⟨⟨⟨⟨⟨?_, ?_⟩, ?_⟩, ?_⟩, ?_⟩, ?_⟩, ?_⟩, ?_⟩, ?_⟩, ?_⟩, ?_⟩, ?_⟩, ?_⟩, ?_⟩, ?_⟩, ?_⟩, ?_⟩, ?_⟩, ?_⟩, ?_⟩, ?_⟩, ?_⟩, ?_⟩, ?_⟩, ?_⟩, ?_⟩, ?_⟩, ?_⟩, ?_⟩, ?_⟩, ?_⟩, ?_⟩
  all_goals (as_aux_lemma => kernel_rfl)
theorem closedC : joinedFacts Tryz.pinned.checked.prog 3 Tryz.f3 Rows.slotsErrorsSpec Rows.slotsErrorsRow = true := by
  rw [pcp]
  exact closedP
theorem instC : Tryz.f3.isInstance Tryz.pinned.checked.prog Rows.slotsErrorsRow.origin Rows.slotsErrorsRow.targs := of_decide_eq_true (by as_aux_lemma => kernel_rfl)
theorem wrapC : Tryz.f3.isWrapper Tryz.pinned.checked.prog Rows.slotsErrorsRow.wrapper Rows.slotsErrorsRow.mainSum := by
  unfold Func.isWrapper; first | (rw [if_pos (by decide +kernel)]; kernel_rfl) | (rw [if_neg (by decide +kernel)]; exact ⟨rfl, rfl⟩)
theorem nameC : Tryz.pinned.checked.prog.funcNamed Rows.slotsErrorsRow.func = some 3 := by kernel_rfl

end Go.Proofs.YtmehcfocfljoeaaGreatDoor.slotsErrors

namespace Go.Proofs.YtmehcfocfljoeaaGreatDoor
open Go.RowKit

def ints (l : List Int) : List Value := l.map fun u : Int => Value.int .i64 u
@[simp] theorem ints_length (l : List Int) : (ints l).length = l.length := by simp [ints]
theorem ints_append (a b : List Int) : ints (a ++ b) = ints a ++ ints b := by simp [ints]
theorem ints_oneCell (l : List Int) : ∀ y ∈ ints l, y.oneCell' = true := by
  intro y hy
  simp only [ints, List.mem_map] at hy
  obtain ⟨u, _, rfl⟩ := hy
  rfl
theorem ints_at {w : World} {b o : Nat} {l : List Int} (hc : ∀ j, j < l.length * 1 → w.cell? ⟨b, o + j, none⟩ = (ints l)[j]?) (k : Nat) (h : k < l.length) : w.cell? ⟨b, o + k, none⟩ = some (.int .i64 l[k]) := by
  rw [hc k (by omega)]
  simp [ints, h]
theorem under_ints : Tryz.prog.underlying 73 = some (.slice 2) := by kernel_rfl
theorem info_i64 : (Tryz.prog.info? 2).map (fun i => (i.zero, i.size, i.bytes)) = some (some (.int .i64 0), 1, 8) := by kernel_rfl

theorem ints_take (l : List Int) (u j : Nat) (h : j < u) : (ints (l.take u))[j]? = (ints l)[j]? := by
  simp [ints, h]
theorem ints_drop (l : List Int) (u j : Nat) : (ints (l.drop u))[j]? = (ints l)[u + j]? := by
  simp [ints, List.getElem?_drop]
end Go.Proofs.YtmehcfocfljoeaaGreatDoor

namespace Go.Proofs.YtmehcfocfljoeaaGreatDoor
open Go.RowKit

theorem step_append_src {P : Program} {ops : Array Oper} {w : World} {o : Oper} {a : Act} {K : Act → World → Prop} {Q : Exit → Act → World → Prop} {E : Prop} (hg : o.guard = none) (s x : Operand) (t u : TypeId)
    (ho : o.op = .call { callee := .builtin .append, args := #[s, x], argTypes := #[t, u] })
    (e : TypeId) (z : Value) (size bytes : Nat) (ht : P.underlying t = some (.slice e)) (hinfo : (P.info? e).map (fun i => (i.zero, i.size, i.bytes)) = some (some z, size, bytes))
    (hzs : z.cells.size = size) (hsz : 0 < size)
    (v : Value) (n : Nat) (xs : List Value) (hs : a.eval s = v) (hown : Own w e size v n xs)
    (xv : Value) (m : Nat) (news : List Value) (hx : a.eval x = xv) (hsrc : Src P w u size xv m news) (h1 : ∀ y ∈ news, y.oneCell' = true)
    (h63 : n + m ≤ maxLen) (hbytes : (n + m) * bytes ≤ 140737488355328)
    (h : ∀ ao cap w', Own w' e size (.slice ao (n + m) cap) (n + m) (xs ++ news) → Chg (blkOf v) w w' → (∀ b ∈ abl ao, b ∈ blkOf v ∨ w.heap.size ≤ b) → K (a.put o.dst (.slice ao (n + m) cap)) w') :
    if Region.wanted o (yielded ops a.tmps) = true then Oper.wp P o a w K Q else E := by
  obtain ⟨i, hi, hz0, hz1, hz2⟩ := info_parts hinfo
  obtain ⟨v', w', hr, h2, h3, h4⟩ := run_append_src (P := P) w t u o.type e i z size bytes ht hi hz0 hz1 hz2 hzs hsz v n xs hown xv m news hsrc h1 h63 hbytes
  obtain ⟨ao, cap, rfl⟩ := h2.shape
  have hw : Region.wanted o (yielded ops a.tmps) = true := by simp [Region.wanted, hg]
  rw [if_pos hw]
  have hK := h ao cap w' h2 h3 (fun b hb => by
    rcases h4 with h4 | h4
    · left; rw [← h4]; simpa using hb
    · right
      rw [blkOf_slice] at h4
      rw [h4] at hb
      simp at hb
      omega)
  unfold Oper.wp
  simp [execOp, ho, resolve, invoke, builtin, hs, hx, hr, Result.andThen]
  exact hK

end Go.Proofs.YtmehcfocfljoeaaGreatDoor

namespace Go.Proofs.YtmehcfocfljoeaaGreatDoor
open Go.RowKit

/-- The same at the operation, for a walk. -/
theorem wpList_append_srcG {P : Program} (w : World) {ops : Array Oper} {rest : List Oper} {o : Oper} {a : Act} {Q : Exit → Act → World → Prop} (hgd : Region.wanted o (yielded ops a.tmps) = true) (s x : Operand) (t u : TypeId)
    (ho : o.op = .call { callee := .builtin .append, args := #[s, x], argTypes := #[t, u] })
    (e : TypeId) (z : Value) (size bytes : Nat) (ht : P.underlying t = some (.slice e)) (hinfo : (P.info? e).map (fun i => (i.zero, i.size, i.bytes)) = some (some z, size, bytes))
    (hzs : z.cells.size = size) (hsz : 0 < size)
    (v : Value) (n : Nat) (xs : List Value) (hs : a.eval s = v) (hown : Own w e size v n xs)
    (xv : Value) (m : Nat) (news : List Value) (hx : a.eval x = xv) (hsrc : Src P w u size xv m news) (h1 : ∀ y ∈ news, y.oneCell' = true)
    (h63 : n + m ≤ maxLen) (hbytes : (n + m) * bytes ≤ 140737488355328)
    (h : ∀ ao cap w', Own w' e size (.slice ao (n + m) cap) (n + m) (xs ++ news) → Chg (blkOf v) w w' → (∀ b ∈ abl ao, b ∈ blkOf v ∨ w.heap.size ≤ b) → wpList P ops Q rest (a.put o.dst (.slice ao (n + m) cap)) w') : wpList P ops Q (o :: rest) a w := by
  obtain ⟨i, hi, hz0, hz1, hz2⟩ := info_parts hinfo
  obtain ⟨v', w', hr, h2, h3, h4⟩ := run_append_src (P := P) w t u o.type e i z size bytes ht hi hz0 hz1 hz2 hzs hsz v n xs hown xv m news hsrc h1 h63 hbytes
  obtain ⟨ao, cap, rfl⟩ := h2.shape
  refine wpList_step fun _ hK => ?_
  rw [if_pos hgd]
  unfold Oper.wp execOp
  simp only [ho, resolve, invoke, builtin, Sem.run_bind, Sem.run_pure, Result.andThen_ok, List.map_toArray, List.map_cons, List.map_nil, hs, hx, hr]
  refine hK _ _ (h ao cap w' h2 h3 (fun b hb => ?_))
  rcases h4 with h4 | h4
  · left; rw [← h4]; simpa using hb
  · right
    rw [blkOf_slice] at h4
    rw [h4] at hb
    simp at hb
    omega

theorem Own.cap_le {w : World} {e : TypeId} {size n m c : Nat} {ao : Option Addr} {xs : List Value} (h : Own w e size (.slice ao m c) n xs) : n ≤ c ∧ m = n := by
  obtain ⟨_, ⟨h0, rfl⟩ | ⟨g, o, cap, cur, h0, _, h1, _⟩⟩ := h
  · simp only [Value.slice.injEq] at h0
    omega
  · simp only [Value.slice.injEq] at h0
    omega
end Go.Proofs.YtmehcfocfljoeaaGreatDoor

namespace Go.Proofs.YtmehcfocfljoeaaGreatDoor
open Go.RowKit

theorem Own.set {w : World} {e : TypeId} {size n cap g o : Nat} {xs : List Value} (h : Own w e size (.slice (some ⟨g, o, none⟩) n cap) n xs) (j : Nat) (u : Value) :
    Own (w.setCell ⟨g, o + j, none⟩ u) e size (.slice (some ⟨g, o, none⟩) n cap) n (xs.set j u) := by
  obtain ⟨hl, ⟨h1, _⟩ | ⟨g', o', cp, cur, h1, hg, h2, h3, h4, h5⟩⟩ := h
  · simp at h1
  · simp only [Value.slice.injEq, Option.some.injEq, Addr.mk.injEq, true_and, and_true] at h1
    obtain ⟨⟨rfl, rfl⟩, rfl⟩ := h1
    have hb : Blk w g cur e := hg
    refine ⟨by rw [List.length_set]; exact hl, .inr ⟨g, o, cap, _, rfl, hb.setCell (o + j) u, h2, h3, by simpa using h4, ?_⟩⟩
    rw [Array.toList_setIfInBounds, ← h5]
    rw [List.drop_set, if_neg (by omega), Nat.add_sub_cancel_left, List.take_set]
end Go.Proofs.YtmehcfocfljoeaaGreatDoor

namespace Go.Proofs.YtmehcfocfljoeaaGreatDoor
open Go.RowKit

theorem step_calls {P : Program} {ops : Array Oper} {w : World} {o : Oper} {a : Act} {K : Act → World → Prop} {Q : Exit → Act → World → Prop} {E : Prop} (hg : o.guard = none) (f : Nat) (args : Array Operand) (ts : Array TypeId)
    (ho : o.op = .call { callee := .value (.func f), args := args, argTypes := ts })
    (he : ∀ args w, (callFunc f args).run P w = .ok (.enter f args) w) (R : Ending → World → Prop) (vs : Array Value) (hv : args.map a.eval = vs) (hc : Calls P f vs w R)
    (h : ∀ e w', R e w' → ∃ v, e = .returned v ∧ K (a.put o.dst v) w') :
    if Region.wanted o (yielded ops a.tmps) = true then Oper.wp P o a w K Q else E := by
  have hw : Region.wanted o (yielded ops a.tmps) = true := by simp [Region.wanted, hg]
  rw [if_pos hw]
  have hrun : (execOp a.eval o).run P w = .ok (.enter f vs) w := by
    simp [execOp, ho, resolve, invoke, go_sem, he, hv]
  rw [Oper.wp, hrun, Oper.upon_enter]
  refine hc.mono fun e w' hr => ?_
  obtain ⟨v, rfl, hk⟩ := h e w' hr
  exact hk
end Go.Proofs.YtmehcfocfljoeaaGreatDoor

namespace Go.Proofs.YtmehcfocfljoeaaGreatDoor
open Go.RowKit

section
variable {P : Program} {ops : Array Oper} {Q : Exit → Act → World → Prop} {md : Region.Mode} {S : World → Prop} {st : Nat}

/-- Does the operation st wait for the operation i? -/
def waitsB (md : Region.Mode) (ops : Array Oper) (st i : Nat) : Bool := match ops[st]? with
  | some o => o.after.toList.any (fun e => Region.binds md e && e.on == i)
  | none => true

/-- Whatever comes up next; behind each operation but st (which stores last of all) S is there. -/
def wpG (P : Program) (md : Region.Mode) (ops : Array Oper) (Q : Exit → Act → World → Prop) (S : World → Prop) (st : Nat) : Nat → Array Bool → Act → World → Prop
  | 0, seen, a, w => Region.ready md ops seen = [] ∧ Q .normal a w
  | m + 1, seen, a, w => (Region.ready md ops seen = [] → Q .normal a w) ∧
    ∀ j ∈ Region.ready md ops seen, wpOp P ops Q j (fun b u => (j ≠ st → seen.getD st true = false → S u) ∧ wpG P md ops Q S st m (seen.setIfInBounds j true) b u) a w

theorem wpG_any : ∀ (m : Nat) (seen : Array Bool) (a : Act) (w : World), wpG P md ops Q S st m seen a w → wpAny P md ops Q m seen a w
  | 0, _, _, _, h => h
  | m + 1, _, _, _, h => ⟨h.1, fun j hj => wpOp_mono (fun b u k => wpG_any m _ b u k.2) (h.2 j hj)⟩

theorem wpG_first {T : World → Prop} {i : Nat} {oi : Oper} {v : Value} (hi : ops[i]? = some oi) (hno : Region.noSelect ops = true) (his : i ≠ st)
    (hQ : ∀ c a w, Q (.panic c) (a.put oi.dst v) w → Q (.panic c) a w) :
    ∀ (m : Nat) (seen : Array Bool) (a : Act) (w : World),
      ((∀ u, T u) ∨ ((∀ u, S u → T u) ∧ waitsB md ops st i = true ∧ seen.getD st true = false)) →
      (∀ j oj, ops[j]? = some oj → j ≠ i → seen.getD j true = false → (∀ e ∈ oj.after, Region.binds md e = true → e.on ≠ i) → oi.apart ops oj = true) →
      i ∈ Region.ready md ops seen → YieldsIf P ops T oi v a → T w → (seen.getD st true = false → S w) →
      wpG P md ops Q S st m (seen.setIfInBounds i true) (a.put oi.dst v) w → wpG P md ops Q S st (m + 1) seen a w
  | m, seen, a, w => fun hT hap hr hy hTw hS H => by
    have hun := (mem_ready.1 hr).1
    refine ⟨fun h => (by rw [h] at hr; cases hr), fun j hj => ?_⟩
    rcases Decidable.em (j = i) with rfl | hji
    · exact hy.wpOp hi hTw ⟨fun _ => hS, H⟩
    · obtain ⟨hjun, oj, hoj, hall⟩ := mem_ready.1 hj
      have hwait : ∀ e ∈ oj.after, Region.binds md e = true → e.on ≠ i := fun e he hb heq => by
        have h1 := hall e he hb
        rw [heq] at h1
        by_cases hlt : i < seen.size
        · simp [hlt] at hun h1
          rw [hun] at h1
          cases h1
        · simp [Array.getElem?_eq_none (Nat.le_of_not_lt hlt)] at h1
      have hjst : waitsB md ops st i = true → j ≠ st := fun hw e => by
        subst e
        simp only [waitsB, hoj, List.any_eq_true, Bool.and_eq_true, beq_iff_eq] at hw
        obtain ⟨e, he, hb, heq⟩ := hw
        exact hwait e (by simpa using he) hb heq
      match m, H with
      | 0, H =>
        have h1 := ready_mono hj hji
        rw [H.1] at h1
        cases h1
      | m + 1, H =>
        have h2 := wpOp_putIf hoj (hap j oj hoj hji hjun hwait) (fun cs b => Region.noSelect_spec hno i oi cs b hi) (fun cs b => Region.noSelect_spec hno j oj cs b hoj) hQ hy (H.2 j (ready_mono hj hji))
        have hSu : ∀ u, (j ≠ st → (seen.setIfInBounds i true).getD st true = false → S u) → j ≠ st → seen.getD st true = false → S u := fun u h1 h4 h5 => h1 h4 (by rw [getD_set_ne true his]; exact h5)
        refine wpOp_mono (fun b u h3 => ⟨fun h4 h5 => hSu u h3.2.1 h4 h5, wpG_first hi hno his hQ m (seen.setIfInBounds j true) b u ?_ (fun k ok hk hki hkun hkno => ?_) (ready_mono hr (Ne.symm hji)) h3.1 ?_ (fun h5 => ?_) ?_⟩) h2
        · rcases hT with hT | ⟨hT, hw, hs⟩
          · exact .inl hT
          · exact .inr ⟨hT, hw, by rw [getD_set_ne true (hjst hw)]; exact hs⟩
        · refine hap k ok hk hki ?_ hkno
          by_cases hjk : j = k
          · subst hjk; exact hjun
          · rw [getD_set_ne true hjk] at hkun; exact hkun
        · rcases hT with hT | ⟨hT, hw, hs⟩
          · exact hT u
          · exact hT u (hSu u h3.2.1 (hjst hw) hs)
        · have hjs : j ≠ st := fun e => by
            subst e
            by_cases hlt : j < seen.size
            · simp [hlt] at h5
            · simp [Nat.le_of_not_lt hlt] at h5
          rw [getD_set_ne true hjs] at h5
          exact hSu u h3.2.1 hjs h5
        · rw [Array.setIfInBounds_comm _ _ hji]
          exact h3.2.2
end

section
variable {P : Program} {l : List Oper} {Q : Exit → Act → World → Prop} {md : Region.Mode} {S : World → Prop} {st : Nat}
/-- The beginning. -/
theorem startG {id : Nat} {a : Act} {w : World} (hm : P.follows .mixedOrders = true) (hS : S w.drew)
    (h : S w.drew → wpG P .any l.toArray Q S st l.toArray.size (Array.replicate l.toArray.size false) a w.drew) : (Code.region id l.toArray true).wp P Q a w :=
  wp_region_any hm (wpG_any _ _ _ _ (h hS))
/-- A load: an operation that yields wherever S is, and for which st waits, is taken first. -/
theorem takeG {i : Nat} {oi : Oper} {v : Value} {m : Nat} {seen : Array Bool} {a : Act} {w : World} (hi : l[i]? = some oi)
    (hno : Region.noSelect l.toArray = true) (hf : Region.free md l.toArray seen i = true) (hr : (Region.ready md l.toArray seen).contains i = true) (his : i ≠ st) (hw : waitsB md l.toArray st i = true) (hs : seen.getD st true = false)
    (hQ : ∀ c a w, Q (.panic c) (a.put oi.dst v) w → Q (.panic c) a w) (hy : YieldsIf P l.toArray S oi v a) (hS : S w)
    (h : wpG P md l.toArray Q S st m (seen.setIfInBounds i true) (a.put oi.dst v) w) : wpG P md l.toArray Q S st (m + 1) seen a w := by
  have hi' : l.toArray[i]? = some oi := by simpa using hi
  exact wpG_first (T := S) hi' hno his hQ m seen a w (.inr ⟨fun _ h => h, hw, hs⟩) (Region.free_spec hi' hf) (by simpa using hr) hy hS (fun _ => hS) h
/-- An operation that yields in every world is taken first. -/
theorem takeP {i : Nat} {oi : Oper} {v : Value} {m : Nat} {seen : Array Bool} {a : Act} {w : World} (hi : l[i]? = some oi)
    (hno : Region.noSelect l.toArray = true) (hf : Region.free md l.toArray seen i = true) (hr : (Region.ready md l.toArray seen).contains i = true) (his : i ≠ st)
    (hQ : ∀ c a w, Q (.panic c) (a.put oi.dst v) w → Q (.panic c) a w) (hy : YieldsIf P l.toArray (fun _ => True) oi v a) (hS : S w)
    (h : wpG P md l.toArray Q S st m (seen.setIfInBounds i true) (a.put oi.dst v) w) : wpG P md l.toArray Q S st (m + 1) seen a w := by
  have hi' : l.toArray[i]? = some oi := by simpa using hi
  exact wpG_first (T := fun _ => True) hi' hno his hQ m seen a w (.inl fun _ => trivial) (Region.free_spec hi' hf) (by simpa using hr) hy trivial (fun _ => hS) h
/-- The ways on. -/
def WaysG (P : Program) (md : Region.Mode) (l : List Oper) (Q : Exit → Act → World → Prop) (S : World → Prop) (st : Nat) (m : Nat) (seen : Array Bool) (a : Act) (w : World) (rs : List Nat) : Prop :=
  ∀ i ∈ rs, wpOp P l.toArray Q i (fun b u => (i ≠ st → seen.getD st true = false → S u) ∧ wpG P md l.toArray Q S st m (seen.setIfInBounds i true) b u) a w
theorem nilG {m : Nat} {seen : Array Bool} {a : Act} {w : World} : WaysG P md l Q S st m seen a w [] := fun _ h => by cases h
theorem consG {m : Nat} {seen : Array Bool} {a : Act} {w : World} {i : Nat} {o : Oper} {rs : List Nat} (ho : l[i]? = some o)
    (h : ∀ K' : Act → World → Prop, Shut (∀ b u, (i ≠ st → seen.getD st true = false → S u) → ((i ≠ st → seen.getD st true = false → S u) → wpG P md l.toArray Q S st m (seen.setIfInBounds i true) b u) → K' b u) → if Region.wanted o (yielded l.toArray a.tmps) = true then Oper.wp P o a w K' Q else K' (a.put o.dst undef) w)
    (hs : WaysG P md l Q S st m seen a w rs) : WaysG P md l Q S st m seen a w (i :: rs) := fun j hj => by
  rcases List.mem_cons.1 hj with rfl | hj
  · exact wpOp_step (by simpa using ho) (fun K' hK => h K' (fun b u hS hW => hK b u ⟨hS, hW hS⟩))
  · exact hs j hj
theorem readyG {rs : List Nat} {m : Nat} {seen : Array Bool} {a : Act} {w : World} (hr : Region.ready md l.toArray seen = rs) (hne : rs ≠ [])
    (h : WaysG P md l Q S st m seen a w rs) : wpG P md l.toArray Q S st (m + 1) seen a w := ⟨fun h0 => absurd (hr ▸ h0) hne, hr ▸ h⟩
theorem doneG {seen : Array Bool} {a : Act} {w : World} (hr : Region.ready md l.toArray seen = []) (h : Q .normal a w) : ∀ m, wpG P md l.toArray Q S st m seen a w
  | 0 => ⟨hr, h⟩
  | _ + 1 => ⟨fun _ => h, by rw [hr]; simp⟩
end
end Go.Proofs.YtmehcfocfljoeaaGreatDoor

namespace Go.Proofs.YtmehcfocfljoeaaGreatDoor
open Go.RowKit

theorem step_callsG {P : Program} {ops : Array Oper} {w : World} {o : Oper} {a : Act} {K : Act → World → Prop} {Q : Exit → Act → World → Prop} {E : Prop} (hw : Region.wanted o (yielded ops a.tmps) = true) (f : Nat) (args : Array Operand) (ts : Array TypeId)
    (ho : o.op = .call { callee := .value (.func f), args := args, argTypes := ts })
    (he : ∀ args w, (callFunc f args).run P w = .ok (.enter f args) w) (R : Ending → World → Prop) (vs : Array Value) (hv : args.map a.eval = vs) (hc : Calls P f vs w R)
    (h : ∀ e w', R e w' → ∃ v, e = .returned v ∧ K (a.put o.dst v) w') :
    if Region.wanted o (yielded ops a.tmps) = true then Oper.wp P o a w K Q else E := by
  rw [if_pos hw]
  have hrun : (execOp a.eval o).run P w = .ok (.enter f vs) w := by
    simp [execOp, ho, resolve, invoke, go_sem, he, hv]
  rw [Oper.wp, hrun, Oper.upon_enter]
  refine hc.mono fun e w' hr => ?_
  obtain ⟨v, rfl, hk⟩ := h e w' hr
  exact hk
end Go.Proofs.YtmehcfocfljoeaaGreatDoor

namespace Go.Proofs.YtmehcfocfljoeaaGreatDoor
open Go.RowKit

/-- A config. -/
structure Cf where
  kind : Int
  num : Nat
  den : Nat
  side : Int
  most : Int
  digits : Int
  limit : Nat
  depth : Int
  factor : Int
  width : Int
  word : Nat
def Cf.cells (c : Cf) : Array Value := #[.int .i64 c.kind, .int .u64 c.num, .int .u64 c.den, .int .i64 c.side, .int .i64 c.most, .int .i64 c.digits, .int .u64 c.limit, .int .i64 c.depth, .int .i64 c.factor, .int .i64 c.width, .int .u64 c.word]
def Cf.val (c : Cf) : Value := .agg c.cells
def Cf.none (k : Int) : Cf := ⟨k, 0, 0, 0, 0, 0, 0, 0, 0, 0, 0⟩

set_option maxRecDepth 100000 in
set_option maxHeartbeats 2000000 in
theorem bare_req (w : World) (c : Cf) (hk : c.kind = 5) : Calls Tryz.prog 44 #[c.val] w fun e w' => e = .returned ({ Cf.none 5 with width := c.width, word := c.word } : Cf).val ∧ Chg [] w w' := by
  obtain ⟨k, num, den, side, most, digits, limit, depth, factor, width, word⟩ := c
  simp only at hk
  subst hk
  simp only [Cf.val, Cf.cells, Cf.none]
  go_enter Tryz.func44, Tryz.ntmps44
  go_wp2_with fail
  go_region_with (fail)
  all_goals
    go_wp2
    refine bodyPost_ret (v := .agg #[.int .i64 5, .int .u64 0, .int .u64 0, .int .i64 0, .int .i64 0, .int .i64 0, .int .u64 0, .int .i64 0, .int .i64 0, .int .i64 width, .int .u64 word]) (by simp [results, Tryz.results44, go_sem]) rfl ?_
    exact ⟨rfl, by with_reducible (repeat (first | exact Chg.refl _ _ | apply Chg.alloc | apply Chg.drew | (apply Chg.setCell; simp)))⟩
set_option maxRecDepth 100000 in
set_option maxHeartbeats 2000000 in
theorem bare_hdr (w : World) (c : Cf) (hk : c.kind = 2) : Calls Tryz.prog 44 #[c.val] w fun e w' => e = .returned ({ Cf.none 2 with digits := c.digits, limit := c.limit } : Cf).val ∧ Chg [] w w' := by
  obtain ⟨k, num, den, side, most, digits, limit, depth, factor, width, word⟩ := c
  simp only at hk
  subst hk
  simp only [Cf.val, Cf.cells, Cf.none]
  go_enter Tryz.func44, Tryz.ntmps44
  go_wp2_with fail
  go_region_with (fail)
  all_goals
    go_wp2
    refine bodyPost_ret (v := .agg #[.int .i64 2, .int .u64 0, .int .u64 0, .int .i64 0, .int .i64 0, .int .i64 digits, .int .u64 limit, .int .i64 0, .int .i64 0, .int .i64 0, .int .u64 0]) (by simp [results, Tryz.results44, go_sem]) rfl ?_
    exact ⟨rfl, by with_reducible (repeat (first | exact Chg.refl _ _ | apply Chg.alloc | apply Chg.drew | (apply Chg.setCell; simp)))⟩
end Go.Proofs.YtmehcfocfljoeaaGreatDoor

namespace Go.Proofs.YtmehcfocfljoeaaGreatDoor
open Go.ChangeShapes Go.WideShapes Go.ChangeAt Go.RowKit

theorem i64_range {n : Int} (h : (Lit.int .i64 n).wf = true) : -9223372036854775808 ≤ n ∧ n < 9223372036854775808 := by
  simp [Lit.wf, IntKind.min, IntKind.max, IntKind.signed, IntKind.bits] at h; omega
theorem u64_range {n : Int} (h : (Lit.int .u64 n).wf = true) : 0 ≤ n ∧ n < 18446744073709551616 := by
  simp [Lit.wf, IntKind.min, IntKind.max, IntKind.signed, IntKind.bits] at h; omega
theorem u32_range {n : Int} (h : (Lit.int .u32 n).wf = true) : 0 ≤ n ∧ n < 4294967296 := by
  simp [Lit.wf, IntKind.min, IntKind.max, IntKind.signed, IntKind.bits] at h; omega
theorem u8_range {n : Int} (h : (Lit.int .u8 n).wf = true) : 0 ≤ n ∧ n < 256 := by
  simp [Lit.wf, IntKind.min, IntKind.max, IntKind.signed, IntKind.bits] at h; omega
end Go.Proofs.YtmehcfocfljoeaaGreatDoor

namespace Go.Proofs.YtmehcfocfljoeaaGreatDoor
open Go.ChangeShapes Go.WideShapes Go.ChangeAt Go.RowKit

/-- Each part of a config lies where its type has it. -/
structure Cf.okR (c : Cf) : Prop where
  kind : -9223372036854775808 ≤ c.kind ∧ c.kind < 9223372036854775808
  num : c.num < 18446744073709551616
  den : c.den < 18446744073709551616
  side : -9223372036854775808 ≤ c.side ∧ c.side < 9223372036854775808
  most : -9223372036854775808 ≤ c.most ∧ c.most < 9223372036854775808
  digits : -9223372036854775808 ≤ c.digits ∧ c.digits < 9223372036854775808
  limit : c.limit < 18446744073709551616
  depth : -9223372036854775808 ≤ c.depth ∧ c.depth < 9223372036854775808
  factor : -9223372036854775808 ≤ c.factor ∧ c.factor < 9223372036854775808
  width : -9223372036854775808 ≤ c.width ∧ c.width < 9223372036854775808
  word : c.word < 18446744073709551616
theorem cells_scfg : Tryz.prog.cellsOf 28 = 11 := by kernel_rfl
theorem cells_ratio0 : Tryz.prog.cellsOf 25 = 2 := by kernel_rfl
theorem cells_kind0 : Tryz.prog.cellsOf 22 = 1 := by kernel_rfl
theorem cells_side0 : Tryz.prog.cellsOf 26 = 1 := by kernel_rfl
theorem cells_int0 : Tryz.prog.cellsOf 3 = 1 := by kernel_rfl
theorem cells_u64_0 : Tryz.prog.cellsOf 23 = 1 := by kernel_rfl
theorem cells_bool0 : Tryz.prog.cellsOf 4 = 1 := by kernel_rfl
theorem list11 {α : Type} {l : List α} (h : l.length = 11) : ∃ a b c d e f g i j k m, l = [a, b, c, d, e, f, g, i, j, k, m] := by
  match l, h with
  | [a, b, c, d, e, f, g, i, j, k, m], _ => exact ⟨a, b, c, d, e, f, g, i, j, k, m, rfl⟩
section
variable {H : Type} {enc : TypeId × Value → H} {W : World}
set_option maxRecDepth 100000 in
theorem scfg_openL {cs : List Value} (hl : cs.length = 11) {fuel : Nat} {y : DataW H × List MemPlace} (hf : DataW.trod enc Tryz.prog W 0 (fun _ => true) true fuel 28 cs = some y) : ∃ c : Cf, cs = c.cells.toList ∧ c.okR := by
  obtain ⟨c0, c1, c2, c3, c4, c5, c6, c7, c8, c9, c10, rfl⟩ := list11 hl
  obtain ⟨xs, m, _, _, _, hlen, hel⟩ := DataW.trod_struct Tryz.underlying28 hf
  have h0 := hel 0 _ rfl
  have h1 := hel 1 _ rfl
  have h2 := hel 2 _ rfl
  have h3 := hel 3 _ rfl
  have h4 := hel 4 _ rfl
  have h5 := hel 5 _ rfl
  have h6 := hel 6 _ rfl
  have h7 := hel 7 _ rfl
  have h8 := hel 8 _ rfl
  have h9 := hel 9 _ rfl
  clear hel
  have hx : ∀ k, k < 10 → ∃ z, xs[k]? = some z := fun k hk => ⟨xs[k]'(by rw [hlen]; exact hk), List.getElem?_eq_getElem _⟩
  obtain ⟨y0, e0⟩ := hx 0 (by omega)
  obtain ⟨y1, e1⟩ := hx 1 (by omega)
  obtain ⟨y2, e2⟩ := hx 2 (by omega)
  obtain ⟨y3, e3⟩ := hx 3 (by omega)
  obtain ⟨y4, e4⟩ := hx 4 (by omega)
  obtain ⟨y5, e5⟩ := hx 5 (by omega)
  obtain ⟨y6, e6⟩ := hx 6 (by omega)
  obtain ⟨y7, e7⟩ := hx 7 (by omega)
  obtain ⟨y8, e8⟩ := hx 8 (by omega)
  obtain ⟨y9, e9⟩ := hx 9 (by omega)
  rw [e0] at h0
  rw [e1] at h1
  rw [e2] at h2
  rw [e3] at h3
  rw [e4] at h4
  rw [e5] at h5
  rw [e6] at h6
  rw [e7] at h7
  rw [e8] at h8
  rw [e9] at h9
  simp only [List.getElem_toArray, List.getElem_cons_zero, List.getElem_cons_succ] at h0 h1 h2 h3 h4 h5 h6 h7 h8 h9
  simp only [cells_kind0, cells_ratio0, cells_side0, cells_int0, cells_u64_0, List.drop_zero, List.drop_succ_cons, List.take_succ_cons, List.take_zero] at h0 h1 h2 h3 h4 h5 h6 h7 h8 h9
  obtain ⟨n0, f0, _, w0⟩ := DataW.trod_int Tryz.underlying22 h0
  obtain ⟨z0, z1, m', _, _, k0, k1⟩ := trod_struct2 Tryz.underlying25 h1
  simp only [cells_u64_0, List.drop_zero, List.drop_succ_cons, List.take_succ_cons, List.take_zero] at k0 k1
  obtain ⟨n1, f1, _, w1⟩ := DataW.trod_int Tryz.underlying23 k0
  obtain ⟨n2, f2, _, w2⟩ := DataW.trod_int Tryz.underlying23 k1
  obtain ⟨n3, f3, _, w3⟩ := DataW.trod_int Tryz.underlying26 h2
  obtain ⟨n4, f4, _, w4⟩ := DataW.trod_int Tryz.underlying3 h3
  obtain ⟨n5, f5, _, w5⟩ := DataW.trod_int Tryz.underlying3 h4
  obtain ⟨n6, f6, _, w6⟩ := DataW.trod_int Tryz.underlying23 h5
  obtain ⟨n7, f7, _, w7⟩ := DataW.trod_int Tryz.underlying3 h6
  obtain ⟨n8, f8, _, w8⟩ := DataW.trod_int Tryz.underlying3 h7
  obtain ⟨n9, f9, _, w9⟩ := DataW.trod_int Tryz.underlying3 h8
  obtain ⟨n10, f10, _, w10⟩ := DataW.trod_int Tryz.underlying23 h9
  simp only [List.cons.injEq, and_true] at f0 f1 f2 f3 f4 f5 f6 f7 f8 f9 f10
  have r0 := i64_range w0
  have r1 := u64_range w1
  have r2 := u64_range w2
  have r3 := i64_range w3
  have r4 := i64_range w4
  have r5 := i64_range w5
  have r6 := u64_range w6
  have r7 := i64_range w7
  have r8 := i64_range w8
  have r9 := i64_range w9
  have r10 := u64_range w10
  obtain ⟨n1, rfl⟩ := Int.eq_ofNat_of_zero_le r1.1
  obtain ⟨n2, rfl⟩ := Int.eq_ofNat_of_zero_le r2.1
  obtain ⟨n6, rfl⟩ := Int.eq_ofNat_of_zero_le r6.1
  obtain ⟨n10, rfl⟩ := Int.eq_ofNat_of_zero_le r10.1
  refine ⟨⟨n0, n1, n2, n3, n4, n5, n6, n7, n8, n9, n10⟩, ?_, ⟨r0, by simp only; omega, by simp only; omega, r3, r4, r5, by simp only; omega, r7, r8, r9, by simp only; omega⟩⟩
  rw [f0, f1, f2, f3, f4, f5, f6, f7, f8, f9, f10]
  rfl
set_option maxRecDepth 100000 in
theorem scfg_open {v : Value} {d : DataW H} {ps : List MemPlace} {r : Reach} {b0 : Nat} (hval : Value.okWide Tryz.prog W r b0 28 v)
    (hd : DataW.Trod enc Tryz.prog W 0 (fun _ => true) true 28 v d ps) : ∃ c : Cf, v = c.val ∧ c.okR := by
  obtain ⟨cs, rfl, hsz⟩ := okWide_struct Tryz.underlying28 hval
  obtain ⟨fuel, hf⟩ := hd
  obtain ⟨c, h1, h2⟩ := scfg_openL (cs := cs.toList) (by rw [Array.length_toList, hsz]; exact cells_scfg) (by simpa [Value.cells] using hf)
  refine ⟨c, ?_, h2⟩
  rw [Cf.val, Array.ext' h1]
end
end Go.Proofs.YtmehcfocfljoeaaGreatDoor

namespace Go.Proofs.YtmehcfocfljoeaaGreatDoor
open Go.RowKit

/-- An engine: sixteen sketches, or none, and which of them are foreign. -/
def engCells (ps : List (Option Addr)) (fs : List Bool) : Array Value := (ps.map Value.pointer ++ fs.map Value.bool).toArray
structure Eng (w : World) (g : Nat) (ps : List (Option Addr)) (fs : List Bool) : Prop where
  blk : Blk w g (engCells ps fs) 72
  lp : ps.length = 16
  lf : fs.length = 16
namespace Eng
variable {w w1 : World} {g : Nat} {ps : List (Option Addr)} {fs : List Bool}
theorem chg {F : List Nat} (h : Eng w g ps fs) (k : Chg F w w1) (hs : g ∉ F) : Eng w1 g ps fs := ⟨h.blk.chg k hs, h.lp, h.lf⟩
theorem cellP (h : Eng w g ps fs) (i : Nat) (hi : i < 16) : w.cell? ⟨g, i, none⟩ = some (.pointer (ps.getD i none)) := by
  have hl := h.lp
  have := h.blk.cell i
  rw [this]
  simp [engCells, List.getElem?_append_left, hl, hi, List.getD]
theorem cellF (h : Eng w g ps fs) (i : Nat) (hi : i < 16) : w.cell? ⟨g, 16 + i, none⟩ = some (.bool (fs.getD i false)) := by
  have hl := h.lp
  have hf := h.lf
  have := h.blk.cell (16 + i)
  rw [this]
  simp [engCells, List.getElem?_append_right, hl, List.getD]
  rw [List.getElem?_eq_getElem (by omega)]
  simp
end Eng
/-- What at answers. -/
def atV (ps : List (Option Addr)) (i : Int) : Option Addr × Int :=
  if i < 0 ∨ 16 ≤ i then (none, 1) else match ps.getD i.toNat none with
    | none => (none, 5)
    | some a => (some a, 0)
set_option maxRecDepth 100000 in
theorem at_nil (w : World) (i : Int) : Calls Tryz.prog 23 #[.pointer none, .int .i64 i] w fun e w' => e = .returned (.tuple #[.pointer none, .int .i64 2]) ∧ w' = w := by
  go_enter Tryz.func23, Tryz.ntmps23
  go_wp2
  go_ret2
  exact ⟨rfl, rfl⟩
set_option maxRecDepth 100000 in
theorem eng_at (w : World) (g : Nat) (ps : List (Option Addr)) (fs : List Bool) (h : Eng w g ps fs) (i : Int) : Calls Tryz.prog 23 #[.pointer (some ⟨g, 0, none⟩), .int .i64 i] w fun e w' => e = .returned (.tuple #[.pointer (atV ps i).1, .int .i64 (atV ps i).2]) ∧ w' = w := by
  by_cases h1 : i < 0
  · have d1 : decide (i < 0) = true := decide_eq_true h1
    rw [show atV ps i = (none, 1) from if_pos (.inl h1)]
    clear h1
    go_enter Tryz.func23, Tryz.ntmps23
    go_wp2
    go_ret2
    exact ⟨rfl, rfl⟩
  by_cases h2 : 16 ≤ i
  · have d1 : decide (i < 0) = false := decide_eq_false h1
    have d2 : decide (16 ≤ i) = true := decide_eq_true h2
    rw [show atV ps i = (none, 1) from if_pos (.inr h2)]
    clear h1 h2
    go_enter Tryz.func23, Tryz.ntmps23
    go_wp2
    go_ret2
    exact ⟨rfl, rfl⟩
  obtain ⟨n, rfl⟩ := Int.eq_ofNat_of_zero_le (show 0 ≤ i by omega)
  have d1 : decide ((n : Int) < 0) = false := decide_eq_false h1
  have d2 : decide ((16 : Int) ≤ (n : Int)) = false := decide_eq_false h2
  have d3 : decide (16 ≤ n) = false := decide_eq_false (by omega)
  have hc := h.cellP n (by omega)
  have hn : n < 16 := by omega
  have e0 : atV ps n = match ps.getD n none with | none => (none, 5) | some a => (some a, 0) := by
    unfold atV
    rw [if_neg (by omega), Int.toNat_natCast]
  rw [e0]
  clear h1 h2 e0 h
  generalize ps.getD n none = v at *
  cases v with
  | none =>
    go_enter Tryz.func23, Tryz.ntmps23
    go_wp2
    go_ret2
    exact ⟨rfl, rfl⟩
  | some a =>
    go_enter Tryz.func23, Tryz.ntmps23
    go_wp2
    go_ret2
    exact ⟨rfl, rfl⟩
set_option maxRecDepth 100000 in
theorem slots_new (w : World) : Calls Tryz.prog 20 #[] w fun e w' => ∃ g, e = .returned (.pointer (some ⟨g, 0, none⟩)) ∧ Eng w' g (List.replicate 16 none) (List.replicate 16 false) ∧ Chg [] w w' ∧ w.heap.size ≤ g := by
  go_enter Tryz.func20, Tryz.ntmps20
  go_wp2
  go_ret
  exact ⟨w.heap.size, rfl, ⟨Blk.alloc_new w (engCells (List.replicate 16 none) (List.replicate 16 false)) 72, by rfl, by rfl⟩, (Chg.refl _ _).alloc _, Nat.le_refl _⟩
end Go.Proofs.YtmehcfocfljoeaaGreatDoor
