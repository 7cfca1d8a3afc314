/-
  A drawn region whose last operation stores what the region's loads have read: the loads may be taken first. Conditions: none.
-/
import Derived.Test.YtbaobiniianamaaStepCall
namespace Go.Proofs.Ytbaobiniianamaa
open Go.RowKit

section
variable {P : Program} {ops : Array Oper} {Q : Exit → Act → World → Prop} {md : Region.Mode} {S : World → Prop} {st : Nat}

/-- Does the operation st wait for the operation i? -/
def waitsB (md : Region.Mode) (ops : Array Oper) (st i : Nat) : Bool := match ops[st]? with
  | some o => o.after.toList.any (fun e => Region.binds md e && e.on == i)
  | none => true

/-- Whatever comes up next; behind each operation but st (which stores last of all) S is there. -/
def wpG (P : Program) (md : Region.Mode) (ops : Array Oper) (Q : Exit → Act → World → Prop) (S : World → Prop) (st : Nat) : Nat → Array Bool → Act → World → Prop
  | 0, seen, a, w => Region.ready md ops seen = [] ∧ Q .normal a w
  | m + 1, seen, a, w => (Region.ready md ops seen = [] → Q .normal a w) ∧
    ∀ j ∈ Region.ready md ops seen, wpOp P ops Q j (fun b u => (j ≠ st → seen.getD st true = false → S u) ∧ wpG P md ops Q S st m (seen.setIfInBounds j true) b u) a w

theorem wpG_any : ∀ (m : Nat) (seen : Array Bool) (a : Act) (w : World), wpG P md ops Q S st m seen a w → wpAny P md ops Q m seen a w
  | 0, _, _, _, h => h
  | m + 1, _, _, _, h => ⟨h.1, fun j hj => wpOp_mono (fun b u k => wpG_any m _ b u k.2) (h.2 j hj)⟩

theorem wpG_first {T : World → Prop} {i : Nat} {oi : Oper} {v : Value} (hi : ops[i]? = some oi) (hno : Region.noSelect ops = true) (his : i ≠ st)
    (hQ : ∀ c a w, Q (.panic c) (a.put oi.dst v) w → Q (.panic c) a w) :
    ∀ (m : Nat) (seen : Array Bool) (a : Act) (w : World),
      ((∀ u, T u) ∨ ((∀ u, S u → T u) ∧ waitsB md ops st i = true ∧ seen.getD st true = false)) →
      (∀ j oj, ops[j]? = some oj → j ≠ i → seen.getD j true = false → (∀ e ∈ oj.after, Region.binds md e = true → e.on ≠ i) → oi.apart ops oj = true) →
      i ∈ Region.ready md ops seen → YieldsIf P ops T oi v a → T w → (seen.getD st true = false → S w) →
      wpG P md ops Q S st m (seen.setIfInBounds i true) (a.put oi.dst v) w → wpG P md ops Q S st (m + 1) seen a w
  | m, seen, a, w => fun hT hap hr hy hTw hS H => by
    have hun := (mem_ready.1 hr).1
    refine ⟨fun h => (by rw [h] at hr; cases hr), fun j hj => ?_⟩
    rcases Decidable.em (j = i) with rfl | hji
    · exact hy.wpOp hi hTw ⟨fun _ => hS, H⟩
    · obtain ⟨hjun, oj, hoj, hall⟩ := mem_ready.1 hj
      have hwait : ∀ e ∈ oj.after, Region.binds md e = true → e.on ≠ i := fun e he hb heq => by
        have h1 := hall e he hb
        rw [heq] at h1
        by_cases hlt : i < seen.size
        · simp [hlt] at hun h1
          rw [hun] at h1
          cases h1
        · simp [Array.getElem?_eq_none (Nat.le_of_not_lt hlt)] at h1
      have hjst : waitsB md ops st i = true → j ≠ st := fun hw e => by
        subst e
        simp only [waitsB, hoj, List.any_eq_true, Bool.and_eq_true, beq_iff_eq] at hw
        obtain ⟨e, he, hb, heq⟩ := hw
        exact hwait e (by simpa using he) hb heq
      match m, H with
      | 0, H =>
        have h1 := ready_mono hj hji
        rw [H.1] at h1
        cases h1
      | m + 1, H =>
        have h2 := wpOp_putIf hoj (hap j oj hoj hji hjun hwait) (fun cs b => Region.noSelect_spec hno i oi cs b hi) (fun cs b => Region.noSelect_spec hno j oj cs b hoj) hQ hy (H.2 j (ready_mono hj hji))
        have hSu : ∀ u, (j ≠ st → (seen.setIfInBounds i true).getD st true = false → S u) → j ≠ st → seen.getD st true = false → S u := fun u h1 h4 h5 => h1 h4 (by rw [getD_set_ne true his]; exact h5)
        refine wpOp_mono (fun b u h3 => ⟨fun h4 h5 => hSu u h3.2.1 h4 h5, wpG_first hi hno his hQ m (seen.setIfInBounds j true) b u ?_ (fun k ok hk hki hkun hkno => ?_) (ready_mono hr (Ne.symm hji)) h3.1 ?_ (fun h5 => ?_) ?_⟩) h2
        · rcases hT with hT | ⟨hT, hw, hs⟩
          · exact .inl hT
          · exact .inr ⟨hT, hw, by rw [getD_set_ne true (hjst hw)]; exact hs⟩
        · refine hap k ok hk hki ?_ hkno
          by_cases hjk : j = k
          · subst hjk; exact hjun
          · rw [getD_set_ne true hjk] at hkun; exact hkun
        · rcases hT with hT | ⟨hT, hw, hs⟩
          · exact hT u
          · exact hT u (hSu u h3.2.1 (hjst hw) hs)
        · have hjs : j ≠ st := fun e => by
            subst e
            by_cases hlt : j < seen.size
            · simp [hlt] at h5
            · simp [Nat.le_of_not_lt hlt] at h5
          rw [getD_set_ne true hjs] at h5
          exact hSu u h3.2.1 hjs h5
        · rw [Array.setIfInBounds_comm _ _ hji]
          exact h3.2.2
end

section
variable {P : Program} {l : List Oper} {Q : Exit → Act → World → Prop} {md : Region.Mode} {S : World → Prop} {st : Nat}
/-- The beginning. -/
theorem startG {id : Nat} {a : Act} {w : World} (hm : P.follows .mixedOrders = true) (hS : S w.drew)
    (h : S w.drew → wpG P .any l.toArray Q S st l.toArray.size (Array.replicate l.toArray.size false) a w.drew) : (Code.region id l.toArray true).wp P Q a w :=
  wp_region_any hm (wpG_any _ _ _ _ (h hS))
/-- A load: an operation that yields wherever S is, and for which st waits, is taken first. -/
theorem takeG {i : Nat} {oi : Oper} {v : Value} {m : Nat} {seen : Array Bool} {a : Act} {w : World} (hi : l[i]? = some oi)
    (hno : Region.noSelect l.toArray = true) (hf : Region.free md l.toArray seen i = true) (hr : (Region.ready md l.toArray seen).contains i = true) (his : i ≠ st) (hw : waitsB md l.toArray st i = true) (hs : seen.getD st true = false)
    (hQ : ∀ c a w, Q (.panic c) (a.put oi.dst v) w → Q (.panic c) a w) (hy : YieldsIf P l.toArray S oi v a) (hS : S w)
    (h : wpG P md l.toArray Q S st m (seen.setIfInBounds i true) (a.put oi.dst v) w) : wpG P md l.toArray Q S st (m + 1) seen a w := by
  have hi' : l.toArray[i]? = some oi := by simpa using hi
  exact wpG_first (T := S) hi' hno his hQ m seen a w (.inr ⟨fun _ h => h, hw, hs⟩) (Region.free_spec hi' hf) (by simpa using hr) hy hS (fun _ => hS) h
/-- An operation that yields in every world is taken first. -/
theorem takeP {i : Nat} {oi : Oper} {v : Value} {m : Nat} {seen : Array Bool} {a : Act} {w : World} (hi : l[i]? = some oi)
    (hno : Region.noSelect l.toArray = true) (hf : Region.free md l.toArray seen i = true) (hr : (Region.ready md l.toArray seen).contains i = true) (his : i ≠ st)
    (hQ : ∀ c a w, Q (.panic c) (a.put oi.dst v) w → Q (.panic c) a w) (hy : YieldsIf P l.toArray (fun _ => True) oi v a) (hS : S w)
    (h : wpG P md l.toArray Q S st m (seen.setIfInBounds i true) (a.put oi.dst v) w) : wpG P md l.toArray Q S st (m + 1) seen a w := by
  have hi' : l.toArray[i]? = some oi := by simpa using hi
  exact wpG_first (T := fun _ => True) hi' hno his hQ m seen a w (.inl fun _ => trivial) (Region.free_spec hi' hf) (by simpa using hr) hy trivial (fun _ => hS) h
/-- The ways on. -/
def WaysG (P : Program) (md : Region.Mode) (l : List Oper) (Q : Exit → Act → World → Prop) (S : World → Prop) (st : Nat) (m : Nat) (seen : Array Bool) (a : Act) (w : World) (rs : List Nat) : Prop :=
  ∀ i ∈ rs, wpOp P l.toArray Q i (fun b u => (i ≠ st → seen.getD st true = false → S u) ∧ wpG P md l.toArray Q S st m (seen.setIfInBounds i true) b u) a w
theorem nilG {m : Nat} {seen : Array Bool} {a : Act} {w : World} : WaysG P md l Q S st m seen a w [] := fun _ h => by cases h
theorem consG {m : Nat} {seen : Array Bool} {a : Act} {w : World} {i : Nat} {o : Oper} {rs : List Nat} (ho : l[i]? = some o)
    (h : ∀ K' : Act → World → Prop, Shut (∀ b u, (i ≠ st → seen.getD st true = false → S u) → ((i ≠ st → seen.getD st true = false → S u) → wpG P md l.toArray Q S st m (seen.setIfInBounds i true) b u) → K' b u) → if Region.wanted o (yielded l.toArray a.tmps) = true then Oper.wp P o a w K' Q else K' (a.put o.dst undef) w)
    (hs : WaysG P md l Q S st m seen a w rs) : WaysG P md l Q S st m seen a w (i :: rs) := fun j hj => by
  rcases List.mem_cons.1 hj with rfl | hj
  · exact wpOp_step (by simpa using ho) (fun K' hK => h K' (fun b u hS hW => hK b u ⟨hS, hW hS⟩))
  · exact hs j hj
theorem readyG {rs : List Nat} {m : Nat} {seen : Array Bool} {a : Act} {w : World} (hr : Region.ready md l.toArray seen = rs) (hne : rs ≠ [])
    (h : WaysG P md l Q S st m seen a w rs) : wpG P md l.toArray Q S st (m + 1) seen a w := ⟨fun h0 => absurd (hr ▸ h0) hne, hr ▸ h⟩
theorem doneG {seen : Array Bool} {a : Act} {w : World} (hr : Region.ready md l.toArray seen = []) (h : Q .normal a w) : ∀ m, wpG P md l.toArray Q S st m seen a w
  | 0 => ⟨hr, h⟩
  | _ + 1 => ⟨fun _ => h, by rw [hr]; simp⟩
end
end Go.Proofs.Ytbaobiniianamaa
