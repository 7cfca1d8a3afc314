/-
  A drawn region in which a property of worlds is kept throughout: what yields wherever it is kept may be taken first. Conditions: none.
-/
import Derived.Test.YtlcoibhbdgdfcaaGreatDoorCoreLumpsB5
namespace Go.Proofs.YtlcoibhbdgdfcaaGreatDoor
open Go.RowKit

section
variable {P : Program} {ops : Array Oper} {Q : Exit → Act → World → Prop} {md : Region.Mode} {S : World → Prop}
/-- Whatever comes up next; behind each operation S is there. -/
def wpN (P : Program) (md : Region.Mode) (ops : Array Oper) (Q : Exit → Act → World → Prop) (S : World → Prop) : Nat → Array Bool → Act → World → Prop
  | 0, seen, a, w => Region.ready md ops seen = [] ∧ Q .normal a w
  | m + 1, seen, a, w => (Region.ready md ops seen = [] → Q .normal a w) ∧
    ∀ j ∈ Region.ready md ops seen, wpOp P ops Q j (fun b u => S u ∧ wpN P md ops Q S m (seen.setIfInBounds j true) b u) a w

theorem wpN_any : ∀ (m : Nat) (seen : Array Bool) (a : Act) (w : World), wpN P md ops Q S m seen a w → wpAny P md ops Q m seen a w
  | 0, _, _, _, h => h
  | m + 1, _, _, _, h => ⟨h.1, fun j hj => wpOp_mono (fun b u k => wpN_any m _ b u k.2) (h.2 j hj)⟩

theorem wpN_first {i : Nat} {oi : Oper} {v : Value} (hi : ops[i]? = some oi) (hno : Region.noSelect ops = true)
    (hQ : ∀ c a w, Q (.panic c) (a.put oi.dst v) w → Q (.panic c) a w) :
    ∀ (m : Nat) (seen : Array Bool) (a : Act) (w : World),
      (∀ j oj, ops[j]? = some oj → j ≠ i → seen.getD j true = false → (∀ e ∈ oj.after, Region.binds md e = true → e.on ≠ i) → oi.apart ops oj = true) →
      i ∈ Region.ready md ops seen → YieldsIf P ops S oi v a → S w →
      wpN P md ops Q S m (seen.setIfInBounds i true) (a.put oi.dst v) w → wpN P md ops Q S (m + 1) seen a w
  | m, seen, a, w => fun hap hr hy hS H => by
    have hun := (mem_ready.1 hr).1
    refine ⟨fun h => (by rw [h] at hr; cases hr), fun j hj => ?_⟩
    rcases Decidable.em (j = i) with rfl | hji
    · exact hy.wpOp hi hS ⟨hS, H⟩
    · obtain ⟨hjun, oj, hoj, hall⟩ := mem_ready.1 hj
      have hwait : ∀ e ∈ oj.after, Region.binds md e = true → e.on ≠ i := fun e he hb heq => by
        have h1 := hall e he hb
        rw [heq] at h1
        by_cases hlt : i < seen.size
        · simp [hlt] at hun h1
          rw [hun] at h1
          cases h1
        · simp [Array.getElem?_eq_none (Nat.le_of_not_lt hlt)] at h1
      match m, H with
      | 0, H =>
        have h1 := ready_mono hj hji
        rw [H.1] at h1
        cases h1
      | m + 1, H =>
        have h2 := wpOp_putIf hoj (hap j oj hoj hji hjun hwait) (fun cs b => Region.noSelect_spec hno i oi cs b hi) (fun cs b => Region.noSelect_spec hno j oj cs b hoj) hQ hy (H.2 j (ready_mono hj hji))
        refine wpOp_mono (fun b u h3 => ⟨h3.2.1, wpN_first hi hno hQ m (seen.setIfInBounds j true) b u (fun k ok hk hki hkun hkno => ?_) (ready_mono hr (Ne.symm hji)) h3.1 h3.2.1 ?_⟩) h2
        · refine hap k ok hk hki ?_ hkno
          by_cases hjk : j = k
          · subst hjk; exact hjun
          · rw [getD_set_ne true hjk] at hkun; exact hkun
        · rw [Array.setIfInBounds_comm _ _ hji]
          exact h3.2.2
end

section
variable {P : Program} {l : List Oper} {Q : Exit → Act → World → Prop} {md : Region.Mode} {S : World → Prop}
theorem startN {id : Nat} {a : Act} {w : World} (hm : P.follows .mixedOrders = true) (hS : S w.drew)
    (h : S w.drew → wpN P .any l.toArray Q S l.toArray.size (Array.replicate l.toArray.size false) a w.drew) : (Code.region id l.toArray true).wp P Q a w :=
  wp_region_any hm (wpN_any _ _ _ _ (h hS))
/-- An operation that yields wherever S is kept is taken first. -/
theorem takeN {i : Nat} {oi : Oper} {v : Value} {m : Nat} {seen : Array Bool} {a : Act} {w : World} (hi : l[i]? = some oi)
    (hno : Region.noSelect l.toArray = true) (hf : Region.free md l.toArray seen i = true) (hr : (Region.ready md l.toArray seen).contains i = true)
    (hQ : ∀ c a w, Q (.panic c) (a.put oi.dst v) w → Q (.panic c) a w) (hy : YieldsIf P l.toArray S oi v a) (hS : S w)
    (h : wpN P md l.toArray Q S m (seen.setIfInBounds i true) (a.put oi.dst v) w) : wpN P md l.toArray Q S (m + 1) seen a w := by
  have hi' : l.toArray[i]? = some oi := by simpa using hi
  exact wpN_first hi' hno hQ m seen a w (Region.free_spec hi' hf) (by simpa using hr) hy hS h
/-- The ways on. -/
def WaysN (P : Program) (md : Region.Mode) (l : List Oper) (Q : Exit → Act → World → Prop) (S : World → Prop) (m : Nat) (seen : Array Bool) (a : Act) (w : World) (rs : List Nat) : Prop :=
  ∀ i ∈ rs, wpOp P l.toArray Q i (fun b u => S u ∧ wpN P md l.toArray Q S m (seen.setIfInBounds i true) b u) a w
theorem nilN {m : Nat} {seen : Array Bool} {a : Act} {w : World} : WaysN P md l Q S m seen a w [] := fun _ h => by cases h
theorem consN {m : Nat} {seen : Array Bool} {a : Act} {w : World} {i : Nat} {o : Oper} {rs : List Nat} (ho : l[i]? = some o)
    (h : ∀ K' : Act → World → Prop, Shut (∀ b u, S u → (S u → wpN P md l.toArray Q S m (seen.setIfInBounds i true) b u) → K' b u) → if Region.wanted o (yielded l.toArray a.tmps) = true then Oper.wp P o a w K' Q else K' (a.put o.dst undef) w)
    (hs : WaysN P md l Q S m seen a w rs) : WaysN P md l Q S m seen a w (i :: rs) := fun j hj => by
  rcases List.mem_cons.1 hj with rfl | hj
  · exact wpOp_step (by simpa using ho) (fun K' hK => h K' (fun b u hS hW => hK b u ⟨hS, hW hS⟩))
  · exact hs j hj
theorem readyN {rs : List Nat} {m : Nat} {seen : Array Bool} {a : Act} {w : World} (hr : Region.ready md l.toArray seen = rs) (hne : rs ≠ [])
    (h : WaysN P md l Q S m seen a w rs) : wpN P md l.toArray Q S (m + 1) seen a w := ⟨fun h0 => absurd (hr ▸ h0) hne, hr ▸ h⟩
theorem doneN {seen : Array Bool} {a : Act} {w : World} (hr : Region.ready md l.toArray seen = []) (h : Q .normal a w) : ∀ m, wpN P md l.toArray Q S m seen a w
  | 0 => ⟨hr, h⟩
  | _ + 1 => ⟨fun _ => h, by rw [hr]; simp⟩
end
end Go.Proofs.YtlcoibhbdgdfcaaGreatDoor
