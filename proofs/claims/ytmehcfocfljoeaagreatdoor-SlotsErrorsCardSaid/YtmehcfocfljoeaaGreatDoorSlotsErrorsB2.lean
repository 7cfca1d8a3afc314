/-
  What the laws of this seat share: how their arguments are opened (numbers, texts, rows of structs), with the form's own reach, and how a law is closed from its walk. Conditions: none.
-/
import Derived.Test.YtmehcfocfljoeaaGreatDoorSlotsErrorsB1
import Derived.ProofKit
import Derived.OpenShut
import Derived.ShutString
import Derived.ChangeOld
import Derived.Below
import Derived.SizedLaws
import Derived.Deep.Slices
namespace Go.Proofs.YtmehcfocfljoeaaGreatDoor
open Go.ChangeShapes Go.WideShapes Go.ChangeAt Go.RowKit
open Go.ChangeMaps (open_string shut_string)

section
variable {H : Type} {enc : TypeId × Value → H} {P : Program} {W : World}

/-- Each thing that is read takes no more than the reach. -/
def Reached (P : Program) (t : TypeId) (d : DataW H) : Prop := (d.weights P t).all (· ≤ reachBytes) = true

theorem reached_cons {t : TypeId} {ts : List TypeId} {d : DataW H} {ds : List (DataW H)} (h : (DataW.weightsEach P (t :: ts) (d :: ds)).all (· ≤ reachBytes) = true) :
    Reached P t d ∧ (DataW.weightsEach P ts ds).all (· ≤ reachBytes) = true := by
  rw [DataW.weightsEach, List.all_append, Bool.and_eq_true] at h
  exact h

theorem reached_all {t : TypeId} : ∀ {ds : List (DataW H)}, (DataW.weightsAll P t ds).all (· ≤ reachBytes) = true → ∀ d ∈ ds, Reached P t d := by
  intro ds
  induction ds with
  | nil => intro _ d hd; cases hd
  | cons a r ih =>
    intro h d hd
    rw [DataW.weightsAll, List.all_append, Bool.and_eq_true] at h
    rcases List.mem_cons.1 hd with rfl | hd
    · exact h.1
    · exact ih h.2 d hd

theorem open_text {r : Reach} {b0 base : Nat} {sp : Nat → Bool} {held : Bool} {t : TypeId} {v : Value} {d : DataW H} {ps : List MemPlace} (ht : P.underlying t = some .string) (hval : Value.okWide P W r b0 t v) (hd : DataW.Trod enc P W base sp held t v d ps) (hr : Reached P t d) :
    ∃ l : List UInt8, v = .string ⟨l.toArray⟩ ∧ l.length ≤ 140737488351232 := by
  obtain ⟨s, rfl, rfl, rfl, hs⟩ := open_string ht hval hd
  refine ⟨s.data.toList, by simp, ?_⟩
  simp only [Reached, DataW.weights, List.all_cons, List.all_nil, Bool.and_true, reachBytes] at hr
  exact of_decide_eq_true hr

theorem trod_text {base : Nat} {sp : Nat → Bool} {held : Bool} {fuel : Nat} {t : TypeId} {cs : List Value} {y : DataW H × List MemPlace} (ht : P.underlying t = some .string) (hd : DataW.trod enc P W base sp held fuel t cs = some y) (hr : Reached P t y.1) :
    ∃ l : List UInt8, cs = [.string ⟨l.toArray⟩] ∧ l.length ≤ 140737488351232 := by
  obtain ⟨s, rfl, rfl, hs⟩ := DataW.trod_string ht hd
  refine ⟨s.data.toList, by simp, ?_⟩
  simp only [Reached, DataW.weights, List.all_cons, List.all_nil, Bool.and_true, reachBytes] at hr
  exact of_decide_eq_true hr

theorem mapM_cells {w : World} {a : Addr} : ∀ {n : Nat} {cs : List Value}, (List.range n).mapM (fun i => w.cell? (a.add i)) = some cs → cs.length = n ∧ ∀ i, i < n → w.cell? (a.add i) = cs[i]? := by
  intro n
  induction n with
  | zero => intro cs h; simp at h; subst h; simp
  | succ n ih =>
    intro cs h
    rw [List.range_succ, List.mapM_append] at h
    simp only [List.mapM_cons, List.mapM_nil, Option.bind_eq_bind, Option.pure_def] at h
    obtain ⟨c1, h1, h⟩ := Option.bind_eq_some_iff.1 h
    obtain ⟨c2, h2, h⟩ := Option.bind_eq_some_iff.1 h
    obtain ⟨x, hx, h2⟩ := Option.bind_eq_some_iff.1 h2
    simp at h2 h
    subst h2
    subst h
    obtain ⟨hl, hc⟩ := ih h1
    refine ⟨by simp [hl], fun i hi => ?_⟩
    by_cases hin : i < n
    · rw [hc i hin, List.getElem?_append_left (by omega)]
    · obtain rfl : i = n := by omega
      rw [hx, List.getElem?_append_right (by omega), hl]
      simp

/-- A slice that came in: its elements' cells, one behind the other; what each reads as; and the form's reach. -/
theorem open_rows {t e : TypeId} {v : Value} {d : DataW H} {ps : List MemPlace} {r : Reach} {b0 : Nat} (ht : P.underlying t = some (.slice e)) (hval : Value.okWide P W r b0 t v)
    (hd : DataW.Trod enc P W 0 (fun _ => true) true t v d ps) (hr : Reached P t d) (hpos : 0 < P.cellsOf e) :
    ∃ (ao : Option Addr) (cap : Nat) (xs : List (List Value)), v = .slice ao xs.length cap ∧ Rd W (P.cellsOf e) v xs.length xs.flatten ∧ (∀ b ∈ abl ao, b < W.heap.size ∨ xs.length = 0) ∧
      xs.length * P.bytesOf e ≤ 140737488351232 ∧ xs.length ≤ maxLen ∧
      ∀ x ∈ xs, x.length = P.cellsOf e ∧ ∃ (n : Nat) (y : DataW H × List MemPlace), DataW.trod enc P W 0 (fun _ => true) true n e x = some y ∧ Reached P e y.1 := by
  obtain ⟨a0, len0, cp, rfl⟩ := okWide_slice ht hval
  obtain ⟨fuel, hf⟩ := hd
  rcases Go.Deep.open_slice ht hf with ⟨hcs, hx⟩ | ⟨a, len, cap, m, n, D, Pl, hcs, _, hlc, hcm, hm, hx, hel⟩
  · simp [Value.cells] at hcs
    obtain ⟨rfl, rfl, rfl⟩ := hcs
    exact ⟨none, 0, [], rfl, ⟨by simp, none, 0, rfl, .inl rfl⟩, by simp, by simp, by simp [maxLen], by simp⟩
  · simp [Value.cells] at hcs
    obtain ⟨rfl, rfl, rfl⟩ := hcs
    simp only [Prod.mk.injEq] at hx
    obtain ⟨rfl, rfl⟩ := hx
    simp only [if_true] at hm
    obtain rfl := hm.symm
    simp only [Reached, DataW.weights, ht, List.all_cons, List.all_append, Bool.and_eq_true, reachBytes] at hr
    obtain ⟨hr0, hr1, _⟩ := hr
    have hr0 := of_decide_eq_true hr0
    have key : ∀ i, i < len0 → ∃ x : List Value, x.length = P.cellsOf e ∧ (∀ j, j < P.cellsOf e → W.cell? ((a.add (i * P.cellsOf e)).add j) = x[j]?) ∧ ∃ (n : Nat) (y : DataW H × List MemPlace), DataW.trod enc P W 0 (fun _ => true) true n e x = some y ∧ Reached P e y.1 := by
      intro i hi
      obtain ⟨x, h1, h2⟩ := hel i (by omega)
      simp only [World.cells?, Nat.zero_le, if_true] at h1
      obtain ⟨hl, hc⟩ := mapM_cells h1
      exact ⟨x, hl, hc, n, _, h2, reached_all hr1 _ (List.mem_map.2 ⟨i, by simpa using hi, rfl⟩)⟩
    obtain ⟨X, hX⟩ := Go.Deep.choose_lt key
    have hlen : ((List.range len0).map X).length = len0 := by simp
    have hfl : ∀ n, n ≤ len0 → (((List.range n).map X).flatten).length = n * P.cellsOf e := by
      intro n
      induction n with
      | zero => simp
      | succ n ih =>
        intro hn
        rw [List.range_succ, List.map_append, List.flatten_append, List.length_append, ih (by omega)]
        simp [(hX n (by omega)).1, Nat.succ_mul]
    have hget : ∀ n i j, n ≤ len0 → i < n → j < P.cellsOf e → (((List.range n).map X).flatten)[i * P.cellsOf e + j]? = (X i)[j]? := by
      intro n
      induction n with
      | zero => intro i j _ hi; omega
      | succ n ih =>
        intro i j hn hi hj
        rw [List.range_succ, List.map_append, List.flatten_append]
        by_cases hin : i < n
        · rw [List.getElem?_append_left, ih i j (by omega) hin hj]
          rw [hfl n (by omega)]
          have : (i + 1) * P.cellsOf e ≤ n * P.cellsOf e := Nat.mul_le_mul_right _ (by omega)
          rw [Nat.succ_mul] at this
          omega
        · obtain rfl : i = n := by omega
          rw [List.getElem?_append_right (by rw [hfl i (by omega)]; omega), hfl i (by omega)]
          simp
    refine ⟨some a, cp, (List.range len0).map X, by rw [hlen], ?_, ?_, ?_, by rw [hlen]; omega, ?_⟩
    · rw [hlen]
      refine ⟨hfl len0 (Nat.le_refl _), some a, cp, rfl, ?_⟩
      by_cases h0 : len0 = 0
      · exact .inl h0
      · right
        obtain ⟨b, off, spot⟩ := a
        have hspot : spot = none := by
          obtain ⟨hl, hc, _⟩ := hX 0 (by omega)
          have := hc 0 hpos
          have hs : (X 0)[0]? = some ((X 0)[0]'(by omega)) := List.getElem?_eq_getElem _
          rw [hs] at this
          simpa [Addr.add] using World.cell?_spot this
        subst hspot
        refine ⟨b, off, rfl, fun j hj => ?_⟩
        have hdiv : j / P.cellsOf e < len0 := Nat.div_lt_of_lt_mul (by rw [Nat.mul_comm]; exact hj)
        have hmod := Nat.mod_lt j hpos
        have e1 := hget len0 (j / P.cellsOf e) (j % P.cellsOf e) (Nat.le_refl _) hdiv hmod
        have e2 := (hX (j / P.cellsOf e) hdiv).2.1 (j % P.cellsOf e) hmod
        rw [Nat.mul_comm, Nat.div_add_mod] at e1
        rw [e1, ← e2, Go.Deep.add_add, Nat.mul_comm, Nat.div_add_mod]
        by_cases hj0 : j = 0
        · subst hj0; simp [Addr.add]
        · simp [Addr.add, hj0]
    · intro b hb
      by_cases h0 : len0 = 0
      · exact .inr (by simpa using h0)
      · left
        simp only [abl_some, List.mem_singleton] at hb
        subst hb
        obtain ⟨hl, hc, _⟩ := hX 0 (by omega)
        have := hc 0 hpos
        have hs : (X 0)[0]? = some ((X 0)[0]'(by omega)) := List.getElem?_eq_getElem _
        rw [hs] at this
        have hlt := World.block_lt_of_cell? W _ this
        simpa [Addr.add] using hlt
    · rw [hlen]
      have : len0 * P.bytesOf e ≤ (((List.range len0).map D).length + ((List.range (cp - len0)).map fun j => D (len0 + j)).length) * P.bytesOf e := Nat.mul_le_mul_right _ (by simp)
      omega
    · intro x hx
      obtain ⟨i, hi, rfl⟩ := List.mem_map.1 hx
      obtain ⟨h1, _, h2⟩ := hX i (by simpa using hi)
      exact ⟨h1, h2⟩

/-- What each of a list is, said of the whole list. -/
theorem choose_list {α : Type} {p : α → Prop} {f : α → List Value} : ∀ {xs : List (List Value)}, (∀ x ∈ xs, ∃ a, x = f a ∧ p a) → ∃ ys : List α, xs = ys.map f ∧ ∀ a ∈ ys, p a := by
  intro xs
  induction xs with
  | nil => intro _; exact ⟨[], rfl, by simp⟩
  | cons x r ih =>
    intro h
    obtain ⟨a, ha, hp⟩ := h x (by simp)
    obtain ⟨ys, has, hps⟩ := ih (fun y hy => h y (by simp [hy]))
    exact ⟨a :: ys, by simp [ha, has], by intro b hb; rcases List.mem_cons.1 hb with rfl | hb; exact hp; exact hps b hb⟩

/-- All arguments read behind the call as before it, if nothing old has turned. -/
theorem trodAll_below (hl : laidOutB P = true) {W' : World} (hb : Below W.heap.size W W') : ∀ {ts : List TypeId} {vs : List Value} {ds : List (DataW H)} {ps : List MemPlace},
    (ts.all fun t => P.readableRec t && decide (t < P.types.size)) = true → DataW.TrodAll enc P W 0 (fun _ => true) true ts vs ds ps → (∀ x ∈ ps, x.block < W.heap.size) →
    DataW.TrodAll enc P W' 0 (fun b => decide (b < W.heap.size)) true ts vs ds ps := by
  intro ts
  induction ts with
  | nil =>
    intro vs ds ps _ h _
    cases vs <;> cases ds <;> simp_all [DataW.TrodAll]
  | cons t ts ih =>
    intro vs ds ps hr h hlt
    obtain ⟨v, vs', d, ds', p, q, rfl, rfl, rfl, h0, h1⟩ := trodAll_cons h
    rw [List.all_cons, Bool.and_eq_true, Bool.and_eq_true, decide_eq_true_eq] at hr
    exact trodAll_cons_mk (Below.trod hl hr.1.1 hr.1.2 h0 hb (fun x hx => hlt x (by simp [hx]))) (ih hr.2 h1 (fun x hx => hlt x (by simp [hx])))

theorem post_law {f : Func} {s : ChangeSpec} {W' : World} {args : Array Value} {ds : List (DataW H)} {before : List MemPlace} {tb : TypeId}
    (hl : laidOutB P = true) (hread : (f.params.toList.all fun t => P.readableRec t && decide (t < P.types.size)) = true) (htb : P.underlying tb = some .bool) (hf : f.resultTypes = #[tb]) (hvars : s.vars = [])
    (hres : (s.fn H ds).results = [.lit (.bool true)]) (hargs : (s.fn H ds).args = ds) (hv : (s.fn H ds).vars = [])
    (hW : DataW.Whole enc P f.params.toList s.vars false W args.toList ds [] before) (hb : Below W.heap.size W W') :
    s.post enc P f false true false false W args (.bool true) W' := by
  have hlt : ∀ x ∈ before, x.block < W.heap.size := fun x hx => hW.lt x hx
  have hW' := hW
  obtain ⟨p, q, hA, hV, rfl, _, _⟩ := hW
  rw [hvars] at hV
  obtain ⟨_, rfl⟩ := trodVars_none hV
  refine ⟨ds, [], _, [], p, [], hW', ?_, ?_, ?_, hb.frame _, fun h => by cases h⟩
  · rw [List.append_nil, hf, hres]
    exact trodAll_mk1 (shut_bool htb _)
  · rw [List.append_nil, hargs]
    exact trodAll_below hl hb hread hA (fun x hx => hlt x (by simp [hx]))
  · rw [hvars, List.append_nil, hv]
    rfl
end
end Go.Proofs.YtmehcfocfljoeaaGreatDoor
