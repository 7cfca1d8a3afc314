/-
  The library's sort of numbers: its contract at a slice of the program's own. Conditions: none.
-/
import Derived.Test.YtkcldhimjnehdaaSortIntL
import Derived.Test.YtkcldhimjnehdaaSteps
import Derived.Test.YtkcldhimjnehdaaPlainMsort
namespace Go.Proofs.Ytkcldhimjnehdaa
open Go.RowKit Go.Sort

theorem ints_getE (l : List Int) (j : Nat) (h : j < l.length) : (ints l)[j]? = some (.int .i64 l[j]) := by simp [ints, h]
theorem Own.holdsI {w : World} {e : TypeId} {g o cap : Nat} {l : List Int} (h : Own w e 1 (.slice (some ⟨g, o, none⟩) l.length cap) l.length (ints l)) : Holds (Value.int .i64) w g o l.toArray := by
  intro j hj
  have hj' : j < l.length := by simpa using hj
  refine ⟨?_, h.free _⟩
  rw [h.cells j (by omega), ints_getE l j hj', getElem!_pos l.toArray j hj, List.getElem_toArray]
theorem sortedI_heap {w : World} {g n off : Nat} {os : Array Obj} {cur : Array Value} {e : TypeId} {fr : Nat × Nat} (d : Array Int) (hb : w.heap[g]? = some (.cells cur e fr)) :
    (grow (putRow (Value.int .i64) (Sort.ahead w n) g off d) os).heap[g]? = some (.cells (putCells (Value.int .i64) off d cur) e fr) := by
  have hg : g < w.heap.size := (Array.getElem?_eq_some_iff.1 hb).1
  rw [heap_grow_old _ _ (by simpa using hg)]
  simp [putRow, mapBlock, Sort.ahead, Array.getElem?_modify, hb, onCells]
theorem sortedI_chg (w : World) (g n off : Nat) (os : Array Obj) (d : Array Int) : Chg [g] w (grow (putRow (Value.int .i64) (Sort.ahead w n) g off d) os) := by
  refine ⟨rfl, rfl, rfl, by simp, fun j hj hne => ?_⟩
  rw [heap_grow_old _ _ (by simpa using hj)]
  have : g ≠ j := fun e => hne (by simp [e])
  simp [putRow, mapBlock, Sort.ahead, Array.getElem?_modify, this]
theorem Own.sortedI {w : World} {e : TypeId} {g o cap : Nat} {l l' : List Int} (h : Own w e 1 (.slice (some ⟨g, o, none⟩) l.length cap) l.length (ints l)) (hl : l'.length = l.length) (n : Nat) (os : Array Obj) :
    Own (grow (putRow (Value.int .i64) (Sort.ahead w n) g o l'.toArray) os) e 1 (.slice (some ⟨g, o, none⟩) l.length cap) l.length (ints l') := by
  obtain ⟨h1, ⟨h0, _⟩ | ⟨g', o', cap', cur, h0, h2, h3, h4, h5, h6⟩⟩ := h
  · simp at h0
  simp only [Value.slice.injEq, Option.some.injEq, Addr.mk.injEq, and_true, true_and] at h0
  obtain ⟨⟨rfl, rfl⟩, rfl⟩ := h0
  refine ⟨by simp [ints, hl], .inr ⟨g, o, cap, _, rfl, sortedI_heap _ h2, h3, h4, by simpa [putCells] using h5, ?_⟩⟩
  apply List.ext_getElem?
  intro t
  by_cases ht : t < l.length
  · rw [List.getElem?_take_of_lt (by omega), List.getElem?_drop, Array.getElem?_toList, ints_getE l' t (by omega)]
    have hf : t < l'.toArray.size := by simpa [hl] using ht
    simp only [putCells, Array.getElem?_mapIdx]
    rw [Array.getElem?_eq_getElem (show o + t < cur.size by omega), Option.map_some, if_pos ⟨by omega, by omega⟩, show o + t - o = t by omega, getElem!_pos _ t hf, List.getElem_toArray]
  · rw [List.getElem?_take_eq_none (by omega), List.getElem?_eq_none (by simp [ints, hl]; omega)]

/-- The sort: the same slice, the numbers in order. -/
theorem sort_ints (w : World) (ao : Option Addr) (cap n : Nat) (l : List Int) (hn : n = l.length) (h : Own w 2 1 (.slice ao n cap) n (ints l)) (hsz : n < 4611686018427387904) :
    Calls Try.prog 54 #[.slice ao n cap] w fun e w' => e = .returned (.tuple #[]) ∧ Own w' 2 1 (.slice ao n cap) n (ints (sortL l)) ∧ Chg (abl ao) w w' := by
  subst hn
  have hl := (sort_ok l).2.2
  by_cases h0 : l = []
  · subst h0
    have hcon := AnyM.slices_Sort_int_none sortI ao cap w
    change Calls Try.prog 54 _ _ _ at hcon
    refine hcon.mono ?_
    rintro e w' ⟨rfl, rfl⟩
    exact ⟨rfl, h, Chg.refl _ _⟩
  · have hpos : 0 < l.length := List.length_pos_iff.2 h0
    obtain ⟨g, o, rfl, -⟩ := h.rd.addr hpos
    have hcon := AnyM.slices_Sort_int sortI g o cap l w h.holdsI (h.lt g (by simp)) hsz
    change Calls Try.prog 54 _ _ _ at hcon
    rw [msort_eq] at hcon
    refine hcon.mono ?_
    rintro e w' ⟨rfl, m, os, rfl⟩
    exact ⟨rfl, h.sortedI hl m os, sortedI_chg _ _ _ _ _ _⟩
end Go.Proofs.Ytkcldhimjnehdaa
