/-
  A slice of the program's own, of elements of k cells, behind the library's sort by a comparison. Conditions: none.
-/
import Derived.Test.YtgnbabkafobeoaaBase
import Derived.Shelf.GgSortFunc.InsertionK
namespace Go.Proofs.Ytgnbabkafobeoaa
open Go.RowKit Go.Sort

section
variable {α : Type} (enc : α → List Value) (k : Nat)
theorem encs_len (hk : ∀ x, (enc x).length = k) (l : List α) : (l.map enc).flatten.length = l.length * k := by
  induction l with
  | nil => simp
  | cons x l ih => rw [List.map_cons, List.flatten_cons, List.length_append, ih, hk, List.length_cons, Nat.add_mul]; omega
theorem encs_get (hk : ∀ x, (enc x).length = k) : ∀ (l : List α) (i j : Nat) (hi : i < l.length), j < k → (l.map enc).flatten[i * k + j]? = (enc l[i])[j]?
  | x :: l, 0, j, _, hj => by
    rw [List.map_cons, List.flatten_cons, Nat.zero_mul, Nat.zero_add, List.getElem?_append_left (by rw [hk]; exact hj)]
    rfl
  | x :: l, i + 1, j, hi, hj => by
    rw [List.map_cons, List.flatten_cons, List.getElem?_append_right (by rw [hk, Nat.add_mul]; omega), hk, show (i + 1) * k + j - k = i * k + j by rw [Nat.add_mul]; omega]
    exact encs_get hk l i j (by simpa using hi) hj
variable [Inhabited α]
theorem flatK_list (hk : ∀ x, (enc x).length = k) (l : List α) : (flatK enc k l.toArray).toList = (l.map enc).flatten := by
  apply List.ext_getElem?
  intro t
  have hlen := encs_len enc k hk l
  have hs : (flatK enc k l.toArray).size = l.length * k := by simp
  by_cases ht : t < l.length * k
  · have hk0 : 0 < k := by
      rcases Nat.eq_zero_or_pos k with h | h
      · subst h; simp at ht
      · exact h
    have hi : t / k < l.length := (Nat.div_lt_iff_lt_mul hk0).2 ht
    have hj : t % k < k := Nat.mod_lt _ hk0
    have e := encs_get enc k hk l (t / k) (t % k) hi hj
    have e2 : t / k * k + t % k = t := by rw [Nat.mul_comm]; exact Nat.div_add_mod t k
    rw [e2] at e
    rw [e, Array.getElem?_toList, Array.getElem?_eq_getElem (by rw [hs]; exact ht), ← getElem!_pos (flatK enc k l.toArray) t (by rw [hs]; exact ht), get_flatK enc k l.toArray t (by simpa using ht)]
    rw [getElem!_pos l.toArray (t / k) (by simpa using hi), List.getElem_toArray, getElem!_pos _ (t % k) (by rw [hk]; exact hj), List.getElem?_eq_getElem (by rw [hk]; exact hj)]
  · rw [Array.getElem?_toList, Array.getElem?_eq_none (by rw [hs]; omega), List.getElem?_eq_none (by rw [hlen]; omega)]
variable {enc : α → List Value} {k : Nat}
theorem Own.holdsK (hk : ∀ x, (enc x).length = k) {w : World} {e : TypeId} {g o cap : Nat} {l : List α} (h : Own w e k (.slice (some ⟨g, o, none⟩) l.length cap) l.length (l.map enc).flatten) : HoldsK enc k w g o l.toArray := by
  intro j hj
  have hj' : j < l.length * k := by simpa using hj
  refine ⟨?_, h.free _⟩
  rw [h.cells j hj', ← flatK_list enc k hk l, Array.getElem?_toList, Array.getElem?_eq_getElem hj, getElem!_pos _ j hj]
  rfl
theorem sorted_heap {w : World} {g n : Nat} {off : Nat} {os : Array Obj} {cur : Array Value} {e : TypeId} {fr : Nat × Nat} (d : Array α) (hb : w.heap[g]? = some (.cells cur e fr)) :
    (sortWorldK enc k w g off n d os).heap[g]? = some (.cells (putCells id off (flatK enc k d) cur) e fr) := by
  have hg : g < w.heap.size := (Array.getElem?_eq_some_iff.1 hb).1
  unfold sortWorldK putRowK
  rw [heap_grow_old _ _ (by simpa using hg)]
  simp [putRow, mapBlock, Sort.ahead, Array.getElem?_modify, hb, onCells]
theorem sorted_chg (w : World) (g n off : Nat) (os : Array Obj) (d : Array α) : Chg [g] w (sortWorldK enc k w g off n d os) := by
  refine ⟨rfl, rfl, rfl, by simp [sortWorldK, putRowK], fun j hj hne => ?_⟩
  unfold sortWorldK putRowK
  rw [heap_grow_old _ _ (by simpa using hj)]
  have : g ≠ j := fun e => hne (by simp [e])
  simp [putRow, mapBlock, Sort.ahead, Array.getElem?_modify, this]
theorem Own.sorted (hk : ∀ x, (enc x).length = k) {w : World} {e : TypeId} {g o cap : Nat} {l l' : List α} (h : Own w e k (.slice (some ⟨g, o, none⟩) l.length cap) l.length (l.map enc).flatten) (hl : l'.length = l.length) (n : Nat) (os : Array Obj) :
    Own (sortWorldK enc k w g o n l'.toArray os) e k (.slice (some ⟨g, o, none⟩) l.length cap) l.length (l'.map enc).flatten := by
  obtain ⟨h1, ⟨h0, _⟩ | ⟨g', o', cap', cur, h0, h2, h3, h4, h5, h6⟩⟩ := h
  · simp at h0
  simp only [Value.slice.injEq, Option.some.injEq, Addr.mk.injEq, and_true, true_and] at h0
  obtain ⟨⟨rfl, rfl⟩, rfl⟩ := h0
  refine ⟨by rw [encs_len enc k hk, hl], .inr ⟨g, o, cap, _, rfl, sorted_heap _ h2, h3, h4, by simpa [putCells] using h5, ?_⟩⟩
  have hle : l.length * k ≤ cap * k := Nat.mul_le_mul_right k h3
  apply List.ext_getElem?
  intro t
  by_cases ht : t < l.length * k
  · rw [List.getElem?_take_of_lt ht, List.getElem?_drop, Array.getElem?_toList, ← flatK_list enc k hk l']
    have hf : t < (flatK enc k l'.toArray).size := by simp [hl, ht]
    simp only [putCells, Array.getElem?_mapIdx]
    rw [Array.getElem?_eq_getElem (show o + t < cur.size by omega), Option.map_some, if_pos ⟨by omega, by omega⟩, Array.getElem?_toList, Array.getElem?_eq_getElem hf, show o + t - o = t by omega, getElem!_pos _ t hf]
    rfl
  · rw [List.getElem?_take_eq_none (by omega), List.getElem?_eq_none (by rw [encs_len enc k hk, hl]; omega)]
end
end Go.Proofs.Ytgnbabkafobeoaa
