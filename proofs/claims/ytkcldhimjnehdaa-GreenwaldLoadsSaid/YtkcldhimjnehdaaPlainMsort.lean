/-
  Plainly: rows in order are told by how many are no greater; the library's sort of numbers is the document's. Conditions: none.
-/
import Derived.Test.YtkcldhimjnehdaaPlainReq
namespace Go.Proofs.Ytkcldhimjnehdaa
theorem up_lt {l : List Int} (h : up l) (x : Int) (k : Nat) (hk : k < l.length) : l[k] ≤ x ↔ k < upL l x := by
  obtain ⟨h1, h2, h3⟩ := up_parted h x
  constructor
  · intro hx
    rcases Nat.lt_or_ge k (upL l x) with h4 | h4
    · exact h4
    · have hm : l[k] ∈ l.drop (upL l x) := by
        rw [List.mem_iff_getElem]
        refine ⟨k - upL l x, by rw [List.length_drop]; omega, ?_⟩
        rw [List.getElem_drop]
        congr 1
        omega
      have := h2 _ hm
      omega
  · intro hx
    refine h1 _ ?_
    rw [List.mem_iff_getElem]
    exact ⟨k, by rw [List.length_take]; omega, by rw [List.getElem_take]⟩
theorem up_unique {a b : List Int} (ha : up a) (hb : up b) (hl : a.length = b.length) (h : ∀ x, upL a x = upL b x) : a = b := by
  refine List.ext_getElem hl fun k h1 h2 => ?_
  have e1 := fun x => up_lt ha x k h1
  have e2 := fun x => up_lt hb x k h2
  have h3 : a[k] ≤ b[k] := (e1 _).2 (by rw [h]; exact (e2 _).1 (Int.le_refl _))
  have h4 : b[k] ≤ a[k] := (e2 _).2 (by rw [← h]; exact (e1 _).1 (Int.le_refl _))
  omega
theorem msort_eq (l : List Int) : l.mergeSort (fun x y => decide (x ≤ y)) = sortL l := by
  have hp := List.mergeSort_perm l (fun x y => decide (x ≤ y))
  have hs := List.pairwise_mergeSort (le := fun x y : Int => decide (x ≤ y)) (fun a b c h1 h2 => by simp at h1 h2 ⊢; omega) (fun a b => by simp; omega) l
  obtain ⟨q1, q2, q3⟩ := sort_ok l
  refine up_unique (fun j k hjk hk => ?_) q1 (by rw [hp.length_eq, q3]) (fun x => ?_)
  · have := List.pairwise_iff_getElem.1 hs j k (by omega) hk hjk
    simpa using this
  · rw [q2]
    exact hp.countP_eq _
end Go.Proofs.Ytkcldhimjnehdaa
