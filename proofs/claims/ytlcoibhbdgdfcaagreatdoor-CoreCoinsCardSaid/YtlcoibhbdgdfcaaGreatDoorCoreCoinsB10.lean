/-
  The walk of coins.Halve, and of the layer's alive. Conditions: the form's own reach.
  Plainly: rows in order are told by how many are no greater; the library's sort of numbers is the document's. Conditions: none.
  The walk of the reference's Sorted. Conditions: the form's own reach.
-/
import Derived.Test.YtlcoibhbdgdfcaaGreatDoorCoreCoinsB8
import Derived.Test.YtlcoibhbdgdfcaaGreatDoorCoreCoinsB9
import Derived.Test.YtlcoibhbdgdfcaaGreatDoorCoreCoinsB3
namespace Go.Proofs.YtlcoibhbdgdfcaaGreatDoor
open Go.RowKit

theorem halveL_step (l : List Int) (s : Bool) (k : Nat) (h : k < l.length) : halveL (l.take (k + 1)) s = halveL (l.take k) s ++ if decide (k % 2 = 1) == s then [l[k]] else [] := by
  induction l generalizing s k with
  | nil => simp at h
  | cons x l ih =>
    cases k with
    | zero => cases s <;> simp [halveL]
    | succ k =>
      have hk : k < l.length := by simpa using h
      have hpar : decide ((k + 1) % 2 = 1) = !decide (k % 2 = 1) := by
        rw [Bool.eq_iff_iff]
        simp
        omega
      cases s with
      | false =>
        have := ih true k hk
        simp only [List.take_succ_cons, halveL, List.getElem_cons_succ, List.cons_append] at this ⊢
        rw [this, hpar]
        cases decide (k % 2 = 1) <;> simp
      | true =>
        have := ih false k hk
        simp only [List.take_succ_cons, halveL, List.getElem_cons_succ] at this ⊢
        rw [this, hpar]
        cases decide (k % 2 = 1) <;> simp
theorem halveL_len (l : List Int) (s : Bool) : (halveL l s).length ≤ l.length := by
  induction l generalizing s with
  | nil => simp [halveL]
  | cons x l ih =>
    cases s with
    | false => have := ih true; simp [halveL]; omega
    | true => have := ih false; simp [halveL]; omega

set_option maxRecDepth 100000 in
set_option maxHeartbeats 1000000 in
theorem coins_halve (w : World) (ao : Option Addr) (cap : Nat) (l : List Int) (s : Bool) (hr : Rd w 1 (.slice ao l.length cap) l.length (ints l)) (hl : l.length ≤ 1000000) :
    Calls Tryz.prog 345 #[.slice ao l.length cap, .bool s] w fun e w' => ∃ a3 c3, e = .returned (.slice a3 (halveL l s).length c3) ∧
      Own w' 2 1 (.slice a3 (halveL l s).length c3) (halveL l s).length (ints (halveL l s)) ∧ Chg [] w w' ∧ ∀ b ∈ abl a3, w.heap.size ≤ b := by
  have HR := Lib.hid hr
  clear hr
  go_enter Tryz.func345, Tryz.ntmps345
  go_wp2
  go_loopw [5, 10] (fun out j wx => ∃ (k : Nat) (F : List Int) (a3 : Option Addr) (c3 : Nat), k ≤ l.length ∧ j = .int .i64 (k : Nat) ∧ out = .slice a3 F.length c3 ∧ Hid (F = halveL (l.take k) s) ∧ F.length ≤ k ∧
    Own wx 2 1 (.slice a3 F.length c3) F.length (ints F) ∧ Chg [] w wx ∧ ∀ b ∈ abl a3, w.heap.size ≤ b) (fun _ j _ => l.length - (intOf j).toNat)
  case atStart => exact ⟨0, [], none, 0, Nat.zero_le _, rfl, rfl, Lib.hid (by simp [halveL]), Nat.le_refl _, Own.nil _ _ _, Chg.refl _ _, by simp [abl]⟩
  case round =>
    obtain ⟨k, F, a3, c3, hk, rfl, rfl, HF, hFk, ho, hch, hab⟩ := hrel
    by_cases hlt : k < l.length
    · have hr1 := HR.out.chg hch (by simp)
      obtain ⟨b, o, rfl, hcs⟩ := hr1.addr (by omega)
      have c0 := ints_at hcs k hlt
      have HS := Lib.hid (halveL_step l s k hlt)
      have hsz := hch.size
      have hq : ((k : Int) % 2 == 1) = decide (k % 2 = 1) := by rw [Bool.eq_iff_iff, beq_iff_eq, decide_eq_true_eq]; omega
      generalize decide (k % 2 = 1) = q at *
      generalize l[k] = p at *
      clear hcs hr1
      by_cases hqs : (q == s) = true
      · rw [if_pos hqs, ← HF.out] at HS
        have hrd : Rd (wr.alloc (.cells #[.int .i64 p] 2)) 1 (.slice (some ⟨wr.heap.size, 0, none⟩) 1 1) 1 (ints [p]) := Rd.lit1 wr (.int .i64 p) 2 1
        go_wp2_with (at_builtin; go_must (refine wpList_append_src _ rfl (.tmp 20) (.tmp 22) 121 121 rfl 2 _ 1 8 under_ints info_i64 rfl (by decide) (.slice a3 F.length c3) F.length (ints F) rfl (ho.alloc _) (.slice (some ⟨wr.heap.size, 0, none⟩) 1 1) 1 (ints [p]) rfl (Src.of_rd under_ints hrd) (ints_oneCell _) (by unfold maxLen; omega) (by omega) ?_; intro a4 c4 w7 ho7 hg7 hf7))
        refine ⟨⟨k + 1, F ++ [p], a4, c4, by omega, by go_num, by simp, Lib.hid HS.out.symm, by simp; omega, by simpa [ints_append] using ho7, (hch.alloc _).trans' hg7 (fun b hb => .inr (hab b (by simpa using hb))), ?_⟩, by simp [intOf]; omega⟩
        intro b hb
        rcases hf7 b hb with h | h
        · exact hab b (by simpa using h)
        · simp at h; omega
      · rw [if_neg hqs, List.append_nil, ← HF.out] at HS
        have hqf : (q == s) = false := by simpa using hqs
        clear hqs
        go_wp2
        exact ⟨⟨k + 1, F, a3, c3, by omega, by go_num, rfl, Lib.hid HS.out.symm, by omega, ho, hch, hab⟩, by simp [intOf]; omega⟩
    · obtain rfl : k = l.length := by omega
      rw [List.take_length] at HF
      go_wp2
      go_ret
      rw [← HF.out]
      exact ⟨a3, c3, rfl, ho, hch, hab⟩

end Go.Proofs.YtlcoibhbdgdfcaaGreatDoor

namespace Go.Proofs.YtlcoibhbdgdfcaaGreatDoor
theorem up_lt {l : List Int} (h : up l) (x : Int) (k : Nat) (hk : k < l.length) : l[k] ≤ x ↔ k < upL l x := by
  obtain ⟨h1, h2, h3⟩ := up_parted h x
  constructor
  · intro hx
    rcases Nat.lt_or_ge k (upL l x) with h4 | h4
    · exact h4
    · have hm : l[k] ∈ l.drop (upL l x) := by
        rw [List.mem_iff_getElem]
        refine ⟨k - upL l x, by rw [List.length_drop]; omega, ?_⟩
        rw [List.getElem_drop]
        congr 1
        omega
      have := h2 _ hm
      omega
  · intro hx
    refine h1 _ ?_
    rw [List.mem_iff_getElem]
    exact ⟨k, by rw [List.length_take]; omega, by rw [List.getElem_take]⟩
theorem up_unique {a b : List Int} (ha : up a) (hb : up b) (hl : a.length = b.length) (h : ∀ x, upL a x = upL b x) : a = b := by
  refine List.ext_getElem hl fun k h1 h2 => ?_
  have e1 := fun x => up_lt ha x k h1
  have e2 := fun x => up_lt hb x k h2
  have h3 : a[k] ≤ b[k] := (e1 _).2 (by rw [h]; exact (e2 _).1 (Int.le_refl _))
  have h4 : b[k] ≤ a[k] := (e2 _).2 (by rw [← h]; exact (e1 _).1 (Int.le_refl _))
  omega
theorem msort_eq (l : List Int) : l.mergeSort (fun x y => decide (x ≤ y)) = sortL l := by
  have hp := List.mergeSort_perm l (fun x y => decide (x ≤ y))
  have hs := List.pairwise_mergeSort (le := fun x y : Int => decide (x ≤ y)) (fun a b c h1 h2 => by simp at h1 h2 ⊢; omega) (fun a b => by simp; omega) l
  obtain ⟨q1, q2, q3⟩ := sort_ok l
  refine up_unique (fun j k hjk hk => ?_) q1 (by rw [hp.length_eq, q3]) (fun x => ?_)
  · have := List.pairwise_iff_getElem.1 hs j k (by omega) hk hjk
    simpa using this
  · rw [q2]
    exact hp.countP_eq _
end Go.Proofs.YtlcoibhbdgdfcaaGreatDoor

namespace Go.Proofs.YtlcoibhbdgdfcaaGreatDoor
open Go.RowKit


end Go.Proofs.YtlcoibhbdgdfcaaGreatDoor
