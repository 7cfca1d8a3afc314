/-
  The walk of layer 18's alive, for seats without its play. Conditions: the form's own reach.
-/
import Derived.Test.YtkcldhimjnehdaaTupShared
import Derived.Test.YtkcldhimjnehdaaTupGood
namespace Go.Proofs.Ytkcldhimjnehdaa
open Go.RowKit

set_option maxRecDepth 100000 in
set_option maxHeartbeats 2000000 in
theorem law18_alive (w : World) : Calls Try.prog 10 #[] w fun e w' => e = .returned (.bool true) ∧ Chg [] w w' := by
  have H1 := Lib.hid (tup_insert w none 0 [] 5 (fun j k _ h => by simp at h) (Own.nil _ _ _) (by simp) (by simp))
  have H2 := Lib.hid (fun w a c (h : Own w 28 3 (.slice a 1 c) 1 (tpCells [⟨5, 1, 0⟩])) => tup_insert w a c [⟨5, 1, 0⟩] 7 (sorted_get (by simp)) h (by simp) (by simp))
  have H3 := Lib.hid (fun w a c (h : Own w 28 3 (.slice a 2 c) 2 (tpCells [⟨5, 1, 0⟩, ⟨7, 1, 0⟩])) => tup_insert w a c [⟨5, 1, 0⟩, ⟨7, 1, 0⟩] 6 (sorted_get (by simp)) h (by simp) (by simp))
  have E1 := Lib.hid (show insT [] 5 (upT [] 5) = [⟨5, 1, 0⟩] from rfl)
  have E2 := Lib.hid (show insT [⟨5, 1, 0⟩] 7 (upT [⟨5, 1, 0⟩] 7) = [⟨5, 1, 0⟩, ⟨7, 1, 0⟩] from rfl)
  have E3 := Lib.hid (show insT [⟨5, 1, 0⟩, ⟨7, 1, 0⟩] 6 (upT [⟨5, 1, 0⟩, ⟨7, 1, 0⟩] 6) = [⟨5, 1, 0⟩, ⟨6, 1, 0⟩, ⟨7, 1, 0⟩] from rfl)
  go_enter Try.func10, Try.ntmps10
  go_wp2_with fail
  refine H1.out.mono ?_
  rintro e w1 ⟨a1, c1, rfl, ho1, hc1, hf1⟩
  have hc1' : Chg [] w w1 := by simpa using hc1
  have hf1' : ∀ b ∈ abl a1, w.heap.size ≤ b := fun b hb => by simpa using hf1 b hb
  rw [E1.out] at ho1
  simp only [List.length_nil, Nat.zero_add] at ho1 ⊢
  go_wp2_with fail
  refine (H2.out w1 a1 c1 ho1).mono ?_
  rintro e w2 ⟨a2, c2, rfl, ho2, hc2, hf2⟩
  rw [E2.out] at ho2
  have hc2' : Chg [] w w2 := hc1'.trans' hc2 (fun b hb => .inr (hf1' b hb))
  have hf2' : ∀ b ∈ abl a2, w.heap.size ≤ b := fun b hb => by
    have := hc1'.size
    rcases hf2 b hb with h | h
    · exact hf1' b h
    · omega
  simp only [List.length_cons, List.length_nil, Nat.zero_add] at ho2 ⊢
  go_wp2_with fail
  refine (H3.out w2 a2 c2 ho2).mono ?_
  rintro e w3 ⟨a3, c3, rfl, ho3, hc3, hf3⟩
  rw [E3.out] at ho3
  have hc3' : Chg [] w w3 := hc2'.trans' hc3 (fun b hb => .inr (hf2' b hb))
  simp only [List.length_cons, List.length_nil, Nat.zero_add] at ho3 ⊢
  obtain ⟨b, o, rfl, hcc⟩ := ho3.rd.addr (by omega)
  obtain ⟨q0, q1, q2⟩ := tp_at (l := [⟨5, 1, 0⟩, ⟨6, 1, 0⟩, ⟨7, 1, 0⟩]) hcc (show 1 < 3 by omega)
  have HG := Lib.hid (tup_good w3 (some ⟨b, o, none⟩) c3 [⟨5, 1, 0⟩, ⟨6, 1, 0⟩, ⟨7, 1, 0⟩] (by simp) ho3.rd (by simp))
  have EG := Lib.hid (show goodT [⟨5, 1, 0⟩, ⟨6, 1, 0⟩, ⟨7, 1, 0⟩] = true from by decide)
  simp only [List.getElem_cons_succ, List.getElem_cons_zero] at q0 q1 q2
  clear hcc ho1 ho2 hc1 hc2 hf1 hf2 hf3 hc3
  go_wp2_with fail
  refine HG.out.mono ?_
  rintro e w4 ⟨rfl, hc4⟩
  rw [EG.out]
  go_wp2
  go_ret
  exact ⟨rfl, hc3'.trans hc4⟩

end Go.Proofs.Ytkcldhimjnehdaa
