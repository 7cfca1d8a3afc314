/-
  The walk of runs.Add. Conditions: the form's own reach.
-/
import Derived.Test.YtgnbabkafobeoaaPrPlain
import Derived.Test.YtgnbabkafobeoaaPrInsert
namespace Go.Proofs.Ytgnbabkafobeoaa
open Go.RowKit

theorem Own.below {w : World} {e : TypeId} {size n cap : Nat} {ao : Option Addr} {xs : List Value} (h : Own w e size (.slice ao n cap) n xs) : ∀ b ∈ abl ao, b < w.heap.size := by
  obtain ⟨_, ⟨h1, _⟩ | ⟨g, o, cp, cur, h1, hg, _⟩⟩ := h
  · simp only [Value.slice.injEq] at h1
    obtain ⟨rfl, _⟩ := h1
    simp
  · simp only [Value.slice.injEq] at h1
    obtain ⟨rfl, _⟩ := h1
    intro b hb
    simp at hb
    subst hb
    exact lt_of_block hg
theorem Own.set {w : World} {e : TypeId} {size n cap g o : Nat} {xs : List Value} (h : Own w e size (.slice (some ⟨g, o, none⟩) n cap) n xs) (j : Nat) (u : Value) :
    Own (w.setCell ⟨g, o + j, none⟩ u) e size (.slice (some ⟨g, o, none⟩) n cap) n (xs.set j u) := by
  obtain ⟨hl, ⟨h1, _⟩ | ⟨g', o', cp, cur, h1, hg, h2, h3, h4, h5⟩⟩ := h
  · simp at h1
  · simp only [Value.slice.injEq, Option.some.injEq, Addr.mk.injEq, true_and, and_true] at h1
    obtain ⟨⟨rfl, rfl⟩, rfl⟩ := h1
    have hb : Blk w g cur e := hg
    refine ⟨by rw [List.length_set]; exact hl, .inr ⟨g, o, cap, _, rfl, hb.setCell (o + j) u, h2, h3, by simpa using h4, ?_⟩⟩
    rw [Array.toList_setIfInBounds, ← h5]
    rw [List.drop_set, if_neg (by omega), Nat.add_sub_cancel_left, List.take_set]
theorem prCells_set (l : List Pr) (n : Nat) (hn : n < l.length) (c : Nat) : prCells (l.set n ⟨l[n].i, c⟩) = (prCells l).set (n * 2 + 1) (.int .u64 c) := by
  induction l generalizing n with
  | nil => simp at hn
  | cons p l ih =>
    cases n with
    | zero => simp [prCells, Pr.cells]
    | succ n =>
      have := ih n (by simpa using hn)
      simp only [prCells, List.set_cons_succ, List.map_cons, List.flatten_cons, List.getElem_cons_succ] at this ⊢
      rw [this, show (n + 1) * 2 + 1 = (n * 2 + 1) + 2 from by omega]
      simp [Pr.cells]

set_option maxRecDepth 100000 in
set_option maxHeartbeats 1000000 in
theorem runs_add (w : World) (ao : Option Addr) (cap : Nat) (l : List Pr) (i : Int) (c : Nat) (hrs : rises l) (ho : Own w 53 2 (.slice ao l.length cap) l.length (prCells l)) (hl : l.length ≤ 1000) (hm : ∀ p ∈ l, p.c + c ≤ 9223372036854775807) (hc : c ≤ 9223372036854775807) :
    Calls Try.prog 64 #[.slice ao l.length cap, .int .i64 i, .int .u64 c] w fun e w' => ∃ a3 c3, e = .returned (.slice a3 (addV l i c).length c3) ∧
      Own w' 53 2 (.slice a3 (addV l i c).length c3) (addV l i c).length (prCells (addV l i c)) ∧ Chg (abl ao) w w' ∧ ∀ b ∈ abl a3, b ∈ abl ao ∨ w.heap.size ≤ b := by
  obtain ⟨A, M, B, hp⟩ := parted hrs i
  have HP := Lib.hid hp
  have HF := Lib.hid (runs_find w ao cap l i hrs ho.rd (by omega))
  have HM := Lib.hid hm
  clear hp hrs hm
  go_enter Try.func64, Try.ntmps64
  go_wp2_with fail
  refine HF.out.mono ?_
  rintro e w1 ⟨rfl, hc1⟩
  have ho1 := ho.chg hc1 (by simp)
  have hsz := hc1.size
  by_cases h0 : c = 0
  · subst h0
    have HE := Lib.hid (show addV l i 0 = l from if_pos rfl)
    go_wp2
    go_ret
    rw [HE.out]
    exact ⟨ao, cap, rfl, ho1, hc1.nil, fun b hb => .inl hb⟩
  have h0b : ((c : Int) == 0) = false := beq_eq_false_iff_ne.2 (by omega)
  have hn : cntLt l i = A.length := HP.out.lt
  have hh : hasI l i = !M.isEmpty := HP.out.has
  have hat : cntLt l i ≤ l.length := by
    have := congrArg List.length HP.out.eq
    simp only [List.length_append] at this
    omega
  rcases HP.out.mid with hM | ⟨c0, hM⟩
  · have hhf : hasI l i = false := by rw [hh, hM]; rfl
    have HE := Lib.hid (show addV l i c = l.take (cntLt l i) ++ [⟨i, c⟩] ++ l.drop (cntLt l i) from by rw [addV, if_neg h0, hhf]; rfl)
    rw [hhf]
    clear hh hn h0 hhf
    generalize cntLt l i = n at *
    have hbl := ho1.below
    go_wp2_with fail
    refine (insert_pair (w1.alloc (.cells #[.int .i64 i, .int .u64 c] 53)) ao cap l n hat ⟨i, c⟩ w1.heap.size (by omega) (ho1.alloc _) (Blk.alloc_new w1 _ _) (fun hb => by have := hbl _ hb; omega)).mono ?_
    rintro e w2 ⟨a3, c3, rfl, ho2, hc2, hf2⟩
    have hlen : (addV l i c).length = l.length + 1 := by rw [HE.out]; simp; omega
    go_wp2
    go_ret
    refine ⟨a3, c3, by rw [hlen]; rfl, by rw [hlen, HE.out]; exact ho2, ((hc1.alloc _).nil).trans hc2, fun b hb => ?_⟩
    rcases hf2 b hb with h | h
    · exact .inl h
    · right; simp at h; omega
  · have hhf : hasI l i = true := by rw [hh, hM]; rfl
    have hnl : cntLt l i < l.length := by
      have := congrArg List.length HP.out.eq
      rw [hM] at this
      simp only [List.length_append, List.length_singleton] at this
      omega
    have hget : l[cntLt l i] = ⟨i, c0⟩ := by
      have e : l = A ++ ⟨i, c0⟩ :: B := by rw [HP.out.eq, hM]; simp
      simp only [hn]
      simp only [e]
      simp
    have hcm := HM.out l[cntLt l i] (List.getElem_mem _)
    have HE := Lib.hid (show addV l i c = l.set (cntLt l i) ⟨l[cntLt l i].i, l[cntLt l i].c + c⟩ from by
      rw [addV, if_neg h0, hhf, if_pos rfl, show l.getD (cntLt l i) default = l[cntLt l i] from by simp [List.getD, hnl], hget])
    have HS := Lib.hid (prCells_set l (cntLt l i) hnl (l[cntLt l i].c + c))
    rw [hhf]
    clear hh hn h0 hhf hget
    generalize cntLt l i = n at *
    obtain ⟨b, o, rfl, hcs⟩ := ho1.rd.addr (by omega)
    obtain ⟨d0, d1⟩ := pr_at hcs hnl
    have hfz := ho1.free (o + n * 2 + 1)
    have hn0 : (0 : Int) ≤ (n : Int) := by omega
    have hnl2 : (n : Int) < (l.length : Int) := by omega
    have HO := Lib.hid (ho1.set (n * 2 + 1) (.int .u64 ((l[n].c + c : Nat) : Int)))
    rw [← HS.out, ← HE.out] at HO
    have hlen : (addV l i c).length = l.length := by rw [HE.out, List.length_set]
    have HL := Lib.hid hlen
    have HC := Lib.hid (Chg.setCell (hc1.nil (F := abl (some ⟨b, o, none⟩))) (a := ⟨b, o + n * 2 + 1, none⟩) (.inl (by simp)) (.int .u64 ((l[n].c + c : Nat) : Int)))
    have hw : (l[n].c : Int) + (c : Int) = ((l[n].c + c : Nat) : Int) := by omega
    generalize l[n] = p at *
    generalize p.c + c = s at *
    go_wp2
    go_ret
    rw [HL.out]
    exact ⟨_, _, rfl, by have := HO.out; simpa [HL.out, Nat.add_assoc] using this, HC.out, fun b hb => .inl hb⟩
end Go.Proofs.Ytgnbabkafobeoaa
