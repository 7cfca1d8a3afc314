/-
  The walk of slices.Delete at rows of tuples, one tuple taken away. Conditions: the form's own reach.
  Two slices of the program's own, of unlike elements, share no block. Conditions: none.
-/
import Derived.Test.YtlcoibhbdgdfcaaGreatDoorCoreLumpsB21
import Derived.Test.YtlcoibhbdgdfcaaGreatDoorCoreLumpsB18
import Derived.Test.YtlcoibhbdgdfcaaGreatDoorCoreLumpsB1
namespace Go.Proofs.YtlcoibhbdgdfcaaGreatDoor
open Go.RowKit

def z6 : List Value := [Value.int .u64 0, Value.int .i64 0, Value.int .i64 0, Value.int .u64 0, Value.int .i64 0, Value.int .i64 0]
theorem run_clear_lumps (w : World) (ty : TypeId) (g o c : Nat) (cur : Array Value) (hg : w.heap[g]? = some (.cells cur 194 (0, 0))) (hs : o + 6 ≤ cur.size) :
    (Builtin.clear_ #[101] ty #[.slice (some ⟨g, o, none⟩) 2 c]).run Tryz.prog w =
      .ok (.tuple #[]) (w.setRow g (cur.toList.take o ++ z6 ++ cur.toList.drop (o + 6)).toArray) := by
  obtain ⟨i0, hi0, hz0, hzs, hzb⟩ := info_parts info_lump
  have hst := run_storeCells_at Tryz.prog g o 194 z6 0 cur w hg (by simpa [z6] using hs) (by simp [z6, Value.oneCell'])
  have hzc : (Builtin.zeroCells (Value.agg #[.int .u64 0, .int .i64 0, .int .i64 0]).cells 2).toList = z6 := by first | rfl | kernel_rfl | (simp [Builtin.zeroCells, z6, Value.cells]; rfl)
  simp only [Nat.add_zero] at hst
  have hz6 : z6.length = 6 := rfl
  rw [hz6] at hst
  simp [Builtin.clear_, run_underlying under_lumps, zeroValue, typeInfo, hi0, hz0, hzc, hst]

set_option maxRecDepth 100000 in
set_option maxHeartbeats 1000000 in
theorem delete_lumps (w : World) (g o cap : Nat) (l : List Lp) (k : Nat) (hk : k + 1 < l.length) (hl : l.length ≤ 100000) (ho : Own w 194 3 (.slice (some ⟨g, o, none⟩) l.length cap) l.length (lpCells l)) :
    Calls Tryz.prog 187 #[.slice (some ⟨g, o, none⟩) l.length cap, .int .i64 (k : Nat), .int .i64 ((k : Int) + 2)] w fun e w' =>
      e = .returned (.slice (some ⟨g, o, none⟩) (l.length - 2) cap) ∧
      Own w' 194 3 (.slice (some ⟨g, o, none⟩) (l.length - 2) cap) (l.length - 2) (lpCells (l.take k ++ l.drop (k + 2))) ∧ Chg [g] w w' := by
  obtain ⟨hlen, ⟨hv0, _⟩ | ⟨g', o', cp, cur, hv1, hg, hnc, hm, hsz, hxs⟩⟩ := id ho
  · simp at hv0
  simp only [Value.slice.injEq, Option.some.injEq, Addr.mk.injEq, true_and, and_true] at hv1
  obtain ⟨⟨rfl, rfl⟩, rfl⟩ := hv1
  obtain ⟨oa, hoa⟩ : ∃ oa, oa = if k + 2 = cap then o else o + (k + 2) * 3 := ⟨_, rfl⟩
  have hrest0 : Rd w 3 (.slice (some ⟨g, o + (k + 2) * 3, none⟩) (l.length - (k + 2)) (cap - (k + 2))) (l.length - (k + 2)) (lpCells (l.drop (k + 2))) := by
    refine ⟨by rw [lpCells_len, List.length_drop], _, _, rfl, .inr ⟨g, o + (k + 2) * 3, rfl, fun j hj => ?_⟩⟩
    have hb : Blk w g cur 194 := hg
    rw [hb.cell, Nat.add_assoc]
    have e : lpCells l = lpCells (l.take (k + 2)) ++ lpCells (l.drop (k + 2)) := by rw [← lpCells_append, List.take_append_drop]
    have hlk : (lpCells (l.take (k + 2))).length = (k + 2) * 3 := by rw [lpCells_len, List.length_take, Nat.min_eq_left (by omega)]
    have h1 : (lpCells l)[(k + 2) * 3 + j]? = (lpCells (l.drop (k + 2)))[j]? := by
      rw [e, List.getElem?_append_right (by omega), hlk, Nat.add_sub_cancel_left]
    rw [← h1, ← hxs, List.getElem?_take, if_pos (by omega), List.getElem?_drop, Array.getElem?_toList]
  have hrest : Rd w 3 (.slice (some ⟨g, oa, none⟩) (l.length - (k + 2)) (cap - (k + 2))) (l.length - (k + 2)) (lpCells (l.drop (k + 2))) := by
    by_cases hkc : k + 2 = cap
    · refine ⟨by rw [lpCells_len, List.length_drop], _, _, rfl, .inl (by omega)⟩
    · rw [hoa, if_neg hkc]
      exact hrest0
  have hsplit : lpCells l = lpCells (l.take k) ++ lpCells [l[k], l[k + 1]] ++ lpCells (l.drop (k + 2)) := by
    rw [← lpCells_append, ← lpCells_append]
    congr 1
    rw [List.append_assoc, List.cons_append, List.singleton_append, ← List.drop_eq_getElem_cons hk, ← List.drop_eq_getElem_cons (show k < l.length by omega), List.take_append_drop]
  have hA : (lpCells (l.take k)).length = k * 3 := by rw [lpCells_len, List.length_take, Nat.min_eq_left (by omega)]
  have hB : (lpCells (l.drop (k + 2))).length = (l.length - (k + 2)) * 3 := by rw [lpCells_len, List.length_drop]
  obtain ⟨i0, hi0, _, hzs, _⟩ := info_parts info_lump
  have happ : ∀ ty, (Builtin.append_ #[101, 101] ty #[.slice (some ⟨g, o, none⟩) k cap, .slice (some ⟨g, oa, none⟩) (l.length - (k + 2)) (cap - (k + 2))]).run Tryz.prog w.drew = _ := fun ty =>
    run_append_fit w.drew 101 101 ty 194 i0 3 under_lumps hi0 hzs g o k cap cur hg _ _ _ (Src.of_rd under_lumps (show Rd w.drew 3 _ _ _ from hrest)) (lpCells_oneCell _) (by omega) hsz
  obtain ⟨C, hC⟩ : ∃ C, C = cur.toList := ⟨_, rfl⟩
  have hCl : C.length = cur.size := by rw [hC, Array.length_toList]
  have hcut := cut_rows C (lpCells (l.take k)) (lpCells [l[k], l[k + 1]]) (lpCells (l.drop (k + 2))) o (k * 3) 6 ((l.length - (k + 2)) * 3) hA hB rfl (by rw [← hsplit, ← hxs, hC]; congr 1; omega) (by omega)
  rw [hB, ← hC] at happ
  obtain ⟨hR1, hR2⟩ := hcut
  have hbR := setRow_heap w.drew g cur (C.take (o + k * 3) ++ lpCells (l.drop (k + 2)) ++ C.drop (o + k * 3 + (l.length - (k + 2)) * 3)).toArray 194 (0, 0) hg
  have hcR : Chg [g] w (w.drew.setRow g (C.take (o + k * 3) ++ lpCells (l.drop (k + 2)) ++ C.drop (o + k * 3 + (l.length - (k + 2)) * 3)).toArray) := (Chg.drew (Chg.refl [g] w)).setRow (.inl (by simp)) _
  generalize hRR : (C.take (o + k * 3) ++ lpCells (l.drop (k + 2)) ++ C.drop (o + k * 3 + (l.length - (k + 2)) * 3)) = R at *
  generalize w.drew.setRow g R.toArray = w1 at *
  have hpad := pad_rows R _ z6 o (k * 3 + (l.length - (k + 2)) * 3) 6 rfl hR2 (by have : z6.length = 6 := rfl; omega)
  obtain ⟨hP1, hP2⟩ := hpad
  have hclr := fun ty c => run_clear_lumps w1 ty g (o + (k * 3 + (l.length - (k + 2)) * 3)) c R.toArray hbR (by simp only [List.size_toArray]; omega)
  have hbP := setRow_heap w1 g R.toArray (R.take (o + (k * 3 + (l.length - (k + 2)) * 3)) ++ z6 ++ R.drop (o + (k * 3 + (l.length - (k + 2)) * 3) + 6)).toArray 194 (0, 0) hbR
  have hcP : Chg [g] w (w1.setRow g (R.take (o + (k * 3 + (l.length - (k + 2)) * 3)) ++ z6 ++ R.drop (o + (k * 3 + (l.length - (k + 2)) * 3) + 6)).toArray) := hcR.setRow (.inl (by simp)) _
  generalize hPP : (R.take (o + (k * 3 + (l.length - (k + 2)) * 3)) ++ z6 ++ R.drop (o + (k * 3 + (l.length - (k + 2)) * 3) + 6)) = PP at *
  have hfin : Own (w1.setRow g PP.toArray) 194 3 (.slice (some ⟨g, o, none⟩) (l.length - 2) cap) (l.length - 2) (lpCells (l.take k ++ l.drop (k + 2))) := by
    refine ⟨by rw [lpCells_len]; simp; omega, .inr ⟨g, o, cap, _, rfl, hbP, by omega, hm, by simp only [List.size_toArray]; omega, ?_⟩⟩
    rw [lpCells_append, ← hP2]
    congr 1
    omega
  generalize w1.setRow g PP.toArray = w2 at *
  have HF := Lib.hid (And.intro hfin hcP)
  have HA := Lib.hid happ
  have HC := Lib.hid hclr
  have hk0 : (0 : Int) ≤ (k : Int) := by omega
  have hk1 : (0 : Int) ≤ (k : Int) + 2 := by omega
  have hk2 : (k : Int) + 2 ≤ (l.length : Int) := by omega
  have hk3 : (k : Int) ≤ (l.length : Int) := by omega
  have hk4 : (k : Int) ≤ (k : Int) + 2 := by omega
  have hkne : ((k : Int) == (k : Int) + 2) = false := by simp; omega
  have htn : ((k : Int) + 2).toNat = k + 2 := by omega
  have hln : ((k + (l.length - (k + 2)) : Nat) : Int) = ((l.length - 2 : Nat) : Int) := by omega
  clear hfin hcP happ hclr hsplit hA hB hR1 hR2 hbR hcR hRR hP1 hP2 hbP hPP hxs hCl hrest hrest0 hg hm hlen hi0 hzs
  go_enter Tryz.func187, Tryz.ntmps187
  by_cases hkc : k + 2 = cap
  · rw [if_pos hkc] at hoa
    subst hkc
    subst hoa
    have hll : l.length = k + 2 := by omega
    have HA1 := Lib.hid (show ∀ ty, (Builtin.append_ #[101, 101] ty #[.slice (some ⟨g, oa, none⟩) k (k + 2), .slice (some ⟨g, oa, none⟩) 0 0]).run Tryz.prog w.drew = .ok (.slice (some ⟨g, oa, none⟩) k (k + 2)) w1 from fun ty => by
      have h := HA.out ty
      rw [show l.length - (k + 2) = 0 from by omega, show k + 2 - (k + 2) = 0 from by omega, Nat.add_zero] at h
      exact h)
    have HC1 := Lib.hid (show ∀ ty c, (Builtin.clear_ #[101] ty #[.slice (some ⟨g, oa + k * 3, none⟩) (l.length - k) c]).run Tryz.prog w1 = .ok (.tuple #[]) w2 from fun ty c => by
      have h := HC.out ty c
      rw [show l.length - (k + 2) = 0 from by omega, Nat.zero_mul, Nat.add_zero] at h
      rw [show l.length - k = 2 from by omega]
      exact h)
    rw [show l.length - 2 = k from by omega] at HF ⊢
    clear HA HC hll
    have hz : ¬ (k + 2 = k) := by omega
    have hz0 : k + 2 - (k + 2) = 0 := by omega
    have hz1 : l.length - (k + 2) = 0 := by omega
    have hkl2 : k ≤ l.length := by omega
    go_wp2
    go_region_law (refine step_append_runK rfl _ _ 101 101 rfl _ _ (by simp [Act.eval, Act.put]) (by simp [Act.eval, Act.put]) (HA1.out _) ?_)
    go_wp2_with (with_reducible refine wpList_clear_runK rfl (.tmp 31) 101 rfl _ rfl (HC1.out _ _) ?_)
    go_ret
    exact ⟨rfl, HF.out.1, HF.out.2⟩
  · rw [if_neg hkc] at hoa
    subst hoa
    have hkc2 : ¬ (cap = k + 2) := fun h => hkc h.symm
    have hkc3 : k ≤ cap := by omega
    have HA1 := Lib.hid (show ∀ ty, (Builtin.append_ #[101, 101] ty #[.slice (some ⟨g, o, none⟩) k cap, .slice (some ⟨g, o + (k + 2) * 3, none⟩) (l.length - (k + 2)) (cap - (k + 2))]).run Tryz.prog w.drew = .ok (.slice (some ⟨g, o, none⟩) (l.length - 2) cap) w1 from fun ty => by
      have h := HA.out ty
      rw [show k + (l.length - (k + 2)) = l.length - 2 from by omega] at h
      exact h)
    have HC1 := Lib.hid (show ∀ ty c, (Builtin.clear_ #[101] ty #[.slice (some ⟨g, o + (l.length - 2) * 3, none⟩) (l.length - (l.length - 2)) c]).run Tryz.prog w1 = .ok (.tuple #[]) w2 from fun ty c => by
      have h := HC.out ty c
      rw [show k * 3 + (l.length - (k + 2)) * 3 = (l.length - 2) * 3 from by omega] at h
      rw [show l.length - (l.length - 2) = 2 from by omega]
      exact h)
    clear HA HC
    have hm1 : ¬ (cap = l.length - 2) := by omega
    have hm2 : l.length - 2 ≤ l.length := by omega
    have hm3 : l.length - 2 ≤ cap := by omega
    go_wp2
    go_region_law (refine step_append_runK rfl _ _ 101 101 rfl _ _ (by simp [Act.eval, Act.put]) (by simp [Act.eval, Act.put]) (HA1.out _) ?_)
    go_wp2_with (with_reducible refine wpList_clear_runK rfl (.tmp 31) 101 rfl _ rfl (HC1.out _ _) ?_)
    go_ret
    exact ⟨rfl, HF.out.1, HF.out.2⟩
end Go.Proofs.YtlcoibhbdgdfcaaGreatDoor

namespace Go.Proofs.YtlcoibhbdgdfcaaGreatDoor
open Go.RowKit

/-- Two slices of the program's own, of unlike elements, share no block. -/
theorem Own.apart {w : World} {e1 e2 : TypeId} {s1 s2 n1 n2 : Nat} {v1 v2 : Value} {x1 x2 : List Value} (h1 : Own w e1 s1 v1 n1 x1) (h2 : Own w e2 s2 v2 n2 x2) (hne : e1 ≠ e2) : ∀ b ∈ blkOf v1, b ∉ blkOf v2 := by
  intro b hb hb2
  obtain ⟨_, ⟨rfl, _⟩ | ⟨g, o, cap, cur, rfl, hg, _⟩⟩ := h1
  · simp at hb
  obtain ⟨_, ⟨rfl, _⟩ | ⟨g2, o2, cap2, cur2, rfl, hg2, _⟩⟩ := h2
  · simp at hb2
  simp only [blkOf_some, List.mem_singleton] at hb hb2
  subst hb
  subst hb2
  rw [hg] at hg2
  simp only [Option.some.injEq, Obj.cells.injEq] at hg2
  exact hne hg2.2.1
theorem Mv.low {F F' : List Nat} {w w' : World} (h : Mv F w F' w') {L : Nat} (hL : L ≤ w.heap.size) (hF : ∀ b ∈ F, L ≤ b) : ∀ b ∈ F', L ≤ b := fun b hb => by
  rcases h.fr b hb with h1 | h1
  · exact hF b h1
  · omega
end Go.Proofs.YtlcoibhbdgdfcaaGreatDoor
