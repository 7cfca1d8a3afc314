/-
  The walks of slices.Clone at rows of int64, and of (*Tower).Rows. Conditions: the form's own reach.
-/
import Derived.Test.YtlcoibhbdgdfcaaGreatDoorCoreCoinsB12
namespace Go.Proofs.YtlcoibhbdgdfcaaGreatDoor
open Go.RowKit

set_option maxRecDepth 100000 in
set_option maxHeartbeats 1000000 in
theorem clone_ints (w : World) (ao : Option Addr) (cap n : Nat) (l : List Int) (ho : Own w 2 1 (.slice ao n cap) n (ints l)) (hl : n ≤ 1000000) :
    Calls Tryz.prog 111 #[.slice ao n cap] w fun e w' => ∃ a3 c3, e = .returned (.slice a3 n c3) ∧ Own w' 2 1 (.slice a3 n c3) n (ints l) ∧ Chg [] w w' ∧ ∀ b ∈ abl a3, w.heap.size ≤ b := by
  have hrd := ho.rd
  have hu : ∀ (w : World) (a : Option Addr) (n c n' c' : Nat), (binOp .eql 121 (.slice a n c) (.slice none n' c')).run Tryz.prog w = .ok (.bool a.isNone) w := fun w a n c n' c' => Lib.run_eql_slice_nil w _ _ a n c n' c' under_ints
  obtain ⟨hx, ⟨h0, rfl⟩ | ⟨g, o, cp, cur, h0, hg, h1, h2, h3, h4⟩⟩ := ho
  · simp only [Value.slice.injEq] at h0
    obtain ⟨rfl, _, rfl⟩ := h0
    have hxl : l = [] := List.eq_nil_of_length_eq_zero (by simpa using hx)
    subst hxl
    go_enter Tryz.func111, Tryz.ntmps111
    go_wp2
    go_ret
    exact ⟨none, 0, rfl, Own.nil _ _ _, Chg.refl _ _, by simp⟩
  · simp only [Value.slice.injEq, true_and] at h0
    obtain ⟨rfl, rfl⟩ := h0
    clear hg h1 h2 h3 h4 hx
    go_enter Tryz.func111, Tryz.ntmps111
    go_wp2_with (at_builtin; go_must (refine wpList_append_src _ rfl (.tmp 5) (.tmp 6) 121 121 rfl 2 _ 1 8 under_ints info_i64 rfl (by decide) (.slice (some ⟨w.heap.size, 0, none⟩) 0 0) 0 (ints []) rfl (Own.lit w 2 1 0 #[] rfl (by unfold maxLen; omega)) (.slice (some ⟨g, o, none⟩) n cap) n (ints l) rfl (Src.of_rd under_ints (hrd.alloc _)) (ints_oneCell _) (by unfold maxLen; omega) (by omega) ?_; intro a5 c5 w2 ho2 hg2 hf2))
    go_ret
    rw [Nat.zero_add] at ho2
    refine ⟨a5, c5, by simp, by simpa [ints] using ho2, ((Chg.refl [] w).alloc _).trans' hg2 (by simp), fun b hb => ?_⟩
    rcases hf2 b hb with h | h
    · simp at h; omega
    · simp at h; omega

theorem flat_leT {l : List (List Int)} {h : Nat} (hh : h < l.length) : l[h].length ≤ l.flatten.length := by
  obtain ⟨A, r, B, rfl, rfl⟩ := split_at hh
  simp
  omega
/-- Rows that were handed back: each its own. -/
def RowsC (w : World) (B : Nat) (rv : Value) (vs : List Value) (rows : List (List Int)) : Prop :=
  Own w 121 1 rv rows.length vs ∧ RowsW w vs rows ∧ (∀ b ∈ blkOf rv, B ≤ b) ∧ ∀ v ∈ vs, ∀ b ∈ blkOf v, B ≤ b
theorem RowsW.snoc {w : World} {vs : List Value} {rows : List (List Int)} (h : RowsW w vs rows) {v : Value} {r : List Int} (ho : Own w 2 1 v r.length (ints r)) (hd : ∀ u ∈ vs, ∀ b ∈ blkOf v, b ∉ blkOf u) : RowsW w (vs ++ [v]) (rows ++ [r]) := by
  have h1 := h.push
  have h2 := h1.turn (Chg.refl [] w) vs.length (by simp) (by simp) ho (fun i hi hne b hb => by
    have hil : i < vs.length := by simp at hi; omega
    rw [List.getElem_append_left hil]
    exact hd _ (List.getElem_mem hil) b hb)
  have e1 : (vs ++ [Value.slice none 0 0]).set vs.length v = vs ++ [v] := by
    rw [List.set_append_right _ _ (Nat.le_refl _), Nat.sub_self]; rfl
  have e2 : (rows ++ [[]]).set vs.length r = rows ++ [r] := by
    rw [h.1, List.set_append_right _ _ (Nat.le_refl _), Nat.sub_self]; rfl
  rw [e1, e2] at h2
  exact h2

set_option maxRecDepth 100000 in
set_option maxHeartbeats 2000000 in
theorem req_rows (w : World) (p tp : Nat) (rv : Value) (vs : List Value) (D : TwD) (ht : Tow w p tp rv vs D) (hN : D.rows.flatten.length ≤ 100000) (hR : D.rows.length ≤ 100000) :
    Calls Tryz.prog 371 #[.pointer (some ⟨p, 0, none⟩)] w fun e w' => ∃ ro rc vs', e = .returned (.slice ro D.rows.length rc) ∧ RowsC w' w.heap.size (.slice ro D.rows.length rc) vs' D.rows ∧ Chg [] w w' := by
  obtain ⟨-, -, -, c3, -, -, -⟩ := ht.cells
  obtain ⟨ro, rc, hrv⟩ := ht.own.shape
  subst hrv
  have HT := Lib.hid ht
  have hvl := Lib.hid (show vs.length = D.rows.length from ht.rows.1)
  have hoc : ∀ v ∈ vs, v.oneCell' = true := fun v hv => by
    obtain ⟨i, hi, rfl⟩ := List.getElem_of_mem hv
    obtain ⟨a, c, h⟩ := (ht.rows.2.1 i hi (by rw [← ht.rows.1]; exact hi)).shape
    rw [h]; rfl
  have HNN := Lib.hid hN
  generalize hrl : D.rows.length = n at *
  have HRL := Lib.hid hrl
  clear ht hrl hN hoc
  go_enter Tryz.func371, Tryz.ntmps371
  go_wp2
  go_loopw [3, 13] (fun out i wx => ∃ (k : Nat) (r1 : Option Addr) (c1 : Nat) (us : List Value), k ≤ n ∧ i = .int .i64 (k : Nat) ∧ out = .slice r1 k c1 ∧ Own wx 121 1 (.slice r1 k c1) k us ∧ Hid (RowsW wx us (D.rows.take k)) ∧
    (∀ b ∈ abl r1, w.heap.size ≤ b) ∧ Hid (∀ v ∈ us, ∀ b ∈ blkOf v, w.heap.size ≤ b) ∧ Chg [] w wx) (fun _ i _ => n - (intOf i).toNat)
  case atStart => exact ⟨0, none, 0, [], Nat.zero_le _, rfl, rfl, Own.nil _ _ _, Lib.hid ⟨by simp, fun j h => by simp at h, fun j k h => by simp at h⟩, by simp, Lib.hid (by simp), Chg.refl _ _⟩
  case round =>
    obtain ⟨k, r1, c1, us, hk, rfl, rfl, ho, HR, hb1, HB, hch⟩ := hrel
    by_cases hlt : k < n
    · have hkr : k < D.rows.length := by have := HRL.out; omega
      have hkv : k < vs.length := by have := hvl.out; have := HRL.out; omega
      have HT1 := HT.out.chg hch (by simp)
      obtain ⟨g, o, cp, hsl, d0, -, -⟩ := HT1.own.at1 (j := k) hkr hkv
      rw [HRL.out] at hsl
      simp only [Value.slice.injEq, true_and] at hsl
      obtain ⟨rfl, rfl⟩ := hsl
      have hrow := HT1.rows.2.1 k hkv hkr
      obtain ⟨so, sc, hsv⟩ := hrow.shape
      rw [hsv] at d0 hrow
      have hrn : D.rows[k].length ≤ 100000 := Nat.le_trans (flat_leT hkr) HNN.out
      have HTK := Lib.hid (show D.rows.take (k + 1) = D.rows.take k ++ [D.rows[k]] from List.take_succ_eq_append_getElem hkr)
      generalize D.rows[k] = r at *
      obtain ⟨m, hm⟩ : ∃ m, m = r.length := ⟨_, rfl⟩
      rw [← hm] at d0 hrow hrn
      have HM := Lib.hid hm
      have HCL := Lib.hid (fun W h => clone_ints W so sc m r h (by omega))
      have HRW := Lib.hid hrow
      clear HT1 hsv hm hrow
      go_wp2_with fail
      refine (HCL.out wr HRW.out).mono ?_
      rintro e w2 ⟨a3, c3, rfl, ho3, hc3, hf3⟩
      have ho' := ho.chg hc3 (by simp)
      have HR' := Lib.hid (HR.out.chg hc3 (by simp))
      have hsz := hch.size
      have hlt3 : ∀ b ∈ abl a3, b < w2.heap.size := fun b hb => ho3.lt b (by simpa using hb)
      have HUL := Lib.hid (show ∀ u ∈ us, ∀ b ∈ blkOf u, b < wr.heap.size from fun u hu b hb => by
        obtain ⟨i, hi, rfl⟩ := List.getElem_of_mem hu
        exact HR.out.lt i hi b hb)
      have hrd : Rd (w2.alloc (.cells #[.slice a3 m c3] 121)) 1 (.slice (some ⟨w2.heap.size, 0, none⟩) 1 1) 1 [.slice a3 m c3] := Rd.lit1 w2 (.slice a3 m c3) 121 1
      have hoc1 : ∀ y ∈ [Value.slice a3 m c3], y.oneCell' = true := fun y hy => by simp at hy; subst hy; rfl
      have hch2 := hch.trans hc3
      have hne : ∀ b ∈ abl r1, b ∉ abl a3 := fun b hb hb2 => ho'.apart ho3 (by decide) b (by simpa using hb) (by simpa using hb2)
      clear HCL HRW ho hch hc3 hrn
      go_wp2_with (at_builtin; go_must (refine wpList_append_src _ rfl (.tmp 17) (.tmp 20) 191 191 rfl 121 _ 1 24 under_rowsT info_intsT rfl (by decide) (.slice r1 k c1) k us rfl (ho'.alloc _) (.slice (some ⟨w2.heap.size, 0, none⟩) 1 1) 1 [.slice a3 m c3] rfl (Src.of_rd under_rowsT hrd) hoc1 (by unfold maxLen; omega) (by omega) ?_; intro a5 c5 w7 ho7 hg7 hf7))
      have hk7 : Chg (abl r1) w2 w7 := by have := ((Chg.refl (abl r1) w2).alloc (.cells #[.slice a3 m c3] 121)).trans' hg7 (fun b hb => .inl (by simpa using hb)); exact this
      refine ⟨⟨k + 1, a5, c5, us ++ [.slice a3 m c3], by omega, by go_num, rfl, ho7, Lib.hid ?_, ?_, Lib.hid ?_, hch2.trans' hk7 (fun b hb => .inr (hb1 b hb))⟩, by simp [intOf]; omega⟩
      · rw [HTK.out]
        refine (HR'.out.chg hk7 (fun v hv b hb e => ?_)).snoc ?_ (fun u hu b hb e => ?_)
        · obtain ⟨i, hi, rfl⟩ := List.getElem_of_mem hv
          exact ho'.apart (HR'.out.2.1 i hi (by rw [← HR'.out.1]; exact hi)) (by decide) b (by simpa using e) hb
        · rw [← HM.out]
          exact ho3.chg hk7 (fun b hb e => hne b e (by simpa using hb))
        · have h1 := HUL.out u hu b e
          have h2 := hf3 b (by simpa using hb)
          omega
      · intro b hb
        rcases hf7 b hb with h | h
        · exact hb1 b (by simpa using h)
        · simp at h
          have := hch2.size
          omega
      · intro v hv b hb
        rcases List.mem_append.1 hv with h | h
        · exact HB.out v h b hb
        · simp at h; subst h
          have := hf3 b (by simpa using hb)
          omega
    · obtain rfl : k = n := by omega
      have HRR := Lib.hid (show RowsW wr us D.rows from by have := HR.out; rw [List.take_of_length_le (by have := HRL.out; omega)] at this; exact this)
      clear HR
      go_wp2
      go_ret
      exact ⟨r1, c1, us, rfl, ⟨by rw [HRL.out]; exact ho, HRR.out, by simpa using hb1, HB.out⟩, hch⟩
end Go.Proofs.YtlcoibhbdgdfcaaGreatDoor
