/-
  The walk of suite's ints: so many values that an eye reads. Conditions: the form's own reach.
  How a config is stored. Conditions: none.
-/
import Derived.Test.YtlcoibhbdgdfcaaGreatDoorCoreCoinsB27
import Derived.Test.YtlcoibhbdgdfcaaGreatDoorCoreCoinsB25
import Derived.Test.YtlcoibhbdgdfcaaGreatDoorCoreCoinsB33
import Derived.Test.YtlcoibhbdgdfcaaGreatDoorCoreCoinsB4
namespace Go.Proofs.YtlcoibhbdgdfcaaGreatDoor
open Go.RowKit

theorem eInt_short {st : Option (List UInt8)} (hl : ∀ l, st = some l → l.length ≤ 70368744177664) : ∀ l, (eInt st).2 = some l → l.length ≤ 70368744177664 :=
  eNat_short (most := 18446744073709551615) (v := (eNat 18446744073709551615 st).1) (st := st) rfl hl
theorem getInts_bad {n : Nat} {acc : List Int} {st : Option (List UInt8)} (h : (eInt st).2 = none) : getInts (n + 1) acc st = ([], none) := by rw [getInts, if_pos h]
theorem getInts_ok {n : Nat} {acc : List Int} {st : Option (List UInt8)} (h : (eInt st).2 ≠ none) : getInts (n + 1) acc st = getInts n (acc ++ [(eInt st).1]) (eInt st).2 := by rw [getInts, if_neg h]
set_option maxRecDepth 100000 in
set_option maxHeartbeats 2000000 in
theorem suite_ints (w : World) (e : Nat) (st : Option (List UInt8)) (n : Nat) (hn : n ≤ 1000000) (he : EyeAt w e st) (hl : ∀ l, st = some l → l.length ≤ 70368744177664) (L : List Int) (st2 : Option (List UInt8)) (hL : getInts n [] st = (L, st2)) (m : Nat) (hm : m = L.length) :
    Calls Tryz.prog 84 #[.pointer (some ⟨e, 0, none⟩), .int .i64 (n : Nat)] w fun r w' => ∃ ao cap, r = .returned (.slice ao m cap) ∧ Own w' 2 1 (.slice ao m cap) m (ints L) ∧ EyeAt w' e st2 ∧ Chg [e] w w' ∧ ∀ b ∈ abl ao, w.heap.size ≤ b := by
  have HE := Lib.hid he
  have HL := Lib.hid hl
  have HG := Lib.hid hL
  have HM := Lib.hid hm
  have HEL := Lib.hid (show e < w.heap.size from Blk.lt he)
  clear he hl hL hm
  go_enter Tryz.func84, Tryz.ntmps84
  go_wp2_with fail
  go_loopw [5, 8] (fun out i wx => ∃ (k : Nat) (acc : List Int) (s : Option (List UInt8)) (ao : Option Addr) (cap j : Nat), k ≤ n ∧ i = .int .i64 (k : Nat) ∧ out = .slice ao j cap ∧ Hid (j = acc.length ∧ j = k) ∧ Hid (getInts (n - k) acc s = (L, st2)) ∧ EyeAt wx e s ∧ Hid (∀ l, s = some l → l.length ≤ 70368744177664) ∧ Hid (Own wx 2 1 (.slice ao j cap) j (ints acc)) ∧ Hid (Chg [e] w wx) ∧ Hid (∀ b ∈ abl ao, w.heap.size ≤ b)) (fun _ i _ => n - (intOf i).toNat)
  case atStart => exact ⟨0, [], st, none, 0, 0, Nat.zero_le _, rfl, rfl, Lib.hid ⟨rfl, rfl⟩, Lib.hid HG.out, HE.out, HL, Lib.hid (Own.nil _ _ _), Lib.hid (Chg.refl _ _), Lib.hid (by simp)⟩
  case round =>
    obtain ⟨k, acc, s, ao, cap, j, hk, rfl, rfl, HJ, HGK, he', HLK, HO, HC, HF⟩ := hrel
    by_cases hlt : k < n
    · have hjb : j ≤ 1000000 := by have := HJ.out; omega
      obtain ⟨x, hx⟩ : ∃ x, x = (eInt s).1 := ⟨_, rfl⟩
      obtain ⟨s2, hs2⟩ : ∃ z, z = (eInt s).2 := ⟨_, rfl⟩
      have HEI := Lib.hid (show ∀ u, EyeAt u e s → Calls Tryz.prog 74 #[.pointer (some ⟨e, 0, none⟩)] u fun r w' => r = .returned (.int .i64 x) ∧ EyeAt w' e s2 ∧ Chg [e] u w' from fun u hu => by rw [hx, hs2]; exact eye_int u e s hu HLK.out)
      have HL2 := Lib.hid (show ∀ l, s2 = some l → l.length ≤ 70368744177664 from by rw [hs2]; exact eInt_short HLK.out)
      have HE' := Lib.hid he'
      have HNK := Lib.hid (show n - k = (n - (k + 1)) + 1 from by omega)
      have HXS := Lib.hid (And.intro hx hs2)
      clear he' hx hs2
      go_wp2_with fail
      refine (HEI.out wr HE'.out).mono ?_
      rintro r w1 ⟨rfl, he1, hc1⟩
      have HE1 := Lib.hid he1
      have HC1 := Lib.hid (HC.out.trans hc1)
      have HO1 := Lib.hid (HO.out.chg hc1 (fun b hb e' => by simp at e'; subst e'; have h1 := HF.out b (by simpa using hb); have h2 := HEL.out; omega))
      clear he1 hc1 HE'
      go_wp2_with fail
      refine (eye_bad w1 e s2 HE1.out).mono ?_
      rintro r w2 ⟨rfl, rfl⟩
      cases s2 with
      | none =>
        have HR := Lib.hid (show L = [] ∧ st2 = none from by
          have h1 := HGK.out
          rw [HNK.out, getInts_bad HXS.out.2.symm] at h1
          simp only [Prod.mk.injEq] at h1
          exact ⟨h1.1.symm, h1.2.symm⟩)
        obtain rfl : m = 0 := by rw [HM.out, HR.out.1]; rfl
        go_wp2
        go_ret
        refine ⟨none, 0, rfl, ?_, ?_, HC1.out, by simp⟩
        · rw [HR.out.1]; exact Own.nil _ _ _
        · rw [HR.out.2]; exact HE1.out
      | some l2 =>
        go_wp2_with (at_builtin; go_must (refine wpList_append_src _ rfl (.tmp 14) (.tmp 16) 121 121 rfl 2 _ 1 8 under_ints info_i64 rfl (by decide) (.slice ao j cap) j (ints acc) rfl (HO1.out.chg (F := []) ((Chg.refl [] _).alloc _) (by simp)) (.slice (some ⟨w1.heap.size, 0, none⟩) 1 1) 1 (ints [x]) rfl (Src.of_rd under_ints (Rd.lit1 w1 (.int .i64 x) 2 1)) (ints_oneCell _) (by unfold maxLen; omega) (by omega) ?_; intro a5 c5 w3 ho3 hg3 hf3))
        have hk3 : Chg (abl ao) w1 w3 := (((Chg.refl [] w1).alloc _).nil).trans (hg3.mono (fun b hb => .inl (by simpa using hb)))
        refine ⟨⟨k + 1, acc ++ [x], some l2, a5, c5, j + 1, hlt, by go_num, rfl, Lib.hid ⟨by rw [List.length_append, ← HJ.out.1]; rfl, by rw [HJ.out.2]⟩, Lib.hid ?_, ?_, HL2, Lib.hid ?_, Lib.hid (HC1.out.trans' hk3 (fun b hb => .inr (HF.out b hb))), Lib.hid (fun b hb => ?_)⟩, by simp [intOf]; omega⟩
        · have h1 := HGK.out
          rw [HNK.out, getInts_ok (by rw [← HXS.out.2]; simp), ← HXS.out.1, ← HXS.out.2] at h1
          exact h1
        · exact Blk.chg HE1.out hk3 (fun e' => by have h1 := HF.out e e'; have h2 := HEL.out; omega)
        · rw [ints_append]; exact ho3
        · rcases hf3 b hb with h1 | h1
          · exact HF.out b (by simpa using h1)
          · simp only [World.size_alloc] at h1
            have h2 := HC1.out.size
            omega
    · obtain rfl : k = n := by omega
      have HR := Lib.hid (show L = acc ∧ st2 = s from by
        have h1 := HGK.out
        rw [Nat.sub_self, getInts] at h1
        simp only [Prod.mk.injEq] at h1
        exact ⟨h1.1.symm, h1.2.symm⟩)
      obtain rfl : m = j := by rw [HM.out, HR.out.1, HJ.out.1]
      go_wp2
      go_ret
      refine ⟨ao, cap, rfl, ?_, ?_, HC.out, HF.out⟩
      · rw [HR.out.1]; exact HO.out
      · rw [HR.out.2]; exact he'
end Go.Proofs.YtlcoibhbdgdfcaaGreatDoor

namespace Go.Proofs.YtlcoibhbdgdfcaaGreatDoor
open Go.RowKit

/-- All cells of a config are stored. -/
def cfStore (w : World) (b : Nat) (c : Cf) : World :=
  ((((((((((w.setCell ⟨b, 0, none⟩ (.int .i64 c.kind)).setCell ⟨b, 1, none⟩ (.int .u64 c.num)).setCell ⟨b, 2, none⟩ (.int .u64 c.den)).setCell ⟨b, 3, none⟩ (.int .i64 c.side)).setCell ⟨b, 4, none⟩ (.int .i64 c.most)).setCell ⟨b, 5, none⟩ (.int .i64 c.digits)).setCell ⟨b, 6, none⟩ (.int .u64 c.limit)).setCell ⟨b, 7, none⟩ (.int .i64 c.depth)).setCell ⟨b, 8, none⟩ (.int .i64 c.factor)).setCell ⟨b, 9, none⟩ (.int .i64 c.width)).setCell ⟨b, 10, none⟩ (.int .u64 c.word)
theorem cfStore_ok {w : World} {b : Nat} {d : Cf} (h : Blk w b d.cells 30) (c : Cf) : Blk (cfStore w b c) b c.cells 30 ∧ Chg [b] w (cfStore w b c) := by
  unfold cfStore
  refine ⟨?_, ?_⟩
  · have h' := ((((((((((h.setCell 0 (.int .i64 c.kind)).setCell 1 (.int .u64 c.num)).setCell 2 (.int .u64 c.den)).setCell 3 (.int .i64 c.side)).setCell 4 (.int .i64 c.most)).setCell 5 (.int .i64 c.digits)).setCell 6 (.int .u64 c.limit)).setCell 7 (.int .i64 c.depth)).setCell 8 (.int .i64 c.factor)).setCell 9 (.int .i64 c.width)).setCell 10 (.int .u64 c.word)
    have e : c.cells = ((((((((((d.cells.setIfInBounds 0 (.int .i64 c.kind)).setIfInBounds 1 (.int .u64 c.num)).setIfInBounds 2 (.int .u64 c.den)).setIfInBounds 3 (.int .i64 c.side)).setIfInBounds 4 (.int .i64 c.most)).setIfInBounds 5 (.int .i64 c.digits)).setIfInBounds 6 (.int .u64 c.limit)).setIfInBounds 7 (.int .i64 c.depth)).setIfInBounds 8 (.int .i64 c.factor)).setIfInBounds 9 (.int .i64 c.width)).setIfInBounds 10 (.int .u64 c.word) := by
      simp only [Cf.cells, List.setIfInBounds_toArray, List.set_cons_zero, List.set_cons_succ]
    rw [e]
    exact h'
  · have k : ∀ {w1 : World} (_ : Chg [b] w w1) (j : Nat) (u : Value), Chg [b] w (w1.setCell ⟨b, j, none⟩ u) := fun h j u => h.setCell (.inl (by simp)) u
    exact (k (k (k (k (k (k (k (k (k (k (k (Chg.refl [b] w) 0 _) 1 _) 2 _) 3 _) 4 _) 5 _) 6 _) 7 _) 8 _) 9 _) 10 _)
end Go.Proofs.YtlcoibhbdgdfcaaGreatDoor
