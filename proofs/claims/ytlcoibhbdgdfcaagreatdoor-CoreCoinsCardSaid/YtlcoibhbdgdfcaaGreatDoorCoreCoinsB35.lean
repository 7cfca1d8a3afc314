/-
  The walk of runs.Get. Conditions: the form's own reach.
-/
import Derived.Test.YtlcoibhbdgdfcaaGreatDoorCoreCoinsB23
import Derived.Test.YtlcoibhbdgdfcaaGreatDoorCoreCoinsB27
import Derived.Test.YtlcoibhbdgdfcaaGreatDoorCoreCoinsB30
namespace Go.Proofs.YtlcoibhbdgdfcaaGreatDoor
open Go.RowKit

theorem eye_nat_e (w : World) (e most : Nat) (x : Int) (hx : x = (most : Int)) (st : Option (List UInt8)) (hmost : most < 18446744073709551616) (he : EyeAt w e st) (hl : ∀ l, st = some l → l.length ≤ 70368744177664) :
    Calls Tryz.prog 71 #[.pointer (some ⟨e, 0, none⟩), .int .u64 x] w fun r w' => r = .returned (.int .u64 (eNat most st).1) ∧ EyeAt w' e (eNat most st).2 ∧ Chg [e] w w' := by
  subst hx
  exact eye_nat w e most st hmost he hl
theorem room_eq (i : Int) (h0 : -9223372036854775808 ≤ i) (h1 : i < 9223372036854775807) : IntKind.u64.wrap (9223372036854775806 - IntKind.u64.wrap i) = ((9223372036854775806 - i).toNat : Int) := by
  have h : ∀ x : Int, IntKind.u64.wrap x = x % 18446744073709551616 := fun x => by simp [IntKind.wrap, IntKind.bits, IntKind.signed]
  rw [h, h]
  omega
theorem next_eq (i : Int) (v : Nat) (h0 : -9223372036854775808 ≤ i) (h1 : i < 9223372036854775807) (hv : v ≤ (9223372036854775806 - i).toNat) : IntKind.i64.wrap (IntKind.u64.wrap (IntKind.u64.wrap (IntKind.u64.wrap i + v) + 1)) = i + v + 1 := by
  have h : ∀ x : Int, IntKind.u64.wrap x = x % 18446744073709551616 := fun x => by simp [IntKind.wrap, IntKind.bits, IntKind.signed]
  rw [h, h, h, IntKind.wrap_i64]
  omega
theorem eNat_shrinks {most : Nat} {st : Option (List UInt8)} {r : List UInt8} (h : (eNat most st).2 = some r) : ∃ l, st = some l ∧ r.length + 1 ≤ l.length := by
  cases st with
  | none => simp [eNat] at h
  | some l =>
    obtain ⟨e1, _, _⟩ := eNat_sound (pair_eq h)
    refine ⟨l, rfl, ?_⟩
    have h2 := natB_pos (eNat most (some l)).1
    generalize natB (eNat most (some l)).1 = g at *
    rw [e1, List.length_append]
    omega
theorem idx_shrinks {acc : List Pr} {st : Option (List UInt8)} {r : List UInt8} (h : (idxNext acc st).2 = some r) : ∃ l, st = some l ∧ r.length + 1 ≤ l.length := by
  unfold idxNext at h
  split at h <;> exact eNat_shrinks h
theorem eCount_lt (st : Option (List UInt8)) : (eCount st).1 < 18446744073709551616 := by
  unfold eCount
  split
  · simp
  · have := eNat_le 9223372036854775807 st; omega
theorem eCount_shrinks {st : Option (List UInt8)} {r : List UInt8} (h : (eCount st).2 = some r) : ∃ l, st = some l ∧ r.length + 1 ≤ l.length := by
  unfold eCount at h
  split at h
  · simp at h
  · exact eNat_shrinks h

set_option maxRecDepth 100000 in
set_option maxHeartbeats 1000000 in
theorem runs_get (w : World) (e : Nat) (st0 : Option (List UInt8)) (most : Int) (hm : most < 9223372036854775808) (he : EyeAt w e st0) (hl0 : ∀ l, st0 = some l → l.length ≤ 1000000) :
    Calls Tryz.prog 75 #[.pointer (some ⟨e, 0, none⟩), .int .i64 most] w fun r w' => ∃ ao cap, r = .returned (.slice ao (getP most st0).1.length cap) ∧
      Own w' 226 2 (.slice ao (getP most st0).1.length cap) (getP most st0).1.length (prCells (getP most st0).1) ∧ EyeAt w' e (getP most st0).2 ∧ Chg [e] w w' ∧ ∀ b ∈ abl ao, w.heap.size ≤ b := by
  have HK := Lib.hid (eye_small w e st0 most hm he (fun l hl => by have := hl0 l hl; omega))
  generalize hR : getP most st0 = R
  have HR := Lib.hid hR
  have HN := Lib.hid (show (eNat most.toNat st0).1 < 9223372036854775808 from by have := eNat_le most.toNat st0; omega)
  have hev : e < w.heap.size := he.lt
  clear hm hR he
  go_enter Tryz.func75, Tryz.ntmps75
  go_wp2_with fail
  refine HK.out.mono ?_
  rintro r w1 ⟨rfl, he1, hc1⟩
  have hR2 := HR.out
  rw [getP] at hR2
  have hb1 : ∀ l, (eNat most.toNat st0).2 = some l → l.length ≤ 1000000 := fun l hl => by
    obtain ⟨l', e1, e2⟩ := eNat_shrinks hl
    have := hl0 l' e1
    omega
  generalize (eNat most.toNat st0).1 = n at *
  generalize (eNat most.toNat st0).2 = st1 at *
  have HR2 := Lib.hid hR2
  clear HR HK hl0 hR2
  go_wp2
  go_loopw [5, 12] (fun out i wx => ∃ (acc : List Pr) (st : Option (List UInt8)) (ao : Option Addr) (cap : Nat), acc.length ≤ n ∧ i = .int .i64 (acc.length : Nat) ∧ out = .slice ao acc.length cap ∧ Own wx 226 2 (.slice ao acc.length cap) acc.length (prCells acc) ∧ EyeAt wx e st ∧
    (∀ l, st = some l → l.length + acc.length ≤ 1000000) ∧ Chg [e] w wx ∧ (∀ b ∈ abl ao, w.heap.size ≤ b) ∧ (∀ q ∈ acc, q.ok) ∧ Hid (getN (n - acc.length) acc st = R)) (fun _ i _ => n - (intOf i).toNat)
  case atStart => exact ⟨[], st1, none, 0, Nat.zero_le _, rfl, rfl, Own.nil _ _ _, he1, by simpa using hb1, hc1, by simp [abl], by simp, HR2⟩
  case round =>
    obtain ⟨acc, st, ao, cap, hk, rfl, rfl, ho, hey, hlen, hch, hab, hok, HG⟩ := hrel
    by_cases hlt : acc.length < n
    · obtain ⟨hd, hn1⟩ : decide ((acc.length : Int) < (n : Int)) = true ∧ n - acc.length = (n - (acc.length + 1)) + 1 := ⟨decide_eq_true (by omega), by omega⟩
      have hG := HG.out
      rw [hn1, getN] at hG
      have hbx := Blk.alloc_new wr #[.int .i64 0, .int .u64 0] 226
      have hel := he1.lt
      have heb : e ≠ wr.heap.size := by have := hey.lt; omega
      have hey1 := Blk.alloc hey (.cells #[.int .i64 0, .int .u64 0] 226)
      by_cases h0 : acc.length = 0
      · have hz0 : ((acc.length : Int) == 0) = true := by simp [h0]
        rw [if_neg (fun h => h.1 h0)] at hG
        have HG2 := Lib.hid hG
        have HK1 := Lib.hid (eye_int (wr.alloc (.cells #[.int .i64 0, .int .u64 0] 226)) e st hey1 (fun l hl => by have := hlen l hl; omega))
        have hz : idxNext acc st = (zag (eNat 18446744073709551615 st).1, (eNat 18446744073709551615 st).2) := if_pos h0
        clear hG h0
        go_wp2_with fail
        refine HK1.out.mono ?_
        rintro r w2 ⟨rfl, he2, hc2⟩
        rw [hz] at HG2
        have hl2 : ∀ l, (eNat 18446744073709551615 st).2 = some l → l.length + 1 + acc.length ≤ 1000000 := fun l hl => by
          obtain ⟨l', q1, q2⟩ := eNat_shrinks hl
          have := hlen l' q1
          omega
        have hix := Lib.hid (zag_range (u := (eNat 18446744073709551615 st).1) (by have := eNat_le 18446744073709551615 st; omega))
        generalize (eNat 18446744073709551615 st).2 = st2 at *
        generalize zag (eNat 18446744073709551615 st).1 = ix at *
        have hb2 := hbx.chg hc2 (by simpa using heb.symm)
        have f0 := hb2.free 0
        have f1 := hb2.free 1
        have g0 := hb2.cell 0
        have g1 := hb2.cell 1
        have he3 := Blk.setCell_other he2 (a := ⟨wr.heap.size, 0, none⟩) heb (.int .i64 ix)
        have hb3 := hb2.setCell 0 (.int .i64 ix)
        have HK2 := Lib.hid (eye_count (w2.setCell ⟨wr.heap.size, 0, none⟩ (.int .i64 ix)) e st2 he3 (fun l hl => by have := hl2 l hl; omega))
        go_wp2_with fail
        refine HK2.out.mono ?_
        rintro r w4 ⟨rfl, he4, hc4⟩
        have hb4 := hb3.chg hc4 (by simpa using heb.symm)
        have f2 := hb4.free 0
        have f3 := hb4.free 1
        have g2 := hb4.cell 0
        have g3 := hb4.cell 1
        have hl4 : ∀ l, (eCount st2).2 = some l → l.length + (acc.length + 1) ≤ 1000000 := fun l hl => by
          obtain ⟨l', q1, q2⟩ := eCount_shrinks hl
          have := hl2 l' q1
          omega
        have hcw := fun v => (((((Chg.refl [e] wr).alloc (.cells #[.int .i64 0, .int .u64 0] 226)).trans hc2).setCell (a := ⟨wr.heap.size, 0, none⟩) (.inr (Nat.le_refl _)) (.int .i64 ix)).trans hc4).setCell (a := ⟨wr.heap.size, 1, none⟩) (.inr (Nat.le_refl _)) v
        have hcn := Lib.hid (eCount_lt st2)
        generalize (eCount st2).2 = st3 at *
        generalize (eCount st2).1 = cn at *
        have he5 := Blk.setCell_other he4 (a := ⟨wr.heap.size, 1, none⟩) heb (.int .u64 cn)
        have hb5 := hb4.setCell 1 (.int .u64 cn)
        have ho5 := ho.chg (hcw (.int .u64 cn)) (fun b hb => by have := hab b (by simpa using hb); simp; omega)
        have g4 := hb5.cell 0
        have g5 := hb5.cell 1
        go_wp2_with fail
        refine (eye_bad (w4.setCell ⟨wr.heap.size, 1, none⟩ (.int .u64 cn)) e st3 he5).mono ?_
        rintro r w6 ⟨rfl, rfl⟩
        cases st3 with
        | none =>
          have hR := HG2.out
          rw [if_pos rfl] at hR
          subst hR
          simp only [Option.isNone_none]
          go_wp2
          go_ret
          exact ⟨none, 0, rfl, Own.nil _ _ _, he5, hch.trans (hcw _), by simp [abl]⟩
        | some l3 =>
          simp only [Option.isNone_some]
          have hbd := hl4 l3 rfl
          have hrd : Rd ((w4.setCell ⟨wr.heap.size, 1, none⟩ (.int .u64 cn)).alloc (.cells #[.int .i64 ix, .int .u64 cn] 226)) 2 (.slice (some ⟨w4.heap.size, 0, none⟩) 1 1) 1 (prCells [⟨ix, cn⟩]) := by
            have := Rd.lit (w4.setCell ⟨wr.heap.size, 1, none⟩ (.int .u64 cn)) #[.int .i64 ix, .int .u64 cn] 226 2 1 1 rfl
            simpa [prCells, Pr.cells] using this
          go_wp2_with (at_builtin; go_must (refine wpList_append_src _ rfl (.tmp 47) (.tmp 49) 177 177 rfl 226 _ 2 16 under_pairs info_pair rfl (by decide) (.slice ao acc.length cap) acc.length (prCells acc) rfl (ho5.alloc _) (.slice (some ⟨w4.heap.size, 0, none⟩) 1 1) 1 (prCells [⟨ix, cn⟩]) rfl (Src.of_rd under_pairs hrd) (prCells_oneCell _) (by unfold maxLen; omega) (by omega) ?_; intro a3 c3 w7 ho7 hg7 hf7))
          have hR := HG2.out
          rw [if_neg (by simp)] at hR
          have hea : e ∉ blkOf (.slice ao acc.length cap) := fun h => by have := hab e (by simpa using h); omega
          have hsz : w.heap.size ≤ wr.heap.size := hch.size
          have hsz2 : wr.heap.size ≤ w4.heap.size := by have := (hcw (.int .u64 cn)).size; simpa using this
          refine ⟨⟨acc ++ [⟨ix, cn⟩], some l3, a3, c3, by simp; omega, by simp, by simp, by simpa [prCells_append] using ho7, Blk.chg (Blk.alloc he5 _) hg7 hea, ?_, ((hch.trans (hcw _)).alloc _).trans' hg7 (fun b hb => .inr (hab b (by simpa using hb))), ?_, ?_, ?_⟩, by simp [intOf]; omega⟩
          · intro l hl; cases hl; simp; omega
          · intro b hb
            rcases hf7 b hb with h | h
            · exact hab b (by simpa using h)
            · simp at h; omega
          · intro q hq
            rcases List.mem_append.1 hq with hq | hq
            · exact hok q hq
            · rw [List.mem_singleton] at hq
              subst hq
              exact ⟨hix.out.1, hix.out.2, hcn.out⟩
          · rw [List.length_append]; exact hR
      · have hz0 : ((acc.length : Int) == 0) = false := beq_eq_false_iff_ne.2 (by omega)
        have hli := lastI_ok hok h0
        have hkl : acc.length - 1 < acc.length := by omega
        obtain ⟨b, o, rfl, hcs⟩ := ho.rd.addr (by omega)
        obtain ⟨c0, _⟩ := pr_at hcs hkl
        have hla : acc[acc.length - 1].i = lastI acc := by simp [lastI, List.getD, hkl]
        rw [hla] at c0
        have hk1 : (acc.length : Int) - 1 = ((acc.length - 1 : Nat) : Int) := by omega
        have hkw : IntKind.i64.wrap ((acc.length - 1 : Nat) : Int) = ((acc.length - 1 : Nat) : Int) := IntWalk.i64_in _ (by have := HN.out; omega)
        have hk0 : (0 : Int) ≤ ((acc.length - 1 : Nat) : Int) := by omega
        have hkl2 : ((acc.length - 1 : Nat) : Int) < (acc.length : Int) := by omega
        have c2 := ((Chg.refl [] wr).alloc (.cells #[.int .i64 0, .int .u64 0] 226)).cell c0 (by simp)
        have hz : idxNext acc st = (lastI acc + (eNat (9223372036854775806 - lastI acc).toNat st).1 + 1, (eNat (9223372036854775806 - lastI acc).toNat st).2) := if_neg h0
        by_cases hmx : lastI acc = 9223372036854775807
        · rw [if_pos ⟨h0, hmx⟩] at hG
          subst hG
          have hm1 : (lastI acc == 9223372036854775807) = true := by simp [hmx]
          have HK1 := Lib.hid (eye_shut (wr.alloc (.cells #[.int .i64 0, .int .u64 0] 226)) e st hey1)
          generalize lastI acc = la at *
          clear h0 hz hli hla hmx
          go_wp2_with fail
          refine HK1.out.mono ?_
          rintro r w2 ⟨rfl, he2, hc2⟩
          go_wp2
          go_ret
          exact ⟨none, 0, rfl, Own.nil _ _ _, he2, (hch.alloc _).trans hc2, by simp [abl]⟩
        · rw [if_neg (fun h => hmx h.2), hz] at hG
          have HG2 := Lib.hid hG
          have hm1 : (lastI acc == 9223372036854775807) = false := beq_eq_false_iff_ne.2 hmx
          have hla0 := hli.1
          have hla1 : lastI acc < 9223372036854775807 := by omega
          have hl2 : ∀ l, (eNat (9223372036854775806 - lastI acc).toNat st).2 = some l → l.length + 1 + acc.length ≤ 1000000 := fun l hl => by
            obtain ⟨l', q1, q2⟩ := eNat_shrinks hl
            have := hlen l' q1
            omega
          have HK1 := Lib.hid (eye_nat_e (wr.alloc (.cells #[.int .i64 0, .int .u64 0] 226)) e (9223372036854775806 - lastI acc).toNat _ (room_eq (lastI acc) hla0 hla1) st (by omega) hey1 (fun l hl => by have := hlen l hl; omega))
          have hnx := next_eq (lastI acc) (eNat (9223372036854775806 - lastI acc).toNat st).1 hla0 hla1 (eNat_le _ _)
          have hix := Lib.hid (show -9223372036854775808 ≤ lastI acc + (eNat (9223372036854775806 - lastI acc).toNat st).1 + 1 ∧ lastI acc + (eNat (9223372036854775806 - lastI acc).toNat st).1 + 1 < 9223372036854775808 from by have := eNat_le (9223372036854775806 - lastI acc).toNat st; omega)
          generalize lastI acc = la at *
          clear hG h0 hz hli hla hmx hla0 hla1
          have HNX := Lib.hid hnx
          clear hnx
          go_wp2_with fail
          refine HK1.out.mono ?_
          rintro r w2 ⟨rfl, he2, hc2⟩
          generalize (eNat (9223372036854775806 - la).toNat st).2 = st2 at *
          generalize (eNat (9223372036854775806 - la).toNat st).1 = v at *
          have hnx2 := HNX.out
          generalize la + (v : Int) + 1 = ix at *
          clear HNX
          have hb2 := hbx.chg hc2 (by simpa using heb.symm)
          have f0 := hb2.free 0
          have f1 := hb2.free 1
          have g0 := hb2.cell 0
          have g1 := hb2.cell 1
          have he3 := Blk.setCell_other he2 (a := ⟨wr.heap.size, 0, none⟩) heb (.int .i64 ix)
          have hb3 := hb2.setCell 0 (.int .i64 ix)
          have HK2 := Lib.hid (eye_count (w2.setCell ⟨wr.heap.size, 0, none⟩ (.int .i64 ix)) e st2 he3 (fun l hl => by have := hl2 l hl; omega))
          go_wp2_with fail
          refine HK2.out.mono ?_
          rintro r w4 ⟨rfl, he4, hc4⟩
          have hb4 := hb3.chg hc4 (by simpa using heb.symm)
          have f2 := hb4.free 0
          have f3 := hb4.free 1
          have g2 := hb4.cell 0
          have g3 := hb4.cell 1
          have hl4 : ∀ l, (eCount st2).2 = some l → l.length + (acc.length + 1) ≤ 1000000 := fun l hl => by
            obtain ⟨l', q1, q2⟩ := eCount_shrinks hl
            have := hl2 l' q1
            omega
          have hcw := fun v => (((((Chg.refl [e] wr).alloc (.cells #[.int .i64 0, .int .u64 0] 226)).trans hc2).setCell (a := ⟨wr.heap.size, 0, none⟩) (.inr (Nat.le_refl _)) (.int .i64 ix)).trans hc4).setCell (a := ⟨wr.heap.size, 1, none⟩) (.inr (Nat.le_refl _)) v
          have hcn := Lib.hid (eCount_lt st2)
          generalize (eCount st2).2 = st3 at *
          generalize (eCount st2).1 = cn at *
          have he5 := Blk.setCell_other he4 (a := ⟨wr.heap.size, 1, none⟩) heb (.int .u64 cn)
          have hb5 := hb4.setCell 1 (.int .u64 cn)
          have ho5 := ho.chg (hcw (.int .u64 cn)) (fun b hb => by have := hab b (by simpa using hb); simp; omega)
          have g4 := hb5.cell 0
          have g5 := hb5.cell 1
          go_wp2_with fail
          refine (eye_bad (w4.setCell ⟨wr.heap.size, 1, none⟩ (.int .u64 cn)) e st3 he5).mono ?_
          rintro r w6 ⟨rfl, rfl⟩
          cases st3 with
          | none =>
            have hR := HG2.out
            rw [if_pos rfl] at hR
            subst hR
            simp only [Option.isNone_none]
            go_wp2
            go_ret
            exact ⟨none, 0, rfl, Own.nil _ _ _, he5, hch.trans (hcw _), by simp [abl]⟩
          | some l3 =>
            simp only [Option.isNone_some]
            have hbd := hl4 l3 rfl
            have hrd : Rd ((w4.setCell ⟨wr.heap.size, 1, none⟩ (.int .u64 cn)).alloc (.cells #[.int .i64 ix, .int .u64 cn] 226)) 2 (.slice (some ⟨w4.heap.size, 0, none⟩) 1 1) 1 (prCells [⟨ix, cn⟩]) := by
              have := Rd.lit (w4.setCell ⟨wr.heap.size, 1, none⟩ (.int .u64 cn)) #[.int .i64 ix, .int .u64 cn] 226 2 1 1 rfl
              simpa [prCells, Pr.cells] using this
            go_wp2_with (at_builtin; go_must (refine wpList_append_src _ rfl (.tmp 47) (.tmp 49) 177 177 rfl 226 _ 2 16 under_pairs info_pair rfl (by decide) (.slice (some ⟨b, o, none⟩) acc.length cap) acc.length (prCells acc) rfl (ho5.alloc _) (.slice (some ⟨w4.heap.size, 0, none⟩) 1 1) 1 (prCells [⟨ix, cn⟩]) rfl (Src.of_rd under_pairs hrd) (prCells_oneCell _) (by unfold maxLen; omega) (by omega) ?_; intro a3 c3 w7 ho7 hg7 hf7))
            have hR := HG2.out
            rw [if_neg (by simp)] at hR
            have hea : e ∉ blkOf (.slice (some ⟨b, o, none⟩) acc.length cap) := fun h => by have := hab e (by simpa using h); omega
            have hsz : w.heap.size ≤ wr.heap.size := hch.size
            have hsz2 : wr.heap.size ≤ w4.heap.size := by have := (hcw (.int .u64 cn)).size; simpa using this
            refine ⟨⟨acc ++ [⟨ix, cn⟩], some l3, a3, c3, by simp; omega, by simp, by simp, by simpa [prCells_append] using ho7, Blk.chg (Blk.alloc he5 _) hg7 hea, ?_, ((hch.trans (hcw _)).alloc _).trans' hg7 (fun b hb => .inr (hab b (by simpa using hb))), ?_, ?_, ?_⟩, by simp [intOf]; omega⟩
            · intro l hl; cases hl; simp; omega
            · intro b hb
              rcases hf7 b hb with h | h
              · exact hab b (by simpa using h)
              · simp at h; omega
            · intro q hq
              rcases List.mem_append.1 hq with hq | hq
              · exact hok q hq
              · rw [List.mem_singleton] at hq
                subst hq
                exact ⟨hix.out.1, hix.out.2, hcn.out⟩
            · rw [List.length_append]; exact hR
    · have hkn : acc.length = n := by omega
      have hG := HG.out
      rw [hkn, Nat.sub_self, getN] at hG
      subst hG
      have hd : decide ((acc.length : Int) < (n : Int)) = false := decide_eq_false (by omega)
      clear hkn
      go_wp2
      go_ret
      exact ⟨ao, cap, rfl, ho, hey, hch, hab⟩
end Go.Proofs.YtlcoibhbdgdfcaaGreatDoor
