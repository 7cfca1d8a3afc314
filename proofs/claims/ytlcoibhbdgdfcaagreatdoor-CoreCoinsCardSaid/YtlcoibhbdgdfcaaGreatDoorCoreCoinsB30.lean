/-
  The walk of runs.Put. Conditions: the form's own reach.
-/
import Derived.Test.YtlcoibhbdgdfcaaGreatDoorCoreCoinsB26
namespace Go.Proofs.YtlcoibhbdgdfcaaGreatDoor
open Go.RowKit

theorem Rd.ltP {w : World} {size : Nat} {v : Value} {n : Nat} {xs : List Value} (h : Rd w size v n xs) (hn : 0 < n * size) : ∀ b ∈ blkOf v, b < w.heap.size := by
  obtain ⟨hl, ao, cap, rfl, h | ⟨b, o, rfl, hc⟩⟩ := h
  · subst h; simp at hn
  · intro x hx
    obtain rfl : x = b := by simpa [blkOf] using hx
    have := hc 0 hn
    rw [List.getElem?_eq_getElem (by omega)] at this
    exact World.block_lt_of_cell? w _ this

theorem quill_nat1e (w : World) (q : Nat) (F : List Nat) (l : List UInt8) (u : Nat) (hu : u < 18446744073709551616) (hq : Qul w q F l) (x : Int) (hx : x = (u : Int)) (b0 : Nat) (hb0 : b0 = w.heap.size) (hroom : l.length + 10 ≤ 70368744177664) :
    Calls Tryz.prog 69 #[.pointer (some ⟨q, 0, none⟩), .slice (some ⟨b0, 0, none⟩) 1 1] (w.alloc (.cells #[.int .u64 x] 25)) fun e w' => e = .returned (.tuple #[]) ∧
      ∃ F', Qul w' q F' (l ++ natB u) ∧ Mv F w F' w' := by
  subst hx
  exact quill_nat1 w q F l u hu hq b0 hb0 hroom
theorem Mv.of_drew {F F1 : List Nat} {w w1 : World} (h : Mv F w.drew F1 w1) : Mv F w F1 w1 := ⟨⟨h.1.os, h.1.tape, h.1.output, h.1.size, h.1.block⟩, h.2⟩
theorem gap_eq (p q : Int) : IntKind.u64.wrap (IntKind.u64.wrap (IntKind.u64.wrap p - IntKind.u64.wrap q) - 1) = (gapN p q : Int) := by
  have h : ∀ x : Int, IntKind.u64.wrap x = x % 18446744073709551616 := fun x => by simp [IntKind.wrap, IntKind.bits, IntKind.signed]
  rw [h, h, h, h, gapN]
  omega

set_option maxRecDepth 100000 in
set_option maxHeartbeats 1000000 in
theorem runs_put (w : World) (q : Nat) (F : List Nat) (pre : List UInt8) (ao : Option Addr) (cap : Nat) (l : List Pr) (hok : ∀ p ∈ l, p.ok) (hq : Qul w q F pre) (hr : Rd w 2 (.slice ao l.length cap) l.length (prCells l)) (ha : 0 < l.length → ∀ b ∈ blkOf (.slice ao l.length cap), b ∉ F)
    (hroom : pre.length + 20 * l.length + 30 ≤ 70368744177664) :
    Calls Tryz.prog 219 #[.pointer (some ⟨q, 0, none⟩), .slice ao l.length cap] w fun e w' => e = .returned (.tuple #[]) ∧
      ∃ F', Qul w' q F' (pre ++ putB l) ∧ Mv F w F' w' := by
  have H0 := Lib.hid (natB_len10 (n := l.length) (by omega))
  have HQ := Lib.hid hq
  go_enter Tryz.func219, Tryz.ntmps219
  go_wp2_with fail
  refine (quill_nat1 w q F pre l.length (by omega) HQ.out w.heap.size rfl (by omega)).mono ?_
  rintro e w1 ⟨rfl, F1, hq1, hm1⟩
  have hap := fun h : 0 < l.length => hm1.apart (ha h) (hr.ltP (by omega))
  have hr1 := fun h : 0 < l.length => hr.chg hm1.chg (ha h)
  have hlt1 : 0 < l.length → ∀ b ∈ blkOf (.slice ao l.length cap), b < w1.heap.size := fun h b hb => Nat.lt_of_lt_of_le (hr.ltP (by omega) b hb) hm1.chg.size
  have hbl := fun k hk => bodyTo_len l hok k hk
  have HBL := Lib.hid hbl
  have HAP := Lib.hid hap
  have HLT := Lib.hid hlt1
  have HOK := Lib.hid hok
  have HM1 := Lib.hid hm1
  have hroom2 : (pre ++ natB l.length).length + 20 * l.length + 20 ≤ 70368744177664 := by
    have := H0.out
    rw [List.length_append]
    omega
  generalize hp : pre ++ natB l.length = pre1 at *
  have HP := Lib.hid hp
  have HR := Lib.hid hr1
  clear hbl hap hlt1 hok hm1 ha hr hroom H0 HQ hq hp hr1
  go_wp2
  go_loopw [14] (fun i wx => ∃ (k : Nat) (F2 : List Nat), k ≤ l.length ∧ i = .int .i64 (k : Nat) ∧ Qul wx q F2 (pre1 ++ bodyTo l k) ∧ Mv F1 w1 F2 wx) (fun i _ => l.length - (intOf i).toNat)
  case atStart => exact ⟨0, F1, Nat.zero_le _, rfl, by simpa [bodyTo] using hq1, Mv.refl _ _⟩
  case round =>
    obtain ⟨k, F2, hk, rfl, hq2, hm2⟩ := hrel
    have HM2 := Lib.hid hm2
    by_cases hlt : k < l.length
    · have hr1 := (HR.out (by omega)).chg hm2.chg (HAP.out (by omega))
      have hapF := hm2.apart (HAP.out (by omega)) (HLT.out (by omega))
      obtain ⟨b, o, rfl, hc⟩ := hr1.addr (by omega)
      obtain ⟨c0, c1⟩ := pr_at hc hlt
      have hok1 := HOK.out l[k] (List.getElem_mem _)
      have hlen := HBL.out k hk
      have hS := bodyTo_succ l k
      have hgk : l.getD k default = l[k] := by simp [List.getD, hlt]
      have hbF2 : b ∉ F2 := hapF b (by simp [blkOf])
      have hroom3 : (pre1 ++ bodyTo l k).length + 40 ≤ 70368744177664 := by rw [List.length_append]; omega
      obtain ⟨k0, k1, k2⟩ := hok1
      have hbox := Blk.alloc_new wr #[.int .i64 l[k].i, .int .u64 l[k].c] 226
      have hnew : wr.heap.size ∉ F2 := fun h => by have := hq2.lt _ h; omega
      have HQ2 := Lib.hid (hq2.alloc (.cells #[.int .i64 l[k].i, .int .u64 l[k].c] 226))
      have hF1 : ∀ (F3 : List Nat) (w3 : World), Mv F2 (wr.alloc (.cells #[.int .i64 l[k].i, .int .u64 l[k].c] 226)) F3 w3 → Mv F1 w1 F3 w3 ∧ Blk w3 wr.heap.size #[.int .i64 l[k].i, .int .u64 l[k].c] 226 :=
        fun F3 w3 hm => ⟨(hm2.trans (Mv.alloc F2 wr _)).trans hm, hbox.chg hm.chg hnew⟩
      have HF1 := Lib.hid hF1
      have HN := Lib.hid hnew
      have HLN := Lib.hid (pairB_len l HOK.out k hlt)
      have hch2 := Chg.alloc (Chg.refl [] wr) (.cells #[.int .i64 l[k].i, .int .u64 l[k].c] 226)
      rcases k with _ | k
      · have hB : pairB l 0 = natB (zig l[0].i) ++ natB l[0].c := by rw [pairB, if_pos rfl, hgk]
        rw [hB] at hS
        have HS := Lib.hid hS
        generalize l[0] = p at *
        generalize hP2 : pre1 ++ bodyTo l 0 = pre2 at *
        have HP2 := Lib.hid hP2
        simp only [Nat.zero_mul, Nat.add_zero] at c0 c1
        clear hS hB hgk hr1 hapF hc hq2 hbox hnew hlen hch2 hF1 hP2 hm2
        have HL1 := Lib.hid (natB_len10 (zig_lt k0 k1))
        go_wp2_with fail
        refine (quill_int1 (wr.alloc (.cells #[.int .i64 p.i, .int .u64 p.c] 226)) q F2 pre2 p.i k0 k1 HQ2.out (wr.heap.size + 1) (by simp) (by omega)).mono ?_
        rintro e w5 ⟨rfl, F5, hq5, hm5⟩
        obtain ⟨_, hb5⟩ := HF1.out F5 w5 hm5
        have e1 := hb5.cell 1
        go_wp2_with fail
        refine (quill_nat1 w5 q F5 _ p.c k2 hq5 w5.heap.size rfl (by rw [List.length_append]; have := HL1.out; omega)).mono ?_
        rintro e w6 ⟨rfl, F6, hq6, hm6⟩
        obtain ⟨hm7, _⟩ := HF1.out F6 w6 (Mv.trans hm5 hm6)
        go_wp2
        exact ⟨⟨1, F6, by omega, by go_num, by rw [HS.out, ← List.append_assoc, HP2.out, ← List.append_assoc]; exact hq6, hm7⟩, by simp [intOf]; omega⟩
      · obtain ⟨d0, d1⟩ := pr_at hc (show k < l.length by omega)
        have hgk2 : l.getD (k + 1 - 1) default = l[k] := by simp [List.getD, show k < l.length by omega]
        have hB : pairB l (k + 1) = natB (gapN l[k + 1].i l[k].i) ++ natB l[k + 1].c := by rw [pairB, if_neg (by omega), hgk, hgk2]
        rw [hB] at hS
        have HS := Lib.hid hS
        have hk1 : (k : Int) + 1 - 1 = (k : Int) := by omega
        have hkw : IntKind.i64.wrap (k : Int) = (k : Int) := IntWalk.i64_in _ (by omega)
        have hk0 : (0 : Int) ≤ (k : Int) := by omega
        have hkl : (k : Int) < (l.length : Int) := by omega
        have hz5 : ((k : Int) + 1 == 0) = false := by simp; omega
        generalize l[k + 1] = p at *
        generalize l[k] = q0 at *
        have d2 := hch2.cell d0 (by simp)
        have b2 := (Blk.alloc_new wr #[.int .i64 p.i, .int .u64 p.c] 226).cell 0
        have D2 := Lib.hid (And.intro (show (wr.alloc (.cells #[.int .i64 p.i, .int .u64 p.c] 226)).cell? ⟨wr.heap.size, 0, none⟩ = some (.int .i64 p.i) from b2) d2)
        have HG := Lib.hid (gap_eq p.i q0.i)
        have HGL := Lib.hid (gapN_lt p.i q0.i)
        generalize hP2 : pre1 ++ bodyTo l (k + 1) = pre2 at *
        have HP2 := Lib.hid hP2
        clear hS hB hgk hgk2 hr1 hapF hc hq2 hbox hnew hlen hch2 hF1 hP2 hm2
        have HL1 := Lib.hid (natB_len10 (n := gapN p.i q0.i) (by have := gapN_lt p.i q0.i; omega))
        go_wp2_with fail
        go_region_held3 (fun wx => wx.cell? ⟨wr.heap.size, 0, none⟩ = some (.int .i64 p.i) ∧ wx.cell? ⟨b, o + k * 2, none⟩ = some (.int .i64 q0.i)) (first | assumption | exact D2.out | exact ⟨(((Chg.refl [] _).alloc _).drew).cell D2.out.1 (by simp), (((Chg.refl [] _).alloc _).drew).cell D2.out.2 (by simp)⟩ | exact ⟨((Chg.refl [] _).alloc _).cell D2.out.1 (by simp), ((Chg.refl [] _).alloc _).cell D2.out.2 (by simp)⟩) (first | (go_at_call 69; refine (quill_nat1e (World.drew (wr.alloc (.cells #[.int .i64 p.i, .int .u64 p.c] 226))) q F2 pre2 (gapN p.i q0.i) HGL.out HQ2.out _ HG.out (wr.heap.size + 1) (by simp) (by omega)).mono ?_; rintro e w5 ⟨rfl, F5, hq5, hm5'⟩; have hm5 := Mv.of_drew hm5'; have hd5 : w5.cell? ⟨wr.heap.size, 0, none⟩ = some (.int .i64 p.i) ∧ w5.cell? ⟨b, o + k * 2, none⟩ = some (.int .i64 q0.i) := ⟨hm5.chg.cell D2.out.1 HN.out, hm5.chg.cell D2.out.2 hbF2⟩))
        obtain ⟨_, hb5⟩ := HF1.out F5 w5 hm5
        have e1 := hb5.cell 1
        go_wp2_with fail
        refine (quill_nat1 w5 q F5 _ p.c k2 hq5 w5.heap.size rfl (by rw [List.length_append]; have := HL1.out; omega)).mono ?_
        rintro e w6 ⟨rfl, F6, hq6, hm6⟩
        obtain ⟨hm7, _⟩ := HF1.out F6 w6 (Mv.trans hm5 hm6)
        go_wp2
        exact ⟨⟨k + 1 + 1, F6, by omega, by go_num, by rw [HS.out, ← List.append_assoc, HP2.out, ← List.append_assoc]; exact hq6, hm7⟩, by simp [intOf]; omega⟩
    · obtain rfl : k = l.length := by omega
      go_wp2
      go_end0
      refine ⟨rfl, F2, ?_, HM1.out.trans hm2⟩
      rw [putB, ← List.append_assoc, HP.out]
      exact hq2
end Go.Proofs.YtlcoibhbdgdfcaaGreatDoor
