/-
  The walk of the reference's Bytes of a row. Conditions: the form's own reach.
-/
import Derived.Test.YtgpnnfgaphcklaaRunsPut
import Derived.Test.YtgpnnfgaphcklaaRefQuill
namespace Go.Proofs.Ytgpnnfgaphcklaa
open Go.RowKit

theorem ref_nat_e (w : World) (x : Int) (n : Nat) (hn : n < 18446744073709551616) (hx : x = (n : Int)) :
    Calls Try.prog 41 #[.int .u64 x] w fun e w' => e = .returned (.string ⟨(natB n).toArray⟩) ∧ Chg [] w w' := by
  subst hx
  exact ref_nat w n hn

set_option maxRecDepth 100000 in
set_option maxHeartbeats 1000000 in
theorem ref06_bytes (w : World) (ao : Option Addr) (cap : Nat) (l : List Pr) (hok : ∀ p ∈ l, p.ok) (hr : Rd w 2 (.slice ao l.length cap) l.length (prCells l)) (hl : l.length ≤ 1000) :
    Calls Try.prog 51 #[.slice ao l.length cap] w fun e w' => e = .returned (.string ⟨(putB l).toArray⟩) ∧ Chg [] w w' := by
  have H0 := Lib.hid (natB_len10 (n := l.length) (by omega))
  go_enter Try.func51, Try.ntmps51
  go_wp2_with fail
  refine (ref_nat w l.length (by omega)).mono ?_
  rintro e w1 ⟨rfl, hm1⟩
  have hr1 := hr.chg hm1 (by simp)
  have hbl := fun k hk => bodyTo_len l hok k hk
  have HBL := Lib.hid hbl
  have HOK := Lib.hid hok
  have HM1 := Lib.hid hm1
  have hroom2 : (natB l.length).length ≤ 10 := H0.out
  generalize hp : natB l.length = pre1 at *
  have HP := Lib.hid hp
  have HR := Lib.hid hr1
  clear hbl hok hm1 hr H0 hp hr1
  go_wp2
  go_loopw [3, 12] (fun s i wx => ∃ (k : Nat), k ≤ l.length ∧ i = .int .i64 (k : Nat) ∧ s = .string ⟨(pre1 ++ bodyTo l k).toArray⟩ ∧ Chg [] w1 wx) (fun _ i _ => l.length - (intOf i).toNat)
  case atStart => exact ⟨0, Nat.zero_le _, rfl, by simp [bodyTo], Chg.refl _ _⟩
  case round =>
    obtain ⟨k, hk, rfl, rfl, hm2⟩ := hrel
    by_cases hlt : k < l.length
    · have hr1 := HR.out.chg hm2 (by simp)
      obtain ⟨b, o, rfl, hc⟩ := hr1.addr (by omega)
      obtain ⟨c0, c1⟩ := pr_at hc hlt
      have hok1 := HOK.out l[k] (List.getElem_mem _)
      have hlen := HBL.out k hk
      have hS := bodyTo_succ l k
      have hgk : l.getD k default = l[k] := by simp [List.getD, hlt]
      have hroom3 : (pre1 ++ bodyTo l k).length ≤ 30000 := by rw [List.length_append]; omega
      obtain ⟨k0, k1, k2⟩ := hok1
      have hbox := Blk.alloc_new wr #[.int .i64 l[k].i, .int .u64 l[k].c] 47
      have hch2 := Chg.alloc (Chg.refl [] wr) (.cells #[.int .i64 l[k].i, .int .u64 l[k].c] 47)
      have hF1 : ∀ (w3 : World), Chg [] (wr.alloc (.cells #[.int .i64 l[k].i, .int .u64 l[k].c] 47)) w3 → Chg [] w1 w3 ∧ Blk w3 wr.heap.size #[.int .i64 l[k].i, .int .u64 l[k].c] 47 :=
        fun w3 hm => ⟨(hm2.alloc _).trans hm, hbox.chg hm (by simp)⟩
      have HF1 := Lib.hid hF1
      rcases k with _ | k
      · have hB : pairB l 0 = natB (zig l[0].i) ++ natB l[0].c := by rw [pairB, if_pos rfl, hgk]
        rw [hB] at hS
        have HS := Lib.hid hS
        generalize l[0] = p at *
        generalize hP2 : pre1 ++ bodyTo l 0 = pre2 at *
        have HP2 := Lib.hid hP2
        simp only [Nat.zero_mul, Nat.add_zero] at c0 c1
        clear hS hB hgk hr1 hc hbox hlen hch2 hF1 hP2 hm2
        have HL1 := Lib.hid (natB_len10 (zig_lt k0 k1))
        go_wp2_with fail
        refine (ref_int (wr.alloc (.cells #[.int .i64 p.i, .int .u64 p.c] 47)) p.i k0 k1).mono ?_
        rintro e w5 ⟨rfl, hm5⟩
        obtain ⟨_, hb5⟩ := HF1.out w5 hm5
        have e1 := hb5.cell 1
        have hl1 := HL1.out
        generalize natB (zig p.i) = g1 at *
        go_wp2_with fail
        refine (ref_nat w5 p.c k2).mono ?_
        rintro e w6 ⟨rfl, hm6⟩
        obtain ⟨hm7, _⟩ := HF1.out w6 (hm5.trans hm6)
        have hl2 := natB_len10 (n := p.c) (by omega)
        generalize natB p.c = g2 at *
        go_wp2
        exact ⟨⟨1, by omega, by go_num, by rw [HS.out, ← List.append_assoc, HP2.out, ← List.append_assoc]; simp [ByteArray.mk_append_mk], hm7⟩, by simp [intOf]; omega⟩
      · obtain ⟨d0, d1⟩ := pr_at hc (show k < l.length by omega)
        have hgk2 : l.getD (k + 1 - 1) default = l[k] := by simp [List.getD, show k < l.length by omega]
        have hB : pairB l (k + 1) = natB (gapN l[k + 1].i l[k].i) ++ natB l[k + 1].c := by rw [pairB, if_neg (by omega), hgk, hgk2]
        rw [hB] at hS
        have HS := Lib.hid hS
        have hk1 : (k : Int) + 1 - 1 = (k : Int) := by omega
        have hkw : IntKind.i64.wrap (k : Int) = (k : Int) := IntWalk.i64_in _ (by omega)
        have hk0 : (0 : Int) ≤ (k : Int) := by omega
        have hkl : (k : Int) < (l.length : Int) := by omega
        have hz5 : ((k : Int) + 1 == 0) = false := by simp; omega
        generalize l[k + 1] = p at *
        generalize l[k] = q0 at *
        have d2 := hch2.cell d0 (by simp)
        have b2 := (Blk.alloc_new wr #[.int .i64 p.i, .int .u64 p.c] 47).cell 0
        have D2 := Lib.hid (And.intro (show (wr.alloc (.cells #[.int .i64 p.i, .int .u64 p.c] 47)).cell? ⟨wr.heap.size, 0, none⟩ = some (.int .i64 p.i) from b2) d2)
        have HG := Lib.hid (gap_eq p.i q0.i)
        have HGL := Lib.hid (gapN_lt p.i q0.i)
        generalize hP2 : pre1 ++ bodyTo l (k + 1) = pre2 at *
        have HP2 := Lib.hid hP2
        clear hS hB hgk hgk2 hr1 hc hbox hlen hch2 hF1 hP2 hm2
        have HL1 := Lib.hid (natB_len10 (n := gapN p.i q0.i) (by have := gapN_lt p.i q0.i; omega))
        have hl1 := HL1.out
        generalize gapN p.i q0.i = gn at *
        have hcat : ¬ 9223372036854775807 < pre2.length + (natB gn).length := by omega
        have hcat2 : ¬ (ByteArray.mk pre2.toArray).size + (ByteArray.mk (natB gn).toArray).size > 9223372036854775807 := by simpa [ByteArray.size] using hcat
        go_wp2_with fail
        go_region_held3 (fun wx => wx.cell? ⟨wr.heap.size, 0, none⟩ = some (.int .i64 p.i) ∧ wx.cell? ⟨b, o + k * 2, none⟩ = some (.int .i64 q0.i)) (first | assumption | exact D2.out) (first | (go_at_call 41; refine (ref_nat_e (World.drew (wr.alloc (.cells #[.int .i64 p.i, .int .u64 p.c] 47))) _ gn HGL.out HG.out).mono ?_; rintro e w5 ⟨rfl, hm5'⟩; have hm5 : Chg [] (wr.alloc (.cells #[.int .i64 p.i, .int .u64 p.c] 47)) w5 := (Mv.of_drew (Mv.of_chg hm5')).chg; have hd5 : w5.cell? ⟨wr.heap.size, 0, none⟩ = some (.int .i64 p.i) ∧ w5.cell? ⟨b, o + k * 2, none⟩ = some (.int .i64 q0.i) := ⟨hm5.cell D2.out.1 (by simp), hm5.cell D2.out.2 (by simp)⟩))
        obtain ⟨_, hb5⟩ := HF1.out w5 hm5
        have e1 := hb5.cell 1
        generalize natB gn = g1 at *
        go_wp2_with fail
        refine (ref_nat w5 p.c k2).mono ?_
        rintro e w6 ⟨rfl, hm6⟩
        obtain ⟨hm7, _⟩ := HF1.out w6 (hm5.trans hm6)
        have hl2 := natB_len10 (n := p.c) (by omega)
        generalize natB p.c = g2 at *
        go_wp2
        exact ⟨⟨k + 1 + 1, by omega, by go_num, by rw [HS.out, ← List.append_assoc, HP2.out, ← List.append_assoc]; simp [ByteArray.mk_append_mk], hm7⟩, by simp [intOf]; omega⟩
    · obtain rfl : k = l.length := by omega
      go_wp2
      go_ret
      refine ⟨?_, HM1.out.trans hm2⟩
      rw [putB, HP.out]
      rfl
end Go.Proofs.Ytgpnnfgaphcklaa
