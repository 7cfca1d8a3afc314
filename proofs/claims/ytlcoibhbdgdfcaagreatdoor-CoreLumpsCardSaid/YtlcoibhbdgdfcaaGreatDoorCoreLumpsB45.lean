/-
  The walks of layer 15 (hdr) of a sketch with one digit that gets the value 5 twice. Conditions: the form's own reach.
  The walks of layer 15 (hdr) of a sketch with one digit that gets the value 5 twice: Put, Quantile. Conditions: the form's own reach.
  The walks of layer 15 (hdr) of a sketch with one digit that gets the value 5 twice: Put, Quantile. Conditions: the form's own reach.
  The walks of layer 15 (hdr) of a sketch with one digit that has the value 5 twice: Quantile of a half. Conditions: the form's own reach.
  The walk of ogivetop's alive: suite's sketch by first digits gets one value. Conditions: the form's own reach.
-/
import Derived.Test.YtlcoibhbdgdfcaaGreatDoorCoreLumpsB40
import Derived.Test.YtlcoibhbdgdfcaaGreatDoorCoreLumpsB44
import Derived.Test.YtlcoibhbdgdfcaaGreatDoorCoreLumpsB30
import Derived.Test.YtlcoibhbdgdfcaaGreatDoorCoreLumpsB10
import Derived.Test.YtlcoibhbdgdfcaaGreatDoorCoreLumpsB3
namespace Go.Proofs.YtlcoibhbdgdfcaaGreatDoor
open Go.RowKit

def hdCells (p : Nat) (v0 v1 : Value) (lo hi : Int) : Array Value := #[.int .i64 1, .int .u64 0, .pointer (some ⟨p, 0, none⟩), v0, v1, .int .u64 0, .int .i64 lo, .int .i64 hi]
def ptr (s : Nat) : Value := .pointer (some ⟨s, 0, none⟩)
/-- A sketch of one digit, with counts above 0 alone. -/
structure HdA (w : World) (h p s0 s1 : Nat) (rv : Value) (r : List Pr) (lo hi : Int) : Prop where
  blk : Blk w h (hdCells p (ptr s0) (ptr s1) lo hi) 209
  span : Sp1 w p
  st0 : Spt w s0 (.slice none 0 0) []
  st1 : Spt w s1 rv r
set_option maxRecDepth 100000 in
set_option maxHeartbeats 2000000 in
theorem hdr_new1 (w : World) (ht : w.cell? ⟨0, 1, none⟩ = some (.int .u64 10)) : Calls Tryz.prog 64 #[.agg #[.int .i64 1, .int .u64 0]] w fun e w' => ∃ h p s0 s1, e = .returned (.tuple #[ptr h, .int .i64 0]) ∧ HdA w' h p s0 s1 (.slice none 0 0) [] 0 0 ∧ Chg [] w w' ∧ s0 ≠ s1 ∧ w.heap.size ≤ h ∧ w.heap.size ≤ s1 := by
  have hc0 := (Chg.refl [] w).alloc (.cells #[.int .i64 1, .int .u64 0] 146)
  have b0 := Blk.alloc_new w #[.int .i64 1, .int .u64 0] 146
  have HN := Lib.hid (spans_new1 _ (hc0.cell ht (by simp)))
  have HC0 := Lib.hid hc0
  have HB0 := Lib.hid b0
  clear hc0
  go_enter Tryz.func64, Tryz.ntmps64
  go_wp2_with fail
  refine HN.out.mono ?_
  rintro e w1 ⟨rfl, hsp, hc1⟩
  have HB1 := Lib.hid (HB0.out.chg hc1 (by simp))
  have c0 := HB1.out.cell 0
  have c1 := HB1.out.cell 1
  have HC1 := Lib.hid (HC0.out.trans hc1)
  have HSP := Lib.hid hsp
  clear hc1 hsp b0 HN HB0 HC0
  go_wp2_with fail
  have HP : w.heap.size + 1 = (w.alloc (.cells #[.int .i64 1, .int .u64 0] 146)).heap.size := by simp
  have HSP2 := Lib.hid (show Sp1 w1 (w.heap.size + 1) from by rw [HP]; exact HSP.out)
  clear HSP HP c0 c1 HB1
  have HLE := Lib.hid (show w.heap.size ≤ w1.heap.size ∧ w.heap.size + 1 < w1.heap.size from ⟨HC1.out.size, HSP2.out.lt⟩)
  go_loopw [25] (fun i wx => Chg [] w wx ∧ Sp1 wx (w.heap.size + 1) ∧ ((i = .int .i64 0 ∧ Blk wx w1.heap.size (hdCells (w.heap.size + 1) (.pointer none) (.pointer none) 0 0) 209) ∨
      (i = .int .i64 1 ∧ ∃ s0, Blk wx w1.heap.size (hdCells (w.heap.size + 1) (ptr s0) (.pointer none) 0 0) 209 ∧ Spt wx s0 (.slice none 0 0) [] ∧ w1.heap.size < s0) ∨
      (i = .int .i64 2 ∧ ∃ s0 s1, Blk wx w1.heap.size (hdCells (w.heap.size + 1) (ptr s0) (ptr s1) 0 0) 209 ∧ Spt wx s0 (.slice none 0 0) [] ∧ Spt wx s1 (.slice none 0 0) [] ∧ s0 ≠ s1 ∧ w1.heap.size < s1))) (fun i _ => 2 - (intOf i).toNat)
  case atStart => exact ⟨HC1.out.alloc _, HSP2.out.chg ((Chg.refl [] _).alloc _) (by simp), .inl ⟨rfl, Blk.alloc_new _ _ _⟩⟩
  case round =>
    obtain ⟨hc, hsp, ⟨rfl, hb⟩ | ⟨rfl, s0, hb, hs0, hl0⟩ | ⟨rfl, s0, s1, hb, hs0, hs1, hne, hl1⟩⟩ := hrel
    · have HC := Lib.hid hc
      have HSP := Lib.hid hsp
      have HB := Lib.hid hb
      clear hc hsp hb
      go_wp2_with fail
      go_region_with (go_at_call 90; refine (strip_new _).mono ?_; rintro e w2 ⟨s, rfl, hs, hc2, hl⟩; have f3 := (HB.out.drew.chg hc2 (by simp)).free 3; have c3 : w2.cell? ⟨w1.heap.size, 3, none⟩ = some (.pointer none) := (HB.out.drew.chg hc2 (by simp)).cell 3)
      all_goals
        have HH := HB.out.drew.chg hc2 (by simp)
        have hlt : w1.heap.size < s := by have := HB.out.lt; simp only [World.size_drew] at hl; omega
        have hk : Chg [w1.heap.size] w2 (w2.setCell ⟨w1.heap.size, 3, none⟩ (.pointer (some ⟨s, 0, none⟩))) := (Chg.refl _ _).setCell (a := ⟨w1.heap.size, 3, none⟩) (.inl (by simp)) _
        go_wp2
        refine ⟨⟨((HC.out.drew).trans hc2).trans' hk (fun b hb => .inr (by simp at hb; rw [hb]; exact HLE.out.1)), (HSP.out.chg (Chg.refl [] wr).drew (by simp) |>.chg hc2 (by simp)).chg hk (by simp; have := HLE.out.2; omega), .inr (.inl ⟨rfl, s, HH.setCell 3 _, hs.chg hk (fun b hb => by simp [fpT] at hb ⊢; omega), hlt⟩)⟩, by simp [intOf]⟩
    · have HC := Lib.hid hc
      have HSP := Lib.hid hsp
      have HB := Lib.hid hb
      have HS0 := Lib.hid hs0
      clear hc hsp hb hs0
      go_wp2_with fail
      go_region_with (go_at_call 90; refine (strip_new _).mono ?_; rintro e w2 ⟨s, rfl, hs, hc2, hl⟩; have f3 := (HB.out.drew.chg hc2 (by simp)).free 4; have c3 : w2.cell? ⟨w1.heap.size, 4, none⟩ = some (.pointer none) := (HB.out.drew.chg hc2 (by simp)).cell 4)
      all_goals
        have HH := HB.out.drew.chg hc2 (by simp)
        have hlt : w1.heap.size < s ∧ s0 < s := by have := HB.out.lt; have := HS0.out.blk.lt; simp only [World.size_drew] at hl; omega
        have hk : Chg [w1.heap.size] w2 (w2.setCell ⟨w1.heap.size, 4, none⟩ (.pointer (some ⟨s, 0, none⟩))) := (Chg.refl _ _).setCell (a := ⟨w1.heap.size, 4, none⟩) (.inl (by simp)) _
        go_wp2
        refine ⟨⟨((HC.out.drew).trans hc2).trans' hk (fun b hb => .inr (by simp at hb; rw [hb]; exact HLE.out.1)), (HSP.out.chg (Chg.refl [] wr).drew (by simp) |>.chg hc2 (by simp)).chg hk (by simp; have := HLE.out.2; omega), .inr (.inr ⟨rfl, s0, s, HH.setCell 4 _, (HS0.out.chg (Chg.refl [] wr).drew (by simp) |>.chg hc2 (by simp)).chg hk (fun b hb => by simp [fpT] at hb ⊢; omega), hs.chg hk (fun b hb => by simp [fpT] at hb ⊢; omega), by omega, hlt.1⟩)⟩, by simp [intOf]⟩
    · go_wp2_with fail
      go_ret2
      exact ⟨_, _, s0, s1, rfl, ⟨hb, hsp, hs0, hs1⟩, hc, hne, HLE.out.1, by have := HLE.out.1; omega⟩
end Go.Proofs.YtlcoibhbdgdfcaaGreatDoor

namespace Go.Proofs.YtlcoibhbdgdfcaaGreatDoor
open Go.RowKit

namespace HdA
variable {w w1 : World} {h p s0 s1 : Nat} {rv : Value} {r : List Pr} {lo hi : Int}
theorem nil (d : HdA w h p s0 s1 rv r lo hi) (k : Chg [] w w1) : HdA w1 h p s0 s1 rv r lo hi := ⟨d.blk.chg k (by simp), Blk.chg d.span k (by simp), d.st0.chg k (by simp), d.st1.chg k (by simp)⟩
theorem cells (d : HdA w h p s0 s1 rv r lo hi) : w.cell? ⟨h, 0, none⟩ = some (.int .i64 1) ∧ w.cell? ⟨h, 1, none⟩ = some (.int .u64 0) ∧ w.cell? ⟨h, 2, none⟩ = some (.pointer (some ⟨p, 0, none⟩)) ∧ w.cell? ⟨h, 3, none⟩ = some (.pointer (some ⟨s0, 0, none⟩)) ∧ w.cell? ⟨h, 4, none⟩ = some (.pointer (some ⟨s1, 0, none⟩)) ∧ w.cell? ⟨h, 5, none⟩ = some (.int .u64 0) ∧ w.cell? ⟨h, 6, none⟩ = some (.int .i64 lo) ∧ w.cell? ⟨h, 7, none⟩ = some (.int .i64 hi) :=
  ⟨d.blk.cell 0, d.blk.cell 1, d.blk.cell 2, d.blk.cell 3, d.blk.cell 4, d.blk.cell 5, d.blk.cell 6, d.blk.cell 7⟩
end HdA
set_option maxRecDepth 100000 in
set_option maxHeartbeats 2000000 in
theorem hdr_total (w : World) (h p s0 s1 : Nat) (rv : Value) (r : List Pr) (lo hi : Int) (d : HdA w h p s0 s1 rv r lo hi) (T : Nat) (hT : T = totP r) (hT2 : T ≤ 100) : Calls Tryz.prog 101 #[.pointer (some ⟨h, 0, none⟩)] w fun e w' => e = .returned (.int .u64 (T : Nat)) ∧ Chg [] w w' := by
  obtain ⟨-, -, -, c3, c4, c5, -, -⟩ := d.cells
  have H0 : Hid (∀ W, Chg [] w W → Calls Tryz.prog 100 #[.pointer (some ⟨s0, 0, none⟩)] W fun e w' => e = Ending.returned (.int .u64 0) ∧ W = w') := Lib.hid (fun W hc => strip_total W s0 _ [] (d.st0.chg (F := []) hc (by simp)))
  have H1 : Hid (∀ W, Chg [] w W → Calls Tryz.prog 100 #[.pointer (some ⟨s1, 0, none⟩)] W fun e w' => e = Ending.returned (.int .u64 (T : Nat)) ∧ W = w') := Lib.hid (fun W hc => by rw [hT]; exact strip_total W s1 rv r (d.st1.chg (F := []) hc (by simp)))
  clear d hT
  go_enter Tryz.func101, Tryz.ntmps101
  go_wp2_with fail
  go_quiet (first | (go_at_call 100; first | exact (H0.out _ (by with_reducible (repeat (first | exact Chg.refl _ _ | apply Chg.drew | apply Chg.drewN)))).mono fun e w' ⟨he, hw⟩ => ⟨he, _, hw.symm⟩ | exact (H1.out _ (by with_reducible (repeat (first | exact Chg.refl _ _ | apply Chg.drew | apply Chg.drewN)))).mono fun e w' ⟨he, hw⟩ => ⟨he, _, hw.symm⟩))
  go_wp2
  go_ret
  exact ⟨by go_num, (Chg.refl [] w).drewN _⟩
set_option maxRecDepth 100000 in
set_option maxHeartbeats 2000000 in
theorem hdr_ends5 (w : World) (h p s0 s1 : Nat) (rv : Value) (d : HdA w h p s0 s1 rv [] 0 0) : Calls Tryz.prog 233 #[.pointer (some ⟨h, 0, none⟩), .int .i64 5, .int .i64 5] w fun e w' => e = .returned (.tuple #[]) ∧ Blk w' h (hdCells p (ptr s0) (ptr s1) 5 5) 209 ∧ Chg [h] w w' := by
  have HT := Lib.hid (hdr_total w h p s0 s1 rv [] 0 0 d 0 rfl (by omega))
  have HB := Lib.hid d.blk
  clear d
  go_enter Tryz.func233, Tryz.ntmps233
  go_wp2_with fail
  refine HT.out.mono ?_
  rintro e w1 ⟨rfl, hc⟩
  have hb := HB.out.chg hc (by simp)
  have c6 := hb.cell 6
  have c7 := hb.cell 7
  have f6 := hb.free 6
  have f7 := hb.free 7
  have HB1 := Lib.hid hb
  have HC := Lib.hid hc
  clear hb hc
  go_wp2
  refine bodyPost_ret (results_none rfl _ _ _) rfl ?_
  exact ⟨rfl, (HB1.out.setCell 6 _).setCell 7 _, ((HC.out.nil).setCell (a := ⟨h, 6, none⟩) (.inl (by simp)) _).setCell (a := ⟨h, 7, none⟩) (.inl (by simp)) _⟩
set_option maxRecDepth 100000 in
set_option maxHeartbeats 2000000 in
theorem hdr_side5 (w : World) (h p s0 s1 : Nat) (rv : Value) (r : List Pr) (lo hi : Int) (d : HdA w h p s0 s1 rv r lo hi) : Calls Tryz.prog 231 #[.pointer (some ⟨h, 0, none⟩), .int .i64 5] w fun e w' => e = .returned (.tuple #[.pointer (some ⟨s1, 0, none⟩), .int .i64 5, .bool true]) ∧ Chg [] w w' := by
  have HI := Lib.hid (span_index5 w p d.span)
  have HO := Lib.hid (sign_of5 w)
  obtain ⟨-, -, c2, -, -, -, -, -⟩ := d.cells
  have HD := Lib.hid d
  clear d
  go_enter Tryz.func231, Tryz.ntmps231
  go_wp2_with fail
  refine HO.out.mono ?_
  rintro e w1 ⟨rfl, rfl⟩
  go_wp2_with fail
  refine HI.out.mono ?_
  rintro e w1 ⟨rfl, hc⟩
  obtain ⟨-, -, -, -, c4, -, -, -⟩ := (HD.out.nil hc).cells
  have HC := Lib.hid hc
  clear c2 hc
  go_wp2
  refine bodyPost_ret (v := .tuple #[.pointer (some ⟨s1, 0, none⟩), .int .i64 5, .bool true]) (by simp [results, Tryz.results231, go_sem]) rfl ?_
  exact ⟨rfl, HC.out⟩
end Go.Proofs.YtlcoibhbdgdfcaaGreatDoor

namespace Go.Proofs.YtlcoibhbdgdfcaaGreatDoor
open Go.RowKit

theorem blk_ne {w : World} {a b : Nat} {c d : Array Value} {t u : TypeId} (ha : Blk w a c t) (hb : Blk w b d u) (h : c.size ≠ d.size) : a ≠ b := fun e => by
  subst e
  simp only [Blk] at ha hb
  rw [ha] at hb
  simp only [Option.some.injEq, Obj.cells.injEq] at hb
  exact h (by rw [hb.1])
theorem HdA.apart {w : World} {h p s0 s1 : Nat} {rv : Value} {r : List Pr} {lo hi : Int} (d : HdA w h p s0 s1 rv r lo hi) : h ≠ p ∧ h ≠ s0 ∧ h ≠ s1 ∧ p ≠ s0 ∧ p ≠ s1 :=
  ⟨blk_ne d.blk d.span (by simp [hdCells]), blk_ne d.blk d.st0.blk (by simp [hdCells, sptCells]), blk_ne d.blk d.st1.blk (by simp [hdCells, sptCells]), blk_ne d.span d.st0.blk (by simp [sptCells]), blk_ne d.span d.st1.blk (by simp [sptCells])⟩

set_option maxRecDepth 100000 in
set_option maxHeartbeats 2000000 in
theorem hdr_put5 (w : World) (h p s0 s1 : Nat) (d : HdA w h p s0 s1 (.slice none 0 0) [] 0 0) (hne : s0 ≠ s1) : Calls Tryz.prog 229 #[.pointer (some ⟨h, 0, none⟩), .int .i64 5, .int .u64 2] w fun e w' => e = .returned (.int .i64 0) ∧ ∃ rv, HdA w' h p s0 s1 rv [⟨5, 2⟩] 5 5 ∧ Chg [h, s1] w w' := by
  have HO := Lib.hid (fun W => sign_of5 W)
  have HT : Hid (∀ W, Chg [] w W → Calls Tryz.prog 101 #[.pointer (some ⟨h, 0, none⟩)] W fun e w' => e = Ending.returned (.int .u64 0) ∧ Chg [] W w') := Lib.hid (fun W hc => hdr_total W h p s0 s1 _ [] 0 0 (d.nil hc) 0 rfl (by omega))
  have HPL : Hid (∀ u : World, Calls Tryz.prog 96 #[.slice (some ⟨u.heap.size, 0, none⟩) 2 2] (u.alloc (.cells #[.int .u64 0, .int .u64 2] 25)) fun e w' => e = Ending.returned (.tuple #[.int .u64 2, .bool true]) ∧ u.alloc (.cells #[.int .u64 0, .int .u64 2] 25) = w') := Lib.hid (fun u => wide_plus2 u 0 2 (by omega) (by omega) _ rfl)
  have HS := Lib.hid (fun W (hc : Chg [] w W) => hdr_side5 W h p s0 s1 _ [] 0 0 (d.nil hc))
  have HAT : Hid (∀ W, Chg [] w W → Calls Tryz.prog 232 #[.pointer (some ⟨s1, 0, none⟩), .int .i64 5] W fun e w' => e = Ending.returned (.int .u64 0) ∧ Chg [] W w') := Lib.hid (fun W hc => strip_at W s1 _ [] (d.st1.chg (F := []) hc (by simp)) (by simp [rises]) (by simp) 5)
  have HLN : Hid (∀ W, Chg [] w W → Calls Tryz.prog 160 #[.pointer (some ⟨s1, 0, none⟩)] W fun e w' => e = Ending.returned (.int .i64 0) ∧ W = w') := Lib.hid (fun W hc => strip_len W s1 _ [] (d.st1.chg (F := []) hc (by simp)) 0 rfl)
  have HEN := Lib.hid (fun W (hc : Chg [] w W) => hdr_ends5 W h p s0 s1 _ (d.nil hc))
  obtain ⟨-, c1, -, -, -, -, -, -⟩ := d.cells
  have HD := Lib.hid d
  clear d
  go_enter Tryz.func229, Tryz.ntmps229
  go_wp2_with fail
  refine (HO.out _).mono ?_
  rintro e w1 ⟨rfl, rfl⟩
  go_wp2_with fail
  refine (HT.out _ (Chg.refl _ _)).mono ?_
  rintro e w1 ⟨rfl, hc1⟩
  go_wp2_with fail
  refine (HPL.out _).mono ?_
  rintro e w2 ⟨rfl, rfl⟩
  have HC2 := Lib.hid (hc1.alloc (.cells #[.int .u64 0, .int .u64 2] 25))
  generalize w1.alloc (.cells #[.int .u64 0, .int .u64 2] 25) = w2 at *
  clear hc1 c1
  go_wp2_with fail
  refine (HS.out _ HC2.out).mono ?_
  rintro e w3 ⟨rfl, hc3⟩
  have HC3 := Lib.hid (HC2.out.trans hc3)
  clear hc3
  go_wp2_with fail
  refine (HAT.out _ HC3.out).mono ?_
  rintro e w4 ⟨rfl, hc4⟩
  have HC4 := Lib.hid (HC3.out.trans hc4)
  clear hc4
  go_wp2_with fail
  refine (HLN.out _ HC4.out).mono ?_
  rintro e w5 ⟨rfl, rfl⟩
  go_wp2_with fail
  refine (HEN.out _ HC4.out).mono ?_
  rintro e w5 ⟨rfl, hb, hc5⟩
  obtain ⟨n1, n2, n3, n4, n5⟩ := HD.out.apart
  have HSP := Lib.hid (Blk.chg (Blk.chg HD.out.span HC4.out (by simp)) hc5 (by simpa using n1.symm))
  have HS0 := Lib.hid ((HD.out.st0.chg HC4.out (by simp)).chg hc5 (by simpa [fpT] using n2.symm))
  have HS1 := Lib.hid ((HD.out.st1.chg HC4.out (by simp)).chg hc5 (by simpa [fpT] using n3.symm))
  have HB := Lib.hid hb
  have HC5 := Lib.hid (HC4.out.nil.trans hc5 : Chg [h] w w5)
  have HADD := Lib.hid (strip_add w5 s1 _ [] HS1.out (by simp [rises]) (by simp) (by simp) 5 2 (by omega) (by simp [totP]))
  have HAP := Lib.hid (show h ≠ p ∧ h ≠ s0 ∧ h ≠ s1 ∧ p ≠ s0 ∧ p ≠ s1 from ⟨n1, n2, n3, n4, n5⟩)
  clear hc5 hb n1 n2 n3 n4 n5 HEN HLN HAT HS HPL HT HO
  go_wp2_with fail
  refine HADD.out.mono ?_
  rintro e w6 ⟨rfl, rv, hs6, hm⟩
  have HM := Lib.hid hm
  have HS6 := Lib.hid hs6
  clear hm hs6
  go_wp2_with fail
  go_ret
  obtain ⟨n1, n2, n3, n4, n5⟩ := HAP.out
  have hk : Chg (fpT s1 (.slice none 0 0)) w5 w6 := HM.out.1
  have hk' : Chg [s1] w5 w6 := hk
  refine ⟨rfl, rv, ⟨HB.out.chg hk' (by simpa using n3), Blk.chg HSP.out hk' (by simpa using n5), HS0.out.chg hk' (by simpa [fpT] using hne), HS6.out⟩, (HC5.out.mono (by simp)).trans (hk'.mono (by simp))⟩
set_option maxRecDepth 100000 in
set_option maxHeartbeats 2000000 in
theorem strip_find1 (w : World) (s : Nat) (rv : Value) (h : Spt w s rv [⟨5, 2⟩]) : Calls Tryz.prog 235 #[.pointer (some ⟨s, 0, none⟩), .int .u64 1] w fun e w' => e = .returned (.tuple #[.int .i64 5, .bool true]) ∧ w = w' := by
  obtain ⟨-, c1, c2⟩ := h.cells
  replace c2 : w.cell? ⟨s, 2, none⟩ = some (.int .u64 2) := c2
  obtain ⟨ro, rc, hrv⟩ := h.row.shape
  subst hrv
  obtain ⟨b, o, rfl, hc⟩ := h.row.rd.addr (by simp)
  have d0 : w.cell? ⟨b, o, none⟩ = some (.int .i64 5) := hc 0 (by simp)
  have d1 : w.cell? ⟨b, o + 1, none⟩ = some (.int .u64 2) := hc 1 (by simp)
  replace c1 : w.cell? ⟨s, 1, none⟩ = some (.slice (some ⟨b, o, none⟩) 1 rc) := c1
  clear h hc
  go_enter Tryz.func235, Tryz.ntmps235
  go_wp2_with fail
  refine wp_scope_labels (fun _ _ _ => False) (fun _ _ _ => 0) ?_ (fun _ _ _ h => h.elim)
  go_wp2
  rename_i K hK
  refine wp_label (hK _ _ ?_)
  clear hK
  go_wp2
  rw [jumps_ret]
  go_ret2
  exact ⟨rfl, rfl⟩
set_option maxRecDepth 100000 in
set_option maxHeartbeats 2000000 in
theorem hdr_find5 (w : World) (h p s0 s1 : Nat) (rv : Value) (d : HdA w h p s0 s1 rv [⟨5, 2⟩] 5 5) : Calls Tryz.prog 234 #[.pointer (some ⟨h, 0, none⟩), .int .u64 1] w fun e w' => e = .returned (.int .i64 5) ∧ Chg [] w w' := by
  have H0 : Hid (∀ W, Chg [] w W → Calls Tryz.prog 100 #[.pointer (some ⟨s0, 0, none⟩)] W fun e w' => e = Ending.returned (.int .u64 0) ∧ W = w') := Lib.hid (fun W hc => strip_total W s0 _ [] (d.st0.chg (F := []) hc (by simp)))
  have HF := Lib.hid (fun W (hc : Chg [] w W) => strip_find1 W s1 rv (d.st1.chg (F := []) hc (by simp)))
  have HR := Lib.hid (fun W (hc : Chg [] w W) => span_rep5 W p (Blk.chg d.span hc (by simp)))
  have HV := Lib.hid (fun W => sign_value5 W)
  obtain ⟨-, -, -, c3, -, -, -, -⟩ := d.cells
  have HC := Lib.hid (fun W (hc : Chg [] w W) => (d.nil hc).cells)
  clear d
  go_enter Tryz.func234, Tryz.ntmps234
  go_wp2_with fail
  refine (H0.out _ (Chg.refl _ _)).mono ?_
  rintro e w1 ⟨rfl, rfl⟩
  obtain ⟨-, -, c2, -, c4, c5, -, -⟩ := HC.out w (Chg.refl _ _)
  clear c3
  go_wp2_with fail
  go_quiet (first | (go_at_call 235; exact (HF.out _ (by with_reducible (repeat (first | exact Chg.refl _ _ | apply Chg.drew | apply Chg.drewN)))).mono fun e w' ⟨he, hw⟩ => ⟨he, _, hw.symm⟩))
  obtain ⟨-, -, c2, -, -, -, -, -⟩ := HC.out (w.drewN nq) ((Chg.refl [] w).drewN _)
  go_wp2_with fail
  refine (HR.out _ ((Chg.refl [] w).drewN _)).mono ?_
  rintro e w2 ⟨rfl, hc2⟩
  go_wp2_with fail
  refine (HV.out _).mono ?_
  rintro e w3 ⟨rfl, rfl⟩
  go_wp2
  go_ret
  exact ⟨rfl, ((Chg.refl [] w).drewN _).trans hc2⟩
end Go.Proofs.YtlcoibhbdgdfcaaGreatDoor

namespace Go.Proofs.YtlcoibhbdgdfcaaGreatDoor
open Go.RowKit

set_option maxRecDepth 100000 in
set_option maxHeartbeats 2000000 in
theorem hdr_quant5 (w : World) (h p s0 s1 : Nat) (rv : Value) (d : HdA w h p s0 s1 rv [⟨5, 2⟩] 5 5) : Calls Tryz.prog 230 #[.pointer (some ⟨h, 0, none⟩), .agg #[.int .u64 1, .int .u64 2]] w fun e w' => e = .returned (.tuple #[.int .i64 5, .int .i64 0]) ∧ Chg [] w w' := by
  have HT : Hid (∀ W, Chg [] w W → Calls Tryz.prog 101 #[.pointer (some ⟨h, 0, none⟩)] W fun e w' => e = Ending.returned (.int .u64 2) ∧ Chg [] W w') := Lib.hid (fun W hc => hdr_total W h p s0 s1 _ [⟨5, 2⟩] 5 5 (d.nil hc) 2 (by decide) (by omega))
  have HPL := Lib.hid (fun u => show Calls Tryz.prog 184 #[.agg #[.int .u64 1, .int .u64 2], .int .u64 2] u fun e w' => e = .returned (.tuple #[.int .u64 1, .int .i64 0]) ∧ Chg [] u w' from share_place u 1 2 2 (by omega) (by omega) (by omega) 1 0 (by decide) (by decide))
  have HF := Lib.hid (fun W (hc : Chg [] w W) => hdr_find5 W h p s0 s1 rv (d.nil hc))
  have HCE := Lib.hid (fun W (hc : Chg [] w W) => (d.nil hc).cells)
  have hb := Blk.alloc_new w #[.int .u64 1, .int .u64 2] 27
  have HC0 := Lib.hid ((Chg.refl [] w).alloc (.cells #[.int .u64 1, .int .u64 2] 27))
  obtain ⟨bq, hbq⟩ : ∃ z, z = w.heap.size := ⟨_, rfl⟩
  rw [← hbq] at hb
  clear d
  go_enter Tryz.func230, Tryz.ntmps230
  go_upto_region 3 with (fail)
  rw [← hbq]
  clear hbq
  generalize w.alloc (.cells #[.int .u64 1, .int .u64 2] 27) = w0 at *
  have HS := Lib.hid (fun wx (hu : Chg [] w0 wx) => show wx.cell? ⟨bq, 0, none⟩ = some (.int .u64 1) ∧ wx.cell? ⟨bq, 1, none⟩ = some (.int .u64 2) from ⟨(hb.chg hu (by simp)).cell 0, (hb.chg hu (by simp)).cell 1⟩)
  obtain ⟨c0, c1⟩ := HS.out w0.drew (Chg.refl [] w0).drew
  clear hb
  go_region_with (first | (go_at_call 101; refine (HT.out _ (HC0.out.drew)).mono ?_; rintro e w1 ⟨rfl, hc1⟩; have c01 := HS.out _ ((Chg.refl [] w0).drew.trans hc1); obtain ⟨c0, c1⟩ := c01) | (go_at_call 184; refine (HPL.out _).mono ?_; rintro e w2 ⟨rfl, hc2⟩))
  all_goals
    have HC2 := Lib.hid (((HC0.out.drew).trans hc1).trans hc2)
    clear hc1 hc2 c0 c1 HC0 HS HT HPL
    go_upto_region 6 with (fail)
    obtain ⟨-, -, -, -, -, -, c6, c7⟩ := HCE.out w2.drew HC2.out.drew
    go_region_with (go_at_call 234; refine (HF.out _ HC2.out.drew).mono ?_; rintro e w3 ⟨rfl, hc3⟩; obtain ⟨-, -, -, -, -, -, k6, k7⟩ := HCE.out _ ((HC2.out.drew).trans hc3))
    all_goals
      go_wp2
      go_ret2
      exact ⟨rfl, (HC2.out.drew).trans hc3⟩
end Go.Proofs.YtlcoibhbdgdfcaaGreatDoor

namespace Go.Proofs.YtlcoibhbdgdfcaaGreatDoor
open Go.RowKit

def aliveC : Cf := { Cf.none 2 with digits := 1 }
set_option maxRecDepth 100000 in
set_option maxHeartbeats 2000000 in
theorem fresh_hdr1 (w : World) (ht : w.cell? ⟨0, 1, none⟩ = some (.int .u64 10)) : Calls Tryz.prog 46 #[aliveC.val] w fun e w' => ∃ h p s0 s1, e = .returned (.tuple #[.iface 148 (.agg #[.pointer (some ⟨h, 0, none⟩)]), .int .i64 0]) ∧ HdA w' h p s0 s1 (.slice none 0 0) [] 0 0 ∧ Chg [] w w' ∧ s0 ≠ s1 ∧ w.heap.size ≤ h ∧ w.heap.size ≤ s1 := by
  simp only [aliveC, Cf.val, Cf.cells, Cf.none]
  have hc0 := (Chg.refl [] w).alloc (.cells #[.int .i64 2, .int .u64 0, .int .u64 0, .int .i64 0, .int .i64 0, .int .i64 1, .int .u64 0, .int .i64 0, .int .i64 0, .int .i64 0, .int .u64 0] 30)
  have HN := Lib.hid (hdr_new1 _ (hc0.cell ht (by simp)))
  have HC0 := Lib.hid hc0
  clear hc0
  go_enter Tryz.func46, Tryz.ntmps46
  go_wp2_with fail
  refine HN.out.mono ?_
  rintro e w1 ⟨h, p, s0, s1, rfl, hd, hc1, hne, hle⟩
  have HC1 := Lib.hid (HC0.out.trans hc1)
  have HD := Lib.hid hd
  simp only [ptr]
  clear hc1 hd HN HC0
  go_wp2
  go_ret2
  exact ⟨h, p, s0, s1, rfl, HD.out, HC1.out, hne, by simp only [World.size_alloc] at hle; omega⟩
end Go.Proofs.YtlcoibhbdgdfcaaGreatDoor
