/-
  The walks of layer 15 (hdr) of a sketch with one digit that gets the value 5 twice: Put, Quantile. Conditions: the form's own reach.
  The walks of layer 15 (hdr) of a sketch with one digit that has the value 5 twice: Quantile of a half. Conditions: the form's own reach.
  The walk of ogivetop's alive: suite's sketch by first digits gets one value. Conditions: the form's own reach.
  The walks of suite's calls through its interface, at the kind Hdr. Conditions: the form's own reach.
  The walk of ogivetop's alive. Conditions: what the package spans' tens hold.
  The ranges of opened numbers. Conditions: none.
-/
import Derived.Test.YtlcoibhbdgdfcaaGreatDoorCoreCoinsB46
import Derived.Test.YtlcoibhbdgdfcaaGreatDoorCoreCoinsB25
import Derived.Test.YtlcoibhbdgdfcaaGreatDoorCoreCoinsB3
import Derived.Test.YtlcoibhbdgdfcaaGreatDoorCoreCoinsB4
import Derived.Test.YtlcoibhbdgdfcaaGreatDoorCoreCoinsB1
import Derived.Test.YtlcoibhbdgdfcaaGreatDoorCoreCoinsB2
namespace Go.Proofs.YtlcoibhbdgdfcaaGreatDoor
open Go.RowKit

theorem blk_ne {w : World} {a b : Nat} {c d : Array Value} {t u : TypeId} (ha : Blk w a c t) (hb : Blk w b d u) (h : c.size ≠ d.size) : a ≠ b := fun e => by
  subst e
  simp only [Blk] at ha hb
  rw [ha] at hb
  simp only [Option.some.injEq, Obj.cells.injEq] at hb
  exact h (by rw [hb.1])
theorem HdA.apart {w : World} {h p s0 s1 : Nat} {rv : Value} {r : List Pr} {lo hi : Int} (d : HdA w h p s0 s1 rv r lo hi) : h ≠ p ∧ h ≠ s0 ∧ h ≠ s1 ∧ p ≠ s0 ∧ p ≠ s1 :=
  ⟨blk_ne d.blk d.span (by simp [hdCells]), blk_ne d.blk d.st0.blk (by simp [hdCells, sptCells]), blk_ne d.blk d.st1.blk (by simp [hdCells, sptCells]), blk_ne d.span d.st0.blk (by simp [sptCells]), blk_ne d.span d.st1.blk (by simp [sptCells])⟩

set_option maxRecDepth 100000 in
set_option maxHeartbeats 2000000 in
theorem hdr_put5 (w : World) (h p s0 s1 : Nat) (d : HdA w h p s0 s1 (.slice none 0 0) [] 0 0) (hne : s0 ≠ s1) : Calls Tryz.prog 229 #[.pointer (some ⟨h, 0, none⟩), .int .i64 5, .int .u64 2] w fun e w' => e = .returned (.int .i64 0) ∧ ∃ rv, HdA w' h p s0 s1 rv [⟨5, 2⟩] 5 5 ∧ Chg [h, s1] w w' := by
  have HO := Lib.hid (fun W => sign_of5 W)
  have HT : Hid (∀ W, Chg [] w W → Calls Tryz.prog 101 #[.pointer (some ⟨h, 0, none⟩)] W fun e w' => e = Ending.returned (.int .u64 0) ∧ Chg [] W w') := Lib.hid (fun W hc => hdr_total W h p s0 s1 _ [] 0 0 (d.nil hc) 0 rfl (by omega))
  have HPL : Hid (∀ u : World, Calls Tryz.prog 96 #[.slice (some ⟨u.heap.size, 0, none⟩) 2 2] (u.alloc (.cells #[.int .u64 0, .int .u64 2] 25)) fun e w' => e = Ending.returned (.tuple #[.int .u64 2, .bool true]) ∧ u.alloc (.cells #[.int .u64 0, .int .u64 2] 25) = w') := Lib.hid (fun u => wide_plus2 u 0 2 (by omega) (by omega) _ rfl)
  have HS := Lib.hid (fun W (hc : Chg [] w W) => hdr_side5 W h p s0 s1 _ [] 0 0 (d.nil hc))
  have HAT : Hid (∀ W, Chg [] w W → Calls Tryz.prog 232 #[.pointer (some ⟨s1, 0, none⟩), .int .i64 5] W fun e w' => e = Ending.returned (.int .u64 0) ∧ Chg [] W w') := Lib.hid (fun W hc => strip_at W s1 _ [] (d.st1.chg (F := []) hc (by simp)) (by simp [rises]) (by simp) 5)
  have HLN : Hid (∀ W, Chg [] w W → Calls Tryz.prog 160 #[.pointer (some ⟨s1, 0, none⟩)] W fun e w' => e = Ending.returned (.int .i64 0) ∧ W = w') := Lib.hid (fun W hc => strip_len W s1 _ [] (d.st1.chg (F := []) hc (by simp)) 0 rfl)
  have HEN := Lib.hid (fun W (hc : Chg [] w W) => hdr_ends5 W h p s0 s1 _ (d.nil hc))
  obtain ⟨-, c1, -, -, -, -, -, -⟩ := d.cells
  have HD := Lib.hid d
  clear d
  go_enter Tryz.func229, Tryz.ntmps229
  go_wp2_with fail
  refine (HO.out _).mono ?_
  rintro e w1 ⟨rfl, rfl⟩
  go_wp2_with fail
  refine (HT.out _ (Chg.refl _ _)).mono ?_
  rintro e w1 ⟨rfl, hc1⟩
  go_wp2_with fail
  refine (HPL.out _).mono ?_
  rintro e w2 ⟨rfl, rfl⟩
  have HC2 := Lib.hid (hc1.alloc (.cells #[.int .u64 0, .int .u64 2] 25))
  generalize w1.alloc (.cells #[.int .u64 0, .int .u64 2] 25) = w2 at *
  clear hc1 c1
  go_wp2_with fail
  refine (HS.out _ HC2.out).mono ?_
  rintro e w3 ⟨rfl, hc3⟩
  have HC3 := Lib.hid (HC2.out.trans hc3)
  clear hc3
  go_wp2_with fail
  refine (HAT.out _ HC3.out).mono ?_
  rintro e w4 ⟨rfl, hc4⟩
  have HC4 := Lib.hid (HC3.out.trans hc4)
  clear hc4
  go_wp2_with fail
  refine (HLN.out _ HC4.out).mono ?_
  rintro e w5 ⟨rfl, rfl⟩
  go_wp2_with fail
  refine (HEN.out _ HC4.out).mono ?_
  rintro e w5 ⟨rfl, hb, hc5⟩
  obtain ⟨n1, n2, n3, n4, n5⟩ := HD.out.apart
  have HSP := Lib.hid (Blk.chg (Blk.chg HD.out.span HC4.out (by simp)) hc5 (by simpa using n1.symm))
  have HS0 := Lib.hid ((HD.out.st0.chg HC4.out (by simp)).chg hc5 (by simpa [fpT] using n2.symm))
  have HS1 := Lib.hid ((HD.out.st1.chg HC4.out (by simp)).chg hc5 (by simpa [fpT] using n3.symm))
  have HB := Lib.hid hb
  have HC5 := Lib.hid (HC4.out.nil.trans hc5 : Chg [h] w w5)
  have HADD := Lib.hid (strip_add w5 s1 _ [] HS1.out (by simp [rises]) (by simp) (by simp) 5 2 (by omega) (by simp [totP]))
  have HAP := Lib.hid (show h ≠ p ∧ h ≠ s0 ∧ h ≠ s1 ∧ p ≠ s0 ∧ p ≠ s1 from ⟨n1, n2, n3, n4, n5⟩)
  clear hc5 hb n1 n2 n3 n4 n5 HEN HLN HAT HS HPL HT HO
  go_wp2_with fail
  refine HADD.out.mono ?_
  rintro e w6 ⟨rfl, rv, hs6, hm⟩
  have HM := Lib.hid hm
  have HS6 := Lib.hid hs6
  clear hm hs6
  go_wp2_with fail
  go_ret
  obtain ⟨n1, n2, n3, n4, n5⟩ := HAP.out
  have hk : Chg (fpT s1 (.slice none 0 0)) w5 w6 := HM.out.1
  have hk' : Chg [s1] w5 w6 := hk
  refine ⟨rfl, rv, ⟨HB.out.chg hk' (by simpa using n3), Blk.chg HSP.out hk' (by simpa using n5), HS0.out.chg hk' (by simpa [fpT] using hne), HS6.out⟩, (HC5.out.mono (by simp)).trans (hk'.mono (by simp))⟩
set_option maxRecDepth 100000 in
set_option maxHeartbeats 2000000 in
theorem strip_find1 (w : World) (s : Nat) (rv : Value) (h : Spt w s rv [⟨5, 2⟩]) : Calls Tryz.prog 235 #[.pointer (some ⟨s, 0, none⟩), .int .u64 1] w fun e w' => e = .returned (.tuple #[.int .i64 5, .bool true]) ∧ w = w' := by
  obtain ⟨-, c1, c2⟩ := h.cells
  replace c2 : w.cell? ⟨s, 2, none⟩ = some (.int .u64 2) := c2
  obtain ⟨ro, rc, hrv⟩ := h.row.shape
  subst hrv
  obtain ⟨b, o, rfl, hc⟩ := h.row.rd.addr (by simp)
  have d0 : w.cell? ⟨b, o, none⟩ = some (.int .i64 5) := hc 0 (by simp)
  have d1 : w.cell? ⟨b, o + 1, none⟩ = some (.int .u64 2) := hc 1 (by simp)
  replace c1 : w.cell? ⟨s, 1, none⟩ = some (.slice (some ⟨b, o, none⟩) 1 rc) := c1
  clear h hc
  go_enter Tryz.func235, Tryz.ntmps235
  go_wp2_with fail
  refine wp_scope_labels (fun _ _ _ => False) (fun _ _ _ => 0) ?_ (fun _ _ _ h => h.elim)
  go_wp2
  rename_i K hK
  refine wp_label (hK _ _ ?_)
  clear hK
  go_wp2
  rw [jumps_ret]
  go_ret2
  exact ⟨rfl, rfl⟩
set_option maxRecDepth 100000 in
set_option maxHeartbeats 2000000 in
theorem hdr_find5 (w : World) (h p s0 s1 : Nat) (rv : Value) (d : HdA w h p s0 s1 rv [⟨5, 2⟩] 5 5) : Calls Tryz.prog 234 #[.pointer (some ⟨h, 0, none⟩), .int .u64 1] w fun e w' => e = .returned (.int .i64 5) ∧ Chg [] w w' := by
  have H0 : Hid (∀ W, Chg [] w W → Calls Tryz.prog 100 #[.pointer (some ⟨s0, 0, none⟩)] W fun e w' => e = Ending.returned (.int .u64 0) ∧ W = w') := Lib.hid (fun W hc => strip_total W s0 _ [] (d.st0.chg (F := []) hc (by simp)))
  have HF := Lib.hid (fun W (hc : Chg [] w W) => strip_find1 W s1 rv (d.st1.chg (F := []) hc (by simp)))
  have HR := Lib.hid (fun W (hc : Chg [] w W) => span_rep5 W p (Blk.chg d.span hc (by simp)))
  have HV := Lib.hid (fun W => sign_value5 W)
  obtain ⟨-, -, -, c3, -, -, -, -⟩ := d.cells
  have HC := Lib.hid (fun W (hc : Chg [] w W) => (d.nil hc).cells)
  clear d
  go_enter Tryz.func234, Tryz.ntmps234
  go_wp2_with fail
  refine (H0.out _ (Chg.refl _ _)).mono ?_
  rintro e w1 ⟨rfl, rfl⟩
  obtain ⟨-, -, c2, -, c4, c5, -, -⟩ := HC.out w (Chg.refl _ _)
  clear c3
  go_wp2_with fail
  go_quiet (first | (go_at_call 235; exact (HF.out _ (by with_reducible (repeat (first | exact Chg.refl _ _ | apply Chg.drew | apply Chg.drewN)))).mono fun e w' ⟨he, hw⟩ => ⟨he, _, hw.symm⟩))
  obtain ⟨-, -, c2, -, -, -, -, -⟩ := HC.out (w.drewN nq) ((Chg.refl [] w).drewN _)
  go_wp2_with fail
  refine (HR.out _ ((Chg.refl [] w).drewN _)).mono ?_
  rintro e w2 ⟨rfl, hc2⟩
  go_wp2_with fail
  refine (HV.out _).mono ?_
  rintro e w3 ⟨rfl, rfl⟩
  go_wp2
  go_ret
  exact ⟨rfl, ((Chg.refl [] w).drewN _).trans hc2⟩
end Go.Proofs.YtlcoibhbdgdfcaaGreatDoor

namespace Go.Proofs.YtlcoibhbdgdfcaaGreatDoor
open Go.RowKit

set_option maxRecDepth 100000 in
set_option maxHeartbeats 2000000 in
theorem hdr_quant5 (w : World) (h p s0 s1 : Nat) (rv : Value) (d : HdA w h p s0 s1 rv [⟨5, 2⟩] 5 5) : Calls Tryz.prog 230 #[.pointer (some ⟨h, 0, none⟩), .agg #[.int .u64 1, .int .u64 2]] w fun e w' => e = .returned (.tuple #[.int .i64 5, .int .i64 0]) ∧ Chg [] w w' := by
  have HT : Hid (∀ W, Chg [] w W → Calls Tryz.prog 101 #[.pointer (some ⟨h, 0, none⟩)] W fun e w' => e = Ending.returned (.int .u64 2) ∧ Chg [] W w') := Lib.hid (fun W hc => hdr_total W h p s0 s1 _ [⟨5, 2⟩] 5 5 (d.nil hc) 2 (by decide) (by omega))
  have HPL := Lib.hid (fun u => show Calls Tryz.prog 184 #[.agg #[.int .u64 1, .int .u64 2], .int .u64 2] u fun e w' => e = .returned (.tuple #[.int .u64 1, .int .i64 0]) ∧ Chg [] u w' from share_place u 1 2 2 (by omega) (by omega) (by omega) 1 0 (by decide) (by decide))
  have HF := Lib.hid (fun W (hc : Chg [] w W) => hdr_find5 W h p s0 s1 rv (d.nil hc))
  have HCE := Lib.hid (fun W (hc : Chg [] w W) => (d.nil hc).cells)
  have hb := Blk.alloc_new w #[.int .u64 1, .int .u64 2] 27
  have HC0 := Lib.hid ((Chg.refl [] w).alloc (.cells #[.int .u64 1, .int .u64 2] 27))
  obtain ⟨bq, hbq⟩ : ∃ z, z = w.heap.size := ⟨_, rfl⟩
  rw [← hbq] at hb
  clear d
  go_enter Tryz.func230, Tryz.ntmps230
  go_upto_region 3 with (fail)
  rw [← hbq]
  clear hbq
  generalize w.alloc (.cells #[.int .u64 1, .int .u64 2] 27) = w0 at *
  have HS := Lib.hid (fun wx (hu : Chg [] w0 wx) => show wx.cell? ⟨bq, 0, none⟩ = some (.int .u64 1) ∧ wx.cell? ⟨bq, 1, none⟩ = some (.int .u64 2) from ⟨(hb.chg hu (by simp)).cell 0, (hb.chg hu (by simp)).cell 1⟩)
  obtain ⟨c0, c1⟩ := HS.out w0.drew (Chg.refl [] w0).drew
  clear hb
  go_region_with (first | (go_at_call 101; refine (HT.out _ (HC0.out.drew)).mono ?_; rintro e w1 ⟨rfl, hc1⟩; have c01 := HS.out _ ((Chg.refl [] w0).drew.trans hc1); obtain ⟨c0, c1⟩ := c01) | (go_at_call 184; refine (HPL.out _).mono ?_; rintro e w2 ⟨rfl, hc2⟩))
  all_goals
    have HC2 := Lib.hid (((HC0.out.drew).trans hc1).trans hc2)
    clear hc1 hc2 c0 c1 HC0 HS HT HPL
    go_upto_region 6 with (fail)
    obtain ⟨-, -, -, -, -, -, c6, c7⟩ := HCE.out w2.drew HC2.out.drew
    go_region_with (go_at_call 234; refine (HF.out _ HC2.out.drew).mono ?_; rintro e w3 ⟨rfl, hc3⟩; obtain ⟨-, -, -, -, -, -, k6, k7⟩ := HCE.out _ ((HC2.out.drew).trans hc3))
    all_goals
      go_wp2
      go_ret2
      exact ⟨rfl, (HC2.out.drew).trans hc3⟩
end Go.Proofs.YtlcoibhbdgdfcaaGreatDoor

namespace Go.Proofs.YtlcoibhbdgdfcaaGreatDoor
open Go.RowKit

def aliveC : Cf := { Cf.none 2 with digits := 1 }
set_option maxRecDepth 100000 in
set_option maxHeartbeats 2000000 in
theorem fresh_hdr1 (w : World) (ht : w.cell? ⟨0, 1, none⟩ = some (.int .u64 10)) : Calls Tryz.prog 46 #[aliveC.val] w fun e w' => ∃ h p s0 s1, e = .returned (.tuple #[.iface 148 (.agg #[.pointer (some ⟨h, 0, none⟩)]), .int .i64 0]) ∧ HdA w' h p s0 s1 (.slice none 0 0) [] 0 0 ∧ Chg [] w w' ∧ s0 ≠ s1 ∧ w.heap.size ≤ h ∧ w.heap.size ≤ s1 := by
  simp only [aliveC, Cf.val, Cf.cells, Cf.none]
  have hc0 := (Chg.refl [] w).alloc (.cells #[.int .i64 2, .int .u64 0, .int .u64 0, .int .i64 0, .int .i64 0, .int .i64 1, .int .u64 0, .int .i64 0, .int .i64 0, .int .i64 0, .int .u64 0] 30)
  have HN := Lib.hid (hdr_new1 _ (hc0.cell ht (by simp)))
  have HC0 := Lib.hid hc0
  clear hc0
  go_enter Tryz.func46, Tryz.ntmps46
  go_wp2_with fail
  refine HN.out.mono ?_
  rintro e w1 ⟨h, p, s0, s1, rfl, hd, hc1, hne, hle⟩
  have HC1 := Lib.hid (HC0.out.trans hc1)
  have HD := Lib.hid hd
  simp only [ptr]
  clear hc1 hd HN HC0
  go_wp2
  go_ret2
  exact ⟨h, p, s0, s1, rfl, HD.out, HC1.out, hne, by simp only [World.size_alloc] at hle; omega⟩
end Go.Proofs.YtlcoibhbdgdfcaaGreatDoor

namespace Go.Proofs.YtlcoibhbdgdfcaaGreatDoor
open Go.RowKit

set_option maxRecDepth 100000 in
set_option maxHeartbeats 4000000 in
theorem sk_put_hdr (w : World) (s p : Nat) (c : Cf) (h : Sk w s c 148 p) (x : Int) (n : Nat) (R : Ending → World → Prop)
    (HP0 : Calls Tryz.prog 229 #[.pointer (some ⟨p, 0, none⟩), .int .i64 x, .int .u64 n] w fun e w' => ∃ k, e = .returned (.int .i64 k) ∧ R e w') :
    Calls Tryz.prog 24 #[.pointer (some ⟨s, 0, none⟩), .int .i64 x, .int .u64 n] w R := by
  have c11 := h.core
  have HP := Lib.hid HP0
  clear h HP0
  go_enter Tryz.func24, Tryz.ntmps24
  go_wp2_with fail
  refine HP.out.mono ?_
  rintro e w1 ⟨k, rfl, hR⟩
  have HR := Lib.hid hR
  clear hR HP
  go_wp2_with fail
  exact HR.out
set_option maxRecDepth 100000 in
set_option maxHeartbeats 4000000 in
theorem sk_quant_hdr (w : World) (s p : Nat) (c : Cf) (h : Sk w s c 148 p) (num den : Nat) (x k : Int)
    (HP0 : ∀ u, Chg [] w u → Calls Tryz.prog 230 #[.pointer (some ⟨p, 0, none⟩), .agg #[.int .u64 (num : Nat), .int .u64 (den : Nat)]] u fun e w' => e = .returned (.tuple #[.int .i64 x, .int .i64 k]) ∧ Chg [] u w') :
    Calls Tryz.prog 17 #[.pointer (some ⟨s, 0, none⟩), .agg #[.int .u64 (num : Nat), .int .u64 (den : Nat)]] w fun e w' => e = .returned (.tuple #[.int .i64 x, .int .i64 k]) ∧ Chg [] w w' := by
  have c11 := (Sk.nil h ((Chg.refl [] w).alloc (.cells #[.int .u64 (num : Nat), .int .u64 (den : Nat)] 27))).core
  have HP := Lib.hid HP0
  have HC := Lib.hid ((Chg.refl [] w).alloc (.cells #[.int .u64 (num : Nat), .int .u64 (den : Nat)] 27))
  clear h HP0
  go_enter Tryz.func17, Tryz.ntmps17
  go_wp2_with fail
  have c11d := c11
  rw [← World.cell?_drew] at c11d
  go_region_with (go_at_call 230; refine (HP.out _ HC.out.drew).mono ?_; rintro e w1 ⟨rfl, hc⟩)
  all_goals
    go_wp2
    go_ret2
    exact ⟨rfl, HC.out.drew.trans hc⟩
set_option maxRecDepth 100000 in
set_option maxHeartbeats 4000000 in
theorem core_total_hdr (w : World) (p : Nat) (n : Nat)
    (HP0 : ∀ u, Chg [] w u → Calls Tryz.prog 101 #[.pointer (some ⟨p, 0, none⟩)] u fun e w' => e = .returned (.int .u64 (n : Nat)) ∧ Chg [] u w') :
    Calls Tryz.prog 238 #[.agg #[.pointer (some ⟨p, 0, none⟩)]] w fun e w' => e = .returned (.int .u64 (n : Nat)) ∧ Chg [] w w' := by
  have HP := Lib.hid HP0
  have HC := Lib.hid ((Chg.refl [] w).alloc (.cells #[.pointer (some ⟨p, 0, none⟩)] 148))
  clear HP0
  go_enter Tryz.func238, Tryz.ntmps238
  go_wp2_with fail
  refine (HP.out _ HC.out).mono ?_
  rintro e w1 ⟨rfl, hc⟩
  go_wp2
  go_ret
  exact ⟨rfl, HC.out.trans hc⟩
set_option maxRecDepth 100000 in
set_option maxHeartbeats 4000000 in
theorem sk_total_hdr (w : World) (s p : Nat) (c : Cf) (h : Sk w s c 148 p) (n : Nat)
    (HP0 : ∀ u, Chg [] w u → Calls Tryz.prog 101 #[.pointer (some ⟨p, 0, none⟩)] u fun e w' => e = .returned (.int .u64 (n : Nat)) ∧ Chg [] u w') :
    Calls Tryz.prog 25 #[.pointer (some ⟨s, 0, none⟩)] w fun e w' => e = .returned (.int .u64 (n : Nat)) ∧ Chg [] w w' := by
  have c11 := h.core
  have HT := Lib.hid (core_total_hdr w p n HP0)
  clear h HP0
  go_enter Tryz.func25, Tryz.ntmps25
  go_wp2_with fail
  refine HT.out.mono ?_
  rintro e w1 ⟨rfl, hc⟩
  go_wp2
  go_ret
  exact ⟨rfl, hc⟩
end Go.Proofs.YtlcoibhbdgdfcaaGreatDoor

namespace Go.Proofs.YtlcoibhbdgdfcaaGreatDoor
open Go.RowKit

theorem bare_alive (u : World) : Calls Tryz.prog 45 #[aliveC.val] u fun e w' => e = .returned aliveC.val ∧ Chg [] u w' := bare_hdr u aliveC rfl
def FreshH (B : Nat) (w' : World) (T : Nat) (d : Value) (k : Int) : Prop := ∃ h p s0 s1, T = 148 ∧ d = .agg #[.pointer (some ⟨h, 0, none⟩)] ∧ k = 0 ∧ HdA w' h p s0 s1 (.slice none 0 0) [] 0 0 ∧ s0 ≠ s1 ∧ B ≤ h ∧ B ≤ s1
set_option maxRecDepth 100000 in
theorem new_alive (w : World) (ht : w.cell? ⟨0, 1, none⟩ = some (.int .u64 10)) : Calls Tryz.prog 26 #[aliveC.val] w fun e w' => ∃ s h p s0 s1, e = .returned (.tuple #[.pointer (some ⟨s, 0, none⟩), .int .i64 0]) ∧ Sk w' s aliveC 148 h ∧ HdA w' h p s0 s1 (.slice none 0 0) [] 0 0 ∧ s0 ≠ s1 ∧ Chg [] w w' ∧ h ≠ s ∧ s1 ≠ s ∧ w.heap.size ≤ h ∧ w.heap.size ≤ s1 := by
  refine (suite_newK w aliveC aliveC bare_alive (FreshH w.heap.size) (fun u hu => (fresh_hdr1 u (hu.cell ht (by simp))).mono ?_)).mono ?_
  · rintro e w' ⟨h, p, s0, s1, rfl, hd, hc, hne, hl1, hl2⟩
    exact ⟨_, _, _, rfl, ⟨h, p, s0, s1, rfl, rfl, rfl, hd, hne, Nat.le_trans hu.size hl1, Nat.le_trans hu.size hl2⟩, hc⟩
  · rintro e w' (⟨h1, -⟩ | ⟨-, T, d, k, w1, ⟨h, p, s0, s1, rfl, rfl, rfl, hd, hne, hl1, hl2⟩, hc, ⟨hk, -⟩ | ⟨-, rfl, rfl⟩⟩)
    · exact absurd h1 (by decide)
    · exact absurd rfl hk
    · have hk : Chg [] w1 (w1.alloc (.cells (aliveC.cells ++ #[.iface 148 (.agg #[.pointer (some ⟨h, 0, none⟩)])]) 96)) := (Chg.refl _ _).alloc _
      exact ⟨w1.heap.size, h, p, s0, s1, rfl, Blk.alloc_new _ _ _, hd.nil hk, hne, hc.trans hk, Nat.ne_of_lt hd.blk.lt, Nat.ne_of_lt hd.st1.blk.lt, hl1, hl2⟩
set_option maxRecDepth 100000 in
set_option maxHeartbeats 4000000 in
theorem core_alive (w : World) (ht : w.cell? ⟨0, 1, none⟩ = some (.int .u64 10)) : Calls Tryz.prog 7 #[] w fun e w' => e = .returned (.bool true) ∧ Chg [] w w' := by
  have HN := Lib.hid (new_alive w ht)
  simp only [aliveC, Cf.val, Cf.cells, Cf.none] at HN
  go_enter Tryz.func7, Tryz.ntmps7
  go_wp2_with fail
  refine HN.out.mono ?_
  rintro e w1 ⟨s, h, p, s0, s1, rfl, hs, hd, hne, hc, hn1, hn2, hl1, hl2⟩
  have HS := Lib.hid hs
  have HC := Lib.hid hc
  have HNE := Lib.hid (show s0 ≠ s1 ∧ h ≠ s ∧ s1 ≠ s ∧ w.heap.size ≤ h ∧ w.heap.size ≤ s1 from ⟨hne, hn1, hn2, hl1, hl2⟩)
  have HP := Lib.hid (hdr_put5 w1 h p s0 s1 hd hne)
  clear HN hs hd hc hne hn1 hn2 hl1 hl2
  go_wp2_with fail
  refine (sk_put_hdr w1 s h _ HS.out 5 2 (fun e w' => e = .returned (.int .i64 0) ∧ ∃ rv, HdA w' h p s0 s1 rv [⟨5, 2⟩] 5 5 ∧ Chg [h, s1] w1 w') (HP.out.mono fun e w' ⟨he, hr⟩ => ⟨0, he, he, hr⟩)).mono ?_
  rintro e w2 ⟨rfl, rv, hd, hc⟩
  have HS2 := Lib.hid (HS.out.chg hc (by simp; exact ⟨fun e => HNE.out.2.1 e.symm, fun e => HNE.out.2.2.1 e.symm⟩))
  have HC2 := Lib.hid (HC.out.trans' hc (fun b hb => .inr (by simp at hb; rcases hb with rfl | rfl; exact HNE.out.2.2.2.1; exact HNE.out.2.2.2.2)))
  have HD := Lib.hid hd
  clear hd hc HC HS HP
  go_wp2_with fail
  refine (sk_quant_hdr w2 s h _ HS2.out 1 2 5 0 (fun u hu => hdr_quant5 u h p s0 s1 rv (HD.out.nil hu))).mono ?_
  rintro e w3 ⟨rfl, hc3⟩
  have HS3 := Lib.hid (HS2.out.nil hc3)
  have HC3 := Lib.hid (HC2.out.trans hc3)
  have HD3 := Lib.hid (HD.out.nil hc3)
  clear hc3 HC2 HS2 HD
  go_wp2_with fail
  refine (sk_total_hdr w3 s h _ HS3.out 2 (fun u hu => hdr_total u h p s0 s1 rv [⟨5, 2⟩] 5 5 (HD3.out.nil hu) 2 (by decide) (by omega))).mono ?_
  rintro e w4 ⟨rfl, hc4⟩
  have HC4 := Lib.hid (HC3.out.trans hc4)
  clear hc4
  go_wp2
  go_ret
  exact ⟨rfl, HC4.out⟩
end Go.Proofs.YtlcoibhbdgdfcaaGreatDoor

namespace Go.Proofs.YtlcoibhbdgdfcaaGreatDoor
open Go.ChangeShapes Go.WideShapes Go.ChangeAt Go.RowKit

theorem i64_range {n : Int} (h : (Lit.int .i64 n).wf = true) : -9223372036854775808 ≤ n ∧ n < 9223372036854775808 := by
  simp [Lit.wf, IntKind.min, IntKind.max, IntKind.signed, IntKind.bits] at h; omega
theorem u64_range {n : Int} (h : (Lit.int .u64 n).wf = true) : 0 ≤ n ∧ n < 18446744073709551616 := by
  simp [Lit.wf, IntKind.min, IntKind.max, IntKind.signed, IntKind.bits] at h; omega
theorem u32_range {n : Int} (h : (Lit.int .u32 n).wf = true) : 0 ≤ n ∧ n < 4294967296 := by
  simp [Lit.wf, IntKind.min, IntKind.max, IntKind.signed, IntKind.bits] at h; omega
theorem u8_range {n : Int} (h : (Lit.int .u8 n).wf = true) : 0 ≤ n ∧ n < 256 := by
  simp [Lit.wf, IntKind.min, IntKind.max, IntKind.signed, IntKind.bits] at h; omega
end Go.Proofs.YtlcoibhbdgdfcaaGreatDoor
