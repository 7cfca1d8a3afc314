/-
  The walks of share.Good, Place, wide.Ceil, and the reference's Ceil, Good and Place. Conditions: none.
  The walks of layer 15 (hdr) of a sketch with one digit that gets the value 5 twice. Conditions: the form's own reach.
  The walks of layer 15 (hdr) of a sketch with one digit that gets the value 5 twice: Put, Quantile. Conditions: the form's own reach.
-/
import Derived.Test.YtlcoibhbdgdfcaaGreatDoorCoreCoinsB45
import Derived.Laws.Externs
import Derived.Test.YtlcoibhbdgdfcaaGreatDoorCoreCoinsB38
import Derived.Test.YtlcoibhbdgdfcaaGreatDoorCoreCoinsB42
namespace Go.Proofs.YtlcoibhbdgdfcaaGreatDoor
open Go.RowKit

theorem add64_run (q : Nat) (hq : q < 18446744073709551615) (w : World) :
    (callFunc 195 #[.int .u64 (q : Nat), .int .u64 1, .int .u64 0]).run Tryz.prog w = .ok (.value (.tuple #[.int .u64 ((q + 1 : Nat) : Int), .int .u64 0])) w := by
  rw [run_callFunc_extern Tryz.func195 (by kernel_rfl) (by kernel_rfl) (by kernel_rfl) (e := add64Entry) (by kernel_rfl), run_add64 q 1 0 (by omega) (by omega) (by omega) (by omega)]
  simp only [Result.andThen]
  rw [show ((q : Int) + 1 + 0) % 18446744073709551616 = ((q + 1 : Nat) : Int) from by omega, show ((q : Int) + 1 + 0) / 18446744073709551616 = 0 from by omega]

/-- A product divided, rounded up. -/
def ceilT (n y : Nat) : Nat := if n % y = 0 then n / y else n / y + 1
theorem ceilT_le {n y b : Nat} (hy : 0 < y) (h : n ≤ y * b) : ceilT n y ≤ b := by
  unfold ceilT
  have h1 := Nat.div_add_mod n y
  have h2 := Nat.mod_lt n hy
  split
  · next h0 =>
    have h3 : y * (n / y) ≤ y * b := by omega
    exact Nat.le_of_mul_le_mul_left h3 hy
  · next h0 =>
    have h3 : y * (n / y) < y * b := by omega
    exact Nat.lt_of_mul_lt_mul_left h3

set_option maxRecDepth 100000 in
set_option maxHeartbeats 1000000 in
theorem wide_ceil (w : World) (a b y n q : Nat) (hn : a * b = n) (ha : a < 18446744073709551616) (hb : b < 18446744073709551616) (hy : y < 18446744073709551616) (hy0 : 0 < y) (hle : n ≤ y * b) (hq : q = ceilT n y) :
    Calls Tryz.prog 191 #[.int .u64 a, .int .u64 b, .int .u64 y] w fun e w' => e = .returned (.tuple #[.int .u64 (q : Nat), .bool true]) ∧ Chg [] w w' := by
  have hqb := ceilT_le hy0 hle
  rw [← hq] at hqb
  have hh : n / 18446744073709551616 < 18446744073709551616 := by
    rw [← hn, Nat.div_lt_iff_lt_mul (by decide)]
    exact Nat.mul_lt_mul'' ha hb
  have hl : n % 18446744073709551616 < 18446744073709551616 := Nat.mod_lt _ (by decide)
  have hf : n < y * 18446744073709551616 := Nat.lt_of_le_of_lt hle (Nat.mul_lt_mul_of_pos_left hb hy0)
  have HT := Lib.hid (wide_times w a b (n / 18446744073709551616) (n % 18446744073709551616) ha hb (by rw [hn]) (by rw [hn]))
  have HO := Lib.hid (fun W => wide_over W (n / 18446744073709551616) (n % 18446744073709551616) y n (by omega) hh hl hy)
  have HV2 := Lib.hid (show overV n y = .tuple #[.int .u64 (n / y : Nat), .int .u64 (n % y : Nat), .bool true] from if_pos hf)
  unfold ceilT at hq
  clear hf hle hn
  generalize n / 18446744073709551616 = h at *
  generalize n % 18446744073709551616 = l at *
  generalize n / y = d at *
  generalize n % y = r at *
  go_enter Tryz.func191, Tryz.ntmps191
  go_wp2_with fail
  refine HT.out.mono ?_
  rintro e w1 ⟨rfl, hc1⟩
  go_wp2_with fail
  refine (HO.out w1).mono ?_
  rintro e w2 ⟨rfl, hc2⟩
  have HC := Lib.hid (hc1.trans hc2)
  rw [HV2.out]
  clear HT HO HV2 hc1 hc2
  by_cases h0 : r = 0
  · subst h0
    rw [if_pos rfl] at hq
    subst hq
    go_wp2
    go_ret2
    exact ⟨rfl, HC.out⟩
  · have hr : ((r : Int) == 0) = false := by rw [beq_eq_false_iff_ne]; omega
    rw [if_neg h0] at hq
    subst hq
    have ha := add64_run d (by omega)
    go_wp2
    go_ret2
    exact ⟨rfl, HC.out⟩

/-- Can a part be? -/
def goodR (num den : Nat) : Bool := decide (0 < den ∧ num ≤ den)
set_option maxRecDepth 100000 in
theorem share_good (w : World) (num den : Nat) :
    Calls Tryz.prog 190 #[.agg #[.int .u64 (num : Nat), .int .u64 (den : Nat)]] w fun e w' => e = .returned (.bool (goodR num den)) ∧ Chg [] w w' := by
  have HG := Lib.hid (show goodR num den = decide (0 < den ∧ num ≤ den) from rfl)
  generalize goodR num den = G at *
  have hc := (Chg.refl [] w).alloc (.cells #[.int .u64 num, .int .u64 den] 27)
  have hbx := Blk.alloc_new w #[.int .u64 num, .int .u64 den] 27
  have c0 := hbx.cell 0
  have c1 := hbx.cell 1
  by_cases h1 : 0 < den
  · have d1 : decide ((0 : Int) < (den : Int)) = true := decide_eq_true (by omega)
    have d1' : decide (0 < den) = true := decide_eq_true h1
    have e1 : G = decide (num ≤ den) := by rw [HG.out]; simp [h1]
    subst e1
    clear HG
    go_enter Tryz.func190, Tryz.ntmps190
    go_wp2
    go_ret
    exact ⟨rfl, hc⟩
  · have d1 : decide ((0 : Int) < (den : Int)) = false := decide_eq_false (by omega)
    have d1' : decide (0 < den) = false := decide_eq_false h1
    have e1 : G = false := by rw [HG.out]; simp; omega
    subst e1
    clear HG
    go_enter Tryz.func190, Tryz.ntmps190
    go_wp2
    go_ret
    exact ⟨rfl, hc⟩

set_option maxRecDepth 100000 in
theorem ref03_good (w : World) (num den : Nat) :
    Calls Tryz.prog 13 #[.agg #[.int .u64 (num : Nat), .int .u64 (den : Nat)]] w fun e w' => e = .returned (.bool (goodR num den)) ∧ Chg [] w w' := by
  have HG := Lib.hid (show goodR num den = decide (0 < den ∧ num ≤ den) from rfl)
  generalize goodR num den = G at *
  have hc := (Chg.refl [] w).alloc (.cells #[.int .u64 num, .int .u64 den] 27)
  have hbx := Blk.alloc_new w #[.int .u64 num, .int .u64 den] 27
  have c0 := hbx.cell 0
  have c1 := hbx.cell 1
  by_cases h1 : 0 < den
  · have d1 : ((den : Int) != 0) = true := by rw [bne_iff_ne]; omega
    have e1 : G = !decide (den < num) := by rw [HG.out]; by_cases h2 : den < num <;> simp [h1, h2] <;> omega
    subst e1
    clear HG
    go_enter Tryz.func13, Tryz.ntmps13
    go_wp2
    go_ret
    exact ⟨rfl, hc⟩
  · have d1 : ((den : Int) != 0) = false := by rw [bne_eq_false_iff_eq]; omega
    have e1 : G = false := by rw [HG.out]; simp; omega
    subst e1
    clear HG
    go_enter Tryz.func13, Tryz.ntmps13
    go_wp2
    go_ret
    exact ⟨rfl, hc⟩

/-- The error of a place, and the place. -/
def placeE (num den n : Nat) : Nat := if goodR num den then (if n = 0 then 5 else 0) else 1
def placeT (num den n : Nat) : Nat := if placeE num den n = 0 then max (ceilT (num * n) den) 1 else 0
theorem placeT_of {num den n : Nat} (h : placeE num den n = 0) : 1 ≤ placeT num den n ∧ placeT num den n ≤ n := by
  unfold placeT
  rw [if_pos h]
  unfold placeE at h
  split at h
  · next hg =>
    split at h
    · omega
    · next hn =>
      have hg' : 0 < den ∧ num ≤ den := by simpa [goodR] using hg
      have := ceilT_le hg'.1 (Nat.mul_le_mul_right n hg'.2)
      omega
  · omega

set_option maxRecDepth 100000 in
set_option maxHeartbeats 1000000 in
theorem share_place (w : World) (num den n : Nat) (hn : num < 18446744073709551616) (hd : den < 18446744073709551616) (hN : n < 18446744073709551616) (T E : Nat) (hT : T = placeT num den n) (hE : E = placeE num den n) :
    Calls Tryz.prog 184 #[.agg #[.int .u64 (num : Nat), .int .u64 (den : Nat)], .int .u64 (n : Nat)] w fun e w' => e = .returned (.tuple #[.int .u64 (T : Nat), .int .i64 (E : Nat)]) ∧ Chg [] w w' := by
  have hc := (Chg.refl [] w).alloc (.cells #[.int .u64 num, .int .u64 den] 27)
  have hbx := Blk.alloc_new w #[.int .u64 num, .int .u64 den] 27
  have c0 := hbx.cell 0
  have c1 := hbx.cell 1
  have HG := Lib.hid (fun u => share_good u num den)
  have HC := Lib.hid hc
  have HB := Lib.hid hbx
  by_cases hg : goodR num den = true
  · have hg' : 0 < den ∧ num ≤ den := by simpa [goodR] using hg
    by_cases h0 : n = 0
    · have e1 : placeE num den n = 5 := by rw [placeE, if_pos hg, if_pos h0]
      have e2 : placeT num den n = 0 := by rw [placeT, e1]; rfl
      rw [e1] at hE
      rw [e2] at hT
      subst hE hT h0
      rw [hg] at HG
      clear hg' hg e1 e2 hc hbx
      go_enter Tryz.func184, Tryz.ntmps184
      go_wp2_with fail
      refine (HG.out _).mono ?_
      rintro e w1 ⟨rfl, hc1⟩
      go_wp2
      go_ret2
      exact ⟨rfl, HC.out.trans hc1⟩
    · have e1 : placeE num den n = 0 := by rw [placeE, if_pos hg, if_neg h0]
      have e2 : placeT num den n = max (ceilT (num * n) den) 1 := by rw [placeT, if_pos e1]
      rw [e1] at hE
      rw [e2] at hT
      subst hE
      have HL := Lib.hid (fun u => wide_ceil u num n den (num * n) (ceilT (num * n) den) rfl hn hN hd hg'.1 (Nat.mul_le_mul_right n hg'.2) rfl)
      have hz : ((n : Int) == 0) = false := by rw [beq_eq_false_iff_ne]; omega
      rw [hg] at HG
      have HTT := Lib.hid hT
      generalize ceilT (num * n) den = q at *
      clear hg' hg e1 e2 hc hbx hT h0
      go_enter Tryz.func184, Tryz.ntmps184
      go_wp2_with fail
      refine (HG.out _).mono ?_
      rintro e w1 ⟨rfl, hc1⟩
      have hb1 := HB.out.chg hc1 (by simp)
      have c0 := hb1.cell 0
      have c1 := hb1.cell 1
      have HC1 := Lib.hid (HC.out.trans hc1)
      clear hc1 hb1 HG
      go_wp2_with fail
      refine (HL.out _).mono ?_
      rintro e w2 ⟨rfl, hc2⟩
      clear HL
      go_wp2
      go_ret2
      rw [HTT.out]
      refine ⟨?_, HC1.out.trans hc2⟩
      rw [show ((max q 1 : Nat) : Int) = max (q : Int) 1 from by omega]
      rfl
  · have e1 : placeE num den n = 1 := by rw [placeE, if_neg hg]
    have e2 : placeT num den n = 0 := by rw [placeT, e1]; rfl
    rw [e1] at hE
    rw [e2] at hT
    subst hE hT
    have hg2 : goodR num den = false := by simpa using hg
    rw [hg2] at HG
    clear hg hg2 e1 e2 hc hbx
    go_enter Tryz.func184, Tryz.ntmps184
    go_wp2_with fail
    refine (HG.out _).mono ?_
    rintro e w1 ⟨rfl, hc1⟩
    go_wp2
    go_ret2
    exact ⟨rfl, HC.out.trans hc1⟩

end Go.Proofs.YtlcoibhbdgdfcaaGreatDoor

namespace Go.Proofs.YtlcoibhbdgdfcaaGreatDoor
open Go.RowKit

def hdCells (p : Nat) (v0 v1 : Value) (lo hi : Int) : Array Value := #[.int .i64 1, .int .u64 0, .pointer (some ⟨p, 0, none⟩), v0, v1, .int .u64 0, .int .i64 lo, .int .i64 hi]
def ptr (s : Nat) : Value := .pointer (some ⟨s, 0, none⟩)
/-- A sketch of one digit, with counts above 0 alone. -/
structure HdA (w : World) (h p s0 s1 : Nat) (rv : Value) (r : List Pr) (lo hi : Int) : Prop where
  blk : Blk w h (hdCells p (ptr s0) (ptr s1) lo hi) 209
  span : Sp1 w p
  st0 : Spt w s0 (.slice none 0 0) []
  st1 : Spt w s1 rv r
set_option maxRecDepth 100000 in
set_option maxHeartbeats 2000000 in
theorem hdr_new1 (w : World) (ht : w.cell? ⟨0, 1, none⟩ = some (.int .u64 10)) : Calls Tryz.prog 64 #[.agg #[.int .i64 1, .int .u64 0]] w fun e w' => ∃ h p s0 s1, e = .returned (.tuple #[ptr h, .int .i64 0]) ∧ HdA w' h p s0 s1 (.slice none 0 0) [] 0 0 ∧ Chg [] w w' ∧ s0 ≠ s1 ∧ w.heap.size ≤ h ∧ w.heap.size ≤ s1 := by
  have hc0 := (Chg.refl [] w).alloc (.cells #[.int .i64 1, .int .u64 0] 146)
  have b0 := Blk.alloc_new w #[.int .i64 1, .int .u64 0] 146
  have HN := Lib.hid (spans_new1 _ (hc0.cell ht (by simp)))
  have HC0 := Lib.hid hc0
  have HB0 := Lib.hid b0
  clear hc0
  go_enter Tryz.func64, Tryz.ntmps64
  go_wp2_with fail
  refine HN.out.mono ?_
  rintro e w1 ⟨rfl, hsp, hc1⟩
  have HB1 := Lib.hid (HB0.out.chg hc1 (by simp))
  have c0 := HB1.out.cell 0
  have c1 := HB1.out.cell 1
  have HC1 := Lib.hid (HC0.out.trans hc1)
  have HSP := Lib.hid hsp
  clear hc1 hsp b0 HN HB0 HC0
  go_wp2_with fail
  have HP : w.heap.size + 1 = (w.alloc (.cells #[.int .i64 1, .int .u64 0] 146)).heap.size := by simp
  have HSP2 := Lib.hid (show Sp1 w1 (w.heap.size + 1) from by rw [HP]; exact HSP.out)
  clear HSP HP c0 c1 HB1
  have HLE := Lib.hid (show w.heap.size ≤ w1.heap.size ∧ w.heap.size + 1 < w1.heap.size from ⟨HC1.out.size, HSP2.out.lt⟩)
  go_loopw [25] (fun i wx => Chg [] w wx ∧ Sp1 wx (w.heap.size + 1) ∧ ((i = .int .i64 0 ∧ Blk wx w1.heap.size (hdCells (w.heap.size + 1) (.pointer none) (.pointer none) 0 0) 209) ∨
      (i = .int .i64 1 ∧ ∃ s0, Blk wx w1.heap.size (hdCells (w.heap.size + 1) (ptr s0) (.pointer none) 0 0) 209 ∧ Spt wx s0 (.slice none 0 0) [] ∧ w1.heap.size < s0) ∨
      (i = .int .i64 2 ∧ ∃ s0 s1, Blk wx w1.heap.size (hdCells (w.heap.size + 1) (ptr s0) (ptr s1) 0 0) 209 ∧ Spt wx s0 (.slice none 0 0) [] ∧ Spt wx s1 (.slice none 0 0) [] ∧ s0 ≠ s1 ∧ w1.heap.size < s1))) (fun i _ => 2 - (intOf i).toNat)
  case atStart => exact ⟨HC1.out.alloc _, HSP2.out.chg ((Chg.refl [] _).alloc _) (by simp), .inl ⟨rfl, Blk.alloc_new _ _ _⟩⟩
  case round =>
    obtain ⟨hc, hsp, ⟨rfl, hb⟩ | ⟨rfl, s0, hb, hs0, hl0⟩ | ⟨rfl, s0, s1, hb, hs0, hs1, hne, hl1⟩⟩ := hrel
    · have HC := Lib.hid hc
      have HSP := Lib.hid hsp
      have HB := Lib.hid hb
      clear hc hsp hb
      go_wp2_with fail
      go_region_with (go_at_call 90; refine (strip_new _).mono ?_; rintro e w2 ⟨s, rfl, hs, hc2, hl⟩; have f3 := (HB.out.drew.chg hc2 (by simp)).free 3; have c3 : w2.cell? ⟨w1.heap.size, 3, none⟩ = some (.pointer none) := (HB.out.drew.chg hc2 (by simp)).cell 3)
      all_goals
        have HH := HB.out.drew.chg hc2 (by simp)
        have hlt : w1.heap.size < s := by have := HB.out.lt; simp only [World.size_drew] at hl; omega
        have hk : Chg [w1.heap.size] w2 (w2.setCell ⟨w1.heap.size, 3, none⟩ (.pointer (some ⟨s, 0, none⟩))) := (Chg.refl _ _).setCell (a := ⟨w1.heap.size, 3, none⟩) (.inl (by simp)) _
        go_wp2
        refine ⟨⟨((HC.out.drew).trans hc2).trans' hk (fun b hb => .inr (by simp at hb; rw [hb]; exact HLE.out.1)), (HSP.out.chg (Chg.refl [] wr).drew (by simp) |>.chg hc2 (by simp)).chg hk (by simp; have := HLE.out.2; omega), .inr (.inl ⟨rfl, s, HH.setCell 3 _, hs.chg hk (fun b hb => by simp [fpT] at hb ⊢; omega), hlt⟩)⟩, by simp [intOf]⟩
    · have HC := Lib.hid hc
      have HSP := Lib.hid hsp
      have HB := Lib.hid hb
      have HS0 := Lib.hid hs0
      clear hc hsp hb hs0
      go_wp2_with fail
      go_region_with (go_at_call 90; refine (strip_new _).mono ?_; rintro e w2 ⟨s, rfl, hs, hc2, hl⟩; have f3 := (HB.out.drew.chg hc2 (by simp)).free 4; have c3 : w2.cell? ⟨w1.heap.size, 4, none⟩ = some (.pointer none) := (HB.out.drew.chg hc2 (by simp)).cell 4)
      all_goals
        have HH := HB.out.drew.chg hc2 (by simp)
        have hlt : w1.heap.size < s ∧ s0 < s := by have := HB.out.lt; have := HS0.out.blk.lt; simp only [World.size_drew] at hl; omega
        have hk : Chg [w1.heap.size] w2 (w2.setCell ⟨w1.heap.size, 4, none⟩ (.pointer (some ⟨s, 0, none⟩))) := (Chg.refl _ _).setCell (a := ⟨w1.heap.size, 4, none⟩) (.inl (by simp)) _
        go_wp2
        refine ⟨⟨((HC.out.drew).trans hc2).trans' hk (fun b hb => .inr (by simp at hb; rw [hb]; exact HLE.out.1)), (HSP.out.chg (Chg.refl [] wr).drew (by simp) |>.chg hc2 (by simp)).chg hk (by simp; have := HLE.out.2; omega), .inr (.inr ⟨rfl, s0, s, HH.setCell 4 _, (HS0.out.chg (Chg.refl [] wr).drew (by simp) |>.chg hc2 (by simp)).chg hk (fun b hb => by simp [fpT] at hb ⊢; omega), hs.chg hk (fun b hb => by simp [fpT] at hb ⊢; omega), by omega, hlt.1⟩)⟩, by simp [intOf]⟩
    · go_wp2_with fail
      go_ret2
      exact ⟨_, _, s0, s1, rfl, ⟨hb, hsp, hs0, hs1⟩, hc, hne, HLE.out.1, by have := HLE.out.1; omega⟩
end Go.Proofs.YtlcoibhbdgdfcaaGreatDoor

namespace Go.Proofs.YtlcoibhbdgdfcaaGreatDoor
open Go.RowKit

namespace HdA
variable {w w1 : World} {h p s0 s1 : Nat} {rv : Value} {r : List Pr} {lo hi : Int}
theorem nil (d : HdA w h p s0 s1 rv r lo hi) (k : Chg [] w w1) : HdA w1 h p s0 s1 rv r lo hi := ⟨d.blk.chg k (by simp), Blk.chg d.span k (by simp), d.st0.chg k (by simp), d.st1.chg k (by simp)⟩
theorem cells (d : HdA w h p s0 s1 rv r lo hi) : w.cell? ⟨h, 0, none⟩ = some (.int .i64 1) ∧ w.cell? ⟨h, 1, none⟩ = some (.int .u64 0) ∧ w.cell? ⟨h, 2, none⟩ = some (.pointer (some ⟨p, 0, none⟩)) ∧ w.cell? ⟨h, 3, none⟩ = some (.pointer (some ⟨s0, 0, none⟩)) ∧ w.cell? ⟨h, 4, none⟩ = some (.pointer (some ⟨s1, 0, none⟩)) ∧ w.cell? ⟨h, 5, none⟩ = some (.int .u64 0) ∧ w.cell? ⟨h, 6, none⟩ = some (.int .i64 lo) ∧ w.cell? ⟨h, 7, none⟩ = some (.int .i64 hi) :=
  ⟨d.blk.cell 0, d.blk.cell 1, d.blk.cell 2, d.blk.cell 3, d.blk.cell 4, d.blk.cell 5, d.blk.cell 6, d.blk.cell 7⟩
end HdA
set_option maxRecDepth 100000 in
set_option maxHeartbeats 2000000 in
theorem hdr_total (w : World) (h p s0 s1 : Nat) (rv : Value) (r : List Pr) (lo hi : Int) (d : HdA w h p s0 s1 rv r lo hi) (T : Nat) (hT : T = totP r) (hT2 : T ≤ 100) : Calls Tryz.prog 101 #[.pointer (some ⟨h, 0, none⟩)] w fun e w' => e = .returned (.int .u64 (T : Nat)) ∧ Chg [] w w' := by
  obtain ⟨-, -, -, c3, c4, c5, -, -⟩ := d.cells
  have H0 : Hid (∀ W, Chg [] w W → Calls Tryz.prog 100 #[.pointer (some ⟨s0, 0, none⟩)] W fun e w' => e = Ending.returned (.int .u64 0) ∧ W = w') := Lib.hid (fun W hc => strip_total W s0 _ [] (d.st0.chg (F := []) hc (by simp)))
  have H1 : Hid (∀ W, Chg [] w W → Calls Tryz.prog 100 #[.pointer (some ⟨s1, 0, none⟩)] W fun e w' => e = Ending.returned (.int .u64 (T : Nat)) ∧ W = w') := Lib.hid (fun W hc => by rw [hT]; exact strip_total W s1 rv r (d.st1.chg (F := []) hc (by simp)))
  clear d hT
  go_enter Tryz.func101, Tryz.ntmps101
  go_wp2_with fail
  go_quiet (first | (go_at_call 100; first | exact (H0.out _ (by with_reducible (repeat (first | exact Chg.refl _ _ | apply Chg.drew | apply Chg.drewN)))).mono fun e w' ⟨he, hw⟩ => ⟨he, _, hw.symm⟩ | exact (H1.out _ (by with_reducible (repeat (first | exact Chg.refl _ _ | apply Chg.drew | apply Chg.drewN)))).mono fun e w' ⟨he, hw⟩ => ⟨he, _, hw.symm⟩))
  go_wp2
  go_ret
  exact ⟨by go_num, (Chg.refl [] w).drewN _⟩
set_option maxRecDepth 100000 in
set_option maxHeartbeats 2000000 in
theorem hdr_ends5 (w : World) (h p s0 s1 : Nat) (rv : Value) (d : HdA w h p s0 s1 rv [] 0 0) : Calls Tryz.prog 233 #[.pointer (some ⟨h, 0, none⟩), .int .i64 5, .int .i64 5] w fun e w' => e = .returned (.tuple #[]) ∧ Blk w' h (hdCells p (ptr s0) (ptr s1) 5 5) 209 ∧ Chg [h] w w' := by
  have HT := Lib.hid (hdr_total w h p s0 s1 rv [] 0 0 d 0 rfl (by omega))
  have HB := Lib.hid d.blk
  clear d
  go_enter Tryz.func233, Tryz.ntmps233
  go_wp2_with fail
  refine HT.out.mono ?_
  rintro e w1 ⟨rfl, hc⟩
  have hb := HB.out.chg hc (by simp)
  have c6 := hb.cell 6
  have c7 := hb.cell 7
  have f6 := hb.free 6
  have f7 := hb.free 7
  have HB1 := Lib.hid hb
  have HC := Lib.hid hc
  clear hb hc
  go_wp2
  refine bodyPost_ret (results_none rfl _ _ _) rfl ?_
  exact ⟨rfl, (HB1.out.setCell 6 _).setCell 7 _, ((HC.out.nil).setCell (a := ⟨h, 6, none⟩) (.inl (by simp)) _).setCell (a := ⟨h, 7, none⟩) (.inl (by simp)) _⟩
set_option maxRecDepth 100000 in
set_option maxHeartbeats 2000000 in
theorem hdr_side5 (w : World) (h p s0 s1 : Nat) (rv : Value) (r : List Pr) (lo hi : Int) (d : HdA w h p s0 s1 rv r lo hi) : Calls Tryz.prog 231 #[.pointer (some ⟨h, 0, none⟩), .int .i64 5] w fun e w' => e = .returned (.tuple #[.pointer (some ⟨s1, 0, none⟩), .int .i64 5, .bool true]) ∧ Chg [] w w' := by
  have HI := Lib.hid (span_index5 w p d.span)
  have HO := Lib.hid (sign_of5 w)
  obtain ⟨-, -, c2, -, -, -, -, -⟩ := d.cells
  have HD := Lib.hid d
  clear d
  go_enter Tryz.func231, Tryz.ntmps231
  go_wp2_with fail
  refine HO.out.mono ?_
  rintro e w1 ⟨rfl, rfl⟩
  go_wp2_with fail
  refine HI.out.mono ?_
  rintro e w1 ⟨rfl, hc⟩
  obtain ⟨-, -, -, -, c4, -, -, -⟩ := (HD.out.nil hc).cells
  have HC := Lib.hid hc
  clear c2 hc
  go_wp2
  refine bodyPost_ret (v := .tuple #[.pointer (some ⟨s1, 0, none⟩), .int .i64 5, .bool true]) (by simp [results, Tryz.results231, go_sem]) rfl ?_
  exact ⟨rfl, HC.out⟩
end Go.Proofs.YtlcoibhbdgdfcaaGreatDoor
