/-
  A sketch of layer 15 in the heap; the walk of hdr.New at any config. Conditions: the form's own reach; that the powers of ten read as laid.
  The walks of layer 16 (tree), but Level and Range. Conditions: the form's own reach.
  A digest in the heap; the walks of Total, Most, limit, Nodes, New, lift (layer 17). Conditions: the form's own reach.
-/
import Derived.Test.YtmehcfocfljoeaaGreatDoorSlotsErrorsB7
import Derived.Test.YtmehcfocfljoeaaGreatDoorSlotsErrorsB15
import Derived.Test.YtmehcfocfljoeaaGreatDoorSlotsErrorsB5
import Derived.Laws.Bits64
import Derived.Test.YtmehcfocfljoeaaGreatDoorSlotsErrorsB11
import Derived.Shelf.Abstract
namespace Go.Proofs.YtmehcfocfljoeaaGreatDoor
open Go.RowKit

structure HdS (w : World) (h p s0 s1 : Nat) (r0 r1 : Value) (D : HdD) : Prop where
  blk : Blk w h #[.int .i64 (D.digits : Int), .int .u64 (D.limit : Nat), .pointer (some ⟨p, 0, none⟩), .pointer (some ⟨s0, 0, none⟩), .pointer (some ⟨s1, 0, none⟩), .int .u64 (D.zero : Nat), .int .i64 D.least, .int .i64 D.most] 217
  span : SpanS w p D.digits
  st0 : StM w s0 4096 r0 D.minus
  st1 : StM w s1 4096 r1 D.plus
  hp : h ≠ p
  h0 : h ∉ fpT s0 r0 ∧ p ∉ fpT s0 r0
  h1 : h ∉ fpT s1 r1 ∧ p ∉ fpT s1 r1
  s01 : ∀ b ∈ fpT s0 r0, b ∉ fpT s1 r1
def fpHd (h p s0 s1 : Nat) (r0 r1 : Value) : List Nat := h :: p :: (fpT s0 r0 ++ fpT s1 r1)
namespace HdS
variable {w w1 : World} {h p s0 s1 : Nat} {r0 r1 : Value} {D : HdD}
theorem lt (x : HdS w h p s0 s1 r0 r1 D) : ∀ b ∈ fpHd h p s0 s1 r0 r1, b < w.heap.size := fun b hb => by
  simp only [fpHd, List.mem_cons, List.mem_append] at hb
  rcases hb with rfl | rfl | hb | hb
  · exact x.blk.lt
  · exact Blk.lt x.span
  · exact x.st0.lt b hb
  · exact x.st1.lt b hb
theorem chg {F : List Nat} (x : HdS w h p s0 s1 r0 r1 D) (k : Chg F w w1) (hF : ∀ b ∈ fpHd h p s0 s1 r0 r1, b ∉ F) : HdS w1 h p s0 s1 r0 r1 D :=
  ⟨x.blk.chg k (hF h (by simp [fpHd])), Blk.chg x.span k (hF p (by simp [fpHd])), x.st0.chg k (fun b hb => hF b (by simp [fpHd, hb])), x.st1.chg k (fun b hb => hF b (by simp [fpHd, hb])), x.hp, x.h0, x.h1, x.s01⟩
end HdS
def HdD.new (digits limit : Nat) : HdD := ⟨digits, limit, 0, [], [], 0, 0⟩
def NewHd (w w' : World) (d : Int) (lim : Nat) (e : Ending) : Prop :=
  (¬ ((1 ≤ d ∧ d ≤ 4) ∧ lim ≤ 9223372036854775808) ∧ e = .returned (.tuple #[.pointer none, .int .i64 1]) ∧ Chg [] w w') ∨
  (((1 ≤ d ∧ d ≤ 4) ∧ lim ≤ 9223372036854775808) ∧ ∃ h p s0 s1, e = .returned (.tuple #[.pointer (some ⟨h, 0, none⟩), .int .i64 0]) ∧ HdS w' h p s0 s1 (.slice none 0 0) (.slice none 0 0) (HdD.new d.toNat lim) ∧ Chg [] w w' ∧ ∀ b ∈ fpHd h p s0 s1 (.slice none 0 0) (.slice none 0 0), w.heap.size ≤ b)
theorem stm_new4 (w : World) : Calls Tryz.prog 102 #[.int .i64 4096] w fun e w' => ∃ s, e = .returned (.tuple #[.pointer (some ⟨s, 0, none⟩), .int .i64 0]) ∧ StM w' s 4096 (.slice none 0 0) [] ∧ Chg [] w w' ∧ w.heap.size ≤ s :=
  (stm_new w 4096).mono (by
    rintro e w' (⟨h, -⟩ | ⟨-, s, rfl, h1, h2, h3⟩)
    · exact absurd (by omega) h
    · exact ⟨s, rfl, h1, h2, h3⟩)
set_option maxRecDepth 100000 in
set_option maxHeartbeats 4000000 in
theorem hdr_new (w : World) (ht : Tens4 w) (d : Int) (lim : Nat) : Calls Tryz.prog 68 #[.agg #[.int .i64 d, .int .u64 (lim : Nat)]] w fun e w' => NewHd w w' d lim e := by
  have hc0 := (Chg.refl [] w).alloc (.cells #[.int .i64 d, .int .u64 (lim : Nat)] 148)
  have b0 := Blk.alloc_new w #[.int .i64 d, .int .u64 (lim : Nat)] 148
  have HN := Lib.hid (spans_new _ (ht.chg hc0) d)
  have HC0 := Lib.hid hc0
  have HB0 := Lib.hid b0
  clear hc0 ht b0
  go_enter Tryz.func68, Tryz.ntmps68
  go_wp2_with fail
  refine HN.out.mono ?_
  rintro e w1 (⟨hno, rfl, hc1⟩ | ⟨hd, p, rfl, hsp, hc1, hp1⟩)
  · have H := Lib.hid (And.intro hno (HC0.out.trans hc1))
    clear hno hc1 HN HB0 HC0
    go_wp2
    go_ret2
    exact .inl ⟨fun h => H.out.1 h.1, rfl, H.out.2⟩
  have HB1 := Lib.hid (HB0.out.chg hc1 (by simp))
  have c0 := HB1.out.cell 0
  have c1 := HB1.out.cell 1
  simp only [List.getElem?_toArray, List.getElem?_cons_zero, List.getElem?_cons_succ] at c0 c1
  have HC1 := Lib.hid (HC0.out.trans hc1)
  have HSP2 := Lib.hid hsp
  have HD := Lib.hid hd
  have HPW := Lib.hid (show w.heap.size ≤ p from by simp only [World.size_alloc] at hp1; omega)
  clear hc1 hsp hp1 HN HB0 HC0 hd
  by_cases hl : 9223372036854775808 < lim
  · have dl : decide (9223372036854775808 < lim) = true := decide_eq_true hl
    have dl' : decide (9223372036854775808 < (lim : Int)) = true := decide_eq_true (by omega)
    have HX := Lib.hid (show ¬ lim ≤ 9223372036854775808 from by omega)
    clear hl
    go_wp2
    go_ret2
    exact .inl ⟨fun h => HX.out h.2, rfl, HC1.out⟩
  have dl : decide (9223372036854775808 < lim) = false := decide_eq_false hl
  have dl' : decide (9223372036854775808 < (lim : Int)) = false := decide_eq_false (by omega)
  have HX := Lib.hid (show lim ≤ 9223372036854775808 from by omega)
  clear hl
  have HLE := Lib.hid (show w.heap.size ≤ w1.heap.size ∧ p < w1.heap.size from ⟨HC1.out.size, Blk.lt HSP2.out⟩)
  go_wp2_with fail
  clear c0 c1 HB1 dl dl'
  obtain ⟨h, hh⟩ : ∃ z, z = w1.heap.size := ⟨_, rfl⟩
  have HH := Lib.hid hh
  have hb0 : Blk (w1.alloc (.cells #[.int .i64 d, .int .u64 (lim : Nat), .pointer (some ⟨p, 0, none⟩), .pointer none, .pointer none, .int .u64 0, .int .i64 0, .int .i64 0] 217)) h #[.int .i64 d, .int .u64 (lim : Nat), .pointer (some ⟨p, 0, none⟩), .pointer none, .pointer none, .int .u64 0, .int .i64 0, .int .i64 0] 217 := by rw [hh]; exact Blk.alloc_new _ _ _
  rw [← hh]
  have HB00 := Lib.hid hb0
  clear hb0 hh
  go_loopw [25] (fun i wx => Chg [] w wx ∧ SpanS wx p d.toNat ∧ ((i = .int .i64 0 ∧ Blk wx h #[.int .i64 d, .int .u64 (lim : Nat), .pointer (some ⟨p, 0, none⟩), .pointer none, .pointer none, .int .u64 0, .int .i64 0, .int .i64 0] 217) ∨
      (i = .int .i64 1 ∧ ∃ s0, Blk wx h #[.int .i64 d, .int .u64 (lim : Nat), .pointer (some ⟨p, 0, none⟩), .pointer (some ⟨s0, 0, none⟩), .pointer none, .int .u64 0, .int .i64 0, .int .i64 0] 217 ∧ StM wx s0 4096 (.slice none 0 0) [] ∧ h < s0) ∨
      (i = .int .i64 2 ∧ ∃ s0 s1, Blk wx h #[.int .i64 d, .int .u64 (lim : Nat), .pointer (some ⟨p, 0, none⟩), .pointer (some ⟨s0, 0, none⟩), .pointer (some ⟨s1, 0, none⟩), .int .u64 0, .int .i64 0, .int .i64 0] 217 ∧ StM wx s0 4096 (.slice none 0 0) [] ∧ StM wx s1 4096 (.slice none 0 0) [] ∧ s0 ≠ s1 ∧ h < s0 ∧ h < s1))) (fun i _ => 2 - (intOf i).toNat)
  case atStart => exact ⟨HC1.out.alloc _, Blk.chg HSP2.out ((Chg.refl [] _).alloc _) (by simp), .inl ⟨rfl, HB00.out⟩⟩
  case round =>
    obtain ⟨hc, hsp, ⟨rfl, hb⟩ | ⟨rfl, s0, hb, hs0, hl0⟩ | ⟨rfl, s0, s1, hb, hs0, hs1, hne, hl0, hl1⟩⟩ := hrel
    · have HC := Lib.hid hc
      have HSP := Lib.hid hsp
      have HB := Lib.hid hb
      clear hc hsp hb
      go_wp2_with fail
      go_region_with (go_at_call 102; refine (stm_new4 _).mono ?_; rintro e w2 ⟨s, rfl, hs, hc2, hl⟩; have f3 := (HB.out.drew.chg hc2 (by simp)).free 3; have c3 : w2.cell? ⟨h, 3, none⟩ = some (.pointer none) := (HB.out.drew.chg hc2 (by simp)).cell 3)
      all_goals
        have HHH := HB.out.drew.chg hc2 (by simp)
        have hlt : h < s := by have := HB.out.lt; simp only [World.size_drew] at hl; omega
        have hk : Chg [h] w2 (w2.setCell ⟨h, 3, none⟩ (.pointer (some ⟨s, 0, none⟩))) := (Chg.refl _ _).setCell (a := ⟨h, 3, none⟩) (.inl (by simp)) _
        go_wp2
        refine ⟨⟨((HC.out.drew).trans hc2).trans' hk (fun b hb => .inr (by simp at hb; rw [hb, HH.out]; exact HLE.out.1)), Blk.chg (Blk.chg HSP.out ((Chg.refl [] wr).drew.trans hc2) (by simp)) hk (by simp; have := HLE.out.2; have := HH.out; omega), .inr (.inl ⟨rfl, s, HHH.setCell 3 _, hs.chg hk (by simp [fpT]; omega), hlt⟩)⟩, by simp [intOf]⟩
    · have HC := Lib.hid hc
      have HSP := Lib.hid hsp
      have HB := Lib.hid hb
      have HS0 := Lib.hid hs0
      clear hc hsp hb hs0
      go_wp2_with fail
      go_region_with (go_at_call 102; refine (stm_new4 _).mono ?_; rintro e w2 ⟨s, rfl, hs, hc2, hl⟩; have f3 := (HB.out.drew.chg hc2 (by simp)).free 4; have c3 : w2.cell? ⟨h, 4, none⟩ = some (.pointer none) := (HB.out.drew.chg hc2 (by simp)).cell 4)
      all_goals
        have HHH := HB.out.drew.chg hc2 (by simp)
        have hlt : h < s ∧ s0 < s := by have := HB.out.lt; have := HS0.out.blk.lt; simp only [World.size_drew] at hl; omega
        have hk : Chg [h] w2 (w2.setCell ⟨h, 4, none⟩ (.pointer (some ⟨s, 0, none⟩))) := (Chg.refl _ _).setCell (a := ⟨h, 4, none⟩) (.inl (by simp)) _
        go_wp2
        refine ⟨⟨((HC.out.drew).trans hc2).trans' hk (fun b hb => .inr (by simp at hb; rw [hb, HH.out]; exact HLE.out.1)), Blk.chg (Blk.chg HSP.out ((Chg.refl [] wr).drew.trans hc2) (by simp)) hk (by simp; have := HLE.out.2; have := HH.out; omega), .inr (.inr ⟨rfl, s0, s, HHH.setCell 4 _, (HS0.out.chg ((Chg.refl [] wr).drew.trans hc2) (by simp)).chg hk (by simp [fpT]; omega), hs.chg hk (by simp [fpT]; omega), by omega, hl0, hlt.1⟩)⟩, by simp [intOf]⟩
    · go_wp2_with fail
      go_ret2
      have e0 := HH.out
      have e1 := HLE.out
      have ed : ((d.toNat : Nat) : Int) = d := by have := HD.out; omega
      refine .inr ⟨⟨HD.out, HX.out⟩, h, p, s0, s1, rfl, ⟨by simp only [HdD.new, ed]; exact hb, hsp, hs0, hs1, by omega, by simp [fpT]; omega, by simp [fpT]; omega, by simp [fpT]; omega⟩, hc, fun b hb => ?_⟩
      simp only [fpHd, fpT, blkOf_none, List.mem_cons, List.mem_append, List.not_mem_nil, or_false] at hb
      have := HPW.out
      omega
end Go.Proofs.YtmehcfocfljoeaaGreatDoor

namespace Go.Proofs.YtmehcfocfljoeaaGreatDoor
open Go.RowKit

theorem bits_xor_i64_nat (a b : Nat) (ha : a < 9223372036854775808) (hb : b < 9223372036854775808) :
    bits .xor .i64 (a : Int) (b : Int) = ((a ^^^ b : Nat) : Int) := by
  have hx : a ^^^ b < 2 ^ 63 := Nat.xor_lt_two_pow (by omega) (by omega)
  have h1 : (BitVec.ofInt 64 (a : Int)).toNat = a := by
    rw [BitVec.ofInt_natCast, BitVec.toNat_ofNat]; exact Nat.mod_eq_of_lt (by omega)
  have h2 : (BitVec.ofInt 64 (b : Int)).toNat = b := by
    rw [BitVec.ofInt_natCast, BitVec.toNat_ofNat]; exact Nat.mod_eq_of_lt (by omega)
  show IntKind.i64.wrap ((BitVec.ofInt 64 (a : Int) ^^^ BitVec.ofInt 64 (b : Int)).toNat : Int) = _
  rw [BitVec.toNat_xor, h1, h2]
  have hw : ∀ n : Int, IntKind.i64.wrap n = (n + 9223372036854775808) % 18446744073709551616 - 9223372036854775808 := fun n => by simp [IntKind.wrap, IntKind.bits, IntKind.signed]; split <;> omega
  rw [hw]
  omega
theorem xor_one (a : Nat) : a ^^^ 1 = if a % 2 = 1 then a - 1 else a + 1 := by
  have h1 : (a ^^^ 1) / 2 = a / 2 := by
    have := Nat.xor_div_two_pow (a := a) (b := 1) (n := 1)
    simpa using this
  have h2 : (a ^^^ 1) % 2 = (a + 1) % 2 := by
    have := Nat.xor_mod_two_pow (a := a) (b := 1) (n := 1)
    rw [Nat.pow_one] at this
    have e0 : (0 : Nat) ^^^ 1 % 2 = 1 := by decide
    have e1 : (1 : Nat) ^^^ 1 % 2 = 0 := by decide
    rcases Nat.mod_two_eq_zero_or_one a with h | h
    · rw [h, e0] at this; omega
    · rw [h, e1] at this; omega
  split <;> omega
theorem bes_xor {v : Int} (h : 2 ≤ v) (h2 : v < 9223372036854775808) : bits .xor .i64 v 1 = bes v := by
  obtain ⟨n, rfl⟩ := Int.eq_ofNat_of_zero_le (show 0 ≤ v by omega)
  have e := bits_xor_i64_nat n 1 (by omega) (by omega)
  rw [show ((1 : Nat) : Int) = 1 from rfl] at e
  rw [e, xor_one]
  unfold bes
  split <;> split <;> omega
theorem depths {d : Nat} (h1 : 1 ≤ d) (h2 : d ≤ 24) : d = 1 ∨ d = 2 ∨ d = 3 ∨ d = 4 ∨ d = 5 ∨ d = 6 ∨ d = 7 ∨ d = 8 ∨ d = 9 ∨ d = 10 ∨ d = 11 ∨ d = 12 ∨ d = 13 ∨ d = 14 ∨ d = 15 ∨ d = 16 ∨ d = 17 ∨ d = 18 ∨ d = 19 ∨ d = 20 ∨ d = 21 ∨ d = 22 ∨ d = 23 ∨ d = 24 := by omega
theorem two_d {d : Nat} (h1 : 1 ≤ d) (h2 : d ≤ 24) : 2 ≤ 2 ^ d ∧ 2 ^ d ≤ 16777216 ∧ 2 ^ d % 2 = 0 := by
  rcases depths h1 h2 with rfl | rfl | rfl | rfl | rfl | rfl | rfl | rfl | rfl | rfl | rfl | rfl | rfl | rfl | rfl | rfl | rfl | rfl | rfl | rfl | rfl | rfl | rfl | rfl <;> decide
set_option maxRecDepth 100000 in
theorem tree_leaves (w : World) (d P : Nat) (h1 : 1 ≤ d) (h2 : d ≤ 24) (hP : P = 2 ^ d) :
    Calls Tryz.prog 149 #[.agg #[.int .i64 (d : Nat)]] w fun e w' => e = .returned (.int .i64 (P : Nat)) ∧ Chg [] w w' := by
  have hc := (Chg.refl [] w).alloc (.cells #[.int .i64 (d : Nat)] 221)
  have hb := Blk.alloc_new w #[.int .i64 (d : Nat)] 221
  have b0 := hb.cell 0
  subst hP
  rcases depths h1 h2 with rfl | rfl | rfl | rfl | rfl | rfl | rfl | rfl | rfl | rfl | rfl | rfl | rfl | rfl | rfl | rfl | rfl | rfl | rfl | rfl | rfl | rfl | rfl | rfl
  all_goals
    go_enter Tryz.func149, Tryz.ntmps149
    go_wp2
    go_ret
    exact ⟨rfl, hc⟩

set_option maxRecDepth 100000 in
set_option maxHeartbeats 1000000 in
theorem tree_good (w : World) (d P : Nat) (h1 : 1 ≤ d) (h2 : d ≤ 24) (hP : P = 2 ^ d) (v : Int) (_hv : v < 9223372036854775808) :
    Calls Tryz.prog 148 #[.agg #[.int .i64 (d : Nat)], .int .i64 v] w fun e w' => e = .returned (.bool (decide (1 ≤ v ∧ v < 2 * (P : Int)))) ∧ Chg [] w w' := by
  obtain ⟨p1, p2, p3⟩ := two_d h1 h2
  rw [← hP] at p1 p2 p3
  have HLV := Lib.hid (fun u => tree_leaves u d P h1 h2 hP)
  have HB := Lib.hid (Blk.alloc_new w #[.int .i64 (d : Nat)] 221)
  have HC := Lib.hid ((Chg.refl [] w).alloc (.cells #[.int .i64 (d : Nat)] 221))
  have b0 := HB.out.cell 0
  clear hP h1 h2
  by_cases hv1 : 1 ≤ v
  · have d1 : decide ((1 : Int) ≤ v) = true := decide_eq_true hv1
    obtain ⟨Q, hQ⟩ : ∃ Q : Bool, Q = decide (1 ≤ v ∧ v < 2 * (P : Int)) := ⟨_, rfl⟩
    rw [← hQ]
    have d2 : decide (v < 2 * (P : Int)) = Q := by rw [hQ]; simp [hv1]
    have hw : IntKind.i64.wrap (2 * (P : Int)) = 2 * (P : Int) := by rw [IntKind.wrap_i64]; omega
    clear hQ
    go_enter Tryz.func148, Tryz.ntmps148
    go_wp2_with fail
    refine (HLV.out _).mono ?_
    rintro e w1 ⟨rfl, hc1⟩
    go_wp2_with fail
    go_ret
    exact ⟨rfl, HC.out.trans hc1⟩
  · have d1 : decide ((1 : Int) ≤ v) = false := decide_eq_false hv1
    have d2 : decide (1 ≤ v ∧ v < 2 * (P : Int)) = false := decide_eq_false (fun h => hv1 h.1)
    rw [d2]
    go_enter Tryz.func148, Tryz.ntmps148
    go_wp2_with fail
    go_ret
    exact ⟨rfl, HC.out⟩

set_option maxRecDepth 100000 in
set_option maxHeartbeats 1000000 in
theorem tree_leaf (w : World) (d P : Nat) (h1 : 1 ≤ d) (h2 : d ≤ 24) (hP : P = 2 ^ d) (x : Int) (hx : 0 ≤ x) (hx2 : x < P) :
    Calls Tryz.prog 151 #[.agg #[.int .i64 (d : Nat)], .int .i64 x] w fun e w' => e = .returned (.tuple #[.int .i64 ((P : Int) + x), .bool true]) ∧ Chg [] w w' := by
  obtain ⟨p1, p2, p3⟩ := two_d h1 h2
  rw [← hP] at p1 p2 p3
  have HLV := Lib.hid (fun u => tree_leaves u d P h1 h2 hP)
  have HB := Lib.hid (Blk.alloc_new w #[.int .i64 (d : Nat)] 221)
  have HC := Lib.hid ((Chg.refl [] w).alloc (.cells #[.int .i64 (d : Nat)] 221))
  have b0 := HB.out.cell 0
  clear hP h1 h2
  have d1 : decide (x < 0) = false := decide_eq_false (by omega)
  have d2 : decide ((P : Int) ≤ x) = false := decide_eq_false (by omega)
  have hw : IntKind.i64.wrap ((P : Int) + x) = (P : Int) + x := by rw [IntKind.wrap_i64]; omega
  go_enter Tryz.func151, Tryz.ntmps151
  go_wp2_with fail
  refine (HLV.out _).mono ?_
  rintro e w1 ⟨rfl, hc1⟩
  have b0' := (HB.out.chg hc1 (by simp)).cell 0
  simp only [List.getElem?_toArray, List.getElem?_cons_zero] at b0'
  go_wp2_with fail
  refine (HLV.out _).mono ?_
  rintro e w2 ⟨rfl, hc2⟩
  go_wp2_with fail
  go_ret2
  exact ⟨rfl, (HC.out.trans hc1).trans hc2⟩

set_option maxRecDepth 100000 in
set_option maxHeartbeats 1000000 in
theorem tree_leaf_out (w : World) (d P : Nat) (h1 : 1 ≤ d) (h2 : d ≤ 24) (hP : P = 2 ^ d) (x : Int) (hx : x < 0 ∨ P ≤ x) (hx2 : x < 9223372036854775808) :
    Calls Tryz.prog 151 #[.agg #[.int .i64 (d : Nat)], .int .i64 x] w fun e w' => e = .returned (.tuple #[.int .i64 0, .bool false]) ∧ Chg [] w w' := by
  obtain ⟨p1, p2, p3⟩ := two_d h1 h2
  rw [← hP] at p1 p2 p3
  have HLV := Lib.hid (fun u => tree_leaves u d P h1 h2 hP)
  have HB := Lib.hid (Blk.alloc_new w #[.int .i64 (d : Nat)] 221)
  have HC := Lib.hid ((Chg.refl [] w).alloc (.cells #[.int .i64 (d : Nat)] 221))
  have b0 := HB.out.cell 0
  clear hP h1 h2
  by_cases h0 : x < 0
  · have d1 : decide (x < 0) = true := decide_eq_true h0
    go_enter Tryz.func151, Tryz.ntmps151
    go_wp2_with fail
    go_ret2
    exact ⟨rfl, HC.out⟩
  · have d1 : decide (x < 0) = false := decide_eq_false h0
    have d2 : decide ((P : Int) ≤ x) = true := decide_eq_true (by omega)
    go_enter Tryz.func151, Tryz.ntmps151
    go_wp2_with fail
    refine (HLV.out _).mono ?_
    rintro e w1 ⟨rfl, hc1⟩
    go_wp2_with fail
    go_ret2
    exact ⟨rfl, HC.out.trans hc1⟩

set_option maxRecDepth 100000 in
set_option maxHeartbeats 1000000 in
theorem tree_up (w : World) (d P : Nat) (h1 : 1 ≤ d) (h2 : d ≤ 24) (hP : P = 2 ^ d) (v : Int) (hv : 1 ≤ v) (hv2 : v < 2 * (P : Int)) :
    Calls Tryz.prog 316 #[.agg #[.int .i64 (d : Nat)], .int .i64 v] w fun e w' => e = .returned (.int .i64 (v / 2)) ∧ Chg [] w w' := by
  obtain ⟨p1, p2, p3⟩ := two_d h1 h2
  rw [← hP] at p1 p2 p3
  have HLV := Lib.hid (fun u => tree_leaves u d P h1 h2 hP)
  have HB := Lib.hid (Blk.alloc_new w #[.int .i64 (d : Nat)] 221)
  have HC := Lib.hid ((Chg.refl [] w).alloc (.cells #[.int .i64 (d : Nat)] 221))
  have b0 := HB.out.cell 0
  have HGD := Lib.hid (fun u => tree_good u d P h1 h2 hP v (by omega))
  rw [decide_eq_true (show 1 ≤ v ∧ v < 2 * (P : Int) from ⟨hv, hv2⟩)] at HGD
  clear hP h1 h2
  have hq : v.tdiv 2 = v / 2 := Int.tdiv_eq_ediv_of_nonneg (by omega)
  have hw : IntKind.i64.wrap (v / 2) = v / 2 := by rw [IntKind.wrap_i64]; omega
  go_enter Tryz.func316, Tryz.ntmps316
  go_wp2_with fail
  refine (HGD.out _).mono ?_
  rintro e w1 ⟨rfl, hc1⟩
  go_wp2_with fail
  go_ret
  exact ⟨rfl, HC.out.trans hc1⟩

set_option maxRecDepth 100000 in
set_option maxHeartbeats 1000000 in
theorem tree_beside (w : World) (d P : Nat) (h1 : 1 ≤ d) (h2 : d ≤ 24) (hP : P = 2 ^ d) (v : Int) (hv : 2 ≤ v) (hv2 : v < 2 * (P : Int)) :
    Calls Tryz.prog 315 #[.agg #[.int .i64 (d : Nat)], .int .i64 v] w fun e w' => e = .returned (.int .i64 (bes v)) ∧ Chg [] w w' := by
  obtain ⟨p1, p2, p3⟩ := two_d h1 h2
  rw [← hP] at p1 p2 p3
  have HLV := Lib.hid (fun u => tree_leaves u d P h1 h2 hP)
  have HB := Lib.hid (Blk.alloc_new w #[.int .i64 (d : Nat)] 221)
  have HC := Lib.hid ((Chg.refl [] w).alloc (.cells #[.int .i64 (d : Nat)] 221))
  have b0 := HB.out.cell 0
  have HGD := Lib.hid (fun u => tree_good u d P h1 h2 hP v (by omega))
  rw [decide_eq_true (show 1 ≤ v ∧ v < 2 * (P : Int) from ⟨by omega, hv2⟩)] at HGD
  clear hP h1 h2
  have d1 : (v == 1) = false := by rw [beq_eq_false_iff_ne]; omega
  have HX := Lib.hid (bes_xor hv (by omega))
  go_enter Tryz.func315, Tryz.ntmps315
  go_wp2_with fail
  refine (HGD.out _).mono ?_
  rintro e w1 ⟨rfl, hc1⟩
  go_wp2_with fail
  go_ret
  rw [← HX.out]
  exact ⟨rfl, HC.out.trans hc1⟩

set_option maxRecDepth 100000 in
set_option maxHeartbeats 1000000 in
theorem tree_beside1 (w : World) (d P : Nat) (h1 : 1 ≤ d) (h2 : d ≤ 24) (hP : P = 2 ^ d) :
    Calls Tryz.prog 315 #[.agg #[.int .i64 (d : Nat)], .int .i64 1] w fun e w' => e = .returned (.int .i64 0) ∧ Chg [] w w' := by
  obtain ⟨p1, p2, p3⟩ := two_d h1 h2
  rw [← hP] at p1 p2 p3
  have HLV := Lib.hid (fun u => tree_leaves u d P h1 h2 hP)
  have HB := Lib.hid (Blk.alloc_new w #[.int .i64 (d : Nat)] 221)
  have HC := Lib.hid ((Chg.refl [] w).alloc (.cells #[.int .i64 (d : Nat)] 221))
  have b0 := HB.out.cell 0
  have HGD := Lib.hid (fun u => tree_good u d P h1 h2 hP 1 (by omega))
  rw [decide_eq_true (show (1 : Int) ≤ 1 ∧ (1 : Int) < 2 * (P : Int) from ⟨by omega, by omega⟩)] at HGD
  clear hP h1 h2
  go_enter Tryz.func315, Tryz.ntmps315
  go_wp2_with fail
  refine (HGD.out _).mono ?_
  rintro e w1 ⟨rfl, hc1⟩
  go_wp2_with fail
  go_ret
  exact ⟨rfl, HC.out.trans hc1⟩

set_option maxRecDepth 100000 in
theorem tree_new (w : World) (d : Int) :
    Calls Tryz.prog 103 #[.int .i64 d] w fun e w' => e = .returned (.tuple #[.agg #[.int .i64 (if 1 ≤ d ∧ d ≤ 24 then d else 0)], .int .i64 (if 1 ≤ d ∧ d ≤ 24 then 0 else 1)]) ∧ Chg [] w w' := by
  have hb := Blk.alloc_new w #[.int .i64 0] 221
  have f0 := hb.free 0
  have c0 := hb.cell 0
  have hc := (Chg.refl [] w).alloc (.cells #[.int .i64 0] 221)
  by_cases h1 : d < 1
  · have d1 : decide (d < 1) = true := decide_eq_true h1
    rw [if_neg (by omega), if_neg (by omega)]
    go_enter Tryz.func103, Tryz.ntmps103
    go_wp2_with fail
    refine bodyPost_ret (v := .tuple #[.agg #[.int .i64 0], .int .i64 1]) (by simp [results, Tryz.results103, go_sem, c0]) rfl ⟨rfl, ?_⟩
    with_reducible (repeat (first | exact hc | exact Chg.refl _ _ | apply Chg.alloc))
  · have d1 : decide (d < 1) = false := decide_eq_false h1
    by_cases h2 : d ≤ 24
    · have d2 : decide (24 < d) = false := decide_eq_false (by omega)
      rw [if_pos (by omega), if_pos (by omega)]
      go_enter Tryz.func103, Tryz.ntmps103
      go_wp2_with fail
      have y0 := (Blk.alloc_new w #[.int .i64 d] 221).cell 0
      refine bodyPost_ret (v := .tuple #[.agg #[.int .i64 d], .int .i64 0]) (by simp [results, Tryz.results103, go_sem, y0]) rfl ⟨rfl, ?_⟩
      with_reducible (repeat (first | exact hc | exact Chg.refl _ _ | apply Chg.alloc))
    · have d2 : decide (24 < d) = true := decide_eq_true (by omega)
      rw [if_neg (by omega), if_neg (by omega)]
      go_enter Tryz.func103, Tryz.ntmps103
      go_wp2_with fail
      refine bodyPost_ret (v := .tuple #[.agg #[.int .i64 0], .int .i64 1]) (by simp [results, Tryz.results103, go_sem, c0]) rfl ⟨rfl, ?_⟩
      with_reducible (repeat (first | exact hc | exact Chg.refl _ _ | apply Chg.alloc))
end Go.Proofs.YtmehcfocfljoeaaGreatDoor

namespace Go.Proofs.YtmehcfocfljoeaaGreatDoor
open Go.RowKit

structure DgD where
  depth : Nat
  factor : Nat
  row : List Pr
  least : Int
  most : Int
def DgD.top (D : DgD) : Int := 2 * ((2 ^ D.depth : Nat) : Int)
def dgCells (s : Nat) (D : DgD) : Array Value := #[.int .i64 (D.depth : Nat), .int .i64 (D.factor : Nat), .int .i64 (D.depth : Nat), .pointer (some ⟨s, 0, none⟩), .int .i64 D.least, .int .i64 D.most]
/-- What is so of each digest. -/
structure DgD.ok (D : DgD) : Prop where
  d1 : 1 ≤ D.depth
  d2 : D.depth ≤ 24
  f1 : 1 ≤ D.factor
  f2 : D.factor ≤ 64
  nodes : Nodes D.row D.top
  tot : totP D.row ≤ 9223372036854775807
  len : D.row.length ≤ 1000
structure Dg (w : World) (p s : Nat) (rv : Value) (D : DgD) : Prop where
  blk : Blk w p (dgCells s D) 225
  strip : Spt w s rv D.row
  ne : p ≠ s
def fpD (p s : Nat) (rv : Value) : List Nat := p :: fpT s rv
namespace Dg
variable {w w1 : World} {p s : Nat} {rv : Value} {D : DgD}
theorem p_fp (h : Dg w p s rv D) : p ∉ fpT s rv := by
  intro hb
  simp only [fpT, List.mem_cons] at hb
  rcases hb with hb | hb
  · exact h.ne hb
  · exact h.strip.row.ne_blk h.blk (by decide) hb
theorem lt (h : Dg w p s rv D) : ∀ b ∈ fpD p s rv, b < w.heap.size := by
  intro b hb
  simp only [fpD, List.mem_cons] at hb
  rcases hb with rfl | hb
  · exact h.blk.lt
  · exact h.strip.lt b hb
theorem chg {F : List Nat} (h : Dg w p s rv D) (k : Chg F w w1) (hF : ∀ b ∈ fpD p s rv, b ∉ F) : Dg w1 p s rv D :=
  ⟨h.blk.chg k (hF p (by simp [fpD])), h.strip.chg k (fun b hb => hF b (by simp [fpD, hb])), h.ne⟩
theorem cells (h : Dg w p s rv D) : w.cell? ⟨p, 0, none⟩ = some (.int .i64 (D.depth : Nat)) ∧ w.cell? ⟨p, 1, none⟩ = some (.int .i64 (D.factor : Nat)) ∧ w.cell? ⟨p, 2, none⟩ = some (.int .i64 (D.depth : Nat)) ∧ w.cell? ⟨p, 3, none⟩ = some (.pointer (some ⟨s, 0, none⟩)) ∧ w.cell? ⟨p, 4, none⟩ = some (.int .i64 D.least) ∧ w.cell? ⟨p, 5, none⟩ = some (.int .i64 D.most) :=
  ⟨h.blk.cell 0, h.blk.cell 1, h.blk.cell 2, h.blk.cell 3, h.blk.cell 4, h.blk.cell 5⟩
/-- Another strip is set. -/
theorem set (h : Dg w p s rv D) {s2 : Nat} {rv2 : Value} {r2 : List Pr} (k : Chg [] w w1) (ho : Spt w1 s2 rv2 r2) (hf : ∀ b ∈ fpT s2 rv2, w.heap.size ≤ b) :
    Dg (w1.setCell ⟨p, 3, none⟩ (.pointer (some ⟨s2, 0, none⟩))) p s2 rv2 { D with row := r2 } ∧ Mv (fpD p s rv) w (fpD p s2 rv2) (w1.setCell ⟨p, 3, none⟩ (.pointer (some ⟨s2, 0, none⟩))) := by
  have hb := h.blk.chg k (by simp)
  have hlt := h.blk.lt
  have k2 : Chg [p] w1 (w1.setCell ⟨p, 3, none⟩ (.pointer (some ⟨s2, 0, none⟩))) := (Chg.refl _ w1).setCell (a := ⟨p, 3, none⟩) (.inl (by simp)) _
  refine ⟨⟨hb.setCell 3 _, ho.chg k2 (fun b hb2 e => by simp at e; subst e; have := hf _ hb2; omega), fun e => by have := hf s2 (by simp [fpT]); omega⟩, ?_, ?_⟩
  · exact ((k.nil (F := fpD p s rv)).setCell (a := ⟨p, 3, none⟩) (.inl (by simp [fpD])) _)
  · intro b hb2
    simp only [fpD, List.mem_cons] at hb2 ⊢
    rcases hb2 with rfl | hb2
    · exact .inl (.inl rfl)
    · exact .inr (hf b hb2)
/-- The strip goes on. -/
theorem go (h : Dg w p s rv D) {rv2 : Value} {r2 : List Pr} (ho : Spt w1 s rv2 r2) (k : Mv (fpT s rv) w (fpT s rv2) w1) : Dg w1 p s rv2 { D with row := r2 } ∧ Mv (fpD p s rv) w (fpD p s rv2) w1 := by
  refine ⟨⟨h.blk.chg k.chg h.p_fp, ho, h.ne⟩, k.chg.mono (fun b hb => .inl (by simp [fpD, hb])), fun b hb => ?_⟩
  simp only [fpD, List.mem_cons] at hb ⊢
  rcases hb with rfl | hb
  · exact .inl (.inl rfl)
  · rcases k.fr b hb with h1 | h1
    · exact .inl (.inr h1)
    · exact .inr h1
end Dg
set_option maxRecDepth 100000 in
theorem dg_total (w : World) (p s : Nat) (rv : Value) (D : DgD) (h : Dg w p s rv D) : Calls Tryz.prog 186 #[.pointer (some ⟨p, 0, none⟩)] w fun e w' => e = .returned (.int .u64 (totP D.row : Nat)) ∧ w = w' := by
  obtain ⟨-, -, -, c3, -, -⟩ := h.cells
  have HT := Lib.hid (strip_total w s rv D.row h.strip)
  clear h
  go_enter Tryz.func186, Tryz.ntmps186
  go_wp2_with fail
  refine HT.out.mono ?_
  rintro e w1 ⟨rfl, rfl⟩
  go_wp2_with fail
  go_ret
  exact ⟨rfl, rfl⟩
set_option maxRecDepth 100000 in
theorem dg_most (w : World) (p s : Nat) (rv : Value) (D : DgD) (h : Dg w p s rv D) (hf : D.factor ≤ 64) : Calls Tryz.prog 152 #[.pointer (some ⟨p, 0, none⟩)] w fun e w' => e = .returned (.int .i64 ((4 * D.factor : Nat) : Int)) ∧ w = w' := by
  obtain ⟨-, c1, -, -, -, -⟩ := h.cells
  have hw : IntKind.i64.wrap (4 * (D.factor : Int)) = ((4 * D.factor : Nat) : Int) := by rw [IntKind.wrap_i64]; omega
  go_enter Tryz.func152, Tryz.ntmps152
  go_wp2_with fail
  go_ret
  exact ⟨rfl, rfl⟩
set_option maxRecDepth 100000 in
set_option maxHeartbeats 1000000 in
theorem dg_limit (w : World) (p s : Nat) (rv : Value) (D : DgD) (h : Dg w p s rv D) (hok : D.ok) (L : Nat) (hL : L = totP D.row / D.factor) : Calls Tryz.prog 150 #[.pointer (some ⟨p, 0, none⟩)] w fun e w' => e = .returned (.int .u64 (L : Nat)) ∧ Chg [] w w' := by
  obtain ⟨-, c1, -, -, -, -⟩ := h.cells
  have hf1 := hok.f1
  have hf2 := hok.f2
  have htt := hok.tot
  have HT := Lib.hid (fun u (hu : Chg [] w u) => dg_total u p s rv D (h.chg hu (by simp)))
  obtain ⟨T, hT⟩ : ∃ T, T = totP D.row := ⟨_, rfl⟩
  obtain ⟨f, hf⟩ : ∃ f, f = D.factor := ⟨_, rfl⟩
  rw [← hT] at HT htt hL
  rw [← hf] at c1 hL hf1 hf2
  have hw : IntKind.u64.wrap (f : Int) = (f : Int) := IntWalk.u64_in _ (by omega)
  have hq : (T : Int).tdiv (f : Int) = (L : Int) := by rw [Int.tdiv_eq_ediv_of_nonneg (by omega), hL]; rfl
  have hl : L ≤ T := by rw [hL]; exact Nat.div_le_self _ _
  have hwl : IntKind.u64.wrap (L : Int) = (L : Int) := IntWalk.u64_in _ (by omega)
  have hq2 : (T : Int) / (f : Int) = (L : Int) := by rw [hL]; rfl
  have hz : ((f : Int) == 0) = false := by rw [beq_eq_false_iff_ne]; omega
  clear h hok hL hT hf
  go_enter Tryz.func150, Tryz.ntmps150
  go_wp2_with fail
  go_region_with (first | (go_at_call 186; refine (HT.out _ (by with_reducible (repeat (first | exact Chg.refl _ _ | apply Chg.drew)))).mono ?_; rintro e w1 ⟨rfl, rfl⟩))
  all_goals
    go_wp2_with fail
    go_ret
    exact ⟨rfl, by with_reducible (repeat (first | exact Chg.refl _ _ | apply Chg.drew | apply Chg.drewN))⟩
set_option maxRecDepth 100000 in
theorem dg_nodes (w : World) (p s : Nat) (rv : Value) (D : DgD) (h : Dg w p s rv D) (n : Nat) (hn : n = D.row.length) (hl : n ≤ 1000) : Calls Tryz.prog 341 #[.pointer (some ⟨p, 0, none⟩)] w fun e w' => ∃ a3 c3, e = .returned (.slice a3 n c3) ∧ Own w' 286 2 (.slice a3 n c3) n (prCells D.row) ∧ Chg [] w w' ∧ ∀ b ∈ abl a3, w.heap.size ≤ b := by
  obtain ⟨-, -, -, c3, -, -⟩ := h.cells
  have HP := Lib.hid (strip_pairs w s rv D.row h.strip n hn hl)
  clear h hn
  go_enter Tryz.func341, Tryz.ntmps341
  go_wp2_with fail
  refine HP.out.mono ?_
  rintro e w1 ⟨a3, c3', rfl, h1, h2, h3⟩
  go_wp2_with fail
  go_ret
  exact ⟨a3, c3', rfl, h1, h2, h3⟩
def goodC (d f : Int) : Bool := decide ((1 ≤ d ∧ d ≤ 24) ∧ 1 ≤ f ∧ f ≤ 64)
def DgD.new (d f : Nat) : DgD := ⟨d, f, [], 0, 0⟩
set_option maxRecDepth 100000 in
set_option maxHeartbeats 1000000 in
theorem dg_new (w : World) (d f : Int) :
    Calls Tryz.prog 69 #[.agg #[.int .i64 d, .int .i64 f]] w fun e w' => (goodC d f = false ∧ e = .returned (.tuple #[.pointer none, .int .i64 1]) ∧ Chg [] w w') ∨
      (goodC d f = true ∧ ∃ p s, e = .returned (.tuple #[.pointer (some ⟨p, 0, none⟩), .int .i64 0]) ∧ Dg w' p s (.slice none 0 0) (DgD.new d.toNat f.toNat) ∧ Chg [] w w' ∧ ∀ b ∈ fpD p s (.slice none 0 0), w.heap.size ≤ b) := by
  have HB := Lib.hid (Blk.alloc_new w #[.int .i64 d, .int .i64 f] 155)
  have HC := Lib.hid ((Chg.refl [] w).alloc (.cells #[.int .i64 d, .int .i64 f] 155))
  have HT := Lib.hid (fun u => tree_new u d)
  have b0 := HB.out.cell 0
  have b1 := HB.out.cell 1
  by_cases hd : 1 ≤ d ∧ d ≤ 24
  case neg =>
    have HG := Lib.hid (show goodC d f = false from decide_eq_false (fun h => hd h.1))
    rw [if_neg hd, if_neg hd] at HT
    clear hd
    go_enter Tryz.func69, Tryz.ntmps69
    go_wp2_with fail
    refine (HT.out _).mono ?_
    rintro e w1 ⟨rfl, hc1⟩
    go_wp2_with fail
    go_ret2
    exact .inl ⟨HG.out, rfl, (HC.out.trans hc1).alloc _⟩
  rw [if_pos hd, if_pos hd] at HT
  by_cases h1 : 1 ≤ f
  case neg =>
    have HG := Lib.hid (show goodC d f = false from decide_eq_false (fun h => h1 h.2.1))
    have d1 : decide (f < 1) = true := decide_eq_true (by omega)
    clear hd
    go_enter Tryz.func69, Tryz.ntmps69
    go_wp2_with fail
    refine (HT.out _).mono ?_
    rintro e w1 ⟨rfl, hc1⟩
    have b1' := (HB.out.chg hc1 (by simp)).cell 1
    have q1 := ((HB.out.chg hc1 (by simp)).alloc (.cells #[.int .i64 d] 221)).cell 1
    simp only [List.getElem?_toArray, List.getElem?_cons_zero, List.getElem?_cons_succ] at b1' q1
    go_wp2_with fail
    go_ret2
    exact .inl ⟨HG.out, rfl, (HC.out.trans hc1).alloc _⟩
  have d1 : decide (f < 1) = false := decide_eq_false (by omega)
  by_cases h2 : f ≤ 64
  case neg =>
    have HG := Lib.hid (show goodC d f = false from decide_eq_false (fun h => h2 h.2.2))
    have d2 : decide (64 < f) = true := decide_eq_true (by omega)
    clear hd
    go_enter Tryz.func69, Tryz.ntmps69
    go_wp2_with fail
    refine (HT.out _).mono ?_
    rintro e w1 ⟨rfl, hc1⟩
    have b1' := (HB.out.chg hc1 (by simp)).cell 1
    have q1 := ((HB.out.chg hc1 (by simp)).alloc (.cells #[.int .i64 d] 221)).cell 1
    simp only [List.getElem?_toArray, List.getElem?_cons_zero, List.getElem?_cons_succ] at b1' q1
    go_wp2_with fail
    go_ret2
    exact .inl ⟨HG.out, rfl, (HC.out.trans hc1).alloc _⟩
  have d2 : decide (64 < f) = false := decide_eq_false (by omega)
  have HG := Lib.hid (show goodC d f = true from decide_eq_true ⟨hd, h1, h2⟩)
  have HDF := Lib.hid (show ((d.toNat : Nat) : Int) = d ∧ ((f.toNat : Nat) : Int) = f from by omega)
  clear hd
  go_enter Tryz.func69, Tryz.ntmps69
  go_wp2_with fail
  refine (HT.out _).mono ?_
  rintro e w1 ⟨rfl, hc1⟩
  have HB1 := Lib.hid (HB.out.chg hc1 (by simp))
  have b0' := HB1.out.cell 0
  have b1' := HB1.out.cell 1
  have q1 := (HB1.out.alloc (.cells #[.int .i64 d] 221)).cell 1
  simp only [List.getElem?_toArray, List.getElem?_cons_zero, List.getElem?_cons_succ] at b0' b1' q1
  have HC1 := Lib.hid (HC.out.trans hc1)
  clear b0 b1 hc1
  go_wp2_with fail
  have HCT := Lib.hid (HC1.out.alloc (.cells #[.int .i64 d] 221))
  have HBT := Lib.hid (Blk.alloc_new w1 #[.int .i64 d] 221)
  have HB2 := Lib.hid (HB1.out.alloc (.cells #[.int .i64 d] 221))
  obtain ⟨bt, hbt⟩ : ∃ z, z = w1.heap.size := ⟨_, rfl⟩
  rw [← hbt] at HBT ⊢
  clear hbt b0' b1' q1
  generalize w1.alloc (.cells #[.int .i64 d] 221) = w2 at *
  refine (strip_new w2).mono ?_
  rintro e w3 ⟨s, rfl, hs3, hc3, hf3⟩
  have HS3 := Lib.hid hs3
  have HC3 := Lib.hid (HCT.out.trans hc3)
  have HF3 := Lib.hid (show w.heap.size ≤ s from Nat.le_trans HCT.out.size hf3)
  have t0 := (HBT.out.chg hc3 (by simp)).cell 0
  have x0 := (HB2.out.chg hc3 (by simp)).cell 0
  have x1 := (HB2.out.chg hc3 (by simp)).cell 1
  simp only [List.getElem?_toArray, List.getElem?_cons_zero, List.getElem?_cons_succ] at t0 x0 x1
  clear hs3 hc3 hf3 HB1 HBT HB2
  go_wp2_with fail
  go_ret2
  have hlt := HS3.out.blk.lt
  have hbl := Blk.alloc_new w3 #[.int .i64 d, .int .i64 f, .int .i64 d, .pointer (some ⟨s, 0, none⟩), .int .i64 0, .int .i64 0] 225
  refine .inr ⟨HG.out, w3.heap.size, s, rfl, ⟨?_, HS3.out.chg ((Chg.refl [] w3).alloc _) (by simp), by omega⟩, HC3.out.alloc _, fun b hb => ?_⟩
  · rw [dgCells, DgD.new]
    simp only
    rw [HDF.out.1, HDF.out.2]
    exact hbl
  · simp only [fpD, fpT, List.mem_cons] at hb
    rcases hb with rfl | rfl | hb
    · exact HC3.out.size
    · exact HF3.out
    · simp at hb
end Go.Proofs.YtmehcfocfljoeaaGreatDoor
