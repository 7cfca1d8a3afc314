/-
  Stores of layers 9, 10, and bins of layer 13, in the heap; the walks of their New. Conditions: the form's own reach.
  A sketch of layer 14 in the heap; the walk of logsk.New. Conditions: the form's own reach.
-/
import Derived.Test.YtmehcfocfljoeaaGreatDoorSlotsErrorsB7
import Derived.Test.YtmehcfocfljoeaaGreatDoorSlotsErrorsB8
import Derived.Test.YtmehcfocfljoeaaGreatDoorSlotsErrorsB13
namespace Go.Proofs.YtmehcfocfljoeaaGreatDoor
open Go.RowKit

def capT (hi : Bool) : Nat := if hi then 346 else 348
def capPT (hi : Bool) : Nat := if hi then 315 else 318
/-- A store in the heap: its block, its strip, its row. -/
structure CapS (w : World) (p s : Nat) (rv : Value) (D : CapD) : Prop where
  blk : Blk w p #[.int .i64 (D.m : Int), .pointer (some ⟨s, 0, none⟩), .int .u64 (D.lost : Nat)] (capT D.hi)
  st : StM w s (D.m : Int) rv D.r
  ne : p ∉ fpT s rv
def fpC (p s : Nat) (rv : Value) : List Nat := p :: fpT s rv
namespace CapS
variable {w w1 : World} {p s : Nat} {rv : Value} {D : CapD}
theorem lt (h : CapS w p s rv D) : ∀ b ∈ fpC p s rv, b < w.heap.size := fun b hb => by
  rcases List.mem_cons.1 hb with rfl | hb
  · exact h.blk.lt
  · exact h.st.lt b hb
theorem chg {F : List Nat} (h : CapS w p s rv D) (k : Chg F w w1) (hF : ∀ b ∈ fpC p s rv, b ∉ F) : CapS w1 p s rv D :=
  ⟨h.blk.chg k (hF p (by simp [fpC])), h.st.chg k (fun b hb => hF b (by simp [fpC, hb])), h.ne⟩
theorem cells (h : CapS w p s rv D) : w.cell? ⟨p, 0, none⟩ = some (.int .i64 (D.m : Int)) ∧ w.cell? ⟨p, 1, none⟩ = some (.pointer (some ⟨s, 0, none⟩)) ∧ w.cell? ⟨p, 2, none⟩ = some (.int .u64 (D.lost : Nat)) := ⟨h.blk.cell 0, h.blk.cell 1, h.blk.cell 2⟩
end CapS
/-- What New of a store answers. -/
def NewCap (w w' : World) (hi : Bool) (most : Int) (e : Ending) : Prop :=
  (¬ (1 ≤ most ∧ most ≤ 4096) ∧ e = .returned (.tuple #[.pointer none, .int .i64 1]) ∧ Chg [] w w') ∨
  ((1 ≤ most ∧ most ≤ 4096) ∧ ∃ p s, e = .returned (.tuple #[.pointer (some ⟨p, 0, none⟩), .int .i64 0]) ∧ CapS w' p s (.slice none 0 0) ⟨hi, most.toNat, [], 0⟩ ∧ Chg [] w w' ∧ ∀ b ∈ fpC p s (.slice none 0 0), w.heap.size ≤ b)
set_option maxRecDepth 100000 in
set_option maxHeartbeats 1000000 in
theorem low_new (w : World) (most : Int) : Calls Tryz.prog 180 #[.int .i64 most] w fun e w' => NewCap w w' false most e := by
  have HN := Lib.hid (stm_new w most)
  go_enter Tryz.func180, Tryz.ntmps180
  go_wp2_with fail
  refine HN.out.mono ?_
  rintro e w1 (⟨hno, rfl, hc⟩ | ⟨hm, s, rfl, hs, hc, hf⟩)
  · have H := Lib.hid (And.intro hno hc)
    clear hno hc HN
    go_wp2
    go_ret2
    exact .inl ⟨H.out.1, rfl, H.out.2⟩
  · have H := Lib.hid (And.intro hm hc)
    have HS := Lib.hid hs
    have HF := Lib.hid hf
    clear hm hc hs hf HN
    go_wp2
    go_ret2
    have hk : Chg [] w1 (w1.alloc (.cells #[.int .i64 most, .pointer (some ⟨s, 0, none⟩), .int .u64 0] 348)) := (Chg.refl [] w1).alloc _
    refine .inr ⟨H.out.1, w1.heap.size, s, rfl, ⟨?_, ?_, ?_⟩, H.out.2.trans hk, fun b hb => ?_⟩
    · have e : ((most.toNat : Nat) : Int) = most := by have := H.out.1; omega
      simp only [e]
      exact Blk.alloc_new w1 _ _
    · have e : ((most.toNat : Nat) : Int) = most := by have := H.out.1; omega
      simp only [e]
      exact HS.out.chg hk (by simp)
    · intro hb
      exact absurd (HS.out.lt _ hb) (by omega)
    · simp only [fpC, fpT, blkOf_none, List.mem_cons, List.not_mem_nil, or_false] at hb
      rcases hb with rfl | rfl
      · exact H.out.2.size
      · exact HF.out
set_option maxRecDepth 100000 in
set_option maxHeartbeats 1000000 in
theorem high_new (w : World) (most : Int) : Calls Tryz.prog 179 #[.int .i64 most] w fun e w' => NewCap w w' true most e := by
  have HN := Lib.hid (stm_new w most)
  go_enter Tryz.func179, Tryz.ntmps179
  go_wp2_with fail
  refine HN.out.mono ?_
  rintro e w1 (⟨hno, rfl, hc⟩ | ⟨hm, s, rfl, hs, hc, hf⟩)
  · have H := Lib.hid (And.intro hno hc)
    clear hno hc HN
    go_wp2
    go_ret2
    exact .inl ⟨H.out.1, rfl, H.out.2⟩
  · have H := Lib.hid (And.intro hm hc)
    have HS := Lib.hid hs
    have HF := Lib.hid hf
    clear hm hc hs hf HN
    go_wp2
    go_ret2
    have hk : Chg [] w1 (w1.alloc (.cells #[.int .i64 most, .pointer (some ⟨s, 0, none⟩), .int .u64 0] 346)) := (Chg.refl [] w1).alloc _
    refine .inr ⟨H.out.1, w1.heap.size, s, rfl, ⟨?_, ?_, ?_⟩, H.out.2.trans hk, fun b hb => ?_⟩
    · have e : ((most.toNat : Nat) : Int) = most := by have := H.out.1; omega
      simp only [e]
      exact Blk.alloc_new w1 _ _
    · have e : ((most.toNat : Nat) : Int) = most := by have := H.out.1; omega
      simp only [e]
      exact HS.out.chg hk (by simp)
    · intro hb
      exact absurd (HS.out.lt _ hb) (by omega)
    · simp only [fpC, fpT, blkOf_none, List.mem_cons, List.not_mem_nil, or_false] at hb
      rcases hb with rfl | rfl
      · exact H.out.2.size
      · exact HF.out
/-- What bins.fresh answers. -/
def FreshCap (w w' : World) (hi : Bool) (most : Int) (e : Ending) : Prop :=
  (¬ (1 ≤ most ∧ most ≤ 4096) ∧ e = .returned (.tuple #[.iface (capPT hi) (.pointer none), .int .i64 1]) ∧ Chg [] w w') ∨
  ((1 ≤ most ∧ most ≤ 4096) ∧ ∃ p s, e = .returned (.tuple #[.iface (capPT hi) (.pointer (some ⟨p, 0, none⟩)), .int .i64 0]) ∧ CapS w' p s (.slice none 0 0) ⟨hi, most.toNat, [], 0⟩ ∧ Chg [] w w' ∧ ∀ b ∈ fpC p s (.slice none 0 0), w.heap.size ≤ b)
set_option maxRecDepth 100000 in
set_option maxHeartbeats 1000000 in
theorem bins_fresh (w : World) (side : Int) (hi : Bool) (hhi : hi = decide (side = 1)) (most : Int) : Calls Tryz.prog 139 #[.int .i64 side, .int .i64 most] w fun e w' => FreshCap w w' hi most e := by
  cases hi with
  | true =>
    have e1 : (side == 1) = true := by have := hhi; simp at this; simp [this]
    have HN := Lib.hid (high_new w most)
    clear hhi
    go_enter Tryz.func139, Tryz.ntmps139
    go_wp2_with fail
    refine HN.out.mono ?_
    rintro e w1 (⟨hno, rfl, hc⟩ | ⟨hm, p, s, rfl, hs, hc, hf⟩)
    · have H := Lib.hid (And.intro hno hc)
      clear hno hc HN
      go_wp2
      go_ret2
      exact .inl ⟨H.out.1, rfl, H.out.2⟩
    · have H := Lib.hid (And.intro hm (And.intro hs (And.intro hc hf)))
      clear hm hc hs hf HN
      go_wp2
      go_ret2
      exact .inr ⟨H.out.1, p, s, rfl, H.out.2.1, H.out.2.2.1, H.out.2.2.2⟩
  | false =>
    have e1 : (side == 1) = false := by have := hhi; simp at this; simp [this]
    have HN := Lib.hid (low_new w most)
    clear hhi
    go_enter Tryz.func139, Tryz.ntmps139
    go_wp2_with fail
    refine HN.out.mono ?_
    rintro e w1 (⟨hno, rfl, hc⟩ | ⟨hm, p, s, rfl, hs, hc, hf⟩)
    · have H := Lib.hid (And.intro hno hc)
      clear hno hc HN
      go_wp2
      go_ret2
      exact .inl ⟨H.out.1, rfl, H.out.2⟩
    · have H := Lib.hid (And.intro hm (And.intro hs (And.intro hc hf)))
      clear hm hc hs hf HN
      go_wp2
      go_ret2
      exact .inr ⟨H.out.1, p, s, rfl, H.out.2.1, H.out.2.2.1, H.out.2.2.2⟩
/-- Where bins' parts lie. -/
structure BinA where
  b : Nat
  t : Nat
  la : Option Addr
  lc : Nat
  ra : Option Addr
  rc : Nat
  p1 : Nat
  s1 : Nat
  r1 : Value
  p2 : Nat
  s2 : Nat
  r2 : Value
def sideI (hi : Bool) : Int := if hi then 1 else 0
def fpBin (A : BinA) : List Nat := A.b :: (fpTab A.t A.la A.ra ++ (fpC A.p1 A.s1 A.r1 ++ fpC A.p2 A.s2 A.r2))
structure BinS (w : World) (A : BinA) (D : BinD) : Prop where
  blk : Blk w A.b #[.iface 203 (.pointer (some ⟨A.t, 0, none⟩)), .int .i64 (sideI D.hi), .int .i64 (D.m : Int), .iface (capPT D.hi) (.pointer (some ⟨A.p1, 0, none⟩)), .iface (capPT D.hi) (.pointer (some ⟨A.p2, 0, none⟩)), .int .u64 (D.zero : Nat)] 276
  tab : Tab w A.t D.num D.den D.n A.la A.lc A.ra A.rc
  rows : ∀ b ∈ abl A.la, b ∉ abl A.ra
  minus : CapS w A.p1 A.s1 A.r1 D.minus
  plus : CapS w A.p2 A.s2 A.r2 D.plus
  bt : A.b ∉ fpTab A.t A.la A.ra
  b1 : A.b ∉ fpC A.p1 A.s1 A.r1
  b2 : A.b ∉ fpC A.p2 A.s2 A.r2
  t1 : ∀ x ∈ fpTab A.t A.la A.ra, x ∉ fpC A.p1 A.s1 A.r1 ∧ x ∉ fpC A.p2 A.s2 A.r2
  s12 : ∀ x ∈ fpC A.p1 A.s1 A.r1, x ∉ fpC A.p2 A.s2 A.r2
namespace BinS
variable {w w1 : World} {A : BinA} {D : BinD}
theorem lt (h : BinS w A D) : ∀ b ∈ fpBin A, b < w.heap.size := fun b hb => by
  rcases List.mem_cons.1 hb with rfl | hb
  · exact h.blk.lt
  · rcases List.mem_append.1 hb with hb | hb
    · exact h.tab.lt b hb
    · rcases List.mem_append.1 hb with hb | hb
      · exact h.minus.lt b hb
      · exact h.plus.lt b hb
theorem chg {F : List Nat} (h : BinS w A D) (k : Chg F w w1) (hF : ∀ b ∈ fpBin A, b ∉ F) : BinS w1 A D :=
  ⟨h.blk.chg k (hF A.b (by simp [fpBin])), h.tab.chg k (fun b hb => hF b (by simp [fpBin, hb])), h.rows, h.minus.chg k (fun b hb => hF b (by simp [fpBin, hb])), h.plus.chg k (fun b hb => hF b (by simp [fpBin, hb])), h.bt, h.b1, h.b2, h.t1, h.s12⟩
end BinS
/-- What New answers. -/
def NewBin (w w' : World) (num den n t : Nat) (la : Option Addr) (lc : Nat) (ra : Option Addr) (rc : Nat) (side most : Int) (e : Ending) : Prop :=
  (¬ ((side = 0 ∨ side = 1) ∧ 1 ≤ most ∧ most ≤ 4096) ∧ e = .returned (.tuple #[.pointer none, .int .i64 1]) ∧ Chg [] w w') ∨
  (((side = 0 ∨ side = 1) ∧ 1 ≤ most ∧ most ≤ 4096) ∧ ∃ A : BinA, A.t = t ∧ A.la = la ∧ A.lc = lc ∧ A.ra = ra ∧ A.rc = rc ∧ e = .returned (.tuple #[.pointer (some ⟨A.b, 0, none⟩), .int .i64 0]) ∧
    BinS w' A ⟨num, den, n, decide (side = 1), most.toNat, ⟨decide (side = 1), most.toNat, [], 0⟩, ⟨decide (side = 1), most.toNat, [], 0⟩, 0⟩ ∧ Chg [] w w' ∧ w.heap.size ≤ A.b ∧ (∀ b ∈ fpC A.p1 A.s1 A.r1, w.heap.size ≤ b) ∧ ∀ b ∈ fpC A.p2 A.s2 A.r2, w.heap.size ≤ b)
set_option maxRecDepth 100000 in
set_option maxHeartbeats 2000000 in
theorem bins_new (w : World) (num den n t : Nat) (la : Option Addr) (lc : Nat) (ra : Option Addr) (rc : Nat) (hT : Tab w t num den n la lc ra rc) (hrows : ∀ b ∈ abl la, b ∉ abl ra) (side most : Int) :
    Calls Tryz.prog 100 #[.iface 203 (.pointer (some ⟨t, 0, none⟩)), .int .i64 side, .int .i64 most] w fun e w' => NewBin w w' num den n t la lc ra rc side most e := by
  have HT := Lib.hid hT
  have HR := Lib.hid hrows
  obtain ⟨hi, hhi⟩ : ∃ b, b = decide (side = 1) := ⟨_, rfl⟩
  unfold NewBin
  simp only [← hhi]
  by_cases hs : side = 0 ∨ side = 1
  case neg =>
    have e0 : (side != 0) = true := by rw [bne_iff_ne]; exact fun h => hs (.inl h)
    have e1 : (side != 1) = true := by rw [bne_iff_ne]; exact fun h => hs (.inr h)
    have H := Lib.hid hs
    clear hs hT hrows hhi
    go_enter Tryz.func100, Tryz.ntmps100
    go_wp2
    go_ret2
    exact .inl ⟨fun h => H.out h.1, rfl, Chg.refl _ _⟩
  case pos =>
  have HS := Lib.hid hs
  have HF := Lib.hid (fun u => bins_fresh u side hi hhi most)
  have HSI := Lib.hid (show side = sideI hi from by
    rw [hhi]
    unfold sideI
    rcases hs with h | h <;> simp [h])
  have e01 : (side != 0) = false ∨ ((side != 0) = true ∧ (side != 1) = false) := by
    rcases hs with h | h
    · exact .inl (by rw [h]; rfl)
    · exact .inr ⟨by rw [h]; rfl, by rw [h]; rfl⟩
  clear hT hrows hhi hs
  rcases e01 with e0 | ⟨e0, e1⟩
  ·
    go_enter Tryz.func100, Tryz.ntmps100
    go_wp2_with fail
    refine (HF.out w).mono ?_
    rintro e w1 (⟨hno, rfl, hc⟩ | ⟨hm, p1, s1, rfl, h1, hc, hf1⟩)
    · have H := Lib.hid (And.intro hno hc)
      clear hno hc HF
      go_wp2
      go_ret2
      exact .inl ⟨fun h => H.out.1 h.2, rfl, H.out.2⟩
    · have HM := Lib.hid hm
      have H1 := Lib.hid h1
      have HC1 := Lib.hid hc
      have HF1 := Lib.hid hf1
      clear hm h1 hc hf1
      go_wp2_with fail
      refine (HF.out w1).mono ?_
      rintro e w2 (⟨hno, -⟩ | ⟨-, p2, s2, rfl, h2, hc2, hf2⟩)
      · exact absurd HM.out hno
      have HC2 := Lib.hid (HC1.out.trans hc2)
      have H2 := Lib.hid h2
      have HF2 := Lib.hid hf2
      have H12 := Lib.hid (H1.out.chg hc2 (by simp))
      have HT2 := Lib.hid (HT.out.chg (HC1.out.trans hc2) (by simp))
      clear h2 hc2 hf2 HF
      obtain ⟨b, hb⟩ : ∃ z, z = w2.heap.size := ⟨_, rfl⟩
      have hk := (Chg.refl [] w2).alloc (.cells #[.iface 203 (.pointer (some ⟨t, 0, none⟩)), .int .i64 side, .int .i64 most, .iface (capPT hi) (.pointer (some ⟨p1, 0, none⟩)), .iface (capPT hi) (.pointer (some ⟨p2, 0, none⟩)), .int .u64 0] 276)
      have HB := Lib.hid (Blk.alloc_new w2 #[.iface 203 (.pointer (some ⟨t, 0, none⟩)), .int .i64 side, .int .i64 most, .iface (capPT hi) (.pointer (some ⟨p1, 0, none⟩)), .iface (capPT hi) (.pointer (some ⟨p2, 0, none⟩)), .int .u64 0] 276)
      have HK := Lib.hid hk
      clear hk hb
      go_wp2
      go_ret2
      have hsz1 : w.heap.size ≤ w1.heap.size := HC1.out.size
      have em : ((most.toNat : Nat) : Int) = most := by have := HM.out; omega
      refine .inr ⟨⟨HS.out, HM.out⟩, ⟨w2.heap.size, t, la, lc, ra, rc, p1, s1, .slice none 0 0, p2, s2, .slice none 0 0⟩, rfl, rfl, rfl, rfl, rfl, rfl, ⟨?_, HT2.out.chg HK.out (by simp), HR.out, H12.out.chg HK.out (by simp), H2.out.chg HK.out (by simp), ?_, ?_, ?_, ?_, ?_⟩, HC2.out.trans HK.out, HC2.out.size, HF1.out, fun x hx => Nat.le_trans hsz1 (HF2.out x hx)⟩
      · simp only [← HSI.out, em]
        exact HB.out
      · intro hb; exact absurd (HT2.out.lt _ hb) (Nat.lt_irrefl _)
      · intro hb; exact absurd (H12.out.lt _ hb) (Nat.lt_irrefl _)
      · intro hb; exact absurd (H2.out.lt _ hb) (Nat.lt_irrefl _)
      · intro x hx
        have h1 := HT.out.lt x hx
        exact ⟨fun h => by have := HF1.out x h; omega, fun h => by have := HF2.out x h; omega⟩
      · intro x hx h
        have h1 := H1.out.lt x hx
        have h2 := HF2.out x h
        omega
  ·
    go_enter Tryz.func100, Tryz.ntmps100
    go_wp2_with fail
    refine (HF.out w).mono ?_
    rintro e w1 (⟨hno, rfl, hc⟩ | ⟨hm, p1, s1, rfl, h1, hc, hf1⟩)
    · have H := Lib.hid (And.intro hno hc)
      clear hno hc HF
      go_wp2
      go_ret2
      exact .inl ⟨fun h => H.out.1 h.2, rfl, H.out.2⟩
    · have HM := Lib.hid hm
      have H1 := Lib.hid h1
      have HC1 := Lib.hid hc
      have HF1 := Lib.hid hf1
      clear hm h1 hc hf1
      go_wp2_with fail
      refine (HF.out w1).mono ?_
      rintro e w2 (⟨hno, -⟩ | ⟨-, p2, s2, rfl, h2, hc2, hf2⟩)
      · exact absurd HM.out hno
      have HC2 := Lib.hid (HC1.out.trans hc2)
      have H2 := Lib.hid h2
      have HF2 := Lib.hid hf2
      have H12 := Lib.hid (H1.out.chg hc2 (by simp))
      have HT2 := Lib.hid (HT.out.chg (HC1.out.trans hc2) (by simp))
      clear h2 hc2 hf2 HF
      obtain ⟨b, hb⟩ : ∃ z, z = w2.heap.size := ⟨_, rfl⟩
      have hk := (Chg.refl [] w2).alloc (.cells #[.iface 203 (.pointer (some ⟨t, 0, none⟩)), .int .i64 side, .int .i64 most, .iface (capPT hi) (.pointer (some ⟨p1, 0, none⟩)), .iface (capPT hi) (.pointer (some ⟨p2, 0, none⟩)), .int .u64 0] 276)
      have HB := Lib.hid (Blk.alloc_new w2 #[.iface 203 (.pointer (some ⟨t, 0, none⟩)), .int .i64 side, .int .i64 most, .iface (capPT hi) (.pointer (some ⟨p1, 0, none⟩)), .iface (capPT hi) (.pointer (some ⟨p2, 0, none⟩)), .int .u64 0] 276)
      have HK := Lib.hid hk
      clear hk hb
      go_wp2
      go_ret2
      have hsz1 : w.heap.size ≤ w1.heap.size := HC1.out.size
      have em : ((most.toNat : Nat) : Int) = most := by have := HM.out; omega
      refine .inr ⟨⟨HS.out, HM.out⟩, ⟨w2.heap.size, t, la, lc, ra, rc, p1, s1, .slice none 0 0, p2, s2, .slice none 0 0⟩, rfl, rfl, rfl, rfl, rfl, rfl, ⟨?_, HT2.out.chg HK.out (by simp), HR.out, H12.out.chg HK.out (by simp), H2.out.chg HK.out (by simp), ?_, ?_, ?_, ?_, ?_⟩, HC2.out.trans HK.out, HC2.out.size, HF1.out, fun x hx => Nat.le_trans hsz1 (HF2.out x hx)⟩
      · simp only [← HSI.out, em]
        exact HB.out
      · intro hb; exact absurd (HT2.out.lt _ hb) (Nat.lt_irrefl _)
      · intro hb; exact absurd (H12.out.lt _ hb) (Nat.lt_irrefl _)
      · intro hb; exact absurd (H2.out.lt _ hb) (Nat.lt_irrefl _)
      · intro x hx
        have h1 := HT.out.lt x hx
        exact ⟨fun h => by have := HF1.out x h; omega, fun h => by have := HF2.out x h; omega⟩
      · intro x hx h
        have h1 := H1.out.lt x hx
        have h2 := HF2.out x h
        omega
end Go.Proofs.YtmehcfocfljoeaaGreatDoor

namespace Go.Proofs.YtmehcfocfljoeaaGreatDoor
open Go.RowKit

structure LogS (w : World) (p : Nat) (A : BinA) (D : LogD) : Prop where
  blk : Blk w p #[.pointer (some ⟨A.b, 0, none⟩), .int .u64 (D.bins.num : Nat), .int .u64 (D.bins.den : Nat), .int .i64 (sideI D.bins.hi), .int .i64 (D.bins.m : Int), .int .i64 D.least, .int .i64 D.most] 210
  bins : BinS w A D.bins
  ne : p ∉ fpBin A
def fpLog (p : Nat) (A : BinA) : List Nat := p :: fpBin A
namespace LogS
variable {w w1 : World} {p : Nat} {A : BinA} {D : LogD}
theorem lt (h : LogS w p A D) : ∀ b ∈ fpLog p A, b < w.heap.size := fun b hb => by
  rcases List.mem_cons.1 hb with rfl | hb
  · exact h.blk.lt
  · exact h.bins.lt b hb
theorem chg {F : List Nat} (h : LogS w p A D) (k : Chg F w w1) (hF : ∀ b ∈ fpLog p A, b ∉ F) : LogS w1 p A D :=
  ⟨h.blk.chg k (hF p (by simp [fpLog])), h.bins.chg k (fun b hb => hF b (by simp [fpLog, hb])), h.ne⟩
end LogS
def BinD.new (num den n : Nat) (hi : Bool) (m : Nat) : BinD := ⟨num, den, n, hi, m, ⟨hi, m, [], 0⟩, ⟨hi, m, [], 0⟩, 0⟩
/-- What New answers. -/
def NewLog (w w' : World) (num den : Nat) (side most : Int) (e : Ending) : Prop :=
  (∃ k : Int, k ≠ 0 ∧ e = .returned (.tuple #[.pointer none, .int .i64 k]) ∧ Chg [] w w') ∨
  (∃ n p A, TabOk num den n ∧ ((side = 0 ∨ side = 1) ∧ 1 ≤ most ∧ most ≤ 4096) ∧ e = .returned (.tuple #[.pointer (some ⟨p, 0, none⟩), .int .i64 0]) ∧ LogS w' p A ⟨BinD.new num den n (decide (side = 1)) most.toNat, 0, 0⟩ ∧ Chg [] w w' ∧ ∀ b ∈ fpLog p A, w.heap.size ≤ b)
set_option maxRecDepth 100000 in
set_option maxHeartbeats 2000000 in
theorem logsk_new (w : World) (num den : Nat) (side most : Int) :
    Calls Tryz.prog 67 #[.agg #[.int .u64 (num : Nat), .int .u64 (den : Nat), .int .i64 side, .int .i64 most]] w fun e w' => NewLog w w' num den side most e := by
  obtain ⟨b1, hb1⟩ : ∃ z, z = w.heap.size := ⟨_, rfl⟩
  have HB := Lib.hid (show Blk (w.alloc (.cells #[.int .u64 (num : Nat), .int .u64 (den : Nat), .int .i64 side, .int .i64 most] 141)) b1 #[.int .u64 (num : Nat), .int .u64 (den : Nat), .int .i64 side, .int .i64 most] 141 from by rw [hb1]; exact Blk.alloc_new _ _ _)
  have HC0 := Lib.hid ((Chg.refl [] w).alloc (.cells #[.int .u64 (num : Nat), .int .u64 (den : Nat), .int .i64 side, .int .i64 most] 141))
  go_enter Tryz.func67, Tryz.ntmps67
  go_wp2_with fail
  rw [← hb1]
  clear hb1
  generalize w.alloc (.cells #[.int .u64 (num : Nat), .int .u64 (den : Nat), .int .i64 side, .int .i64 most] 141) = w0 at *
  have HBX := Lib.hid (fun wx (hu : Chg [] w0 wx) => show wx.cell? ⟨b1, 0, none⟩ = some (.int .u64 (num : Nat)) ∧ wx.cell? ⟨b1, 1, none⟩ = some (.int .u64 (den : Nat)) ∧ wx.cell? ⟨b1, 2, none⟩ = some (.int .i64 side) ∧ wx.cell? ⟨b1, 3, none⟩ = some (.int .i64 most) from ⟨(HB.out.chg hu (by simp)).cell 0, (HB.out.chg hu (by simp)).cell 1, (HB.out.chg hu (by simp)).cell 2, (HB.out.chg hu (by simp)).cell 3⟩)
  obtain ⟨c0, c1, c2, c3⟩ := HBX.out w0 (Chg.refl _ _)
  go_wp2_with fail
  refine (cells_new w0 num den).mono ?_
  rintro e w1 (⟨k, hk, rfl, hc1, -⟩ | ⟨n, t, la, lc, ra, rc, hok, rfl, htab, hrows, hc1, hfr⟩)
  · have hkb : (k != 0) = true := by rw [bne_iff_ne]; exact hk
    have HK := Lib.hid (And.intro hk (HC0.out.trans hc1))
    clear c0 c1 c2 c3 hc1 hk
    go_wp2
    go_ret2
    exact .inl ⟨k, HK.out.1, rfl, HK.out.2⟩
  · have HOK := Lib.hid hok
    have HTAB := Lib.hid htab
    have HROW := Lib.hid hrows
    have HC1 := Lib.hid (HC0.out.trans hc1)
    have HK1 := Lib.hid hc1
    have HFR := Lib.hid (show ∀ b ∈ fpTab t la ra, w.heap.size ≤ b from fun b hb => Nat.le_trans HC0.out.size (hfr b hb))
    clear c0 c1 c2 c3 hok htab hrows hc1 hfr
    obtain ⟨c0, c1, c2, c3⟩ := HBX.out w1 HK1.out
    have HNB := Lib.hid (bins_new w1 num den n t la lc ra rc HTAB.out HROW.out side most)
    go_wp2_with fail
    refine HNB.out.mono ?_
    rintro e w2 (⟨hno, rfl, hc2⟩ | ⟨hgood, A, hA1, hA2, hA3, hA4, hA5, rfl, hbin, hc2, hAb, hA6, hA7⟩)
    · have HC2 := Lib.hid (HC1.out.trans hc2)
      clear c0 c1 c2 c3 hc2 hno HNB
      go_wp2
      go_ret2
      exact .inl ⟨1, by decide, rfl, HC2.out⟩
    · have HC2 := Lib.hid (HC1.out.trans hc2)
      have HK2 := Lib.hid (HK1.out.trans hc2)
      have HG := Lib.hid hgood
      have HBIN := Lib.hid hbin
      have HSI := Lib.hid (show side = sideI (decide (side = 1)) from by
        unfold sideI
        rcases hgood.1 with h | h <;> simp [h])
      have HFA := Lib.hid (show ∀ b ∈ fpBin A, w.heap.size ≤ b from fun b hb => by
        have h0 := HC1.out.size
        simp only [fpBin, List.mem_cons, List.mem_append] at hb
        rcases hb with rfl | hb | hb | hb
        · omega
        · rw [hA1, hA2, hA4] at hb; exact HFR.out b hb
        · exact Nat.le_trans h0 (hA6 b hb)
        · exact Nat.le_trans h0 (hA7 b hb))
      clear c0 c1 c2 c3 hc2 hgood hbin hA1 hA2 hA3 hA4 hA5 hA6 hA7 hAb HNB
      obtain ⟨c0, c1, c2, c3⟩ := HBX.out w2 HK2.out
      go_wp2
      go_ret2
      have em : ((most.toNat : Nat) : Int) = most := by have := HG.out; omega
      have hk : Chg [] w2 (w2.alloc (.cells #[.pointer (some ⟨A.b, 0, none⟩), .int .u64 (num : Nat), .int .u64 (den : Nat), .int .i64 side, .int .i64 most, .int .i64 0, .int .i64 0] 210)) := (Chg.refl [] w2).alloc _
      refine .inr ⟨n, w2.heap.size, A, HOK.out, HG.out, rfl, ⟨?_, HBIN.out.chg hk (by simp), fun hb => absurd (HBIN.out.lt _ hb) (Nat.lt_irrefl _)⟩, HC2.out.trans hk, fun b hb => ?_⟩
      · simp only [BinD.new, ← HSI.out, em]
        exact Blk.alloc_new _ _ _
      · rcases List.mem_cons.1 hb with rfl | hb
        · exact HC2.out.size
        · exact HFA.out b hb
end Go.Proofs.YtmehcfocfljoeaaGreatDoor
