/-
  A digest in the heap; the walks of Total, Most, limit, Nodes, New, lift (layer 17). Conditions: the form's own reach.
-/
import Derived.Test.YtgnbabkafobeoaaTree
import Derived.Test.YtgnbabkafobeoaaStrip
import Derived.Test.YtgnbabkafobeoaaStepG
import Derived.Shelf.Abstract
namespace Go.Proofs.Ytgnbabkafobeoaa
open Go.RowKit

structure DgD where
  depth : Nat
  factor : Nat
  row : List Pr
  least : Int
  most : Int
def DgD.top (D : DgD) : Int := 2 * ((2 ^ D.depth : Nat) : Int)
def dgCells (s : Nat) (D : DgD) : Array Value := #[.int .i64 (D.depth : Nat), .int .i64 (D.factor : Nat), .int .i64 (D.depth : Nat), .pointer (some ⟨s, 0, none⟩), .int .i64 D.least, .int .i64 D.most]
/-- What is so of each digest. -/
structure DgD.ok (D : DgD) : Prop where
  d1 : 1 ≤ D.depth
  d2 : D.depth ≤ 24
  f1 : 1 ≤ D.factor
  f2 : D.factor ≤ 64
  nodes : Nodes D.row D.top
  tot : totP D.row ≤ 9223372036854775807
  len : D.row.length ≤ 1000
structure Dg (w : World) (p s : Nat) (rv : Value) (D : DgD) : Prop where
  blk : Blk w p (dgCells s D) 79
  strip : Spt w s rv D.row
  ne : p ≠ s
def fpD (p s : Nat) (rv : Value) : List Nat := p :: fpT s rv
namespace Dg
variable {w w1 : World} {p s : Nat} {rv : Value} {D : DgD}
theorem p_fp (h : Dg w p s rv D) : p ∉ fpT s rv := by
  intro hb
  simp only [fpT, List.mem_cons] at hb
  rcases hb with hb | hb
  · exact h.ne hb
  · exact h.strip.row.ne_blk h.blk (by decide) hb
theorem lt (h : Dg w p s rv D) : ∀ b ∈ fpD p s rv, b < w.heap.size := by
  intro b hb
  simp only [fpD, List.mem_cons] at hb
  rcases hb with rfl | hb
  · exact h.blk.lt
  · exact h.strip.lt b hb
theorem chg {F : List Nat} (h : Dg w p s rv D) (k : Chg F w w1) (hF : ∀ b ∈ fpD p s rv, b ∉ F) : Dg w1 p s rv D :=
  ⟨h.blk.chg k (hF p (by simp [fpD])), h.strip.chg k (fun b hb => hF b (by simp [fpD, hb])), h.ne⟩
theorem cells (h : Dg w p s rv D) : w.cell? ⟨p, 0, none⟩ = some (.int .i64 (D.depth : Nat)) ∧ w.cell? ⟨p, 1, none⟩ = some (.int .i64 (D.factor : Nat)) ∧ w.cell? ⟨p, 2, none⟩ = some (.int .i64 (D.depth : Nat)) ∧ w.cell? ⟨p, 3, none⟩ = some (.pointer (some ⟨s, 0, none⟩)) ∧ w.cell? ⟨p, 4, none⟩ = some (.int .i64 D.least) ∧ w.cell? ⟨p, 5, none⟩ = some (.int .i64 D.most) :=
  ⟨h.blk.cell 0, h.blk.cell 1, h.blk.cell 2, h.blk.cell 3, h.blk.cell 4, h.blk.cell 5⟩
/-- Another strip is set. -/
theorem set (h : Dg w p s rv D) {s2 : Nat} {rv2 : Value} {r2 : List Pr} (k : Chg [] w w1) (ho : Spt w1 s2 rv2 r2) (hf : ∀ b ∈ fpT s2 rv2, w.heap.size ≤ b) :
    Dg (w1.setCell ⟨p, 3, none⟩ (.pointer (some ⟨s2, 0, none⟩))) p s2 rv2 { D with row := r2 } ∧ Mv (fpD p s rv) w (fpD p s2 rv2) (w1.setCell ⟨p, 3, none⟩ (.pointer (some ⟨s2, 0, none⟩))) := by
  have hb := h.blk.chg k (by simp)
  have hlt := h.blk.lt
  have k2 : Chg [p] w1 (w1.setCell ⟨p, 3, none⟩ (.pointer (some ⟨s2, 0, none⟩))) := (Chg.refl _ w1).setCell (a := ⟨p, 3, none⟩) (.inl (by simp)) _
  refine ⟨⟨hb.setCell 3 _, ho.chg k2 (fun b hb2 e => by simp at e; subst e; have := hf _ hb2; omega), fun e => by have := hf s2 (by simp [fpT]); omega⟩, ?_, ?_⟩
  · exact ((k.nil (F := fpD p s rv)).setCell (a := ⟨p, 3, none⟩) (.inl (by simp [fpD])) _)
  · intro b hb2
    simp only [fpD, List.mem_cons] at hb2 ⊢
    rcases hb2 with rfl | hb2
    · exact .inl (.inl rfl)
    · exact .inr (hf b hb2)
/-- The strip goes on. -/
theorem go (h : Dg w p s rv D) {rv2 : Value} {r2 : List Pr} (ho : Spt w1 s rv2 r2) (k : Mv (fpT s rv) w (fpT s rv2) w1) : Dg w1 p s rv2 { D with row := r2 } ∧ Mv (fpD p s rv) w (fpD p s rv2) w1 := by
  refine ⟨⟨h.blk.chg k.chg h.p_fp, ho, h.ne⟩, k.chg.mono (fun b hb => .inl (by simp [fpD, hb])), fun b hb => ?_⟩
  simp only [fpD, List.mem_cons] at hb ⊢
  rcases hb with rfl | hb
  · exact .inl (.inl rfl)
  · rcases k.fr b hb with h1 | h1
    · exact .inl (.inr h1)
    · exact .inr h1
end Dg
set_option maxRecDepth 100000 in
theorem dg_total (w : World) (p s : Nat) (rv : Value) (D : DgD) (h : Dg w p s rv D) : Calls Try.prog 15 #[.pointer (some ⟨p, 0, none⟩)] w fun e w' => e = .returned (.int .u64 (totP D.row : Nat)) ∧ w = w' := by
  obtain ⟨-, -, -, c3, -, -⟩ := h.cells
  have HT := Lib.hid (strip_total w s rv D.row h.strip)
  clear h
  go_enter Try.func15, Try.ntmps15
  go_wp2_with fail
  refine HT.out.mono ?_
  rintro e w1 ⟨rfl, rfl⟩
  go_wp2_with fail
  go_ret
  exact ⟨rfl, rfl⟩
set_option maxRecDepth 100000 in
theorem dg_most (w : World) (p s : Nat) (rv : Value) (D : DgD) (h : Dg w p s rv D) (hf : D.factor ≤ 64) : Calls Try.prog 31 #[.pointer (some ⟨p, 0, none⟩)] w fun e w' => e = .returned (.int .i64 ((4 * D.factor : Nat) : Int)) ∧ w = w' := by
  obtain ⟨-, c1, -, -, -, -⟩ := h.cells
  have hw : IntKind.i64.wrap (4 * (D.factor : Int)) = ((4 * D.factor : Nat) : Int) := by rw [IntKind.wrap_i64]; omega
  go_enter Try.func31, Try.ntmps31
  go_wp2_with fail
  go_ret
  exact ⟨rfl, rfl⟩
set_option maxRecDepth 100000 in
set_option maxHeartbeats 1000000 in
theorem dg_limit (w : World) (p s : Nat) (rv : Value) (D : DgD) (h : Dg w p s rv D) (hok : D.ok) (L : Nat) (hL : L = totP D.row / D.factor) : Calls Try.prog 51 #[.pointer (some ⟨p, 0, none⟩)] w fun e w' => e = .returned (.int .u64 (L : Nat)) ∧ Chg [] w w' := by
  obtain ⟨-, c1, -, -, -, -⟩ := h.cells
  have hf1 := hok.f1
  have hf2 := hok.f2
  have htt := hok.tot
  have HT := Lib.hid (fun u (hu : Chg [] w u) => dg_total u p s rv D (h.chg hu (by simp)))
  obtain ⟨T, hT⟩ : ∃ T, T = totP D.row := ⟨_, rfl⟩
  obtain ⟨f, hf⟩ : ∃ f, f = D.factor := ⟨_, rfl⟩
  rw [← hT] at HT htt hL
  rw [← hf] at c1 hL hf1 hf2
  have hw : IntKind.u64.wrap (f : Int) = (f : Int) := IntWalk.u64_in _ (by omega)
  have hq : (T : Int).tdiv (f : Int) = (L : Int) := by rw [Int.tdiv_eq_ediv_of_nonneg (by omega), hL]; rfl
  have hl : L ≤ T := by rw [hL]; exact Nat.div_le_self _ _
  have hwl : IntKind.u64.wrap (L : Int) = (L : Int) := IntWalk.u64_in _ (by omega)
  have hq2 : (T : Int) / (f : Int) = (L : Int) := by rw [hL]; rfl
  have hz : ((f : Int) == 0) = false := by rw [beq_eq_false_iff_ne]; omega
  clear h hok hL hT hf
  go_enter Try.func51, Try.ntmps51
  go_wp2_with fail
  go_region_with (first | (go_at_call 15; refine (HT.out _ (by with_reducible (repeat (first | exact Chg.refl _ _ | apply Chg.drew)))).mono ?_; rintro e w1 ⟨rfl, rfl⟩))
  all_goals
    go_wp2_with fail
    go_ret
    exact ⟨rfl, by with_reducible (repeat (first | exact Chg.refl _ _ | apply Chg.drew | apply Chg.drewN))⟩
set_option maxRecDepth 100000 in
theorem dg_nodes (w : World) (p s : Nat) (rv : Value) (D : DgD) (h : Dg w p s rv D) (n : Nat) (hn : n = D.row.length) (hl : n ≤ 1000) : Calls Try.prog 19 #[.pointer (some ⟨p, 0, none⟩)] w fun e w' => ∃ a3 c3, e = .returned (.slice a3 n c3) ∧ Own w' 53 2 (.slice a3 n c3) n (prCells D.row) ∧ Chg [] w w' ∧ ∀ b ∈ abl a3, w.heap.size ≤ b := by
  obtain ⟨-, -, -, c3, -, -⟩ := h.cells
  have HP := Lib.hid (strip_pairs w s rv D.row h.strip n hn hl)
  clear h hn
  go_enter Try.func19, Try.ntmps19
  go_wp2_with fail
  refine HP.out.mono ?_
  rintro e w1 ⟨a3, c3', rfl, h1, h2, h3⟩
  go_wp2_with fail
  go_ret
  exact ⟨a3, c3', rfl, h1, h2, h3⟩
def goodC (d f : Int) : Bool := decide ((1 ≤ d ∧ d ≤ 24) ∧ 1 ≤ f ∧ f ≤ 64)
def DgD.new (d f : Nat) : DgD := ⟨d, f, [], 0, 0⟩
set_option maxRecDepth 100000 in
set_option maxHeartbeats 1000000 in
theorem dg_new (w : World) (d f : Int) :
    Calls Try.prog 33 #[.agg #[.int .i64 d, .int .i64 f]] w fun e w' => (goodC d f = false ∧ e = .returned (.tuple #[.pointer none, .int .i64 1]) ∧ Chg [] w w') ∨
      (goodC d f = true ∧ ∃ p s, e = .returned (.tuple #[.pointer (some ⟨p, 0, none⟩), .int .i64 0]) ∧ Dg w' p s (.slice none 0 0) (DgD.new d.toNat f.toNat) ∧ Chg [] w w' ∧ ∀ b ∈ fpD p s (.slice none 0 0), w.heap.size ≤ b) := by
  have HB := Lib.hid (Blk.alloc_new w #[.int .i64 d, .int .i64 f] 23)
  have HC := Lib.hid ((Chg.refl [] w).alloc (.cells #[.int .i64 d, .int .i64 f] 23))
  have HT := Lib.hid (fun u => tree_new u d)
  have b0 := HB.out.cell 0
  have b1 := HB.out.cell 1
  by_cases hd : 1 ≤ d ∧ d ≤ 24
  case neg =>
    have HG := Lib.hid (show goodC d f = false from decide_eq_false (fun h => hd h.1))
    rw [if_neg hd, if_neg hd] at HT
    clear hd
    go_enter Try.func33, Try.ntmps33
    go_wp2_with fail
    refine (HT.out _).mono ?_
    rintro e w1 ⟨rfl, hc1⟩
    go_wp2_with fail
    go_ret2
    exact .inl ⟨HG.out, rfl, (HC.out.trans hc1).alloc _⟩
  rw [if_pos hd, if_pos hd] at HT
  by_cases h1 : 1 ≤ f
  case neg =>
    have HG := Lib.hid (show goodC d f = false from decide_eq_false (fun h => h1 h.2.1))
    have d1 : decide (f < 1) = true := decide_eq_true (by omega)
    clear hd
    go_enter Try.func33, Try.ntmps33
    go_wp2_with fail
    refine (HT.out _).mono ?_
    rintro e w1 ⟨rfl, hc1⟩
    have b1' := (HB.out.chg hc1 (by simp)).cell 1
    have q1 := ((HB.out.chg hc1 (by simp)).alloc (.cells #[.int .i64 d] 76)).cell 1
    simp only [List.getElem?_toArray, List.getElem?_cons_zero, List.getElem?_cons_succ] at b1' q1
    go_wp2_with fail
    go_ret2
    exact .inl ⟨HG.out, rfl, (HC.out.trans hc1).alloc _⟩
  have d1 : decide (f < 1) = false := decide_eq_false (by omega)
  by_cases h2 : f ≤ 64
  case neg =>
    have HG := Lib.hid (show goodC d f = false from decide_eq_false (fun h => h2 h.2.2))
    have d2 : decide (64 < f) = true := decide_eq_true (by omega)
    clear hd
    go_enter Try.func33, Try.ntmps33
    go_wp2_with fail
    refine (HT.out _).mono ?_
    rintro e w1 ⟨rfl, hc1⟩
    have b1' := (HB.out.chg hc1 (by simp)).cell 1
    have q1 := ((HB.out.chg hc1 (by simp)).alloc (.cells #[.int .i64 d] 76)).cell 1
    simp only [List.getElem?_toArray, List.getElem?_cons_zero, List.getElem?_cons_succ] at b1' q1
    go_wp2_with fail
    go_ret2
    exact .inl ⟨HG.out, rfl, (HC.out.trans hc1).alloc _⟩
  have d2 : decide (64 < f) = false := decide_eq_false (by omega)
  have HG := Lib.hid (show goodC d f = true from decide_eq_true ⟨hd, h1, h2⟩)
  have HDF := Lib.hid (show ((d.toNat : Nat) : Int) = d ∧ ((f.toNat : Nat) : Int) = f from by omega)
  clear hd
  go_enter Try.func33, Try.ntmps33
  go_wp2_with fail
  refine (HT.out _).mono ?_
  rintro e w1 ⟨rfl, hc1⟩
  have HB1 := Lib.hid (HB.out.chg hc1 (by simp))
  have b0' := HB1.out.cell 0
  have b1' := HB1.out.cell 1
  have q1 := (HB1.out.alloc (.cells #[.int .i64 d] 76)).cell 1
  simp only [List.getElem?_toArray, List.getElem?_cons_zero, List.getElem?_cons_succ] at b0' b1' q1
  have HC1 := Lib.hid (HC.out.trans hc1)
  clear b0 b1 hc1
  go_wp2_with fail
  have HCT := Lib.hid (HC1.out.alloc (.cells #[.int .i64 d] 76))
  have HBT := Lib.hid (Blk.alloc_new w1 #[.int .i64 d] 76)
  have HB2 := Lib.hid (HB1.out.alloc (.cells #[.int .i64 d] 76))
  obtain ⟨bt, hbt⟩ : ∃ z, z = w1.heap.size := ⟨_, rfl⟩
  rw [← hbt] at HBT ⊢
  clear hbt b0' b1' q1
  generalize w1.alloc (.cells #[.int .i64 d] 76) = w2 at *
  refine (strip_new w2).mono ?_
  rintro e w3 ⟨s, rfl, hs3, hc3, hf3⟩
  have HS3 := Lib.hid hs3
  have HC3 := Lib.hid (HCT.out.trans hc3)
  have HF3 := Lib.hid (show w.heap.size ≤ s from Nat.le_trans HCT.out.size hf3)
  have t0 := (HBT.out.chg hc3 (by simp)).cell 0
  have x0 := (HB2.out.chg hc3 (by simp)).cell 0
  have x1 := (HB2.out.chg hc3 (by simp)).cell 1
  simp only [List.getElem?_toArray, List.getElem?_cons_zero, List.getElem?_cons_succ] at t0 x0 x1
  clear hs3 hc3 hf3 HB1 HBT HB2
  go_wp2_with fail
  go_ret2
  have hlt := HS3.out.blk.lt
  have hbl := Blk.alloc_new w3 #[.int .i64 d, .int .i64 f, .int .i64 d, .pointer (some ⟨s, 0, none⟩), .int .i64 0, .int .i64 0] 79
  refine .inr ⟨HG.out, w3.heap.size, s, rfl, ⟨?_, HS3.out.chg ((Chg.refl [] w3).alloc _) (by simp), by omega⟩, HC3.out.alloc _, fun b hb => ?_⟩
  · rw [dgCells, DgD.new]
    simp only
    rw [HDF.out.1, HDF.out.2]
    exact hbl
  · simp only [fpD, fpT, List.mem_cons] at hb
    rcases hb with rfl | rfl | hb
    · exact HC3.out.size
    · exact HF3.out
    · simp at hb
end Go.Proofs.Ytgnbabkafobeoaa
