/-
  Literal slices of numbers at an operation of a drawn region. Conditions: none. The walk of the document's New of towers. Conditions: the form's own reach. The walk of the document's Put of towers. Conditions: the form's own reach.
  The walk of the statements' build of towers. Conditions: the form's own reach.
  The walks of a nil tower, of New with any width, of what is refused, and of Config. Conditions: the form's own reach.
-/
import Derived.Test.YtlcoibhbdgdfcaaGreatDoorCoreCoinsB8
import Derived.Test.YtlcoibhbdgdfcaaGreatDoorCoreCoinsB3
import Derived.Test.YtlcoibhbdgdfcaaGreatDoorCoreCoinsB15
import Derived.Test.YtlcoibhbdgdfcaaGreatDoorCoreCoinsB14
import Derived.Laws.StructEq
namespace Go.Proofs.YtlcoibhbdgdfcaaGreatDoor
open Go.RowKit

set_option maxRecDepth 100000 in
theorem step_build0 {ops : Array Oper} {w : World} {o : Oper} {a : Act} {K : Act → World → Prop} {Q : Exit → Act → World → Prop} {E : Prop} (hg : o.guard = none)
    (ho : o.op = .buildSlice 121 0 #[])
    (h : ∀ g w', Own w' 2 1 (.slice (some ⟨g, 0, none⟩) 0 0) 0 (ints []) → Chg [] w w' → w.heap.size ≤ g → K (a.put o.dst (.slice (some ⟨g, 0, none⟩) 0 0)) w') :
    if Region.wanted o (yielded ops a.tmps) = true then Oper.wp Tryz.prog o a w K Q else E := by
  obtain ⟨dst, op, ty, pos, af, gd⟩ := o
  simp only at hg ho h
  subst hg ho
  have H := h w.heap.size (w.alloc (.cells #[] 2)) (Own.lit w 2 1 0 #[] rfl (by decide)) ((Chg.refl [] w).alloc _) (Nat.le_refl _)
  clear h
  go_simp
  exact H
set_option maxRecDepth 100000 in
theorem step_build1 {ops : Array Oper} {w : World} {o : Oper} {a : Act} {K : Act → World → Prop} {Q : Exit → Act → World → Prop} {E : Prop} (hg : o.guard = none) (t : Tmp)
    (ho : o.op = .buildSlice 121 1 #[(0, .tmp t)]) (x : Int) (hx : a.eval (.tmp t) = .int .i64 x)
    (h : ∀ g w', Own w' 2 1 (.slice (some ⟨g, 0, none⟩) 1 1) 1 (ints [x]) → Chg [] w w' → w.heap.size ≤ g → K (a.put o.dst (.slice (some ⟨g, 0, none⟩) 1 1)) w') :
    if Region.wanted o (yielded ops a.tmps) = true then Oper.wp Tryz.prog o a w K Q else E := by
  obtain ⟨dst, op, ty, pos, af, gd⟩ := o
  simp only at hg ho h
  subst hg ho
  have H := h w.heap.size (w.alloc (.cells #[.int .i64 x] 2)) (Own.lit w 2 1 1 #[.int .i64 x] rfl (by decide)) ((Chg.refl [] w).alloc _) (Nat.le_refl _)
  clear h
  have hx' : a.tmps[t]?.getD undef = .int .i64 x := by simpa [Act.eval] using hx
  clear hx
  go_simp
  exact H
end Go.Proofs.YtlcoibhbdgdfcaaGreatDoor

namespace Go.Proofs.YtlcoibhbdgdfcaaGreatDoor
open Go.RowKit

end Go.Proofs.YtlcoibhbdgdfcaaGreatDoor

namespace Go.Proofs.YtlcoibhbdgdfcaaGreatDoor
open Go.RowKit

end Go.Proofs.YtlcoibhbdgdfcaaGreatDoor

namespace Go.Proofs.YtlcoibhbdgdfcaaGreatDoor
open Go.RowKit

def goodW (W : Int) : Bool := decide (4 ≤ W ∧ W ≤ 64 ∧ W % 4 = 0)
/-- A tower with all values. -/
def TwD.vals (D : TwD) (l : List Vl) : TwD := l.foldl (fun D v => (D.ends v.x v.x).putN v.x v.n) D
theorem TwD.vals_take (D : TwD) (l : List Vl) (k : Nat) (h : k < l.length) : D.vals (l.take (k + 1)) = ((D.vals (l.take k)).ends l[k].x l[k].x).putN l[k].x l[k].n := by
  rw [List.take_succ_eq_append_getElem h]
  unfold TwD.vals
  rw [List.foldl_append]
  rfl
theorem TwD.vals_ok {W word n : Nat} (hW : 4 ≤ W) : ∀ (l : List Vl) {D : TwD}, D.ok W word n → (∀ v ∈ l, v.x ≤ 9223372036854775807) → (D.vals l).ok W word (n + sumS l)
  | [], D, h, _ => h
  | v :: l, D, h, hx => by
    have h1 := TwD.vals_ok hW l (TwD.putN_ok hW (TwD.ends_ok h v.x v.x) (hx v (by simp)) v.n) (fun u hu => hx u (by simp [hu]))
    rw [Nat.add_assoc] at h1
    exact h1
theorem TwD.ends_same (D : TwD) (x y : Int) : (D.ends x y).W = D.W ∧ (D.ends x y).word = D.word ∧ (D.ends x y).total = D.total ∧ (D.ends x y).rows = D.rows ∧ (D.ends x y).used = D.used := by
  unfold TwD.ends; split <;> exact ⟨rfl, rfl, rfl, rfl, rfl⟩
def valsD (W word : Nat) (l : List Vl) : TwD := (TwD.new W word).vals l
/-- Is that played? -/
def okV (l : List Vl) (W : Int) : Prop := (∀ v ∈ l, 1 ≤ v.n ∧ v.n ≤ 200) ∧ l.length ≤ 60 ∧ sumS l ≤ 200 ∧ goodW W = true
end Go.Proofs.YtlcoibhbdgdfcaaGreatDoor

namespace Go.Proofs.YtlcoibhbdgdfcaaGreatDoor
open Go.RowKit

def cfgV (W : Int) (word : Nat) : Value := .agg #[.int .i64 W, .int .u64 (word : Nat)]
theorem cfg_under : Tryz.prog.underlying 165 = some (.struct (Tryz.prog.fieldsOf 165)) := by kernel_rfl
theorem cfg_stood : Tryz.prog.stoodInHeld 165 = false := by kernel_rfl
theorem cfg_eql (a b : Int) (m n : Int) (w : World) : (binOp .eql 165 (.agg #[.int .i64 a, .int .u64 m]) (.agg #[.int .i64 b, .int .u64 n])).run Tryz.prog w = .ok (.bool (a == b && m == n)) w := by
  have u3 := Tryz.underlying3
  have a3 := Tryz.isAgg3
  have z3 := Tryz.sizeOf3
  have u4 := Tryz.underlying25
  have a4 := Tryz.isAgg25
  have z4 := Tryz.sizeOf25
  rw [run_eql_struct, show (10000 : Nat) = 9999 + 1 from rfl, run_equalIn_agg w 9999 165 _ _ cfg_under cfg_stood]
  simp only [Program.fieldsOf, Tryz.underlying165]
  go_simp
  by_cases h1 : a = b <;> by_cases h2 : m = n <;> simp [h1, h2]
theorem cfg_neq (a b : Int) (m n : Int) (w : World) : (binOp .neq 165 (.agg #[.int .i64 a, .int .u64 m]) (.agg #[.int .i64 b, .int .u64 n])).run Tryz.prog w = .ok (.bool (!(a == b && m == n))) w := by
  have u3 := Tryz.underlying3
  have a3 := Tryz.isAgg3
  have z3 := Tryz.sizeOf3
  have u4 := Tryz.underlying25
  have a4 := Tryz.isAgg25
  have z4 := Tryz.sizeOf25
  rw [run_neq_struct, show (10000 : Nat) = 9999 + 1 from rfl, run_equalIn_agg w 9999 165 _ _ cfg_under cfg_stood]
  simp only [Program.fieldsOf, Tryz.underlying165]
  go_simp
  by_cases h1 : a = b <;> by_cases h2 : m = n <;> simp [h1, h2]

set_option maxRecDepth 100000 in
theorem req_nil_total (w : World) : Calls Tryz.prog 339 #[.pointer none] w fun e w' => e = .returned (.int .u64 0) ∧ w = w' := by
  go_enter Tryz.func339, Tryz.ntmps339
  go_wp2
  go_ret
  exact ⟨rfl, rfl⟩
set_option maxRecDepth 100000 in
theorem req_nil_most (w : World) : Calls Tryz.prog 112 #[.pointer none] w fun e w' => e = .returned (.int .u64 0) ∧ w = w' := by
  go_enter Tryz.func112, Tryz.ntmps112
  go_wp2
  go_ret
  exact ⟨rfl, rfl⟩
set_option maxRecDepth 100000 in
theorem req_nil_rank (w : World) (x : Int) : Calls Tryz.prog 370 #[.pointer none, .int .i64 x] w fun e w' => e = .returned (.int .u64 0) ∧ w = w' := by
  go_enter Tryz.func370, Tryz.ntmps370
  go_wp2
  go_ret
  exact ⟨rfl, rfl⟩
set_option maxRecDepth 100000 in
theorem req_nil_used (w : World) : Calls Tryz.prog 373 #[.pointer none] w fun e w' => e = .returned (.int .i64 0) ∧ w = w' := by
  go_enter Tryz.func373, Tryz.ntmps373
  go_wp2
  go_ret
  exact ⟨rfl, rfl⟩
set_option maxRecDepth 100000 in
theorem req_nil_rows (w : World) : Calls Tryz.prog 371 #[.pointer none] w fun e w' => e = .returned (.slice none 0 0) ∧ w = w' := by
  go_enter Tryz.func371, Tryz.ntmps371
  go_wp2
  go_ret
  exact ⟨rfl, rfl⟩
set_option maxRecDepth 100000 in
theorem req_nil_put (w : World) (x : Int) (n : Nat) : Calls Tryz.prog 337 #[.pointer none, .int .i64 x, .int .u64 n] w fun e w' => e = .returned (.int .i64 2) ∧ w = w' := by
  go_enter Tryz.func337, Tryz.ntmps337
  go_wp2
  go_ret
  exact ⟨rfl, rfl⟩
set_option maxRecDepth 100000 in
theorem req_nil_join (w : World) (v : Value) : Calls Tryz.prog 369 #[.pointer none, v] w fun e w' => e = .returned (.int .i64 2) ∧ w = w' := by
  go_enter Tryz.func369, Tryz.ntmps369
  go_wp2
  go_ret
  exact ⟨rfl, rfl⟩
set_option maxRecDepth 100000 in
theorem req_nil_ends (w : World) : Calls Tryz.prog 336 #[.pointer none] w fun e w' => e = .returned (.tuple #[.int .i64 0, .int .i64 0, .bool false]) ∧ w = w' := by
  go_enter Tryz.func336, Tryz.ntmps336
  go_wp2
  go_ret3
  exact ⟨rfl, rfl⟩
set_option maxRecDepth 100000 in
theorem req_nil_quantile (w : World) (num den : Nat) : Calls Tryz.prog 338 #[.pointer none, .agg #[.int .u64 (num : Nat), .int .u64 (den : Nat)]] w fun e w' => e = .returned (.tuple #[.int .i64 0, .int .i64 2]) ∧ Chg [] w w' := by
  go_enter Tryz.func338, Tryz.ntmps338
  go_wp2
  go_ret2
  exact ⟨rfl, (Chg.refl [] w).alloc _⟩
set_option maxRecDepth 100000 in
theorem req_nil_config (w : World) : Calls Tryz.prog 372 #[.pointer none] w fun e w' => e = .returned (.agg #[.int .i64 0, .int .u64 0]) ∧ Chg [] w w' := by
  have hb := Blk.alloc_new w #[.int .i64 0, .int .u64 0] 165
  have z0 := hb.cell 0
  have z1 := hb.cell 1
  have f0 := hb.free 0
  have f1 := hb.free 1
  go_enter Tryz.func372, Tryz.ntmps372
  go_wp2
  have hb2 := Blk.alloc_new w #[.int .i64 0, .int .u64 0] 165
  have y0 := hb2.cell 0
  have y1 := hb2.cell 1
  refine bodyPost_ret (v := .agg #[.int .i64 0, .int .u64 0]) (by simp [results, Tryz.results372, go_sem, y0, y1]) rfl ⟨rfl, ?_⟩
  with_reducible (repeat (first | exact Chg.refl _ _ | apply Chg.alloc))
set_option maxRecDepth 100000 in
theorem req_config (w : World) (p tp : Nat) (rv : Value) (vs : List Value) (D : TwD) (ht : Tow w p tp rv vs D) : Calls Tryz.prog 372 #[.pointer (some ⟨p, 0, none⟩)] w fun e w' => e = .returned (.agg #[.int .i64 (D.W : Nat), .int .u64 (D.word : Nat)]) ∧ Chg [] w w' := by
  obtain ⟨c0, c1, -, -, -, -, -⟩ := (ht.chg ((Chg.refl [] w).alloc (.cells #[.int .i64 0, .int .u64 0] 165)) (by simp)).cells
  have hb := Blk.alloc_new w #[.int .i64 0, .int .u64 0] 165
  have z0 := hb.cell 0
  have z1 := hb.cell 1
  have f0 := hb.free 0
  have f1 := hb.free 1
  go_enter Tryz.func372, Tryz.ntmps372
  go_wp2
  have hb2 := Blk.alloc_new w #[.int .i64 (D.W : Nat), .int .u64 (D.word : Nat)] 165
  have y0 := hb2.cell 0
  have y1 := hb2.cell 1
  refine bodyPost_ret (v := .agg #[.int .i64 (D.W : Nat), .int .u64 (D.word : Nat)]) (by simp [results, Tryz.results372, go_sem, y0, y1]) rfl ⟨rfl, ?_⟩
  with_reducible (repeat (first | exact Chg.refl _ _ | apply Chg.alloc))

/-- New with any width. -/
def NewR (w w' : World) (W : Int) (word : Nat) (e : Ending) : Prop :=
  (goodW W = false ∧ e = .returned (.tuple #[.pointer none, .int .i64 1]) ∧ Chg [] w w') ∨
  (goodW W = true ∧ ∃ p tp rv, e = .returned (.tuple #[.pointer (some ⟨p, 0, none⟩), .int .i64 0]) ∧ Tow w' p tp rv [.slice none 0 0] (TwD.new W.toNat word) ∧ Chg [] w w' ∧ ∀ b ∈ fp p tp rv [.slice none 0 0], w.heap.size ≤ b)
set_option maxRecDepth 100000 in
theorem req_newF (w : World) (W : Int) (word : Nat) : Calls Tryz.prog 67 #[.agg #[.int .i64 W, .int .u64 (word : Nat)]] w fun e w' => NewR w w' W word e := by
  by_cases h : goodW W = true
  · have hw : 4 ≤ W ∧ W ≤ 64 ∧ W % 4 = 0 := by simpa [goodW] using h
    obtain ⟨Wn, rfl⟩ := Int.eq_ofNat_of_zero_le (show 0 ≤ W by omega)
    refine (req_new w Wn word (by omega) (by omega) (by omega)).mono ?_
    rintro e w' ⟨p, tp, rv, rfl, h1, h2, h3⟩
    exact .inr ⟨h, p, tp, rv, rfl, h1, h2, h3⟩
  · have hf : goodW W = false := by simpa using h
    have hw : ¬ (4 ≤ W ∧ W ≤ 64 ∧ W % 4 = 0) := by simpa [goodW] using h
    have HF := Lib.hid hf
    have hc := (Chg.refl [] w).alloc (.cells #[.int .i64 W, .int .u64 (word : Nat)] 165)
    have hb := Blk.alloc_new w #[.int .i64 W, .int .u64 (word : Nat)] 165
    have b0 := hb.cell 0
    have b1 := hb.cell 1
    clear h hf
    by_cases h1 : W < 4
    · have d1 : decide (W < 4) = true := decide_eq_true h1
      go_enter Tryz.func67, Tryz.ntmps67
      go_wp2
      go_ret2
      exact .inl ⟨HF.out, rfl, hc⟩
    · have d1 : decide (W < 4) = false := decide_eq_false h1
      by_cases h2 : 64 < W
      · have d2 : decide (64 < W) = true := decide_eq_true h2
        go_enter Tryz.func67, Tryz.ntmps67
        go_wp2
        go_ret2
        exact .inl ⟨HF.out, rfl, hc⟩
      · have d2 : decide (64 < W) = false := decide_eq_false h2
        have d3 : W.tmod 4 = W % 4 := Int.tmod_eq_emod_of_nonneg (by omega)
        have d4 : (W % 4 != 0) = true := by rw [bne_iff_ne]; omega
        go_enter Tryz.func67, Tryz.ntmps67
        go_wp2
        go_ret2
        exact .inl ⟨HF.out, rfl, hc⟩
set_option maxRecDepth 100000 in
theorem req_join_none (w : World) (p : Nat) : Calls Tryz.prog 369 #[.pointer (some ⟨p, 0, none⟩), .pointer none] w fun e w' => e = .returned (.int .i64 2) ∧ w = w' := by
  go_enter Tryz.func369, Tryz.ntmps369
  go_wp2
  go_ret
  exact ⟨rfl, rfl⟩
set_option maxRecDepth 100000 in
theorem req_put_zero (w : World) (p : Nat) (x : Int) : Calls Tryz.prog 337 #[.pointer (some ⟨p, 0, none⟩), .int .i64 x, .int .u64 0] w fun e w' => e = .returned (.int .i64 1) ∧ w = w' := by
  go_enter Tryz.func337, Tryz.ntmps337
  go_wp2
  go_ret
  exact ⟨rfl, rfl⟩
set_option maxRecDepth 100000 in
theorem req_put_long (w : World) (p : Nat) (x : Int) : Calls Tryz.prog 337 #[.pointer (some ⟨p, 0, none⟩), .int .i64 x, .int .u64 1025] w fun e w' => e = .returned (.int .i64 3) ∧ w = w' := by
  go_enter Tryz.func337, Tryz.ntmps337
  go_wp2
  go_ret
  exact ⟨rfl, rfl⟩
set_option maxRecDepth 100000 in
set_option maxHeartbeats 1000000 in
theorem req_join_match (w : World) (p tp : Nat) (rv : Value) (vs : List Value) (D : TwD) (ht : Tow w p tp rv vs D) (q tq : Nat) (qv : Value) (us : List Value) (O : TwD) (ho : Tow w q tq qv us O) (hne : D.W ≠ O.W) :
    Calls Tryz.prog 369 #[.pointer (some ⟨p, 0, none⟩), .pointer (some ⟨q, 0, none⟩)] w fun e w' => e = .returned (.int .i64 8) ∧ Chg [] w w' := by
  obtain ⟨c0, -, -, -, -, -, -⟩ := ht.cells
  obtain ⟨d0, -, -, -, -, -, -⟩ := ho.cells
  have hn : ((D.W : Int) != (O.W : Int)) = true := by rw [bne_iff_ne]; omega
  go_enter Tryz.func369, Tryz.ntmps369
  go_wp2
  go_quiet (fail)
  go_wp2
  go_ret
  refine ⟨rfl, ?_⟩
  with_reducible (repeat (first | exact Chg.refl _ _ | apply Chg.drew | apply Chg.drewN))
end Go.Proofs.YtlcoibhbdgdfcaaGreatDoor
