/-
  The walk of the document's Same of towers' rows, of rows that are the same. Conditions: the form's own reach. The walk of (*Tower).Join, where there is something to join. Conditions: the form's own reach. (*Tower).Join of whatever two towers of one width. Conditions: the form's own reach.
-/
import Derived.Test.YtlcoibhbdgdfcaaGreatDoorCoreCoinsB15
import Derived.Test.YtlcoibhbdgdfcaaGreatDoorCoreCoinsB13
import Derived.Test.YtlcoibhbdgdfcaaGreatDoorCoreCoinsB17
import Derived.Test.YtlcoibhbdgdfcaaGreatDoorCoreCoinsB18
import Derived.Test.YtlcoibhbdgdfcaaGreatDoorCoreCoinsB14
namespace Go.Proofs.YtlcoibhbdgdfcaaGreatDoor
open Go.RowKit

/-- Rows that are read. -/
structure RowsR (w : World) (rv : Value) (n : Nat) (vs : List Value) (rows : List (List Int)) : Prop where
  top : Rd w 1 rv n vs
  n_eq : n = rows.length
  len : vs.length = rows.length
  rd : ∀ j (h : j < vs.length) (h' : j < rows.length), Rd w 1 vs[j] rows[j].length (ints rows[j])
theorem RowsR.chg {w w1 : World} {rv : Value} {n : Nat} {vs : List Value} {rows : List (List Int)} {F : List Nat} (h : RowsR w rv n vs rows) (k : Chg F w w1) (h1 : ∀ b ∈ blkOf rv, b ∉ F) (h2 : ∀ v ∈ vs, ∀ b ∈ blkOf v, b ∉ F) : RowsR w1 rv n vs rows :=
  ⟨h.top.chg k h1, h.n_eq, h.len, fun j hj hj' => (h.rd j hj hj').chg k (h2 _ (List.getElem_mem hj))⟩
theorem RowsR.nil {w w1 : World} {rv : Value} {n : Nat} {vs : List Value} {rows : List (List Int)} (h : RowsR w rv n vs rows) (k : Chg [] w w1) : RowsR w1 rv n vs rows := h.chg k (by simp) (by simp)
theorem RowsR.at {w : World} {rv : Value} {n : Nat} {vs : List Value} {rows : List (List Int)} (h : RowsR w rv n vs rows) {j : Nat} (hj : j < rows.length) :
    ∃ g o c so sc, rv = .slice (some ⟨g, o, none⟩) n c ∧ w.cell? ⟨g, o + j, none⟩ = some (.slice so rows[j].length sc) ∧ Rd w 1 (.slice so rows[j].length sc) rows[j].length (ints rows[j]) := by
  have hl := h.len
  have hn := h.n_eq
  have hj' : j < vs.length := by omega
  obtain ⟨ao, cap, hv⟩ := h.top.shape
  subst hv
  obtain ⟨b, o, rfl, hc⟩ := h.top.addr (by omega)
  obtain ⟨so, sc, hs⟩ := (h.rd j hj' hj).shape
  refine ⟨b, o, cap, so, sc, rfl, ?_, hs ▸ h.rd j hj' hj⟩
  rw [hc j (by omega), List.getElem?_eq_getElem hj', hs]
theorem Tow.rowsR {w : World} {p tp : Nat} {rv : Value} {vs : List Value} {D : TwD} (h : Tow w p tp rv vs D) : RowsR w rv D.rows.length vs D.rows :=
  ⟨h.own.rd, rfl, h.rows.1, fun j hj hj' => (h.rows.2.1 j hj hj').rd⟩

end Go.Proofs.YtlcoibhbdgdfcaaGreatDoor

namespace Go.Proofs.YtlcoibhbdgdfcaaGreatDoor
open Go.RowKit

theorem enters_ends : ∀ (args : Array Value) (w : World), (callFunc 341 args).run Tryz.prog w = .ok (.enter 341 args) w := enters_of Tryz.func341 (by kernel_rfl) rfl
def TwD.rw (D : TwD) (rows : List (List Int)) : TwD := { D with rows := rows }
theorem Mv.lt_of {F F' : List Nat} {w w' : World} (h : Mv F w F' w') {b lo : Nat} (hF : ∀ c ∈ F, c < lo) (h1 : lo ≤ b) (h2 : b < w.heap.size) : b ∉ F' := fun e => by
  rcases h.fr b e with h3 | h3
  · have := hF b h3; omega
  · omega
theorem join_mv {w0 w7 w8 : World} {p tp g2 o2 n2 cc ix n9 c9 : Nat} {F0 : List Nat} {vsP : List Value} {a9 : Option Addr} {old : Value}
    (hm : Mv F0 w0 (fp p tp (.slice (some ⟨g2, o2, none⟩) n2 cc) vsP) w7) (hg : Chg (blkOf old) w7 w8) (hold : ∀ b ∈ blkOf old, b ∈ fp p tp (.slice (some ⟨g2, o2, none⟩) n2 cc) vsP) (hf : ∀ b ∈ abl a9, b ∈ blkOf old ∨ w7.heap.size ≤ b) :
    Mv F0 w0 (fp p tp (.slice (some ⟨g2, o2, none⟩) n2 cc) (vsP.set ix (.slice a9 n9 c9))) (w8.setCell ⟨g2, o2 + ix, none⟩ (.slice a9 n9 c9)) := by
  have hk := ((Chg.refl (fp p tp (.slice (some ⟨g2, o2, none⟩) n2 cc) vsP) w7).trans' hg (fun b hb => .inl (hold b hb))).setCell (a := ⟨g2, o2 + ix, none⟩) (.inl (by simp [fp])) (.slice a9 n9 c9)
  have hs := hm.chg.size
  refine ⟨hm.chg.trans' hk hm.fr, fun b hb => ?_⟩
  simp only [fp, List.mem_cons, List.mem_append, List.mem_flatMap] at hb
  rcases hb with rfl | rfl | hb | ⟨v, hv, hb⟩
  · exact hm.fr b (by simp [fp])
  · exact hm.fr b (by simp [fp])
  · exact hm.fr b (by simp only [fp, List.mem_cons, List.mem_append]; exact .inr (.inr (.inl hb)))
  · rcases List.mem_or_eq_of_mem_set hv with hv | rfl
    · exact hm.fr b (by simp only [fp, List.mem_cons, List.mem_append, List.mem_flatMap]; exact .inr (.inr (.inr ⟨v, hv, hb⟩)))
    · rcases hf b (by simpa using hb) with h1 | h1
      · exact hm.fr b (hold b h1)
      · exact .inr (by omega)

set_option maxRecDepth 100000 in
set_option maxHeartbeats 4000000 in
set_option linter.unusedSimpArgs false in
theorem req_join (w : World) (p tp : Nat) (rv : Value) (vs : List Value) (D : TwD) (ht : Tow w p tp rv vs D) (q tq : Nat) (qv : Value) (us : List Value) (O : TwD) (ho : Tow w q tq qv us O) (hdis : ∀ b ∈ fp p tp rv vs, b ∉ fp q tq qv us)
    (hWW : D.W = O.W) (hW : 4 ≤ D.W) (hW2 : D.W ≤ 64) (hword : D.word < 18446744073709551616) (hpos : 1 ≤ O.total) (hroom : D.total + O.total ≤ D.W * 1024) (hu : D.used ≤ 1000000) (hN : D.rows.flatten.length + O.rows.flatten.length ≤ 20000) (hR : D.rows.length ≤ 100) (hR2 : O.rows.length ≤ 100) :
    Calls Tryz.prog 369 #[.pointer (some ⟨p, 0, none⟩), .pointer (some ⟨q, 0, none⟩)] w fun e w' => e = .returned (.int .i64 0) ∧ ∃ rv' vs', Tow w' p tp rv' vs' (D.join O) ∧ Mv (fp p tp rv vs) w (fp p tp rv' vs') w' := by
  have HMO := Lib.hid (fun W hc => req_most W p tp rv vs D (ht.chg (F := []) hc (by simp)) hW2)
  obtain ⟨c0, c1, c2, c3, c4, c5, c6⟩ := ht.cells
  obtain ⟨k0, k1, k2, k3, k4, k5, k6⟩ := ho.cells
  rw [← hWW] at k0
  have e1 : ((O.total : Int) == 0) = false := by rw [beq_eq_false_iff_ne]; omega
  have e2 : ((D.W : Int) != (D.W : Int)) = false := by simp
  have HDS := Lib.hid hdis
  have HT := Lib.hid ht
  have HO := Lib.hid ho
  clear ht ho hdis
  go_enter Tryz.func369, Tryz.ntmps369
  go_wp2_with fail
  go_quiet (fail)
  have HC1 := Lib.hid ((Chg.refl [] w).drewN nq)
  have HT1 := Lib.hid (HT.out.chg HC1.out (by simp))
  have HO1 := Lib.hid (HO.out.chg HC1.out (by simp))
  clear c0 c1 c2 c3 c4 c5 c6 k0 k1 k2 k3 k4 k5 k6
  generalize w.drewN nq = w1 at *
  obtain ⟨c0, c1, c2, c3, c4, c5, c6⟩ := HT1.out.cells
  obtain ⟨k0, k1, k2, k3, k4, k5, k6⟩ := HO1.out.cells
  go_wp2_with fail
  have e4 : IntKind.u64.wrap (((D.W * 1024 : Nat) : Int) - (D.total : Int)) = ((D.W * 1024 - D.total : Nat) : Int) := by rw [IntKind.wrap_u64]; omega
  have e3 : decide (IntKind.u64.wrap (((D.W * 1024 : Nat) : Int) - (D.total : Int)) < (O.total : Int)) = false := decide_eq_false (by rw [e4]; omega)
  have e5 : decide (D.W * 1024 - D.total < O.total) = false := decide_eq_false (by omega)
  have HWT := Lib.hid (show D.W * 1024 ≤ 65536 by omega)
  have HRM := Lib.hid hroom
  clear hroom
  generalize D.W * 1024 = Wm at *
  go_quiet (first | (go_at_call 112; exact (HMO.out _ (HC1.out.trans (by with_reducible (repeat (first | exact Chg.refl _ _ | apply Chg.drew | apply Chg.drewN))))).mono fun e w' ⟨he, hw⟩ => ⟨he, _, hw.symm⟩))
  have HC2 := Lib.hid (HC1.out.drewN nq)
  have HT2 := Lib.hid (HT1.out.chg ((Chg.refl [] w1).drewN nq) (by simp))
  have HO2 := Lib.hid (HO1.out.chg ((Chg.refl [] w1).drewN nq) (by simp))
  clear c0 c1 c2 c3 c4 c5 c6 k0 k1 k2 k3 k4 k5 k6 HT1 HO1 HC1 HMO HT HO e3 e4 e5
  generalize w1.drewN nq = w2 at *
  obtain ⟨k0, k1, k2, k3, k4, k5, k6⟩ := HO2.out.cells
  go_wp2_with fail
  have HEN := Lib.hid (req_ends w2.drew p tp rv vs D (HT2.out.chg ((Chg.refl [] w2).drew) (by simp)) O.least O.most)
  refine startG (S := fun wx => wx.cell? ⟨q, 5, none⟩ = some (.int .i64 O.least) ∧ wx.cell? ⟨q, 6, none⟩ = some (.int .i64 O.most)) (st := 9) (by kernel_rfl) ⟨k5, k6⟩ (fun hHeld => ?_)
  refine takeP (i := 0) (v := ?va0) rfl (by kernel_rfl) (by kernel_rfl) (by kernel_rfl) (by decide) (fun _ _ _ h => h) (Or.inl ⟨by rfl, ?ya0⟩) (by assumption) ?ra0
  case ya0 => (intro w _; go_simp; first | done | with_reducible rfl)
  try simp only [Act.put, List.setIfInBounds_toArray, List.set_cons_zero, List.set_cons_succ]
  refine takeP (i := 1) (v := ?va1) rfl (by kernel_rfl) (by kernel_rfl) (by kernel_rfl) (by decide) (fun _ _ _ h => h) (Or.inl ⟨by rfl, ?ya1⟩) (by assumption) ?ra1
  case ya1 => (intro w _; go_simp; first | done | with_reducible rfl)
  try simp only [Act.put, List.setIfInBounds_toArray, List.set_cons_zero, List.set_cons_succ]
  refine takeP (i := 2) (v := ?va2) rfl (by kernel_rfl) (by kernel_rfl) (by kernel_rfl) (by decide) (fun _ _ _ h => h) (Or.inl ⟨by rfl, ?ya2⟩) (by assumption) ?ra2
  case ya2 => (intro w _; go_simp; first | done | with_reducible rfl)
  try simp only [Act.put, List.setIfInBounds_toArray, List.set_cons_zero, List.set_cons_succ]
  refine takeP (i := 3) (v := ?va3) rfl (by kernel_rfl) (by kernel_rfl) (by kernel_rfl) (by decide) (fun _ _ _ h => h) (Or.inl ⟨by rfl, ?ya3⟩) (by assumption) ?ra3
  case ya3 => (intro w _; go_simp; first | done | with_reducible rfl)
  try simp only [Act.put, List.setIfInBounds_toArray, List.set_cons_zero, List.set_cons_succ]
  refine takeG (i := 4) (v := ?va4) rfl (by kernel_rfl) (by kernel_rfl) (by kernel_rfl) (by decide) (by kernel_rfl) (by kernel_rfl) (fun _ _ _ h => h) (Or.inl ⟨by rfl, ?ya4⟩) (by assumption) ?ra4
  case ya4 => (intro w hSw; (try dsimp only at hSw); go_simp; first | done | with_reducible rfl)
  try simp only [Act.put, List.setIfInBounds_toArray, List.set_cons_zero, List.set_cons_succ]
  refine takeP (i := 5) (v := ?va5) rfl (by kernel_rfl) (by kernel_rfl) (by kernel_rfl) (by decide) (fun _ _ _ h => h) (Or.inl ⟨by rfl, ?ya5⟩) (by assumption) ?ra5
  case ya5 => (intro w _; go_simp; first | done | with_reducible rfl)
  try simp only [Act.put, List.setIfInBounds_toArray, List.set_cons_zero, List.set_cons_succ]
  refine takeP (i := 6) (v := ?va6) rfl (by kernel_rfl) (by kernel_rfl) (by kernel_rfl) (by decide) (fun _ _ _ h => h) (Or.inl ⟨by rfl, ?ya6⟩) (by assumption) ?ra6
  case ya6 => (intro w _; go_simp; first | done | with_reducible rfl)
  try simp only [Act.put, List.setIfInBounds_toArray, List.set_cons_zero, List.set_cons_succ]
  refine takeP (i := 7) (v := ?va7) rfl (by kernel_rfl) (by kernel_rfl) (by kernel_rfl) (by decide) (fun _ _ _ h => h) (Or.inl ⟨by rfl, ?ya7⟩) (by assumption) ?ra7
  case ya7 => (intro w _; go_simp; first | done | with_reducible rfl)
  try simp only [Act.put, List.setIfInBounds_toArray, List.set_cons_zero, List.set_cons_succ]
  refine takeG (i := 8) (v := ?va8) rfl (by kernel_rfl) (by kernel_rfl) (by kernel_rfl) (by decide) (by kernel_rfl) (by kernel_rfl) (fun _ _ _ h => h) (Or.inl ⟨by rfl, ?ya8⟩) (by assumption) ?ra8
  case ya8 => (intro w hSw; (try dsimp only at hSw); go_simp; first | done | with_reducible rfl)
  try simp only [Act.put, List.setIfInBounds_toArray, List.set_cons_zero, List.set_cons_succ]
  refine readyG (rs := [9]) (by kernel_rfl) (by simp) (consG rfl (fun K hK => ?_) nilG)
  refine step_calls rfl 341 _ _ rfl enters_ends _ #[.pointer (some ⟨p, 0, none⟩), .int .i64 O.least, .int .i64 O.most] (by simp [Act.eval, Act.put]) HEN.out ?_; rintro e w3 ⟨rfl, ht3, hc3⟩; refine ⟨_, rfl, ?_⟩
  refine hK.out _ _ (fun h => absurd rfl h) (fun hHeld => ?_)
  clear hK K hHeld
  try simp only [Act.put, List.setIfInBounds_toArray, List.set_cons_zero, List.set_cons_succ]
  refine doneG (by kernel_rfl) ?_ _
  obtain ⟨E, hE⟩ : ∃ E, E = D.ends O.least O.most := ⟨_, rfl⟩
  have HES := Lib.hid (show E.W = D.W ∧ E.word = D.word ∧ E.total = D.total ∧ E.rows = D.rows ∧ E.used = D.used from hE ▸ D.ends_same O.least O.most)
  have HJD := Lib.hid (show D.joined O = { E with total := D.total + O.total, rows := joinR D.rows O.rows } from by rw [hE]; rfl)
  rw [← hE] at ht3
  have hc23 : Chg [p] w2 w3 := ⟨hc3.os, hc3.tape, hc3.output, hc3.size, hc3.block⟩
  have hpq : ∀ b ∈ fp q tq qv us, b ∉ [p] := fun b hb e => by simp at e; subst e; exact HDS.out b (by simp [fp]) hb
  have HO3 := Lib.hid (HO2.out.chg hc23 hpq)
  have HT3 := Lib.hid ht3
  have HC3 := Lib.hid hc23
  clear hE ht3 hc3 hc23 hpq k0 k1 k2 k3 k4 k5 k6 HEN
  obtain ⟨-, -, -, -, k4, -, -⟩ := HO3.out.cells
  obtain ⟨-, -, -, -, c4, -, -⟩ := HT3.out.cells
  rw [HES.out.2.2.1] at c4
  have f4 := HT3.out.blk.free 4
  have hsm : IntKind.u64.wrap ((D.total : Int) + (O.total : Int)) = (D.total : Int) + (O.total : Int) := by have h1 := HWT.out; have h2 := HRM.out; rw [IntKind.wrap_u64]; omega
  obtain ⟨hT4, hC4⟩ := HT3.out.setTotal (D.total + O.total)
  have hcs : ((D.total + O.total : Nat) : Int) = (D.total : Int) + (O.total : Int) := by push_cast; rfl
  rw [hcs] at hT4 hC4
  have HT4 := Lib.hid (hT4.chg ((Chg.refl [] _).drew) (by simp))
  have HC4 := Lib.hid hC4.drew
  clear hT4 hC4 hcs
  go_wp2_with fail
  refine startG (S := fun wx => wx.cell? ⟨p, 4, none⟩ = some (.int .u64 (D.total : Nat)) ∧ wx.cell? ⟨q, 4, none⟩ = some (.int .u64 (O.total : Nat))) (st := 11) (by kernel_rfl) ⟨c4, k4⟩ (fun hHeld => ?_)
  refine takeP (i := 0) (v := ?vb0) rfl (by kernel_rfl) (by kernel_rfl) (by kernel_rfl) (by decide) (fun _ _ _ h => h) (Or.inl ⟨by rfl, ?yb0⟩) (by assumption) ?rb0
  case yb0 => (intro w _; go_simp; first | done | with_reducible rfl)
  try simp only [Act.put, List.setIfInBounds_toArray, List.set_cons_zero, List.set_cons_succ]
  refine takeP (i := 1) (v := ?vb1) rfl (by kernel_rfl) (by kernel_rfl) (by kernel_rfl) (by decide) (fun _ _ _ h => h) (Or.inl ⟨by rfl, ?yb1⟩) (by assumption) ?rb1
  case yb1 => (intro w _; go_simp; first | done | with_reducible rfl)
  try simp only [Act.put, List.setIfInBounds_toArray, List.set_cons_zero, List.set_cons_succ]
  refine takeP (i := 2) (v := ?vb2) rfl (by kernel_rfl) (by kernel_rfl) (by kernel_rfl) (by decide) (fun _ _ _ h => h) (Or.inl ⟨by rfl, ?yb2⟩) (by assumption) ?rb2
  case yb2 => (intro w _; go_simp; first | done | with_reducible rfl)
  try simp only [Act.put, List.setIfInBounds_toArray, List.set_cons_zero, List.set_cons_succ]
  refine takeG (i := 3) (v := ?vb3) rfl (by kernel_rfl) (by kernel_rfl) (by kernel_rfl) (by decide) (by kernel_rfl) (by kernel_rfl) (fun _ _ _ h => h) (Or.inl ⟨by rfl, ?yb3⟩) (by assumption) ?rb3
  case yb3 => (intro w hSw; (try dsimp only at hSw); go_simp; first | done | with_reducible rfl)
  try simp only [Act.put, List.setIfInBounds_toArray, List.set_cons_zero, List.set_cons_succ]
  refine takeP (i := 4) (v := ?vb4) rfl (by kernel_rfl) (by kernel_rfl) (by kernel_rfl) (by decide) (fun _ _ _ h => h) (Or.inl ⟨by rfl, ?yb4⟩) (by assumption) ?rb4
  case yb4 => (intro w _; go_simp; first | done | with_reducible rfl)
  try simp only [Act.put, List.setIfInBounds_toArray, List.set_cons_zero, List.set_cons_succ]
  refine takeP (i := 5) (v := ?vb5) rfl (by kernel_rfl) (by kernel_rfl) (by kernel_rfl) (by decide) (fun _ _ _ h => h) (Or.inl ⟨by rfl, ?yb5⟩) (by assumption) ?rb5
  case yb5 => (intro w _; go_simp; first | done | with_reducible rfl)
  try simp only [Act.put, List.setIfInBounds_toArray, List.set_cons_zero, List.set_cons_succ]
  refine takeP (i := 6) (v := ?vb6) rfl (by kernel_rfl) (by kernel_rfl) (by kernel_rfl) (by decide) (fun _ _ _ h => h) (Or.inl ⟨by rfl, ?yb6⟩) (by assumption) ?rb6
  case yb6 => (intro w _; go_simp; first | done | with_reducible rfl)
  try simp only [Act.put, List.setIfInBounds_toArray, List.set_cons_zero, List.set_cons_succ]
  refine takeG (i := 7) (v := ?vb7) rfl (by kernel_rfl) (by kernel_rfl) (by kernel_rfl) (by decide) (by kernel_rfl) (by kernel_rfl) (fun _ _ _ h => h) (Or.inl ⟨by rfl, ?yb7⟩) (by assumption) ?rb7
  case yb7 => (intro w hSw; (try dsimp only at hSw); go_simp; first | done | with_reducible rfl)
  try simp only [Act.put, List.setIfInBounds_toArray, List.set_cons_zero, List.set_cons_succ]
  refine takeP (i := 8) (v := ?vb8) rfl (by kernel_rfl) (by kernel_rfl) (by kernel_rfl) (by decide) (fun _ _ _ h => h) (Or.inl ⟨by rfl, ?yb8⟩) (by assumption) ?rb8
  case yb8 => (intro w _; go_simp; first | done | with_reducible rfl)
  try simp only [Act.put, List.setIfInBounds_toArray, List.set_cons_zero, List.set_cons_succ]
  refine takeP (i := 9) (v := ?vb9) rfl (by kernel_rfl) (by kernel_rfl) (by kernel_rfl) (by decide) (fun _ _ _ h => h) (Or.inl ⟨by rfl, ?yb9⟩) (by assumption) ?rb9
  case yb9 => (intro w _; go_simp; first | done | with_reducible rfl)
  try simp only [Act.put, List.setIfInBounds_toArray, List.set_cons_zero, List.set_cons_succ]
  refine takeP (i := 10) (v := ?vb10) rfl (by kernel_rfl) (by kernel_rfl) (by kernel_rfl) (by decide) (fun _ _ _ h => h) (Or.inl ⟨by rfl, ?yb10⟩) (by assumption) ?rb10
  case yb10 => (intro w _; go_simp; first | done | with_reducible rfl)
  try simp only [Act.put, List.setIfInBounds_toArray, List.set_cons_zero, List.set_cons_succ]
  refine readyG (rs := [11]) (by kernel_rfl) (by simp) (consG rfl (fun K hK => ?_) nilG)
  go_simp
  refine hK.out _ _ (fun h => absurd rfl h) (fun hHeld => ?_)
  clear hK K hHeld
  try simp only [Act.put, List.setIfInBounds_toArray, List.set_cons_zero, List.set_cons_succ]
  refine doneG (by kernel_rfl) ?_ _
  clear c4 k4 f4 hsm
  generalize (w3.setCell ⟨p, 4, none⟩ (.int .u64 ((D.total : Int) + (O.total : Int)))).drew = w4 at *
  have HO4 := Lib.hid (HO3.out.chg HC4.out (fun b hb e => by simp at e; subst e; exact HDS.out b (by simp [fp]) hb))
  have HRW := Lib.hid (req_rows w4 q tq qv us O HO4.out (by omega) (by omega))
  have HF4 := Lib.hid HT4.out.lt
  have HCW := Lib.hid (show Chg (fp p tp rv vs) w w4 from ((HC2.out.mono (by simp)).trans' (HC3.out) (fun b hb => .inl (by simp at hb; subst hb; simp [fp]))).trans' HC4.out (fun b hb => .inl (by simp at hb; subst hb; simp [fp])))
  clear HT2 HO2 HT3 HO3 HC2 HC3 HC4 HO4 HDS
  generalize hnn : O.rows.length = n at *
  have HNN := Lib.hid hnn
  clear hnn
  go_wp2_with fail
  refine HRW.out.mono ?_
  rintro e w5 ⟨ro, rc, xs, rfl, ⟨hx1, hx2, hx3, hx4⟩, hc5⟩
  have HX1 := Lib.hid (show Own w5 121 1 (.slice ro n rc) n xs from HNN.out ▸ hx1)
  have HX2 := Lib.hid hx2
  have HX3 := Lib.hid hx3
  have HX4 := Lib.hid hx4
  have HT5 := Lib.hid (HT4.out.chg hc5 (by simp))
  have HM5 := Lib.hid (show Mv (fp p tp rv vs) w (fp p tp rv vs) w5 from Mv.of_chg (HCW.out.trans (hc5.mono (by simp))))
  clear HRW hx1 hx2 hx3 hx4 HT4 HCW hc5
  go_wp2
  go_loopw [69] (fun i wx => ∃ (k : Nat) (rv' : Value) (vs' : List Value), k ≤ n ∧ i = .int .i64 (k : Nat) ∧ Tow wx p tp rv' vs' (TwD.rw { E with total := D.total + O.total } (joinR D.rows (O.rows.take k))) ∧ Mv (fp p tp rv vs) w5 (fp p tp rv' vs') wx) (fun i _ => n - (intOf i).toNat)
  case atStart => exact ⟨0, rv, vs, Nat.zero_le _, rfl, by rw [List.take_zero, joinR_nil, ← HES.out.2.2.2.1]; exact HT5.out, Mv.refl _ _⟩
  case round =>
    obtain ⟨k, rv', vs', hk, rfl, ht', hm'⟩ := hrel
    obtain ⟨c0, c1, c2, c3, -, -, -⟩ := ht'.cells
    obtain ⟨rows, hrows⟩ : ∃ z, z = joinR D.rows (O.rows.take k) := ⟨_, rfl⟩
    rw [← hrows] at ht'
    have hrl : rows.length ≤ 100 := by rw [hrows, joinR_len, List.length_take]; omega
    have hkr : k ≤ rows.length := by rw [hrows, joinR_len, List.length_take]; have := HNN.out; omega
    have hfl : rows.flatten.length ≤ 20000 := by
      have h1 := joinR_flat D.rows (O.rows.take k)
      have h2 : (O.rows.take k).flatten.length ≤ O.rows.flatten.length := by
        conv => rhs; rw [← List.take_append_drop k O.rows, List.flatten_append, List.length_append]
        omega
      rw [hrows]; omega
    obtain ⟨ro2, rc2, hrv⟩ : ∃ ro rc, rv' = .slice ro rows.length rc := ht'.own.shape
    subst hrv
    by_cases hlt : k < n
    · have hko : k < O.rows.length := by have := HNN.out; omega
      have hkx : k < xs.length := by have := HX2.out.1; omega
      have HSTEP := Lib.hid (joinR_step D.rows O.rows k hko)
      rw [← hrows] at HSTEP
      have hxk := HX2.out.2.1 k hkx hko
      obtain ⟨so, sc, hsv⟩ := hxk.shape
      have hxlt : ∀ b ∈ blkOf xs[k], b < w5.heap.size := hxk.lt
      have hxlo := HX4.out xs[k] (List.getElem_mem hkx)
      rw [hsv] at hxk hxlt hxlo
      obtain ⟨g5, o5, cp5, hv5, d0, -, -⟩ := HX1.out.at1 (j := k) hlt hkx
      simp only [Value.slice.injEq, true_and] at hv5
      obtain ⟨rfl, rfl⟩ := hv5
      rw [hsv] at d0
      have htop5 : g5 < w5.heap.size := HX1.out.lt g5 (by simp)
      have htop3 := HX3.out g5 (by simp)
      have d1 : wr.cell? ⟨g5, o5 + k, none⟩ = some (.slice so O.rows[k].length sc) := by
        rw [hm'.chg.cell' htop5 (fun e => by have h : g5 < w4.heap.size := HF4.out g5 e; omega)]
        exact d0
      have hxr : Rd wr 1 (.slice so O.rows[k].length sc) O.rows[k].length (ints O.rows[k]) := hxk.rd.chg hm'.chg (fun b hb e => by have := HF4.out _ e; have := hxlo b hb; omega)
      have hxout := Lib.hid (show ∀ b ∈ blkOf (.slice so O.rows[k].length sc), b ∉ fp p tp (.slice ro2 rows.length rc2) vs' from fun b hb => hm'.lt_of HF4.out (hxlo b hb) (hxlt b hb))
      have hrn : O.rows[k].length ≤ 20000 := by have := flat_le hko; omega
      have HXR := Lib.hid hxr
      clear hsv hxk hxlt hxlo d0 hrows hxr htop5 htop3
      generalize O.rows[k] = s at *
      obtain ⟨m, hm⟩ : ∃ m, m = s.length := ⟨_, rfl⟩
      rw [← hm] at d1 hrn HXR hxout
      have HMS := Lib.hid hm
      clear hm
      have HT := Lib.hid ht'
      have HM := Lib.hid hm'
      have hvl := Lib.hid (show vs'.length = rows.length from ht'.rows.1)
      have c3' : wr.cell? ⟨p, 3, none⟩ = some (.slice ro2 rows.length rc2) := c3
      have hfr3 := ht'.blk.free 3
      have hoc : ∀ y ∈ [Value.slice none 0 0], y.oneCell' = true := fun y hy => by simp at hy; subst hy; rfl
      obtain ⟨rowsP, hrowsP⟩ : ∃ z, z = (if k = rows.length then rows ++ [[]] else rows) := ⟨_, rfl⟩
      obtain ⟨vsP, hvsP⟩ : ∃ z, z = (if k = rows.length then vs' ++ [.slice none 0 0] else vs') := ⟨_, rfl⟩
      have HST := Lib.hid (HSTEP.out rowsP hrowsP)
      clear ht' hm' c0 c1 c2 c3 HSTEP
      go_upto_if 80 with (fail)
      go_cut [5, 6] (fun a b wx => ∃ rv2, a = .int .i64 (k : Nat) ∧ b = .slice so m sc ∧ Tow wx p tp rv2 vsP (TwD.rw { E with total := D.total + O.total } rowsP) ∧ Mv (fp p tp (.slice ro2 rows.length rc2) vs') wr (fp p tp rv2 vsP) wx)
      case first =>
        by_cases hlast : k = rows.length
        · rw [if_pos hlast] at hrowsP hvsP
          have hlb : ((k : Int) == (rows.length : Int)) = true := by rw [beq_iff_eq]; omega
          have hrd : Rd (wr.alloc (.cells #[.slice none 0 0] 121)) 1 (.slice (some ⟨wr.heap.size, 0, none⟩) 1 1) 1 [.slice none 0 0] := Rd.lit1 wr (.slice none 0 0) 121 1
          have hrl1 : rows.length + 1 ≤ 60101 := by omega
          clear hlast
          go_wp2_with (at_builtin; go_must (refine wpList_append_src _ rfl (.tmp 85) (.tmp 86) 191 191 rfl 121 _ 1 24 under_rowsT info_intsT rfl (by decide) (.slice ro2 rows.length rc2) rows.length vs' rfl (HT.out.own.alloc _) (.slice (some ⟨wr.heap.size, 0, none⟩) 1 1) 1 [.slice none 0 0] rfl (Src.of_rd under_rowsT hrd) hoc (by unfold maxLen; omega) (by omega) ?_; intro a6 c6 w6 ho6 hg6 hf6; have HG6 := Lib.hid ((HT.out.blk.alloc (.cells #[.slice none 0 0] 121)).chg hg6 (HT.out.p_rv)); have z3 := HG6.out.cell 3; have zf := HG6.out.free 3))
          go_meet
          have hk2 : Chg (blkOf (.slice ro2 rows.length rc2)) wr w6 := ((Chg.refl _ wr).alloc _).trans' hg6 (fun b hb => .inl hb)
          refine ⟨.slice a6 (rows.length + 1) c6, rfl, rfl, ?_, ?_, ?_⟩
          · rw [hrowsP, hvsP]
            exact HT.out.push hk2 ho6
          · exact (hk2.mono (fun b hb => .inl (HT.out.mem_rv b hb))).setCell (a := ⟨p, 3, none⟩) (.inl (by simp [fp])) _
          · intro b hb
            rw [hvsP] at hb
            simp only [fp, List.flatMap_append, List.flatMap_cons, List.flatMap_nil, List.append_nil, List.mem_cons, List.mem_append, blkOf_slice] at hb ⊢
            rcases hb with rfl | rfl | hb | hb | hb
            · simp
            · simp
            · rcases hf6 b hb with h | h
              · simp at h; simp [h]
              · simp at h; right; omega
            · exact .inl (.inr (.inr (.inr hb)))
            · simp at hb
        · rw [if_neg hlast] at hrowsP hvsP
          have hlb : ((k : Int) == (rows.length : Int)) = false := by rw [beq_eq_false_iff_ne]; omega
          subst hrowsP hvsP
          go_wp2
          go_meet
          exact ⟨_, rfl, rfl, HT.out, Mv.refl _ _⟩
      case rest =>
        rename World => w6
        obtain ⟨rv2, rfl, rfl, HT6, HM6⟩ := hcut
        have hPl : vsP.length = rowsP.length := HT6.rows.1
        have hkP : k < rowsP.length := by
          rw [hrowsP]; split
          · simp; omega
          · omega
        have hkP2 : rowsP.length ≤ 101 := by
          rw [hrowsP]; split
          · simp; omega
          · omega
        have hkV : k < vsP.length := by omega
        obtain ⟨g2, o2, cc, rfl, e0, e1, hcc⟩ : ∃ g o cap, rv2 = .slice (some ⟨g, o, none⟩) rowsP.length cap ∧ w6.cell? ⟨g, o + k, none⟩ = some vsP[k] ∧ w6.frozen? ⟨g, o + k, none⟩ = false ∧ rowsP.length ≤ cap := HT6.own.at1 (j := k) hkP hkV
        have hown1 : Own w6 2 1 vsP[k] rowsP[k].length (ints rowsP[k]) := HT6.rows.2.1 k hkV hkP
        obtain ⟨so1, sc1, hsv1⟩ := hown1.shape
        rw [hsv1] at e0 hown1
        have HGD := Lib.hid (getD_at hkP)
        have hl1N : rowsP[k].length ≤ 20000 := by
          by_cases hla : k = rows.length
          · rw [if_pos hla] at hrowsP
            subst hrowsP
            rw [List.getElem_append_right (by omega)]
            simp
          · rw [if_neg hla] at hrowsP
            subst hrowsP
            exact Nat.le_trans (flat_le hkP) hfl
        have HT6 := Lib.hid HT6
        have HM6 := Lib.hid HM6
        have HXR6 := Lib.hid (HXR.out.chg HM6.out.chg hxout.out)
        have HSV1 := Lib.hid hsv1
        have HJ := Lib.hid hkV
        have q3 : w6.cell? ⟨p, 3, none⟩ = some (.slice (some ⟨g2, o2, none⟩) rowsP.length cc) := HT6.out.cells.2.2.2.1
        have HTD := Lib.hid (show Tow w6.drew _ _ _ _ _ from HT6.out.chg ((Chg.refl [] w6).drew) (by simp))
        have HMD := Lib.hid (show Mv (fp p tp rv vs) w5 (fp p tp (.slice (some ⟨g2, o2, none⟩) rowsP.length cc) vsP) w6.drew from ⟨(HM.out.trans HM6.out).chg.drew, (HM.out.trans HM6.out).fr⟩)
        have HOLD := Lib.hid (show ∀ b ∈ blkOf (.slice so1 rowsP[k].length sc1), b ∈ fp p tp (.slice (some ⟨g2, o2, none⟩) rowsP.length cc) vsP from fun b hb => HT6.out.mem_row k hkV b (by rw [hsv1]; exact hb))
        obtain ⟨r1, hr1⟩ : ∃ z, z = rowsP[k] := ⟨_, rfl⟩
        rw [← hr1] at e0 hown1 hl1N HGD HSV1 HOLD
        obtain ⟨l1, hl1⟩ : ∃ z, z = r1.length := ⟨_, rfl⟩
        rw [← hl1] at e0 hown1 hl1N HSV1 HOLD
        have HOW := Lib.hid (show Own w6.drew 2 1 (.slice so1 l1 sc1) l1 (ints r1) from hown1.drew)
        have HXD := Lib.hid (show Rd w6.drew 1 (.slice so m sc) m (ints s) from HXR6.out.chg ((Chg.refl [] w6).drew) (by simp))
        have HL1 := Lib.hid hl1
        have hlk : l1 + m ≤ maxLen := by unfold maxLen; omega
        have hlk8 : (l1 + m) * 8 ≤ 140737488355328 := by omega
        have hkP3 : (0 : Int) ≤ (k : Int) := by omega
        have hkP4 : (k : Int) < (rowsP.length : Int) := by omega
        have hHR := Lib.hid hrowsP
        have hHV := Lib.hid hvsP
        have hPl' := Lib.hid hPl
        clear hsv1 hown1 hr1 hl1 hrowsP hvsP hPl hkr hrl hfl
        go_wp2_with fail
        refine startG (S := fun wx => wx.cell? ⟨p, 3, none⟩ = some (.slice (some ⟨g2, o2, none⟩) rowsP.length cc) ∧ wx.cell? ⟨g2, o2 + k, none⟩ = some (.slice so1 l1 sc1)) (st := 15) (by kernel_rfl) ⟨q3, e0⟩ (fun hHeld => ?_)
        refine takeP (i := 0) (v := ?vc0) rfl (by kernel_rfl) (by kernel_rfl) (by kernel_rfl) (by decide) (fun _ _ _ h => h) (Or.inl ⟨by rfl, ?yc0⟩) (by assumption) ?rc0
        case yc0 => (intro w _; go_simp; first | done | with_reducible rfl)
        try simp only [Act.put, List.setIfInBounds_toArray, List.set_cons_zero, List.set_cons_succ]
        refine takeP (i := 1) (v := ?vc1) rfl (by kernel_rfl) (by kernel_rfl) (by kernel_rfl) (by decide) (fun _ _ _ h => h) (Or.inl ⟨by rfl, ?yc1⟩) (by assumption) ?rc1
        case yc1 => (intro w _; go_simp; first | done | with_reducible rfl)
        try simp only [Act.put, List.setIfInBounds_toArray, List.set_cons_zero, List.set_cons_succ]
        refine takeP (i := 2) (v := ?vc2) rfl (by kernel_rfl) (by kernel_rfl) (by kernel_rfl) (by decide) (fun _ _ _ h => h) (Or.inl ⟨by rfl, ?yc2⟩) (by assumption) ?rc2
        case yc2 => (intro w _; go_simp; first | done | with_reducible rfl)
        try simp only [Act.put, List.setIfInBounds_toArray, List.set_cons_zero, List.set_cons_succ]
        refine takeG (i := 3) (v := ?vc3) rfl (by kernel_rfl) (by kernel_rfl) (by kernel_rfl) (by decide) (by kernel_rfl) (by kernel_rfl) (fun _ _ _ h => h) (Or.inl ⟨by rfl, ?yc3⟩) (by assumption) ?rc3
        case yc3 => (intro w hSw; (try dsimp only at hSw); go_simp; first | done | with_reducible rfl)
        try simp only [Act.put, List.setIfInBounds_toArray, List.set_cons_zero, List.set_cons_succ]
        refine takeP (i := 4) (v := ?vc4) rfl (by kernel_rfl) (by kernel_rfl) (by kernel_rfl) (by decide) (fun _ _ _ h => h) (Or.inl ⟨by rfl, ?yc4⟩) (by assumption) ?rc4
        case yc4 => (intro w _; go_simp; first | done | with_reducible rfl)
        try simp only [Act.put, List.setIfInBounds_toArray, List.set_cons_zero, List.set_cons_succ]
        refine takeP (i := 5) (v := ?vc5) rfl (by kernel_rfl) (by kernel_rfl) (by kernel_rfl) (by decide) (fun _ _ _ h => h) (Or.inl ⟨by rfl, ?yc5⟩) (by assumption) ?rc5
        case yc5 => (intro w _; go_simp; first | done | with_reducible rfl)
        try simp only [Act.put, List.setIfInBounds_toArray, List.set_cons_zero, List.set_cons_succ]
        refine takeP (i := 6) (v := ?vc6) rfl (by kernel_rfl) (by kernel_rfl) (by kernel_rfl) (by decide) (fun _ _ _ h => h) (Or.inl ⟨by rfl, ?yc6⟩) (by assumption) ?rc6
        case yc6 => (intro w _; go_simp; first | done | with_reducible rfl)
        try simp only [Act.put, List.setIfInBounds_toArray, List.set_cons_zero, List.set_cons_succ]
        refine takeP (i := 7) (v := ?vc7) rfl (by kernel_rfl) (by kernel_rfl) (by kernel_rfl) (by decide) (fun _ _ _ h => h) (Or.inl ⟨by rfl, ?yc7⟩) (by assumption) ?rc7
        case yc7 => (intro w _; go_simp; first | done | with_reducible rfl)
        try simp only [Act.put, List.setIfInBounds_toArray, List.set_cons_zero, List.set_cons_succ]
        refine takeG (i := 8) (v := ?vc8) rfl (by kernel_rfl) (by kernel_rfl) (by kernel_rfl) (by decide) (by kernel_rfl) (by kernel_rfl) (fun _ _ _ h => h) (Or.inl ⟨by rfl, ?yc8⟩) (by assumption) ?rc8
        case yc8 => (intro w hSw; (try dsimp only at hSw); go_simp; first | done | with_reducible rfl)
        try simp only [Act.put, List.setIfInBounds_toArray, List.set_cons_zero, List.set_cons_succ]
        refine takeP (i := 9) (v := ?vc9) rfl (by kernel_rfl) (by kernel_rfl) (by kernel_rfl) (by decide) (fun _ _ _ h => h) (Or.inl ⟨by rfl, ?yc9⟩) (by assumption) ?rc9
        case yc9 => (intro w _; go_simp; first | done | with_reducible rfl)
        try simp only [Act.put, List.setIfInBounds_toArray, List.set_cons_zero, List.set_cons_succ]
        refine takeP (i := 10) (v := ?vc10) rfl (by kernel_rfl) (by kernel_rfl) (by kernel_rfl) (by decide) (fun _ _ _ h => h) (Or.inl ⟨by rfl, ?yc10⟩) (by assumption) ?rc10
        case yc10 => (intro w _; go_simp; first | done | with_reducible rfl)
        try simp only [Act.put, List.setIfInBounds_toArray, List.set_cons_zero, List.set_cons_succ]
        refine takeG (i := 11) (v := ?vc11) rfl (by kernel_rfl) (by kernel_rfl) (by kernel_rfl) (by decide) (by kernel_rfl) (by kernel_rfl) (fun _ _ _ h => h) (Or.inl ⟨by rfl, ?yc11⟩) (by assumption) ?rc11
        case yc11 => (intro w hSw; (try dsimp only at hSw); go_simp; first | done | with_reducible rfl)
        try simp only [Act.put, List.setIfInBounds_toArray, List.set_cons_zero, List.set_cons_succ]
        refine takeP (i := 12) (v := ?vc12) rfl (by kernel_rfl) (by kernel_rfl) (by kernel_rfl) (by decide) (fun _ _ _ h => h) (Or.inl ⟨by rfl, ?yc12⟩) (by assumption) ?rc12
        case yc12 => (intro w _; go_simp; first | done | with_reducible rfl)
        try simp only [Act.put, List.setIfInBounds_toArray, List.set_cons_zero, List.set_cons_succ]
        refine readyG (rs := [13]) (by kernel_rfl) (by simp) (consG rfl (fun K hK => ?_) nilG)
        refine step_append_src rfl (.tmp 101) (.tmp 102) 121 121 rfl 2 _ 1 8 under_ints info_i64 rfl (by decide) (.slice so1 l1 sc1) l1 (ints r1) rfl HOW.out (.slice so m sc) m (ints s) rfl (Src.of_rd under_ints HXD.out) (ints_oneCell _) hlk hlk8 ?_; intro a9 c9 w7 ho7 hg7 hf7
        obtain ⟨y0, y1, y3⟩ : w7.cell? ⟨g2, o2 + k, none⟩ = some (.slice so1 l1 sc1) ∧ w7.frozen? ⟨g2, o2 + k, none⟩ = false ∧ w7.cell? ⟨p, 3, none⟩ = some (.slice (some ⟨g2, o2, none⟩) rowsP.length cc) := HTD.out.at3 (j := k) HJ.out HSV1.out hg7
        refine hK.out _ _ (fun _ _ => ⟨y3, y0⟩) (fun hHeld => ?_)
        clear hK K hHeld
        try simp only [Act.put, List.setIfInBounds_toArray, List.set_cons_zero, List.set_cons_succ]
        refine readyG (rs := [14]) (by kernel_rfl) (by simp) (consG rfl (fun K hK => ?_) nilG)
        go_simp
        refine hK.out _ _ (fun _ _ => ⟨y3, y0⟩) (fun hHeld => ?_)
        clear hK K hHeld
        try simp only [Act.put, List.setIfInBounds_toArray, List.set_cons_zero, List.set_cons_succ]
        refine readyG (rs := [15]) (by kernel_rfl) (by simp) (consG rfl (fun K hK => ?_) nilG)
        go_simp
        refine hK.out _ _ (fun h => absurd rfl h) (fun hHeld => ?_)
        clear hK K hHeld
        try simp only [Act.put, List.setIfInBounds_toArray, List.set_cons_zero, List.set_cons_succ]
        refine doneG (by kernel_rfl) ?_ _
        have HT8 := Lib.hid (settle_tow HTD.out HJ.out HSV1.out hg7 HL1.out HMS.out ho7 hf7)
        have HMX := Lib.hid (join_mv (ix := k) (n9 := l1 + m) (c9 := c9) HMD.out hg7 HOLD.out hf7)
        clear ho7 hg7 hf7 y0 y1 y3 q3 e0 e1
        go_wp2
        exact ⟨⟨k + 1, _, _, by omega, by go_num, by rw [HST.out, HGD.out]; exact HT8.out, HMX.out⟩, by simp [intOf]; omega⟩
    · obtain rfl : k = n := by omega
      rw [List.take_of_length_le (by have := HNN.out; omega)] at hrows
      subst hrows
      have HTE := Lib.hid (show Tow wr p tp _ vs' (D.joined O) from by rw [HJD.out]; exact ht')
      have HME := Lib.hid hm'
      have hjw : (D.joined O).W = D.W ∧ (D.joined O).word = D.word ∧ (D.joined O).used = D.used ∧ (D.joined O).rows = joinR D.rows O.rows := by
        obtain ⟨z1, z2, -, -, z5⟩ := HES.out
        rw [HJD.out]
        exact ⟨z1, z2, z5, rfl⟩
      have HSE := Lib.hid (req_settle wr p tp _ vs' (D.joined O) HTE.out (by rw [hjw.1]; exact hW) (by rw [hjw.1]; exact hW2) (by rw [hjw.2.1]; exact hword) (by rw [hjw.2.2.1]; exact hu) (by rw [hjw.2.2.2]; exact hfl) (by rw [hjw.2.2.2]; omega))
      clear ht' hm' hjw c0 c1 c2 c3
      go_wp2_with fail
      refine HSE.out.mono ?_
      rintro e w9 ⟨rfl, rv9, vs9, ht9, hm9⟩
      go_wp2
      go_ret
      exact ⟨rfl, rv9, vs9, ht9, HM5.out.trans (HME.out.trans hm9)⟩
end Go.Proofs.YtlcoibhbdgdfcaaGreatDoor

namespace Go.Proofs.YtlcoibhbdgdfcaaGreatDoor
open Go.RowKit

set_option maxRecDepth 100000 in
set_option maxHeartbeats 1000000 in
theorem req_join0 (w : World) (p tp : Nat) (rv : Value) (vs : List Value) (D : TwD) (ht : Tow w p tp rv vs D) (q tq : Nat) (qv : Value) (us : List Value) (O : TwD) (ho : Tow w q tq qv us O)
    (hWW : D.W = O.W) (hz : O.total = 0) :
    Calls Tryz.prog 369 #[.pointer (some ⟨p, 0, none⟩), .pointer (some ⟨q, 0, none⟩)] w fun e w' => e = .returned (.int .i64 0) ∧ Chg [] w w' := by
  obtain ⟨c0, c1, c2, c3, c4, c5, c6⟩ := ht.cells
  obtain ⟨k0, k1, k2, k3, k4, k5, k6⟩ := ho.cells
  rw [← hWW] at k0
  rw [hz] at k4
  have e2 : ((D.W : Int) != (D.W : Int)) = false := by simp
  clear ht ho hWW hz
  go_enter Tryz.func369, Tryz.ntmps369
  go_wp2_with fail
  go_quiet (fail)
  go_wp2
  go_ret
  exact ⟨rfl, (Chg.refl [] w).drewN _⟩

/-- What Join leaves: of an empty other one nothing new. -/
def TwD.joinZ (D O : TwD) : TwD := if O.total = 0 then D else D.join O
theorem TwD.joinZ_fine {D O : TwD} {W word word2 n m : Nat} (hW : 4 ≤ W) (hd : D.fine W word n) (ho : O.fine W word2 m) : (D.joinZ O).fine W word (n + m) := by
  unfold TwD.joinZ
  split
  · next h =>
    have h1 := ho.tot
    obtain rfl : m = 0 := by omega
    exact hd
  · exact TwD.join_fine hW hd ho
theorem TwD.fine.few8 {D : TwD} {W word n : Nat} (h : D.fine W word n) (hn : n ≤ 500) : D.rows.length ≤ 8 := by
  have h1 := h.few
  by_cases h2 : D.rows.length ≤ 8
  · exact h2
  · have h3 : 2 ^ 9 ≤ 2 ^ D.rows.length := Nat.pow_le_pow_right (by omega) (by omega)
    have h4 : (2 : Nat) ^ 9 = 512 := by decide
    omega
theorem TwD.joinZ_tells {D O : TwD} {x : Int} {W word word2 n n2 m m2 : Nat} (hW : 4 ≤ W) (h4 : W % 4 = 0) (hd : D.fine W word n) (ho : O.fine W word2 n2) (h1 : D.tells x m) (h2 : O.tells x m2) : (D.joinZ O).tells x (m + m2) := by
  unfold TwD.joinZ
  split
  · next h =>
    have e1 := ho.tot
    obtain rfl : n2 = 0 := by omega
    have e2 := h2.2.2
    have e3 := rankR_le x O.rows
    have e4 := aboveR_le O.rows
    rw [ho.sum] at e3 e4
    rw [ho.W_eq] at e2
    have e5 : rankR x O.rows = 0 := by omega
    have e6 : aboveR O.rows = 0 := by simpa using e4
    rw [e5, e6] at e2
    have e7 : m2 * (W / 2) = 0 := by simpa using e2
    rcases Nat.mul_eq_zero.1 e7 with e8 | e8
    · subst e8; exact h1
    · omega
  · exact TwD.join_tells hW h4 hd ho h1 h2

theorem req_joinZ (w : World) (p tp : Nat) (rv : Value) (vs : List Value) (D : TwD) (ht : Tow w p tp rv vs D) (q tq : Nat) (qv : Value) (us : List Value) (O : TwD) (ho : Tow w q tq qv us O) (hdis : ∀ b ∈ fp p tp rv vs, b ∉ fp q tq qv us)
    (W word word2 n m : Nat) (hd : D.fine W word n) (hf : O.fine W word2 m) (hW : 4 ≤ W) (hW2 : W ≤ 64) (hword : word < 18446744073709551616) (hn : n ≤ 500) (hm : m ≤ 500) (hu : D.used ≤ 1000000) :
    Calls Tryz.prog 369 #[.pointer (some ⟨p, 0, none⟩), .pointer (some ⟨q, 0, none⟩)] w fun e w' => e = .returned (.int .i64 0) ∧ ∃ rv' vs', Tow w' p tp rv' vs' (D.joinZ O) ∧ Mv (fp p tp rv vs) w (fp p tp rv' vs') w' := by
  by_cases hz : O.total = 0
  · refine (req_join0 w p tp rv vs D ht q tq qv us O ho (by rw [hd.W_eq, hf.W_eq]) hz).mono ?_
    rintro e w' ⟨rfl, hc⟩
    exact ⟨rfl, rv, vs, by rw [TwD.joinZ, if_pos hz]; exact ht.chg hc (by simp), Mv.of_chg (hc.mono (by simp))⟩
  · have h1 := hd.flat
    have h2 := hf.flat
    have h3 := hd.few8 hn
    have h4 := hf.few8 hm
    have h5 := hd.tot
    have h6 := hf.tot
    rw [TwD.joinZ, if_neg hz]
    exact req_join w p tp rv vs D ht q tq qv us O ho hdis (by rw [hd.W_eq, hf.W_eq]) (by rw [hd.W_eq]; exact hW) (by rw [hd.W_eq]; exact hW2) (by rw [hd.word_eq]; exact hword) (by omega) (by rw [hd.W_eq]; omega) hu (by omega) (by omega) (by omega)
end Go.Proofs.YtlcoibhbdgdfcaaGreatDoor
