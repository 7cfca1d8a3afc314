/-
  The bytes of a sketch of lumps, and what is read of bytes, plainly (layer 23). Conditions: none.
  Rows of lumps: their cells. Conditions: none.
  A call of a function value in a drawn region. Conditions: none.
-/
import Derived.Test.YtlcoibhbdgdfcaaGreatDoorCoreLumpsB12
import Derived.Test.YtlcoibhbdgdfcaaGreatDoorCoreLumpsB14
import Derived.Test.YtlcoibhbdgdfcaaGreatDoorProg
import Derived.Test.YtlcoibhbdgdfcaaGreatDoorCoreLumpsB1
import Derived.Test.YtlcoibhbdgdfcaaGreatDoorCoreLumpsB13
import Derived.Test.YtlcoibhbdgdfcaaGreatDoorCoreLumpsB6
import Derived.Shelf.Abstract
namespace Go.Proofs.YtlcoibhbdgdfcaaGreatDoor

/-- A lump that Go's numbers hold. -/
structure Lp.fit (p : Lp) : Prop where
  lo : InR p.lo
  hi : InR p.hi
  n1 : 1 ≤ p.n
  n2 : p.n ≤ 9223372036854775807
def lumpB (p : Lp) : List UInt8 := natB (zig p.lo) ++ (natB (zig p.hi) ++ natB p.n)
def putLm (most : Nat) (l : List Lp) : List UInt8 := natB most ++ (natB l.length ++ l.flatMap lumpB)
def eCountL (st : Option (List UInt8)) : Nat × Option (List UInt8) := if (eNat 9223372036854775807 st).1 = 0 then (0, none) else eNat 9223372036854775807 st
def getLump (st : Option (List UInt8)) : Lp × Option (List UInt8) :=
  let a := eInt st
  let b := eInt a.2
  let c := eCountL b.2
  (⟨c.1, a.1, b.1⟩, c.2)
def getLumps : Nat → List Lp → Option (List UInt8) → List Lp × Option (List UInt8)
  | 0, acc, st => (acc, st)
  | n + 1, acc, st => getLumps n (acc ++ [(getLump st).1]) (getLump st).2
def getLm (st : Option (List UInt8)) : (Nat × List Lp) × Option (List UInt8) :=
  let a := eNat 64 st
  let b := eNat 64 a.2
  let g := getLumps b.1 [] b.2
  ((a.1, g.1), g.2)
theorem getLump_hit {p : Lp} (h : p.fit) (r : List UInt8) : getLump (some (lumpB p ++ r)) = (p, some r) := by
  have h1 := h.n1
  have h2 := h.n2
  unfold getLump lumpB
  simp only [List.append_assoc]
  rw [eInt_hit h.lo]
  simp only
  rw [eInt_hit h.hi]
  simp only [eCountL]
  rw [eNat_hit (by omega) h.n2]
  simp only
  rw [if_neg (by omega)]
theorem getLumps_hit (l acc : List Lp) (r : List UInt8) (h : ∀ p ∈ l, p.fit) : getLumps l.length acc (some (l.flatMap lumpB ++ r)) = (acc ++ l, some r) := by
  induction l generalizing acc with
  | nil => simp [getLumps]
  | cons p l ih =>
    have e : (p :: l).flatMap lumpB ++ r = lumpB p ++ (l.flatMap lumpB ++ r) := by simp
    rw [List.length_cons, getLumps, e, getLump_hit (h p (by simp))]
    simp only
    rw [ih _ (fun q hq => h q (by simp [hq]))]
    simp
theorem getLm_hit {most : Nat} {l : List Lp} (hm : most ≤ 64) (hl : l.length ≤ 64) (h : ∀ p ∈ l, p.fit) (r : List UInt8) : getLm (some (putLm most l ++ r)) = ((most, l), some r) := by
  unfold getLm putLm
  simp only [List.append_assoc]
  rw [eNat_hit (by omega) hm]
  simp only
  rw [eNat_hit (by omega) hl]
  simp only
  rw [getLumps_hit l [] r h]
  rfl
theorem lumpB_len {p : Lp} (h : p.fit) : (lumpB p).length ≤ 30 := by
  have h1 := natB_len10 (n := zig p.lo) (by have := h.lo.zig; omega)
  have h2 := natB_len10 (n := zig p.hi) (by have := h.hi.zig; omega)
  have h3 := natB_len10 (n := p.n) (by have := h.n2; omega)
  unfold lumpB
  simp only [List.length_append]
  omega
theorem lumpsB_len (l : List Lp) (h : ∀ p ∈ l, p.fit) : (l.flatMap lumpB).length ≤ 30 * l.length := by
  induction l with
  | nil => simp
  | cons p l ih =>
    have h1 := ih (fun q hq => h q (by simp [hq]))
    have h2 := lumpB_len (h p (by simp))
    simp only [List.flatMap_cons, List.length_append, List.length_cons] at h1 ⊢
    omega
theorem putLm_len {most : Nat} {l : List Lp} (hm : most ≤ 64) (hl : l.length ≤ 64) (h : ∀ p ∈ l, p.fit) : (putLm most l).length ≤ 2000 := by
  have h1 := natB_len10 (n := most) (by omega)
  have h2 := natB_len10 (n := l.length) (by omega)
  have h3 := lumpsB_len l h
  unfold putLm
  simp only [List.length_append]
  omega
/-- What can be loaded. -/
structure okLm (most : Int) (l : List Lp) : Prop where
  m1 : 2 ≤ most
  m2 : most ≤ 64
  few : (l.length : Int) ≤ most
  tot : totL l ≤ 9223372036854775807
  each : ∀ p ∈ l, 1 ≤ p.n ∧ p.lo ≤ p.hi
  rises : risesL l
theorem getLumps_len (n : Nat) : ∀ (acc : List Lp) (st : Option (List UInt8)), (getLumps n acc st).1.length = acc.length + n := by
  induction n with
  | zero => intro acc st; simp [getLumps]
  | succ n ih =>
    intro acc st
    rw [getLumps, ih]
    simp only [List.length_append, List.length_cons, List.length_nil]
    omega
/-- Laying and pressing keep to what Go's numbers hold. -/
def fitsL (l : List Lp) : Prop := ∀ p ∈ l, InR p.lo ∧ InR p.hi
theorem fitsL.lay {l : List Lp} (h : fitsL l) {p : Lp} (h1 : InR p.lo) (h2 : InR p.hi) : fitsL (layL l p) := by
  intro q hq
  rcases lay_mem hq with h3 | ⟨e1, e2, -⟩
  · exact h q h3
  · rw [e1, e2]; exact ⟨h1, h2⟩
theorem InR.max {a b : Int} (h1 : InR a) (h2 : InR b) : InR (max a b) := by
  unfold InR at *
  omega
theorem fitsL.melt {l : List Lp} (h : fitsL l) {k : Nat} (hk : k + 1 < l.length) : fitsL (meltL l k) := by
  obtain ⟨a, b, e, ea, eb⟩ := melt_parts hk
  have ha := h a (by rw [e]; simp)
  have hb := h b (by rw [e]; simp)
  unfold meltL
  rw [ea, eb]
  refine fitsL.lay (fun q hq => h q ?_) ha.1 (InR.max ha.2 hb.2)
  rw [e]
  rcases List.mem_append.1 hq with h1 | h1 <;> simp [h1]
theorem fitsL.all : ∀ (o : List Lp) {l : List Lp}, fitsL l → fitsL o → fitsL (layAll l o)
  | [], _, h, _ => h
  | p :: o, l, h, k => fitsL.all o (h.lay (k p (by simp)).1 (k p (by simp)).2) (fun q hq => k q (by simp [hq]))
/-- A sketch of lumps, plainly. -/
structure LmD where
  most : Nat
  l : List Lp
structure LmD.ok (D : LmD) : Prop where
  m1 : 2 ≤ D.most
  m2 : D.most ≤ 64
  few : D.l.length ≤ D.most
  tot : totL D.l ≤ 9223372036854775807
  each : ∀ p ∈ D.l, 1 ≤ p.n ∧ p.lo ≤ p.hi
  rises : risesL D.l
  fits : fitsL D.l
def LmD.put (D : LmD) (x : Int) (n : Nat) : LmD := ⟨D.most, pressL D.most (layL D.l ⟨n, x, x⟩)⟩
def LmD.join (D O : LmD) : LmD := ⟨D.most, pressL D.most (layAll D.l O.l)⟩
theorem LmD.ok.fit {D : LmD} (h : D.ok) : ∀ p ∈ D.l, p.fit := fun p hp => ⟨(h.fits p hp).1, (h.fits p hp).2, (h.each p hp).1, Nat.le_trans (mem_totL hp) h.tot⟩
theorem LmD.ok.loads {D : LmD} (h : D.ok) : okLm (D.most : Int) D.l := ⟨by have := h.m1; omega, by have := h.m2; omega, by have := h.few; omega, h.tot, h.each, h.rises⟩
theorem LmD.new_ok {most : Nat} (h1 : 2 ≤ most) (h2 : most ≤ 64) : LmD.ok ⟨most, []⟩ := ⟨h1, h2, Nat.zero_le _, by simp [totL], by simp, List.Pairwise.nil, by intro p hp; simp at hp⟩
theorem LmD.pressed {most T : Nat} {l : List Lp} (h1 : 2 ≤ most) (h2 : most ≤ 64) (hr : risesL l) (he : ∀ p ∈ l, 1 ≤ p.n ∧ p.lo ≤ p.hi) (hf : fitsL l) (hT : totL l = T) (ht : T ≤ 9223372036854775807) : LmD.ok ⟨most, pressL most l⟩ ∧ totL (pressL most l) = T := by
  obtain ⟨a, ⟨b, c, d⟩, f⟩ := press_ind (most := most) (by omega) (fun l => (∀ p ∈ l, 1 ≤ p.n ∧ p.lo ≤ p.hi) ∧ fitsL l ∧ totL l = T) (fun l k _ h hk => ⟨melt_pos h.1 hk, h.2.1.melt hk, by rw [melt_tot hk]; exact h.2.2⟩) _ l (Nat.le_refl _) hr ⟨he, hf, hT⟩
  exact ⟨⟨h1, h2, f, by rw [d]; exact ht, b, a, c⟩, d⟩
theorem LmD.pressedT {most : Nat} {l : List Lp} (h1 : 2 ≤ most) (hr : risesL l) : totL (pressL most l) = totL l :=
  (press_ind (most := most) (by omega) (fun r => totL r = totL l) (fun r k _ h hk => by rw [melt_tot hk]; exact h) _ l (Nat.le_refl _) hr rfl).2.1
theorem LmD.put_ok {D : LmD} (h : D.ok) {x : Int} (hx : InR x) {n : Nat} (hn : 1 ≤ n) (ht : totL D.l + n ≤ 9223372036854775807) : (D.put x n).ok ∧ totL (D.put x n).l = totL D.l + n :=
  LmD.pressed h.m1 h.m2 (lay_rises h.rises _) (lay_pos h.each hn (Int.le_refl _)) (h.fits.lay hx hx) (totL_lay _ _) ht
theorem LmD.join_ok {D O : LmD} (h : D.ok) (k : O.ok) (ht : totL D.l + totL O.l ≤ 9223372036854775807) : (D.join O).ok ∧ totL (D.join O).l = totL D.l + totL O.l := by
  obtain ⟨r1, r2, -, r4, -⟩ := layAll_ok (fun _ => true) (fun _ _ _ => rfl) O.l h.rises h.each k.each
  exact LmD.pressed h.m1 h.m2 r1 r2 (fitsL.all O.l h.fits k.fits) r4 ht
end Go.Proofs.YtlcoibhbdgdfcaaGreatDoor

namespace Go.Proofs.YtlcoibhbdgdfcaaGreatDoor
open Go.RowKit

def Lp.cells (p : Lp) : List Value := [.int .u64 p.n, .int .i64 p.lo, .int .i64 p.hi]
def Lp.ok (p : Lp) : Prop := p.n < 18446744073709551616 ∧ -9223372036854775808 ≤ p.lo ∧ p.lo < 9223372036854775808 ∧ -9223372036854775808 ≤ p.hi ∧ p.hi < 9223372036854775808
def lpCells (l : List Lp) : List Value := (l.map Lp.cells).flatten
theorem lpCells_len (l : List Lp) : (lpCells l).length = l.length * 3 := by
  induction l with
  | nil => rfl
  | cons a r ih => simp only [lpCells, List.map_cons, List.flatten_cons, List.length_append, List.length_cons] at *; rw [ih]; simp [Lp.cells]; omega
theorem lpCells_append (a b : List Lp) : lpCells (a ++ b) = lpCells a ++ lpCells b := by simp [lpCells]
theorem lpCells_get (l : List Lp) (k j : Nat) (hk : k < l.length) (hj : j < 3) : (lpCells l)[k * 3 + j]? = (l[k].cells)[j]? := by
  induction l generalizing k with
  | nil => simp at hk
  | cons a r ih =>
    cases k with
    | zero =>
      simp only [lpCells, List.map_cons, List.flatten_cons, Nat.zero_mul, Nat.zero_add, List.getElem_cons_zero]
      rw [List.getElem?_append_left (by simpa [Lp.cells] using hj)]
    | succ k =>
      have := ih k (by simpa using hk)
      simp only [lpCells, List.map_cons, List.flatten_cons, List.getElem_cons_succ] at *
      rw [List.getElem?_append_right (by simp [Lp.cells]; omega), ← this]
      congr 1
      simp [Lp.cells]
      omega
theorem lp_at {w : World} {b o k : Nat} {l : List Lp} (hc : ∀ j, j < l.length * 3 → w.cell? ⟨b, o + j, none⟩ = (lpCells l)[j]?) (h : k < l.length) :
    w.cell? ⟨b, o + k * 3, none⟩ = some (.int .u64 l[k].n) ∧ w.cell? ⟨b, o + k * 3 + 1, none⟩ = some (.int .i64 l[k].lo) ∧ w.cell? ⟨b, o + k * 3 + 2, none⟩ = some (.int .i64 l[k].hi) := by
  have g : ∀ j, j < 3 → w.cell? ⟨b, o + k * 3 + j, none⟩ = (l[k].cells)[j]? := fun j hj => by
    rw [← lpCells_get l k j h hj, ← hc (k * 3 + j) (by omega), Nat.add_assoc]
  exact ⟨g 0 (by omega), g 1 (by omega), g 2 (by omega)⟩
theorem lpCells_oneCell (l : List Lp) : ∀ y ∈ lpCells l, y.oneCell' = true := by
  intro y hy
  simp only [lpCells, List.mem_flatten, List.mem_map] at hy
  obtain ⟨x, ⟨i, _, rfl⟩, hy⟩ := hy
  simp only [Lp.cells, List.mem_cons, List.not_mem_nil, or_false] at hy
  rcases hy with rfl | rfl | rfl <;> rfl
theorem under_lumps : Tryz.prog.underlying 101 = some (.slice 194) := by kernel_rfl
theorem info_lump : (Tryz.prog.info? 194).map (fun i => (i.zero, i.size, i.bytes)) = some (some (.agg #[.int .u64 0, .int .i64 0, .int .i64 0]), 3, 24) := by kernel_rfl
end Go.Proofs.YtlcoibhbdgdfcaaGreatDoor

namespace Go.Proofs.YtlcoibhbdgdfcaaGreatDoor
open Go.RowKit

theorem step_callsV {P : Program} {ops : Array Oper} {w : World} {o : Oper} {a : Act} {K : Act → World → Prop} {Q : Exit → Act → World → Prop} {E : Prop} (hw : Region.wanted o (yielded ops a.tmps) = true) (f : Nat) (op : Operand) (args : Array Operand) (ts : Array TypeId)
    (ho : o.op = .call { callee := .value op, args := args, argTypes := ts }) (hop : a.eval op = .func (.func f) #[] #[])
    (he : ∀ args w, (callFunc f args).run P w = .ok (.enter f args) w) (R : Ending → World → Prop) (vs : Array Value) (hv : args.map a.eval = vs) (hc : Calls P f vs w R)
    (h : ∀ e w', R e w' → ∃ v, e = .returned v ∧ K (a.put o.dst v) w') :
    if Region.wanted o (yielded ops a.tmps) = true then Oper.wp P o a w K Q else E := by
  rw [if_pos hw]
  have hrun : (execOp a.eval o).run P w = .ok (.enter f vs) w := by
    unfold execOp
    rw [ho]
    simp only [resolve, hop, Deferred.ofValue]
    simp [invoke, go_sem, he, hv]
  rw [Oper.wp, hrun, Oper.upon_enter]
  refine hc.mono fun e w' hr => ?_
  obtain ⟨v, rfl, hk⟩ := h e w' hr
  exact hk
end Go.Proofs.YtlcoibhbdgdfcaaGreatDoor
