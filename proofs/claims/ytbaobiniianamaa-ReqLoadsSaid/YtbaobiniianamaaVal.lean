/-
  The walk of the reference's Up. Conditions: the form's own reach.
  Rows of values with counts: their cells, their sums, the walk of ogiveref13.Up. Conditions: the form's own reach.
-/
import Derived.Test.YtbaobiniianamaaReqRank
import Derived.Test.YtbaobiniianamaaReqOk
namespace Go.Proofs.Ytbaobiniianamaa
open Go.RowKit

set_option maxRecDepth 100000 in
theorem ref20_up (w : World) (ao : Option Addr) (cap : Nat) (l : List Int) (x : Int) (hr : Rd w 1 (.slice ao l.length cap) l.length (ints l)) (hl : l.length ≤ 100000) :
    Calls Try.prog 61 #[.slice ao l.length cap, .int .i64 x] w fun e w' => e = .returned (.int .i64 (upL l x : Nat)) ∧ Chg [] w w' := by
  go_enter Try.func61, Try.ntmps61
  go_wp2
  go_loopw [5, 10] (fun n j wx => ∃ k : Nat, k ≤ l.length ∧ j = .int .i64 (k : Nat) ∧ n = .int .i64 (upL (l.take k) x : Nat) ∧ Chg [] w wx) (fun _ j _ => l.length - (intOf j).toNat)
  case atStart => exact ⟨0, Nat.zero_le _, rfl, rfl, Chg.refl _ _⟩
  case round =>
    obtain ⟨k, hk, rfl, rfl, hch⟩ := hrel
    by_cases hlt : k < l.length
    · have hr1 := hr.chg hch (by simp)
      obtain ⟨b, o, rfl, hc⟩ := hr1.addr (by omega)
      have c0 := ints_at hc k hlt
      have HS := Lib.hid (upL_step x l k hlt)
      have hnk : upL (l.take k) x ≤ k := by
        have := List.countP_le_length (p := fun y : Int => decide (y ≤ x)) (l := l.take k)
        rw [List.length_take] at this
        rw [upL]
        omega
      generalize l[k] = p at *
      generalize upL (l.take k) x = n at *
      clear hc hr1
      by_cases hi : p ≤ x
      · rw [if_pos hi] at HS
        have hib : decide (p ≤ x) = true := decide_eq_true hi
        clear hi
        go_wp2
        exact ⟨⟨k + 1, by omega, by go_num, by rw [HS.out]; go_num, hch⟩, by simp [intOf]; omega⟩
      · rw [if_neg hi] at HS
        have hib : decide (p ≤ x) = false := decide_eq_false hi
        clear hi
        go_wp2
        exact ⟨⟨k + 1, by omega, by go_num, by rw [HS.out]; rfl, hch⟩, by simp [intOf]; omega⟩
    · obtain rfl : k = l.length := by omega
      go_wp2
      go_ret
      exact ⟨by rw [List.take_length]; rfl, hch⟩
end Go.Proofs.Ytbaobiniianamaa

namespace Go.Proofs.Ytbaobiniianamaa
open Go.RowKit

structure Vl where
  x : Int
  n : Nat
def Vl.cells (p : Vl) : List Value := [.int .i64 p.x, .int .u64 p.n]
def Vl.ok (p : Vl) : Prop := -9223372036854775808 ≤ p.x ∧ p.x < 9223372036854775808 ∧ p.n < 18446744073709551616
def vlCells (l : List Vl) : List Value := (l.map Vl.cells).flatten
theorem vlCells_get (l : List Vl) (k j : Nat) (hk : k < l.length) (hj : j < 2) : (vlCells l)[k * 2 + j]? = (l[k].cells)[j]? := by
  induction l generalizing k with
  | nil => simp at hk
  | cons a r ih =>
    cases k with
    | zero =>
      simp only [vlCells, List.map_cons, List.flatten_cons, Nat.zero_mul, Nat.zero_add, List.getElem_cons_zero]
      rw [List.getElem?_append_left (by simpa [Vl.cells] using hj)]
    | succ k =>
      have := ih k (by simpa using hk)
      simp only [vlCells, List.map_cons, List.flatten_cons, List.getElem_cons_succ] at *
      rw [List.getElem?_append_right (by simp [Vl.cells]; omega), ← this]
      congr 1
      simp [Vl.cells]
      omega
theorem vlCells_len (l : List Vl) : (vlCells l).length = l.length * 2 := by
  induction l with
  | nil => rfl
  | cons a r ih => simp only [vlCells, List.map_cons, List.flatten_cons, List.length_append, List.length_cons] at *; rw [ih]; simp [Vl.cells]; omega
theorem vlCells_oneCell (l : List Vl) : ∀ y ∈ vlCells l, y.oneCell' = true := by
  intro y hy
  simp only [vlCells, List.mem_flatten, List.mem_map] at hy
  obtain ⟨x, ⟨i, _, rfl⟩, hy⟩ := hy
  simp only [Vl.cells, List.mem_cons, List.not_mem_nil, or_false] at hy
  rcases hy with rfl | rfl <;> rfl
theorem vl_at {w : World} {b o k : Nat} {l : List Vl} (hc : ∀ j, j < l.length * 2 → w.cell? ⟨b, o + j, none⟩ = (vlCells l)[j]?) (h : k < l.length) :
    w.cell? ⟨b, o + k * 2, none⟩ = some (.int .i64 l[k].x) ∧ w.cell? ⟨b, o + k * 2 + 1, none⟩ = some (.int .u64 l[k].n) := by
  have g : ∀ j, j < 2 → w.cell? ⟨b, o + k * 2 + j, none⟩ = (l[k].cells)[j]? := fun j hj => by
    rw [← vlCells_get l k j h hj, ← hc (k * 2 + j) (by omega), Nat.add_assoc]
  exact ⟨g 0 (by omega), g 1 (by omega)⟩

/-- How many values there are, and how many up to x. -/
def sumS : List Vl → Nat
  | [] => 0
  | v :: l => v.n + sumS l
def upS (x : Int) : List Vl → Nat
  | [] => 0
  | v :: l => (if v.x ≤ x then v.n else 0) + upS x l
theorem sumS_app (a b : List Vl) : sumS (a ++ b) = sumS a + sumS b := by
  induction a with
  | nil => simp [sumS]
  | cons v a ih => simp only [List.cons_append, sumS, ih]; omega
theorem upS_app (x : Int) (a b : List Vl) : upS x (a ++ b) = upS x a + upS x b := by
  induction a with
  | nil => simp [upS]
  | cons v a ih => simp only [List.cons_append, upS, ih]; omega
theorem upS_le (x : Int) : ∀ l : List Vl, upS x l ≤ sumS l
  | [] => Nat.le_refl _
  | v :: l => by have := upS_le x l; simp only [upS, sumS]; split <;> omega
theorem sumS_take (l : List Vl) (k : Nat) (h : k < l.length) : sumS (l.take (k + 1)) = sumS (l.take k) + l[k].n := by
  rw [List.take_succ_eq_append_getElem h, sumS_app]; simp [sumS]
theorem upS_take (x : Int) (l : List Vl) (k : Nat) (h : k < l.length) : upS x (l.take (k + 1)) = upS x (l.take k) + if l[k].x ≤ x then l[k].n else 0 := by
  rw [List.take_succ_eq_append_getElem h, upS_app]; simp [upS]
theorem sumS_take_le (l : List Vl) (k : Nat) : sumS (l.take k) ≤ sumS l := by
  conv => rhs; rw [← List.take_append_drop k l, sumS_app]
  omega
theorem upS_all {l : List Vl} {x : Int} (h : ∀ v ∈ l, v.x ≤ x) : upS x l = sumS l := by
  induction l with
  | nil => rfl
  | cons v l ih => simp only [upS, sumS]; rw [if_pos (h v (by simp)), ih (fun u hu => h u (by simp [hu]))]

set_option maxRecDepth 100000 in
set_option maxHeartbeats 1000000 in
theorem ref13_up (w : World) (ao : Option Addr) (cap n : Nat) (l : List Vl) (hn : n = l.length) (hr : Rd w 2 (.slice ao n cap) n (vlCells l)) (hl : n ≤ 140737488351232) (hs : sumS l ≤ 1000000) (x : Int) (U : Nat) (hU : U = upS x l) :
    Calls Try.prog 22 #[.slice ao n cap, .int .i64 x] w fun e w' => e = .returned (.int .u64 (U : Nat)) ∧ Chg [] w w' := by
  have HN := Lib.hid hn
  have HR := Lib.hid hr
  have HU := Lib.hid hU
  have HB := Lib.hid (fun k => Nat.le_trans (upS_le x (l.take k)) (Nat.le_trans (sumS_take_le l k) hs))
  clear hn hr hU hs
  go_enter Try.func22, Try.ntmps22
  go_wp2
  go_loopw [5, 10] (fun s i wx => ∃ (k S : Nat), k ≤ n ∧ i = .int .i64 (k : Nat) ∧ s = .int .u64 (S : Nat) ∧ Hid (S = upS x (l.take k)) ∧ Chg [] w wx) (fun _ i _ => n - (intOf i).toNat)
  case atStart => exact ⟨0, 0, Nat.zero_le _, rfl, rfl, Lib.hid rfl, Chg.refl _ _⟩
  case round =>
    obtain ⟨k, S, hk, rfl, rfl, HS, hch⟩ := hrel
    by_cases hlt : k < n
    · have hkl : k < l.length := by have := HN.out; omega
      obtain ⟨b, o, rfl, hc⟩ := (HR.out.chg hch (by simp)).addr (by omega)
      obtain ⟨c0, c1⟩ := vl_at (l := l) (fun j hj => hc j (by rw [HN.out]; exact hj)) hkl
      have HT := Lib.hid (upS_take x l k hkl)
      have hb := HB.out (k + 1)
      rw [HT.out, ← HS.out] at hb
      generalize l[k] = v at *
      clear hc
      by_cases hx : v.x ≤ x
      · have hd : decide (v.x ≤ x) = true := decide_eq_true hx
        rw [if_pos hx] at HT hb
        have HX := Lib.hid (show S + v.n = upS x (l.take (k + 1)) from by rw [HT.out, HS.out])
        clear hx
        go_wp2
        exact ⟨⟨k + 1, S + v.n, by omega, by go_num, by go_num, HX, hch.alloc _⟩, by simp [intOf]; omega⟩
      · have hd : decide (v.x ≤ x) = false := decide_eq_false hx
        rw [if_neg hx] at HT hb
        have HX := Lib.hid (show S = upS x (l.take (k + 1)) from by rw [HT.out, HS.out]; rfl)
        clear hx
        go_wp2
        exact ⟨⟨k + 1, S, by omega, by go_num, rfl, HX, hch.alloc _⟩, by simp [intOf]; omega⟩
    · obtain rfl : k = n := by omega
      have HE := Lib.hid (show S = U from by rw [HS.out, HU.out, List.take_of_length_le (by have := HN.out; omega)])
      go_wp2
      go_ret
      rw [HE.out]
      exact ⟨rfl, hch⟩
end Go.Proofs.Ytbaobiniianamaa
