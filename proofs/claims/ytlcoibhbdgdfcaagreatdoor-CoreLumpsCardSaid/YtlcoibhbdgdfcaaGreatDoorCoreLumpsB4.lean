/-
  Rows of values with counts: their cells, their sums and ends, the walks of ogiveref13.Up and ogiveref14.Ends. Conditions: the form's own reach.
  When suite's New takes a config: '!=' at configs. Conditions: none.
  The walk of suite's New, of any kind whose parts are known. Conditions: the form's own reach.
-/
import Derived.Test.YtlcoibhbdgdfcaaGreatDoorProg
import Derived.Test.YtlcoibhbdgdfcaaGreatDoorCoreLumpsB1
import Derived.Test.YtlcoibhbdgdfcaaGreatDoorCoreLumpsB3
namespace Go.Proofs.YtlcoibhbdgdfcaaGreatDoor
open Go.RowKit

structure Vl where
  x : Int
  n : Nat
def Vl.cells (p : Vl) : List Value := [.int .i64 p.x, .int .u64 p.n]
def Vl.ok (p : Vl) : Prop := -9223372036854775808 ≤ p.x ∧ p.x < 9223372036854775808 ∧ p.n < 18446744073709551616
def vlCells (l : List Vl) : List Value := (l.map Vl.cells).flatten
theorem vlCells_get (l : List Vl) (k j : Nat) (hk : k < l.length) (hj : j < 2) : (vlCells l)[k * 2 + j]? = (l[k].cells)[j]? := by
  induction l generalizing k with
  | nil => simp at hk
  | cons a r ih =>
    cases k with
    | zero =>
      simp only [vlCells, List.map_cons, List.flatten_cons, Nat.zero_mul, Nat.zero_add, List.getElem_cons_zero]
      rw [List.getElem?_append_left (by simpa [Vl.cells] using hj)]
    | succ k =>
      have := ih k (by simpa using hk)
      simp only [vlCells, List.map_cons, List.flatten_cons, List.getElem_cons_succ] at *
      rw [List.getElem?_append_right (by simp [Vl.cells]; omega), ← this]
      congr 1
      simp [Vl.cells]
      omega
theorem vlCells_len (l : List Vl) : (vlCells l).length = l.length * 2 := by
  induction l with
  | nil => rfl
  | cons a r ih => simp only [vlCells, List.map_cons, List.flatten_cons, List.length_append, List.length_cons] at *; rw [ih]; simp [Vl.cells]; omega
theorem vlCells_oneCell (l : List Vl) : ∀ y ∈ vlCells l, y.oneCell' = true := by
  intro y hy
  simp only [vlCells, List.mem_flatten, List.mem_map] at hy
  obtain ⟨x, ⟨i, _, rfl⟩, hy⟩ := hy
  simp only [Vl.cells, List.mem_cons, List.not_mem_nil, or_false] at hy
  rcases hy with rfl | rfl <;> rfl
theorem vl_at {w : World} {b o k : Nat} {l : List Vl} (hc : ∀ j, j < l.length * 2 → w.cell? ⟨b, o + j, none⟩ = (vlCells l)[j]?) (h : k < l.length) :
    w.cell? ⟨b, o + k * 2, none⟩ = some (.int .i64 l[k].x) ∧ w.cell? ⟨b, o + k * 2 + 1, none⟩ = some (.int .u64 l[k].n) := by
  have g : ∀ j, j < 2 → w.cell? ⟨b, o + k * 2 + j, none⟩ = (l[k].cells)[j]? := fun j hj => by
    rw [← vlCells_get l k j h hj, ← hc (k * 2 + j) (by omega), Nat.add_assoc]
  exact ⟨g 0 (by omega), g 1 (by omega)⟩

/-- How many values there are, and how many up to x. -/
def sumS : List Vl → Nat
  | [] => 0
  | v :: l => v.n + sumS l
def upS (x : Int) : List Vl → Nat
  | [] => 0
  | v :: l => (if v.x ≤ x then v.n else 0) + upS x l
theorem sumS_app (a b : List Vl) : sumS (a ++ b) = sumS a + sumS b := by
  induction a with
  | nil => simp [sumS]
  | cons v a ih => simp only [List.cons_append, sumS, ih]; omega
theorem upS_app (x : Int) (a b : List Vl) : upS x (a ++ b) = upS x a + upS x b := by
  induction a with
  | nil => simp [upS]
  | cons v a ih => simp only [List.cons_append, upS, ih]; omega
theorem upS_le (x : Int) : ∀ l : List Vl, upS x l ≤ sumS l
  | [] => Nat.le_refl _
  | v :: l => by have := upS_le x l; simp only [upS, sumS]; split <;> omega
theorem sumS_take (l : List Vl) (k : Nat) (h : k < l.length) : sumS (l.take (k + 1)) = sumS (l.take k) + l[k].n := by
  rw [List.take_succ_eq_append_getElem h, sumS_app]; simp [sumS]
theorem upS_take (x : Int) (l : List Vl) (k : Nat) (h : k < l.length) : upS x (l.take (k + 1)) = upS x (l.take k) + if l[k].x ≤ x then l[k].n else 0 := by
  rw [List.take_succ_eq_append_getElem h, upS_app]; simp [upS]
theorem sumS_take_le (l : List Vl) (k : Nat) : sumS (l.take k) ≤ sumS l := by
  conv => rhs; rw [← List.take_append_drop k l, sumS_app]
  omega
theorem upS_all {l : List Vl} {x : Int} (h : ∀ v ∈ l, v.x ≤ x) : upS x l = sumS l := by
  induction l with
  | nil => rfl
  | cons v l ih => simp only [upS, sumS]; rw [if_pos (h v (by simp)), ih (fun u hu => h u (by simp [hu]))]

set_option maxRecDepth 100000 in
set_option maxHeartbeats 1000000 in
theorem ref13_up (w : World) (ao : Option Addr) (cap n : Nat) (l : List Vl) (hn : n = l.length) (hr : Rd w 2 (.slice ao n cap) n (vlCells l)) (hl : n ≤ 140737488351232) (hs : sumS l ≤ 4611686018427387904) (x : Int) (U : Nat) (hU : U = upS x l) :
    Calls Tryz.prog 16 #[.slice ao n cap, .int .i64 x] w fun e w' => e = .returned (.int .u64 (U : Nat)) ∧ Chg [] w w' := by
  have HN := Lib.hid hn
  have HR := Lib.hid hr
  have HU := Lib.hid hU
  have HB := Lib.hid (fun k => Nat.le_trans (upS_le x (l.take k)) (Nat.le_trans (sumS_take_le l k) hs))
  clear hn hr hU hs
  go_enter Tryz.func16, Tryz.ntmps16
  go_wp2
  go_loopw [5, 10] (fun s i wx => ∃ (k S : Nat), k ≤ n ∧ i = .int .i64 (k : Nat) ∧ s = .int .u64 (S : Nat) ∧ Hid (S = upS x (l.take k)) ∧ Chg [] w wx) (fun _ i _ => n - (intOf i).toNat)
  case atStart => exact ⟨0, 0, Nat.zero_le _, rfl, rfl, Lib.hid rfl, Chg.refl _ _⟩
  case round =>
    obtain ⟨k, S, hk, rfl, rfl, HS, hch⟩ := hrel
    by_cases hlt : k < n
    · have hkl : k < l.length := by have := HN.out; omega
      obtain ⟨b, o, rfl, hc⟩ := (HR.out.chg hch (by simp)).addr (by omega)
      obtain ⟨c0, c1⟩ := vl_at (l := l) (fun j hj => hc j (by rw [HN.out]; exact hj)) hkl
      have HT := Lib.hid (upS_take x l k hkl)
      have hb := HB.out (k + 1)
      rw [HT.out, ← HS.out] at hb
      generalize l[k] = v at *
      clear hc
      by_cases hx : v.x ≤ x
      · have hd : decide (v.x ≤ x) = true := decide_eq_true hx
        rw [if_pos hx] at HT hb
        have HX := Lib.hid (show S + v.n = upS x (l.take (k + 1)) from by rw [HT.out, HS.out])
        clear hx
        go_wp2
        exact ⟨⟨k + 1, S + v.n, by omega, by go_num, by go_num, HX, hch.alloc _⟩, by simp [intOf]; omega⟩
      · have hd : decide (v.x ≤ x) = false := decide_eq_false hx
        rw [if_neg hx] at HT hb
        have HX := Lib.hid (show S = upS x (l.take (k + 1)) from by rw [HT.out, HS.out]; rfl)
        clear hx
        go_wp2
        exact ⟨⟨k + 1, S, by omega, by go_num, rfl, HX, hch.alloc _⟩, by simp [intOf]; omega⟩
    · obtain rfl : k = n := by omega
      have HE := Lib.hid (show S = U from by rw [HS.out, HU.out, List.take_of_length_le (by have := HN.out; omega)])
      go_wp2
      go_ret
      rw [HE.out]
      exact ⟨rfl, hch⟩
def loV : List Vl → Int
  | [] => 0
  | v :: l => l.foldl (fun m u => min m u.x) v.x
def hiV : List Vl → Int
  | [] => 0
  | v :: l => l.foldl (fun m u => max m u.x) v.x
theorem fold_min (l : List Vl) (a b : Int) : l.foldl (fun m u => min m u.x) (min a b) = min a (l.foldl (fun m u => min m u.x) b) := by
  induction l generalizing b with
  | nil => rfl
  | cons v l ih => simp only [List.foldl_cons]; rw [← ih]; congr 1; omega
theorem fold_max (l : List Vl) (a b : Int) : l.foldl (fun m u => max m u.x) (max a b) = max a (l.foldl (fun m u => max m u.x) b) := by
  induction l generalizing b with
  | nil => rfl
  | cons v l ih => simp only [List.foldl_cons]; rw [← ih]; congr 1; omega
theorem loV_app (a b : List Vl) : loV (a ++ b) = if a = [] then loV b else if b = [] then loV a else min (loV a) (loV b) := by
  rcases a with _ | ⟨v, a⟩
  · simp
  rcases b with _ | ⟨u, b⟩
  · simp
  simp only [List.cons_append, loV, List.foldl_append, List.foldl_cons, reduceCtorEq, if_false]
  rw [fold_min]
theorem hiV_app (a b : List Vl) : hiV (a ++ b) = if a = [] then hiV b else if b = [] then hiV a else max (hiV a) (hiV b) := by
  rcases a with _ | ⟨v, a⟩
  · simp
  rcases b with _ | ⟨u, b⟩
  · simp
  simp only [List.cons_append, hiV, List.foldl_append, List.foldl_cons, reduceCtorEq, if_false]
  rw [fold_max]
theorem loV_take (l : List Vl) (k : Nat) (h : k < l.length) (h0 : 0 < k) : loV (l.take (k + 1)) = min (loV (l.take k)) l[k].x := by
  rw [List.take_succ_eq_append_getElem h, loV_app, if_neg (by intro e; have h5 := congrArg List.length e; rw [List.length_take] at h5; simp only [List.length_nil] at h5; omega), if_neg (by simp)]
  rfl
theorem hiV_take (l : List Vl) (k : Nat) (h : k < l.length) (h0 : 0 < k) : hiV (l.take (k + 1)) = max (hiV (l.take k)) l[k].x := by
  rw [List.take_succ_eq_append_getElem h, hiV_app, if_neg (by intro e; have h5 := congrArg List.length e; rw [List.length_take] at h5; simp only [List.length_nil] at h5; omega), if_neg (by simp)]
  rfl
set_option maxRecDepth 100000 in
set_option maxHeartbeats 2000000 in
theorem ref14_ends (w : World) (ao : Option Addr) (cap n : Nat) (l : List Vl) (hn : n = l.length) (hr : Rd w 2 (.slice ao n cap) n (vlCells l)) (hl : n ≤ 140737488351232) (lo hi : Int) (B : Bool) (hlo : lo = loV l) (hhi : hi = hiV l) (hB : B = decide (l ≠ [])) :
    Calls Tryz.prog 18 #[.slice ao n cap] w fun e w' => e = .returned (.tuple #[.int .i64 lo, .int .i64 hi, .bool B]) ∧ Chg [] w w' := by
  have HN := Lib.hid hn
  have HR := Lib.hid hr
  have HLO := Lib.hid hlo
  have HHI := Lib.hid hhi
  have HB := Lib.hid hB
  clear hn hr hlo hhi hB
  by_cases h0 : n = 0
  · have he : l = [] := List.eq_nil_of_length_eq_zero (by rw [← HN.out]; exact h0)
    obtain rfl : lo = 0 := by rw [HLO.out, he]; rfl
    obtain rfl : hi = 0 := by rw [HHI.out, he]; rfl
    obtain rfl : B = false := by rw [HB.out, he]; rfl
    subst h0
    go_enter Tryz.func18, Tryz.ntmps18
    go_wp2
    refine bodyPost_ret (v := .tuple #[.int .i64 0, .int .i64 0, .bool false]) (by simp [results, Tryz.results18, go_sem]) rfl ?_
    exact ⟨rfl, Chg.refl _ _⟩
  · have hne : l ≠ [] := fun e => h0 (by rw [HN.out, e]; rfl)
    obtain rfl : B = true := by rw [HB.out]; simpa using hne
    have d0 : ((n : Int) == 0) = false := by rw [beq_eq_false_iff_ne]; omega
    obtain ⟨b, o, rfl, hc⟩ := HR.out.addr (by omega)
    obtain ⟨c0, -⟩ := vl_at (l := l) (fun j hj => hc j (by rw [HN.out]; exact hj)) (k := 0) (by have := HN.out; omega)
    simp only [Nat.zero_mul, Nat.add_zero] at c0
    have hi0 : (0 : Int) < (n : Int) := by omega
    have hi0' : 0 < n := by omega
    have H0 := Lib.hid (show loV (l.take 1) = l[0].x ∧ hiV (l.take 1) = l[0].x from by
      rcases l with _ | ⟨v, l⟩
      · exact absurd rfl hne
      · exact ⟨rfl, rfl⟩)
    obtain ⟨z, hz⟩ : ∃ z, z = l[0].x := ⟨_, rfl⟩
    rw [← hz] at c0 H0
    clear hc hz h0
    go_enter Tryz.func18, Tryz.ntmps18
    go_wp2
    go_loopw [5, 6, 22] (fun x y i wx => ∃ (k : Nat) (u v : Int), k ≤ n ∧ i = .int .i64 (k : Nat) ∧ x = .int .i64 u ∧ y = .int .i64 v ∧ Hid (u = (if k = 0 then z else loV (l.take k)) ∧ v = (if k = 0 then z else hiV (l.take k))) ∧ Chg [] w wx) (fun _ _ i _ => n - (intOf i).toNat)
    case atStart => exact ⟨0, z, z, Nat.zero_le _, rfl, rfl, rfl, Lib.hid ⟨rfl, rfl⟩, Chg.refl _ _⟩
    case round =>
      obtain ⟨k, u, v, hk, rfl, rfl, rfl, HUV, hch⟩ := hrel
      by_cases hlt : k < n
      · have hkl : k < l.length := by have := HN.out; omega
        obtain ⟨b1, o1, hbo, hc⟩ := (HR.out.chg hch (by simp)).addr (by omega)
        simp only [Option.some.injEq, Addr.mk.injEq, and_true] at hbo
        obtain ⟨rfl, rfl⟩ := hbo
        obtain ⟨c1, c2⟩ := vl_at (l := l) (fun j hj => hc j (by rw [HN.out]; exact hj)) hkl
        have HS := Lib.hid (show min u l[k].x = loV (l.take (k + 1)) ∧ max v l[k].x = hiV (l.take (k + 1)) from by
          obtain ⟨h1, h2⟩ := HUV.out
          by_cases hk0 : k = 0
          · subst hk0
            rw [if_pos rfl] at h1 h2
            rcases l with _ | ⟨t, l⟩
            · exact absurd rfl hne
            · have e1 := H0.out.1
              simp only [List.take_succ_cons, List.take_zero, loV, List.foldl_nil] at e1
              rw [h1, h2]
              simp only [Nat.zero_add, List.take_succ_cons, List.take_zero, loV, hiV, List.foldl_nil, List.getElem_cons_zero]
              rw [e1]
              omega
          · rw [if_neg hk0] at h1 h2
            rw [loV_take l k hkl (by omega), hiV_take l k hkl (by omega), h1, h2]
            exact ⟨rfl, rfl⟩)
        generalize l[k] = t at *
        obtain ⟨u', hu'⟩ : ∃ u', u' = min u t.x := ⟨_, rfl⟩
        obtain ⟨v', hv'⟩ : ∃ v', v' = max v t.x := ⟨_, rfl⟩
        rw [← hu', ← hv'] at HS
        have HX := Lib.hid (show (fun (a : Int) => a = u') (min u t.x) from hu'.symm)
        have hm1 : min u t.x = u' := hu'.symm
        have hm2 : max v t.x = v' := hv'.symm
        have hm3 : (if v < t.x then t.x else v) = v' := by rw [← hm2]; split <;> omega
        have hm4 : (if t.x < u then t.x else u) = u' := by rw [← hm1]; split <;> omega
        clear hc hu' hv' HUV c0
        go_wp2
        exact ⟨⟨k + 1, u', v', by omega, by go_num, rfl, rfl, Lib.hid ⟨by rw [if_neg (by omega)]; exact HS.out.1, by rw [if_neg (by omega)]; exact HS.out.2⟩, hch.alloc _⟩, by simp [intOf]; omega⟩
      · obtain rfl : k = n := by omega
        have HE := Lib.hid (show u = lo ∧ v = hi from by
          obtain ⟨h1, h2⟩ := HUV.out
          rw [if_neg (by omega), List.take_of_length_le (by have := HN.out; omega)] at h1 h2
          exact ⟨by rw [h1, HLO.out], by rw [h2, HHI.out]⟩)
        clear HUV
        go_wp2
        refine bodyPost_ret (v := .tuple #[.int .i64 u, .int .i64 v, .bool true]) (by simp [results, Tryz.results18, go_sem]) rfl ?_
        rw [HE.out.1, HE.out.2]
        exact ⟨rfl, hch⟩
/-- Two things that share no block, one of which is moved. -/
theorem two_left {w wr w2 : World} {A A' B : List Nat} (hc : Chg [] w wr) (hA : ∀ b ∈ A, w.heap.size ≤ b) (hBlt : ∀ b ∈ B, b < wr.heap.size) (hd : ∀ b ∈ A, b ∉ B) (m : Mv A wr A' w2) :
    Chg [] w w2 ∧ (∀ b ∈ A', w.heap.size ≤ b) ∧ ∀ b ∈ A', b ∉ B := by
  have hs := hc.size
  refine ⟨hc.trans' m.chg (fun b hb => .inr (hA b hb)), fun b hb => ?_, fun b hb hB => ?_⟩
  · rcases m.fr b hb with h | h
    · exact hA b h
    · omega
  · rcases m.fr b hb with h | h
    · exact hd b h hB
    · have := hBlt b hB; omega
end Go.Proofs.YtlcoibhbdgdfcaaGreatDoor

namespace Go.Proofs.YtlcoibhbdgdfcaaGreatDoor
open Go.RowKit

theorem scfg_under : Tryz.prog.underlying 30 = some (.struct (Tryz.prog.fieldsOf 30)) := by kernel_rfl
theorem scfg_stood : Tryz.prog.stoodInHeld 30 = false := by kernel_rfl
theorem rat_under : Tryz.prog.underlying 27 = some (.struct (Tryz.prog.fieldsOf 27)) := by kernel_rfl
theorem rat_stood : Tryz.prog.stoodInHeld 27 = false := by kernel_rfl
def Cf.same (a b : Cf) : Bool := a.kind == b.kind && a.num == b.num && a.den == b.den && a.side == b.side && a.most == b.most && a.digits == b.digits && a.limit == b.limit && a.depth == b.depth && a.factor == b.factor && a.width == b.width && a.word == b.word
set_option maxHeartbeats 2000000 in
theorem scfg_neq (a b : Cf) (w : World) : (binOp .neq 30 a.val b.val).run Tryz.prog w = .ok (.bool (!(a.same b))) w := by
  obtain ⟨a1, a2, a3, a4, a5, a6, a7, a8, a9, a10, a11⟩ := a
  obtain ⟨b1, b2, b3, b4, b5, b6, b7, b8, b9, b10, b11⟩ := b
  simp only [Cf.val, Cf.cells, Cf.same]
  have u1 := Tryz.underlying24
  have u2 := Tryz.underlying27
  have u3 := Tryz.underlying28
  have u4 := Tryz.underlying3
  have u5 := Tryz.underlying25
  have a1 := Tryz.isAgg24
  have a2 := Tryz.isAgg27
  have a3 := Tryz.isAgg28
  have a4 := Tryz.isAgg3
  have a5 := Tryz.isAgg25
  have z1 := Tryz.sizeOf24
  have z2 := Tryz.sizeOf27
  have z3 := Tryz.sizeOf28
  have z4 := Tryz.sizeOf3
  have z5 := Tryz.sizeOf25
  rw [run_neq_struct, show (10000 : Nat) = 9999 + 1 from rfl, run_equalIn_agg w 9999 30 _ _ scfg_under scfg_stood]
  simp only [Program.fieldsOf, Tryz.underlying30]
  go_simp
  clear u1 u2 u3 u4 u5 a1 a2 a3 a4 a5 z1 z2 z3 z4 z5
  repeat' split
  all_goals simp_all
  all_goals omega
end Go.Proofs.YtlcoibhbdgdfcaaGreatDoor

namespace Go.Proofs.YtlcoibhbdgdfcaaGreatDoor
open Go.RowKit

theorem cf_cells {w : World} {b : Nat} {c : Cf} (h : Blk w b c.cells 30) : w.cell? ⟨b, 0, none⟩ = some (.int .i64 c.kind) ∧ w.cell? ⟨b, 1, none⟩ = some (.int .u64 c.num) ∧ w.cell? ⟨b, 2, none⟩ = some (.int .u64 c.den) ∧ w.cell? ⟨b, 3, none⟩ = some (.int .i64 c.side) ∧ w.cell? ⟨b, 4, none⟩ = some (.int .i64 c.most) ∧ w.cell? ⟨b, 5, none⟩ = some (.int .i64 c.digits) ∧ w.cell? ⟨b, 6, none⟩ = some (.int .u64 c.limit) ∧ w.cell? ⟨b, 7, none⟩ = some (.int .i64 c.depth) ∧ w.cell? ⟨b, 8, none⟩ = some (.int .i64 c.factor) ∧ w.cell? ⟨b, 9, none⟩ = some (.int .i64 c.width) ∧ w.cell? ⟨b, 10, none⟩ = some (.int .u64 c.word) :=
  ⟨h.cell 0, h.cell 1, h.cell 2, h.cell 3, h.cell 4, h.cell 5, h.cell 6, h.cell 7, h.cell 8, h.cell 9, h.cell 10⟩
/-- What New answers. -/
def NewP (w w' : World) (same : Bool) (cs : Array Value) (R : World → Nat → Value → Int → Prop) (e : Ending) : Prop := (same = false ∧ e = .returned (.tuple #[.pointer none, .int .i64 1]) ∧ Chg [] w w') ∨
      (same = true ∧ ∃ T d k w1, R w1 T d k ∧ Chg [] w w1 ∧ ((k ≠ 0 ∧ e = .returned (.tuple #[.pointer none, .int .i64 k]) ∧ w' = w1) ∨ (k = 0 ∧ e = .returned (.tuple #[.pointer (some ⟨w1.heap.size, 0, none⟩), .int .i64 0]) ∧ w' = w1.alloc (.cells (cs ++ #[.iface T d]) 96))))
set_option maxRecDepth 100000 in
set_option maxHeartbeats 4000000 in
theorem suite_newK (w : World) (c b : Cf) (HB0 : ∀ u, Calls Tryz.prog 45 #[c.val] u fun e w' => e = .returned b.val ∧ Chg [] u w') (R : World → Nat → Value → Int → Prop)
    (HF0 : ∀ u, Chg [] w u → Calls Tryz.prog 46 #[c.val] u fun e w' => ∃ T d k, e = .returned (.tuple #[.iface T d, .int .i64 k]) ∧ R w' T d k ∧ Chg [] u w') :
    Calls Tryz.prog 26 #[c.val] w fun e w' => NewP w w' (c.same b) c.cells R e := by
  have hb0 := Blk.alloc_new w c.cells 30
  have HC0 := Lib.hid ((Chg.refl [] w).alloc (.cells c.cells 30))
  obtain ⟨bq, hbq⟩ : ∃ z, z = w.heap.size := ⟨_, rfl⟩
  rw [← hbq] at hb0
  have HCE := Lib.hid (fun u (hu : Chg [] (w.alloc (.cells c.cells 30)) u) => cf_cells (hb0.chg hu (by simp)))
  have HB := Lib.hid HB0
  have HF := Lib.hid HF0
  have HEQ := Lib.hid (fun u => scfg_neq c b u)
  obtain ⟨S, hS⟩ : ∃ S, S = c.same b := ⟨_, rfl⟩
  rw [← hS] at HEQ ⊢
  clear HB0 HF0 hb0 hS
  obtain ⟨q1, q2, q3, q4, q5, q6, q7, q8, q9, q10, q11⟩ := b
  obtain ⟨k, num, den, side, most, digits, limit, depth, factor, width, word⟩ := c
  simp only [Cf.val, Cf.cells] at *
  go_enter Tryz.func26, Tryz.ntmps26
  go_upto_region 2 with (fail)
  rw [← hbq]
  clear hbq
  generalize w.alloc (.cells #[.int .i64 k, .int .u64 num, .int .u64 den, .int .i64 side, .int .i64 most, .int .i64 digits, .int .u64 limit, .int .i64 depth, .int .i64 factor, .int .i64 width, .int .u64 word] 30) = w0 at *
  obtain ⟨c0, c1, c2, c3, c4, c5, c6, c7, c8, c9, c10⟩ := HCE.out w0.drew (Chg.refl [] w0).drew
  have hq := HEQ.out
  go_region_with (go_at_call 45; refine (HB.out _).mono ?_; rintro e w1 ⟨rfl, hc1⟩; obtain ⟨k0, k1, k2, k3, k4, k5, k6, k7, k8, k9, k10⟩ := HCE.out w1 ((Chg.refl [] w0).drew.trans hc1))
  all_goals
    have HC1 := Lib.hid ((Chg.refl [] w0).drew.trans hc1)
    clear hc1 HB hq c0 c1 c2 c3 c4 c5 c6 c7 c8 c9 c10 k0 k1 k2 k3 k4 k5 k6 k7 k8 k9 k10
    obtain ⟨c0, c1, c2, c3, c4, c5, c6, c7, c8, c9, c10⟩ := HCE.out w1 HC1.out
    cases S with
    | false =>
      go_wp2
      go_ret2
      exact .inl ⟨rfl, rfl, HC0.out.trans HC1.out⟩
    | true =>
      go_wp2_with fail
      refine (HF.out w1 (HC0.out.trans HC1.out)).mono ?_
      rintro e w2 ⟨T, d, e', rfl, hR, hc2⟩
      have HC2 := Lib.hid (HC1.out.trans hc2)
      have HR := Lib.hid hR
      clear hc2 hR HF HEQ c0 c1 c2 c3 c4 c5 c6 c7 c8 c9 c10
      obtain ⟨c0, c1, c2, c3, c4, c5, c6, c7, c8, c9, c10⟩ := HCE.out w2 HC2.out
      by_cases he : e' = 0
      · subst he
        go_wp2
        go_ret2
        exact .inr ⟨rfl, T, d, 0, w2, HR.out, HC0.out.trans HC2.out, .inr ⟨rfl, rfl, by simp⟩⟩
      · have hb : (e' != 0) = true := by rw [bne_iff_ne]; exact he
        go_wp2
        go_ret2
        exact .inr ⟨rfl, T, d, e', w2, HR.out, HC0.out.trans HC2.out, .inl ⟨he, rfl, rfl⟩⟩
/-- A sketch of any kind. -/
def Sk (w : World) (s : Nat) (c : Cf) (T : Nat) (p : Nat) : Prop := Blk w s (c.cells ++ #[.iface T (.agg #[.pointer (some ⟨p, 0, none⟩)])]) 96
namespace Sk
variable {w w1 : World} {s T p : Nat} {c : Cf}
theorem kind (h : Sk w s c T p) : w.cell? ⟨s, 0, none⟩ = some (.int .i64 c.kind) := Blk.cell h 0
theorem core (h : Sk w s c T p) : w.cell? ⟨s, 11, none⟩ = some (.iface T (.agg #[.pointer (some ⟨p, 0, none⟩)])) := Blk.cell h 11
theorem chg {F : List Nat} (h : Sk w s c T p) (k : Chg F w w1) (hs : s ∉ F) : Sk w1 s c T p := Blk.chg h k hs
theorem nil (h : Sk w s c T p) (k : Chg [] w w1) : Sk w1 s c T p := Blk.chg h k (by simp)
end Sk
theorem Cf.same_eq {a b : Cf} (h : a.same b = true) : a = b := by
  cases a
  cases b
  simp only [Cf.same, Bool.and_eq_true, beq_iff_eq] at h
  simp only [Cf.mk.injEq]
  simp_all
/-- What a tower's Put or Join may move, within a sketch. -/
theorem mv_sk {s : Nat} {F F' : List Nat} {w w' : World} (h : Mv F w F' w') : Mv (s :: F) w (s :: F') w' :=
  ⟨h.chg.mono (fun b hb => .inl (by simp [hb])), fun b hb => by
    rcases List.mem_cons.1 hb with rfl | hb
    · exact .inl (by simp)
    · rcases h.fr b hb with h1 | h1
      · exact .inl (by simp [h1])
      · exact .inr h1⟩
end Go.Proofs.YtlcoibhbdgdfcaaGreatDoor
