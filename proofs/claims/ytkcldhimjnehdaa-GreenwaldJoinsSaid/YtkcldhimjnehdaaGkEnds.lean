/-
  The walks of slices.Min and slices.Max at []int64. Conditions: the form's own reach.
  Plain law: the least and the greatest of a sketch's values. Conditions: none.
  The walks of Part and Ends (layer 19). Conditions: the form's own reach.
-/
import Derived.Test.YtkcldhimjnehdaaSteps
import Derived.Test.YtkcldhimjnehdaaPlainGk
import Derived.Test.YtkcldhimjnehdaaVals
import Derived.Test.YtkcldhimjnehdaaGkRow
namespace Go.Proofs.Ytkcldhimjnehdaa
open Go.RowKit

def minL : List Int → Int
  | [] => 0
  | x :: l => l.foldl min x
theorem minL_take (l : List Int) (k : Nat) (h : k < l.length) (h0 : 0 < k) : minL (l.take (k + 1)) = min (minL (l.take k)) l[k] := by
  rw [List.take_succ_eq_append_getElem h]
  cases l with
  | nil => simp at h
  | cons x l =>
    obtain ⟨j, rfl⟩ : ∃ j, k = j + 1 := ⟨k - 1, by omega⟩
    simp only [List.take_succ_cons, List.cons_append, minL, List.foldl_append, List.foldl_cons, List.foldl_nil]
set_option maxRecDepth 100000 in
theorem slices_min (w : World) (ao : Option Addr) (cap n : Nat) (l : List Int) (hn : n = l.length) (h0 : 0 < n) (hr : Rd w 1 (.slice ao n cap) n (ints l)) (hl : n ≤ 1000000) :
    Calls Try.prog 56 #[.slice ao n cap] w fun e w' => e = .returned (.int .i64 (minL l)) ∧ w = w' := by
  obtain ⟨b, o, rfl, hc⟩ := hr.addr h0
  rw [hn] at hc
  have HN := Lib.hid hn
  have HC := Lib.hid hc
  have c0 := ints_at hc 0 (by omega)
  rw [Nat.add_zero] at c0
  have HH := Lib.hid (show minL (l.take 1) = l[0] from by cases l with | nil => exact absurd hn (by simp; omega) | cons x l => simp [minL])
  generalize l[0] = z at *
  clear hr hn hc
  have d0 : decide ((n : Int) < 1) = false := decide_eq_false (by omega)
  have d0' : decide (n < 1) = false := decide_eq_false (by omega)
  go_enter Try.func56, Try.ntmps56
  go_wp2
  go_loopw [3, 4] (fun m i wx => ∃ (k : Nat) (y : Int), 1 ≤ k ∧ k ≤ n ∧ i = .int .i64 (k : Nat) ∧ m = .int .i64 y ∧ Hid (y = minL (l.take k)) ∧ wx = w) (fun _ i _ => n - (intOf i).toNat)
  case atStart => exact ⟨1, z, by omega, by omega, rfl, rfl, Lib.hid HH.out.symm, rfl⟩
  case round =>
    obtain ⟨k, y, hk1, hk, rfl, rfl, HY, rfl⟩ := hrel
    by_cases hlt : k < n
    · have hkl : k < l.length := by have := HN.out; omega
      have d1 := ints_at HC.out k hkl
      have HT := Lib.hid (minL_take l k hkl (by omega))
      generalize l[k] = v at *
      go_wp2
      all_goals
        refine ⟨⟨k + 1, _, by omega, by omega, by go_num, rfl, Lib.hid ?_, by trivial⟩, by simp [intOf]; omega⟩
        rw [HT.out, ← HY.out]
        first | done | rfl | omega | (simp_all; done) | (simp_all; omega)
    · obtain rfl : k = n := by omega
      have HE := Lib.hid (show y = minL l from by rw [HY.out, List.take_of_length_le (by have := HN.out; omega)])
      go_wp2
      go_ret
      exact ⟨by rw [← HE.out]; rfl, rfl⟩
def maxL : List Int → Int
  | [] => 0
  | x :: l => l.foldl max x
theorem maxL_take (l : List Int) (k : Nat) (h : k < l.length) (h0 : 0 < k) : maxL (l.take (k + 1)) = max (maxL (l.take k)) l[k] := by
  rw [List.take_succ_eq_append_getElem h]
  cases l with
  | nil => simp at h
  | cons x l =>
    obtain ⟨j, rfl⟩ : ∃ j, k = j + 1 := ⟨k - 1, by omega⟩
    simp only [List.take_succ_cons, List.cons_append, maxL, List.foldl_append, List.foldl_cons, List.foldl_nil]
set_option maxRecDepth 100000 in
theorem slices_max (w : World) (ao : Option Addr) (cap n : Nat) (l : List Int) (hn : n = l.length) (h0 : 0 < n) (hr : Rd w 1 (.slice ao n cap) n (ints l)) (hl : n ≤ 1000000) :
    Calls Try.prog 57 #[.slice ao n cap] w fun e w' => e = .returned (.int .i64 (maxL l)) ∧ w = w' := by
  obtain ⟨b, o, rfl, hc⟩ := hr.addr h0
  rw [hn] at hc
  have HN := Lib.hid hn
  have HC := Lib.hid hc
  have c0 := ints_at hc 0 (by omega)
  rw [Nat.add_zero] at c0
  have HH := Lib.hid (show maxL (l.take 1) = l[0] from by cases l with | nil => exact absurd hn (by simp; omega) | cons x l => simp [maxL])
  generalize l[0] = z at *
  clear hr hn hc
  have d0 : decide ((n : Int) < 1) = false := decide_eq_false (by omega)
  have d0' : decide (n < 1) = false := decide_eq_false (by omega)
  go_enter Try.func57, Try.ntmps57
  go_wp2
  go_loopw [3, 4] (fun m i wx => ∃ (k : Nat) (y : Int), 1 ≤ k ∧ k ≤ n ∧ i = .int .i64 (k : Nat) ∧ m = .int .i64 y ∧ Hid (y = maxL (l.take k)) ∧ wx = w) (fun _ i _ => n - (intOf i).toNat)
  case atStart => exact ⟨1, z, by omega, by omega, rfl, rfl, Lib.hid HH.out.symm, rfl⟩
  case round =>
    obtain ⟨k, y, hk1, hk, rfl, rfl, HY, rfl⟩ := hrel
    by_cases hlt : k < n
    · have hkl : k < l.length := by have := HN.out; omega
      have d1 := ints_at HC.out k hkl
      have HT := Lib.hid (maxL_take l k hkl (by omega))
      generalize l[k] = v at *
      go_wp2
      all_goals
        refine ⟨⟨k + 1, _, by omega, by omega, by go_num, rfl, Lib.hid ?_, by trivial⟩, by simp [intOf]; omega⟩
        rw [HT.out, ← HY.out]
        first | done | rfl | omega | (simp_all; done) | (simp_all; omega)
    · obtain rfl : k = n := by omega
      have HE := Lib.hid (show y = maxL l from by rw [HY.out, List.take_of_length_le (by have := HN.out; omega)])
      go_wp2
      go_ret
      exact ⟨by rw [← HE.out]; rfl, rfl⟩
end Go.Proofs.Ytkcldhimjnehdaa

namespace Go.Proofs.Ytkcldhimjnehdaa

theorem fold_minI (l : List Int) : ∀ b : Int, l.foldl min b ≤ b ∧ (∀ x ∈ l, l.foldl min b ≤ x) ∧ (l.foldl min b = b ∨ l.foldl min b ∈ l) := by
  induction l with
  | nil => intro b; exact ⟨Int.le_refl _, by simp, .inl rfl⟩
  | cons y l ih =>
    intro b
    obtain ⟨h1, h2, h3⟩ := ih (min b y)
    rw [List.foldl_cons]
    refine ⟨by omega, fun x hx => ?_, ?_⟩
    · rcases List.mem_cons.1 hx with rfl | hx
      · omega
      · exact h2 x hx
    · rcases h3 with h3 | h3
      · by_cases hb : b ≤ y
        · exact .inl (by omega)
        · exact .inr (List.mem_cons.2 (.inl (by omega)))
      · exact .inr (List.mem_cons.2 (.inr h3))
theorem fold_maxI (l : List Int) : ∀ b : Int, b ≤ l.foldl max b ∧ (∀ x ∈ l, x ≤ l.foldl max b) ∧ (l.foldl max b = b ∨ l.foldl max b ∈ l) := by
  induction l with
  | nil => intro b; exact ⟨Int.le_refl _, by simp, .inl rfl⟩
  | cons y l ih =>
    intro b
    obtain ⟨h1, h2, h3⟩ := ih (max b y)
    rw [List.foldl_cons]
    refine ⟨by omega, fun x hx => ?_, ?_⟩
    · rcases List.mem_cons.1 hx with rfl | hx
      · omega
      · exact h2 x hx
    · rcases h3 with h3 | h3
      · by_cases hb : y ≤ b
        · exact .inl (by omega)
        · exact .inr (List.mem_cons.2 (.inl (by omega)))
      · exact .inr (List.mem_cons.2 (.inr h3))
theorem minL_le (l : List Int) : ∀ x ∈ l, minL l ≤ x := by
  intro x hx
  cases l with
  | nil => simp at hx
  | cons y l =>
    obtain ⟨h1, h2, -⟩ := fold_minI l y
    rcases List.mem_cons.1 hx with rfl | hx
    · exact h1
    · exact h2 x hx
theorem minL_mem (l : List Int) (h : l ≠ []) : minL l ∈ l := by
  cases l with
  | nil => exact absurd rfl h
  | cons y l =>
    obtain ⟨-, -, h3⟩ := fold_minI l y
    rcases h3 with h3 | h3
    · exact List.mem_cons.2 (.inl h3)
    · exact List.mem_cons.2 (.inr h3)
theorem maxL_le (l : List Int) : ∀ x ∈ l, x ≤ maxL l := by
  intro x hx
  cases l with
  | nil => simp at hx
  | cons y l =>
    obtain ⟨h1, h2, -⟩ := fold_maxI l y
    rcases List.mem_cons.1 hx with rfl | hx
    · exact h1
    · exact h2 x hx
theorem maxL_mem (l : List Int) (h : l ≠ []) : maxL l ∈ l := by
  cases l with
  | nil => exact absurd rfl h
  | cons y l =>
    obtain ⟨-, -, h3⟩ := fold_maxI l y
    rcases h3 with h3 | h3
    · exact List.mem_cons.2 (.inl h3)
    · exact List.mem_cons.2 (.inr h3)
theorem loV_minL (l : List Vl) : loV l = minL (l.map Vl.x) := by
  cases l with
  | nil => rfl
  | cons v l => simp only [loV, List.map_cons, minL, List.foldl_map]
theorem hiV_maxL (l : List Vl) : hiV l = maxL (l.map Vl.x) := by
  cases l with
  | nil => rfl
  | cons v l => simp only [hiV, List.map_cons, maxL, List.foldl_map]
theorem upS_none {x : Int} : ∀ {l : List Vl}, (∀ v ∈ l, x < v.x) → upS x l = 0
  | [], _ => rfl
  | v :: l, h => by
    have h1 := h v (by simp)
    have h2 := upS_none (l := l) (fun u hu => h u (by simp [hu]))
    simp only [upS]
    rw [if_neg (by omega)]
    omega
theorem upS_some {x : Int} : ∀ {l : List Vl} {v : Vl}, v ∈ l → v.x ≤ x → 1 ≤ v.n → 0 < upS x l
  | u :: l, v, hm, h1, h2 => by
    simp only [upS]
    rcases List.mem_cons.1 hm with rfl | hm
    · rw [if_pos h1]; omega
    · have := upS_some hm h1 h2; omega
theorem upS_less {x : Int} : ∀ {l : List Vl} {v : Vl}, v ∈ l → x < v.x → 1 ≤ v.n → upS x l < sumS l
  | u :: l, v, hm, h1, h2 => by
    simp only [upS, sumS]
    rcases List.mem_cons.1 hm with rfl | hm
    · have := upS_le x l
      rw [if_neg (by omega)]; omega
    · have := upS_less hm h1 h2
      split <;> omega
namespace GkD
/-- The values among which the least and the greatest are. -/
def ends (D : GkD) : List Int := if D.row = [] then D.waits else D.waits ++ [(D.row.getD 0 default).x, (D.row.getD (D.row.length - 1) default).x]
theorem ends_row {D : GkD} (hok : D.ok) (x : Int) (h : x = (D.row.getD 0 default).x ∨ x = (D.row.getD (D.row.length - 1) default).x) (hne : D.row ≠ []) : unC D.vals x < upC D.vals x := by
  have hx : x ∈ D.row.map Tp.x := by
    have hl : 0 < D.row.length := List.length_pos_iff.2 hne
    rcases h with rfl | rfl
    · exact List.mem_map.2 ⟨_, getD_memT hl, rfl⟩
    · exact List.mem_map.2 ⟨_, getD_memT (by omega), rfl⟩
  rw [← spF_x 0 D.row] at hx
  obtain ⟨s, hs, rfl⟩ := List.mem_map.1 hx
  exact (hok.placed.all s hs).2.2.2
theorem ends_least {D : GkD} (hok : D.ok) (hne : D.row ≠ []) : unC D.vals (D.row.getD 0 default).x = 0 := by
  have h := hok.placed.least
  cases hr : D.row with
  | nil => exact absurd hr hne
  | cons p r => rw [hr] at h; exact h _ rfl
theorem ends_most {D : GkD} (hok : D.ok) (hne : D.row ≠ []) : upC D.vals (D.row.getD (D.row.length - 1) default).x = D.vals.length := by
  have h := hok.placed.most
  have hx := spF_x 0 D.row
  have hl := congrArg List.getLast? hx
  rw [List.getLast?_map, List.getLast?_map] at hl
  have hlen : 0 < D.row.length := List.length_pos_iff.2 hne
  have hg : D.row.getLast? = some (D.row.getD (D.row.length - 1) default) := by
    rw [List.getLast?_eq_getElem?, List.getD_eq_getElem?_getD, List.getElem?_eq_getElem (by omega)]
    rfl
  rw [hg] at hl
  cases hs : (spF 0 D.row).getLast? with
  | none => rw [hs] at hl; cases hl
  | some s =>
    rw [hs] at hl
    have h2 := h s hs
    simp only [Option.map_some, Option.some.injEq] at hl
    rw [← hl]
    exact h2
theorem ends_none {D : GkD} (hok : D.ok) (h : D.row = []) : D.vals = [] := hok.placed.none (by rw [h]; rfl)
theorem ends_ne {D : GkD} (hok : D.ok) (ht : 0 < D.total) : D.ends ≠ [] := by
  unfold ends
  split
  · next h =>
    intro e
    have := ends_none hok h
    rw [total, this, e] at ht
    exact absurd ht (by decide)
  · simp
theorem ends_min {D : GkD} (hok : D.ok) (ht : 0 < D.total) : upC D.all (minL D.ends - 1) = 0 ∧ 0 < upC D.all (minL D.ends) := by
  have hm := minL_mem D.ends (ends_ne hok ht)
  have hl := minL_le D.ends
  generalize minL D.ends = m at *
  have hw : ∀ x ∈ D.waits, m ≤ x := fun x hx => hl x (by unfold ends; split <;> simp [hx])
  have hw0 : upC D.waits (m - 1) = 0 := List.countP_eq_zero.2 (fun x hx => by have := hw x hx; simp; omega)
  rw [all, upC_app, upC_app, hw0]
  by_cases hr : D.row = []
  · rw [ends, if_pos hr] at hm
    rw [ends_none hok hr]
    have h1 : 0 < upC D.waits m := List.countP_pos_iff.2 ⟨m, hm, by simp⟩
    exact ⟨rfl, by omega⟩
  · rw [ends, if_neg hr] at hm hl
    have h0 := ends_least hok hr
    rw [unC_up1] at h0
    have h1 := upC_mono D.vals (show m - 1 ≤ (D.row.getD 0 default).x - 1 from by have := hl (D.row.getD 0 default).x (by simp); omega)
    refine ⟨by omega, ?_⟩
    rcases List.mem_append.1 hm with hm | hm
    · have h1 : 0 < upC D.waits m := List.countP_pos_iff.2 ⟨m, hm, by simp⟩
      omega
    · have h2 := ends_row hok m (by simpa using hm) hr
      omega
theorem ends_max {D : GkD} (hok : D.ok) (ht : 0 < D.total) : upC D.all (maxL D.ends) = D.total ∧ upC D.all (maxL D.ends - 1) < D.total := by
  have hm := maxL_mem D.ends (ends_ne hok ht)
  have hl := maxL_le D.ends
  generalize maxL D.ends = m at *
  have hw : ∀ x ∈ D.waits, x ≤ m := fun x hx => hl x (by unfold ends; split <;> simp [hx])
  have hw0 : upC D.waits m = D.waits.length := List.countP_eq_length.2 (fun x hx => by have := hw x hx; simp; omega)
  have hw1 := upC_le D.waits (m - 1)
  have hv1 := upC_le D.vals (m - 1)
  have hw2 : m ∈ D.waits → upC D.waits (m - 1) < D.waits.length := fun hx => by
    rcases Nat.lt_or_ge (upC D.waits (m - 1)) D.waits.length with h | h
    · exact h
    · have := List.countP_eq_length.1 (Nat.le_antisymm hw1 h) m hx
      simp at this
      omega
  rw [all, upC_app, upC_app, hw0, total]
  by_cases hr : D.row = []
  · rw [ends, if_pos hr] at hm
    have h2 := hw2 hm
    rw [ends_none hok hr] at hv1 ⊢
    exact ⟨rfl, by omega⟩
  · rw [ends, if_neg hr] at hm hl
    have h0 := ends_most hok hr
    have h1 := upC_mono D.vals (show (D.row.getD (D.row.length - 1) default).x ≤ m from hl _ (by simp))
    have h3 := upC_le D.vals m
    refine ⟨by omega, ?_⟩
    rcases List.mem_append.1 hm with hm | hm
    · have := hw2 hm
      omega
    · have h2 := ends_row hok m (by simpa using hm) hr
      rw [unC_up1] at h2
      omega
theorem ends_is {D : GkD} (hok : D.ok) {l : List Vl} (hu : ∀ x, upC D.all x = upS x l) (ht : D.total = sumS l) (hn : ∀ v ∈ l, 1 ≤ v.n) (hl : l ≠ []) : minL D.ends = loV l ∧ maxL D.ends = hiV l := by
  have hp : 0 < sumS l := by
    cases l with
    | nil => exact absurd rfl hl
    | cons v l => have := hn v (by simp); simp only [sumS]; omega
  obtain ⟨a1, a2⟩ := ends_min hok (by omega)
  obtain ⟨b1, b2⟩ := ends_max hok (by omega)
  have hne : l.map Vl.x ≠ [] := by simpa using hl
  have m1 := minL_mem _ hne
  have m2 := minL_le (l.map Vl.x)
  have m3 := maxL_mem _ hne
  have m4 := maxL_le (l.map Vl.x)
  rw [← loV_minL] at m1 m2
  rw [← hiV_maxL] at m3 m4
  obtain ⟨v, hv, hv2⟩ := List.mem_map.1 m1
  obtain ⟨u, hu1, hu2⟩ := List.mem_map.1 m3
  have c1 : upC D.all (loV l - 1) = 0 := by rw [hu]; exact upS_none (fun y hy => by have := m2 y.x (List.mem_map.2 ⟨y, hy, rfl⟩); omega)
  have c2 : 0 < upC D.all (loV l) := by rw [hu]; exact upS_some hv (by omega) (hn v hv)
  have c3 : upC D.all (hiV l) = sumS l := by rw [hu]; exact upS_all (fun y hy => m4 y.x (List.mem_map.2 ⟨y, hy, rfl⟩))
  have c4 : upC D.all (hiV l - 1) < sumS l := by rw [hu]; exact upS_less hu1 (by omega) (hn u hu1)
  constructor
  · rcases Int.lt_trichotomy (minL D.ends) (loV l) with h | h | h
    · have := upC_mono D.all (show minL D.ends ≤ loV l - 1 from by omega); omega
    · exact h
    · have := upC_mono D.all (show loV l ≤ minL D.ends - 1 from by omega); omega
  · rcases Int.lt_trichotomy (maxL D.ends) (hiV l) with h | h | h
    · have := upC_mono D.all (show maxL D.ends ≤ hiV l - 1 from by omega); omega
    · exact h
    · have := upC_mono D.all (show hiV l ≤ maxL D.ends - 1 from by omega); omega
end GkD
end Go.Proofs.Ytkcldhimjnehdaa

namespace Go.Proofs.Ytkcldhimjnehdaa
open Go.RowKit

set_option maxRecDepth 100000 in
theorem gk_part (w : World) (p : Nat) (rv wv : Value) (D : GkD) (h : Gk w p rv wv D) :
    Calls Try.prog 35 #[.pointer (some ⟨p, 0, none⟩)] w fun e w' => e = .returned (.agg #[.int .u64 (D.num : Nat), .int .u64 (D.den : Nat)]) ∧ Chg [] w w' := by
  obtain ⟨c0, c1, -, -, -⟩ := (h.chg ((Chg.refl [] w).alloc (.cells #[.int .u64 0, .int .u64 0] 25)) (by simp)).cells
  have hb := Blk.alloc_new w #[.int .u64 0, .int .u64 0] 25
  have z0 := hb.cell 0
  have z1 := hb.cell 1
  have f0 := hb.free 0
  have f1 := hb.free 1
  go_enter Try.func35, Try.ntmps35
  go_wp2
  have hb2 := Blk.alloc_new w #[.int .u64 (D.num : Nat), .int .u64 (D.den : Nat)] 25
  have y0 := hb2.cell 0
  have y1 := hb2.cell 1
  refine bodyPost_ret (v := .agg #[.int .u64 (D.num : Nat), .int .u64 (D.den : Nat)]) (by simp [results, Try.results35, go_sem, y0, y1]) rfl ⟨rfl, ?_⟩
  with_reducible (repeat (first | exact Chg.refl _ _ | apply Chg.alloc))
set_option maxRecDepth 100000 in
set_option maxHeartbeats 4000000 in
theorem gk_ends (w : World) (p : Nat) (rv wv : Value) (D : GkD) (h : Gk w p rv wv D) (hok : D.ok) (hn : D.total ≤ 30000) :
    Calls Try.prog 31 #[.pointer (some ⟨p, 0, none⟩)] w fun e w' => (D.total = 0 ∧ e = .returned (.tuple #[.int .i64 0, .int .i64 0, .bool false]) ∧ Chg [] w w') ∨
      (0 < D.total ∧ e = .returned (.tuple #[.int .i64 (minL D.ends), .int .i64 (maxL D.ends), .bool true]) ∧ Chg [] w w') := by
  obtain ⟨T, hT⟩ : ∃ T, T = D.total := ⟨_, rfl⟩
  have HG := Lib.hid h
  obtain ⟨-, -, c2, c3, c4⟩ := h.cells
  obtain ⟨LO, hLO⟩ : ∃ z, z = minL D.ends := ⟨_, rfl⟩
  obtain ⟨HI, hHI⟩ : ∃ z, z = maxL D.ends := ⟨_, rfl⟩
  have HLO := Lib.hid hLO
  have HHI := Lib.hid hHI
  rw [← hT] at c4 hn ⊢
  rw [← hLO, ← hHI]
  clear hLO hHI
  by_cases h0 : T = 0
  · subst h0
    clear hT
    go_enter Try.func31, Try.ntmps31
    go_wp2
    refine bodyPost_ret (v := .tuple #[.int .i64 0, .int .i64 0, .bool false]) (by simp [results, Try.results31, go_sem]) rfl ?_
    exact .inl ⟨by first | rfl | trivial, rfl, Chg.refl _ _⟩
  have d0 : ((T : Int) == 0) = false := by rw [beq_eq_false_iff_ne]; omega
  obtain ⟨ro, rc, hrv⟩ := h.row.shape
  obtain ⟨wo, wc, hwv⟩ := h.wait.shape
  subst hrv hwv
  obtain ⟨n, hnn⟩ : ∃ n, n = D.row.length := ⟨_, rfl⟩
  obtain ⟨m, hm⟩ : ∃ m, m = D.waits.length := ⟨_, rfl⟩
  have hvl := hok.len
  have h16 := hok.few
  have hne := D.ends_ne hok (by omega)
  have hnb : n ≤ 30000 := by unfold GkD.total at hT; omega
  rw [← hm] at h16
  have HNE := Lib.hid hne
  have HEL := Lib.hid (show D.ends = if D.row = [] then D.waits else D.waits ++ [(D.row.getD 0 default).x, (D.row.getD (D.row.length - 1) default).x] from rfl)
  have HN := Lib.hid hnn
  have HM := Lib.hid hm
  rw [← hnn] at c2
  rw [← hm] at c3
  have HCL := Lib.hid (fun u (hu : Chg [] w u) => clone_i u wo wc m D.waits (by have h1 := (HG.out.chg hu (by simp)).wait.rd; rw [← hm] at h1; exact h1) (by omega))
  have HTP := Lib.hid (show 0 < T from by omega)
  clear h hok hT hvl hnn hm hne hn h0
  go_enter Try.func31, Try.ntmps31
  go_wp2_with fail
  refine (HCL.out _ (Chg.refl _ _)).mono ?_
  rintro e w1 ⟨a1, c1, rfl, ho1, hc1, hf1⟩
  have HO1 := Lib.hid ho1
  have HC1 := Lib.hid hc1
  have HF1 := Lib.hid hf1
  have HG1 := Lib.hid (HG.out.chg hc1 (by simp))
  have q2 : w1.cell? ⟨p, 2, none⟩ = some (.slice ro n rc) := by rw [HN.out]; exact HG1.out.cells.2.2.1
  clear ho1 hc1 hf1 HCL
  by_cases hz : n = 0
  · subst hz
    have HEQ := Lib.hid (show D.ends = D.waits from by rw [HEL.out, if_pos (List.length_eq_zero_iff.1 HN.out.symm)])
    have HMP := Lib.hid (show 0 < m from by rw [HM.out, ← HEQ.out]; exact List.length_pos_iff.2 HNE.out)
    have HMI := Lib.hid (fun u (hu : Chg [] w1 u) => slices_min u a1 c1 m D.waits HM.out HMP.out (HO1.out.chg hu (by simp)).rd (by omega))
    have HMA := Lib.hid (fun u (hu : Chg [] w1 u) => slices_max u a1 c1 m D.waits HM.out HMP.out (HO1.out.chg hu (by simp)).rd (by omega))
    have HL1 := Lib.hid (show minL D.waits = LO from by rw [HLO.out, HEQ.out])
    have HL2 := Lib.hid (show maxL D.waits = HI from by rw [HHI.out, HEQ.out])
    rw [HL1.out] at HMI
    rw [HL2.out] at HMA
    go_wp2_with fail
    refine (HMI.out _ (Chg.refl _ _)).mono ?_
    rintro e w' ⟨rfl, rfl⟩
    go_wp2_with fail
    refine (HMA.out _ (Chg.refl _ _)).mono ?_
    rintro e w' ⟨rfl, rfl⟩
    go_wp2_with fail
    refine bodyPost_ret (v := .tuple #[.int .i64 LO, .int .i64 HI, .bool true]) (by simp [results, Try.results31, go_sem]) rfl ?_
    exact .inr ⟨HTP.out, rfl, HC1.out⟩
  · have d1 : decide ((0 : Int) < (n : Int)) = true := decide_eq_true (by omega)
    obtain ⟨b, o, rfl, hcc⟩ := HG.out.row.rd.addr (by have := HN.out; omega)
    obtain ⟨z0, -, -⟩ := tp_at hcc (k := 0) (by have := HN.out; omega)
    obtain ⟨z1, -, -⟩ := tp_at hcc (k := n - 1) (by have := HN.out; omega)
    have HX0 := Lib.hid (show (D.row[0]'(by have := HN.out; omega)).x = (D.row.getD 0 default).x from by rw [List.getD_eq_getElem?_getD, List.getElem?_eq_getElem]; rfl)
    have HX1 := Lib.hid (show (D.row[n - 1]'(by have := HN.out; omega)).x = (D.row.getD (D.row.length - 1) default).x from by rw [show D.row.length - 1 = n - 1 from by have := HN.out; omega, List.getD_eq_getElem?_getD, List.getElem?_eq_getElem]; rfl)
    generalize (D.row[0]'(by have := HN.out; omega)).x = x0 at *
    generalize (D.row[n - 1]'(by have := HN.out; omega)).x = x1 at *
    have HEQ := Lib.hid (show D.ends = D.waits ++ [x0, x1] from by rw [HEL.out, if_neg (fun e => hz (by rw [HN.out, e]; rfl)), HX0.out, HX1.out])
    clear hcc
    obtain ⟨e, he⟩ : ∃ e, e = n - 1 := ⟨_, rfl⟩
    rw [← he] at z1
    have hn1 : IntKind.i64.wrap ((n : Int) - 1) = (e : Int) := by rw [IntKind.wrap_i64]; omega
    have hel : e < n := by omega
    clear he HX0 HX1 HEL
    rw [Nat.zero_mul, Nat.add_zero] at z0
    go_upto_region 6 with (fail)
    have HS := Lib.hid (fun wx (hu : Chg [] w wx) => show Chg [] w wx ∧ wx.cell? ⟨p, 2, none⟩ = some (.slice (some ⟨b, o, none⟩) n rc) ∧ wx.cell? ⟨b, o, none⟩ = some (.int .i64 x0) ∧ wx.cell? ⟨b, o + e * 3, none⟩ = some (.int .i64 x1) from ⟨hu, hu.cell c2 (by simp), hu.cell z0 (by simp), hu.cell z1 (by simp)⟩)
    have hSS := HS.out w1.drew HC1.out.drew
    refine startG (S := fun wx => Chg [] w wx ∧ wx.cell? ⟨p, 2, none⟩ = some (.slice (some ⟨b, o, none⟩) n rc) ∧ wx.cell? ⟨b, o, none⟩ = some (.int .i64 x0) ∧ wx.cell? ⟨b, o + e * 3, none⟩ = some (.int .i64 x1)) (st := 19) (by kernel_rfl) hSS (fun hHeld => ?_)
    refine takeP (i := 0) (v := ?vz0) rfl (by kernel_rfl) (by kernel_rfl) (by kernel_rfl) (by decide) (fun _ _ _ h => h) (Or.inl ⟨by rfl, ?yz0⟩) hSS ?rz0
    case yz0 => (intro w _; go_simp; first | done | with_reducible rfl)
    try simp only [Act.put, List.setIfInBounds_toArray, List.set_cons_zero, List.set_cons_succ]
    refine takeP (i := 1) (v := ?vz1) rfl (by kernel_rfl) (by kernel_rfl) (by kernel_rfl) (by decide) (fun _ _ _ h => h) (Or.inl ⟨by rfl, ?yz1⟩) hSS ?rz1
    case yz1 => (intro w _; go_simp; first | done | with_reducible rfl)
    try simp only [Act.put, List.setIfInBounds_toArray, List.set_cons_zero, List.set_cons_succ]
    refine takeP (i := 2) (v := ?vz2) rfl (by kernel_rfl) (by kernel_rfl) (by kernel_rfl) (by decide) (fun _ _ _ h => h) (Or.inl ⟨by rfl, ?yz2⟩) hSS ?rz2
    case yz2 => (intro w _; go_simp; first | done | with_reducible rfl)
    try simp only [Act.put, List.setIfInBounds_toArray, List.set_cons_zero, List.set_cons_succ]
    refine takeP (i := 3) (v := ?vz3) rfl (by kernel_rfl) (by kernel_rfl) (by kernel_rfl) (by decide) (fun _ _ _ h => h) (Or.inl ⟨by rfl, ?yz3⟩) hSS ?rz3
    case yz3 => (intro w _; go_simp; first | done | with_reducible rfl)
    try simp only [Act.put, List.setIfInBounds_toArray, List.set_cons_zero, List.set_cons_succ]
    refine takeG (i := 4) (v := ?vz4) rfl (by kernel_rfl) (by kernel_rfl) (by kernel_rfl) (by decide) (by kernel_rfl) (by kernel_rfl) (fun _ _ _ h => h) (Or.inl ⟨by rfl, ?yz4⟩) hSS ?rz4
    case yz4 => (intro w hSw; (try dsimp only at hSw); go_simp; first | done | with_reducible rfl)
    try simp only [Act.put, List.setIfInBounds_toArray, List.set_cons_zero, List.set_cons_succ]
    refine takeP (i := 5) (v := ?vz5) rfl (by kernel_rfl) (by kernel_rfl) (by kernel_rfl) (by decide) (fun _ _ _ h => h) (Or.inl ⟨by rfl, ?yz5⟩) hSS ?rz5
    case yz5 => (intro w _; go_simp; first | done | with_reducible rfl)
    try simp only [Act.put, List.setIfInBounds_toArray, List.set_cons_zero, List.set_cons_succ]
    refine takeP (i := 6) (v := ?vz6) rfl (by kernel_rfl) (by kernel_rfl) (by kernel_rfl) (by decide) (fun _ _ _ h => h) (Or.inl ⟨by rfl, ?yz6⟩) hSS ?rz6
    case yz6 => (intro w _; go_simp; first | done | with_reducible rfl)
    try simp only [Act.put, List.setIfInBounds_toArray, List.set_cons_zero, List.set_cons_succ]
    refine takeG (i := 7) (v := ?vz7) rfl (by kernel_rfl) (by kernel_rfl) (by kernel_rfl) (by decide) (by kernel_rfl) (by kernel_rfl) (fun _ _ _ h => h) (Or.inl ⟨by rfl, ?yz7⟩) hSS ?rz7
    case yz7 => (intro w hSw; (try dsimp only at hSw); go_simp; first | done | with_reducible rfl)
    try simp only [Act.put, List.setIfInBounds_toArray, List.set_cons_zero, List.set_cons_succ]
    refine takeP (i := 8) (v := ?vz8) rfl (by kernel_rfl) (by kernel_rfl) (by kernel_rfl) (by decide) (fun _ _ _ h => h) (Or.inl ⟨by rfl, ?yz8⟩) hSS ?rz8
    case yz8 => (intro w _; go_simp; first | done | with_reducible rfl)
    try simp only [Act.put, List.setIfInBounds_toArray, List.set_cons_zero, List.set_cons_succ]
    refine takeP (i := 9) (v := ?vz9) rfl (by kernel_rfl) (by kernel_rfl) (by kernel_rfl) (by decide) (fun _ _ _ h => h) (Or.inl ⟨by rfl, ?yz9⟩) hSS ?rz9
    case yz9 => (intro w _; go_simp; first | done | with_reducible rfl)
    try simp only [Act.put, List.setIfInBounds_toArray, List.set_cons_zero, List.set_cons_succ]
    refine takeP (i := 10) (v := ?vz10) rfl (by kernel_rfl) (by kernel_rfl) (by kernel_rfl) (by decide) (fun _ _ _ h => h) (Or.inl ⟨by rfl, ?yz10⟩) hSS ?rz10
    case yz10 => (intro w _; go_simp; first | done | with_reducible rfl)
    try simp only [Act.put, List.setIfInBounds_toArray, List.set_cons_zero, List.set_cons_succ]
    refine takeG (i := 11) (v := ?vz11) rfl (by kernel_rfl) (by kernel_rfl) (by kernel_rfl) (by decide) (by kernel_rfl) (by kernel_rfl) (fun _ _ _ h => h) (Or.inl ⟨by rfl, ?yz11⟩) hSS ?rz11
    case yz11 => (intro w hSw; (try dsimp only at hSw); go_simp; first | done | with_reducible rfl)
    try simp only [Act.put, List.setIfInBounds_toArray, List.set_cons_zero, List.set_cons_succ]
    refine takeP (i := 12) (v := ?vz12) rfl (by kernel_rfl) (by kernel_rfl) (by kernel_rfl) (by decide) (fun _ _ _ h => h) (Or.inl ⟨by rfl, ?yz12⟩) hSS ?rz12
    case yz12 => (intro w _; go_simp; first | done | with_reducible rfl)
    try simp only [Act.put, List.setIfInBounds_toArray, List.set_cons_zero, List.set_cons_succ]
    refine takeP (i := 13) (v := ?vz13) rfl (by kernel_rfl) (by kernel_rfl) (by kernel_rfl) (by decide) (fun _ _ _ h => h) (Or.inl ⟨by rfl, ?yz13⟩) hSS ?rz13
    case yz13 => (intro w _; go_simp; first | done | with_reducible rfl)
    try simp only [Act.put, List.setIfInBounds_toArray, List.set_cons_zero, List.set_cons_succ]
    refine takeP (i := 14) (v := ?vz14) rfl (by kernel_rfl) (by kernel_rfl) (by kernel_rfl) (by decide) (fun _ _ _ h => h) (Or.inl ⟨by rfl, ?yz14⟩) hSS ?rz14
    case yz14 => (intro w _; go_simp; first | done | with_reducible rfl)
    try simp only [Act.put, List.setIfInBounds_toArray, List.set_cons_zero, List.set_cons_succ]
    refine takeP (i := 15) (v := ?vz15) rfl (by kernel_rfl) (by kernel_rfl) (by kernel_rfl) (by decide) (fun _ _ _ h => h) (Or.inl ⟨by rfl, ?yz15⟩) hSS ?rz15
    case yz15 => (intro w _; go_simp; first | done | with_reducible rfl)
    try simp only [Act.put, List.setIfInBounds_toArray, List.set_cons_zero, List.set_cons_succ]
    refine takeG (i := 16) (v := ?vz16) rfl (by kernel_rfl) (by kernel_rfl) (by kernel_rfl) (by decide) (by kernel_rfl) (by kernel_rfl) (fun _ _ _ h => h) (Or.inl ⟨by rfl, ?yz16⟩) hSS ?rz16
    case yz16 => (intro w hSw; (try dsimp only at hSw); go_simp; first | done | with_reducible rfl)
    try simp only [Act.put, List.setIfInBounds_toArray, List.set_cons_zero, List.set_cons_succ]
    refine readyG (rs := [17]) (by kernel_rfl) (by simp) (consG rfl (fun K hK => ?_) nilG)
    go_simp
    have HR7 := Lib.hid ((Rd.lit w1 #[.int .i64 x0, .int .i64 x1] 2 1 2 2 rfl).chg ((Chg.refl [] _).drew) (by simp))
    have HO7 := Lib.hid ((HO1.out.alloc (.cells #[.int .i64 x0, .int .i64 x1] 2)).chg ((Chg.refl [] _).drew) (by simp))
    have HC7 := Lib.hid ((HC1.out.alloc (.cells #[.int .i64 x0, .int .i64 x1] 2)).drew)
    have hS7 := HS.out _ HC7.out
    refine hK.out _ _ (fun _ _ => hS7) (fun hHeld => ?_)
    clear hK K hHeld
    try simp only [Act.put, List.setIfInBounds_toArray, List.set_cons_zero, List.set_cons_succ]
    refine readyG (rs := [18]) (by kernel_rfl) (by simp) (consG rfl (fun K hK => ?_) nilG)
    refine step_append_src rfl (.tmp 28) (.tmp 45) 61 61 rfl 2 _ 1 8 under_ints info_i64 rfl (by decide) (.slice a1 m c1) m (ints D.waits) (by simp [Act.eval]) HO7.out (.slice (some ⟨w1.heap.size, 0, none⟩) 2 2) 2 (ints [x0, x1]) (by simp [Act.eval]) (Src.of_rd under_ints HR7.out) (ints_oneCell _) (by unfold maxLen; omega) (by omega) ?_; intro a8 c8 w8 ho8 hg8 hf8
    have HO8 := Lib.hid ho8
    have HC8 := Lib.hid (HC7.out.trans' hg8 (fun b hb => .inr (HF1.out b (by simpa using hb))))
    clear ho8 hg8 hf8
    have hS8 := HS.out _ HC8.out
    refine hK.out _ _ (fun _ _ => hS8) (fun hHeld => ?_)
    clear hK K hHeld
    try simp only [Act.put, List.setIfInBounds_toArray, List.set_cons_zero, List.set_cons_succ]
    refine readyG (rs := [19]) (by kernel_rfl) (by simp) (consG rfl (fun K hK => ?_) nilG)
    go_simp
    refine hK.out _ _ (fun h => absurd rfl h) (fun hHeld => ?_)
    clear hK K hHeld
    try simp only [Act.put, List.setIfInBounds_toArray, List.set_cons_zero, List.set_cons_succ]
    refine doneG (by kernel_rfl) ?_ _
    clear hSS hS7 hS8 HS
    have HO := Lib.hid (show Own w8 2 1 (.slice a8 (m + 2) c8) (m + 2) (ints (D.waits ++ [x0, x1])) from by rw [ints_append]; exact HO8.out)
    have HLN := Lib.hid (show m + 2 = (D.waits ++ [x0, x1]).length from by simp [HM.out])
    have HMI := Lib.hid (fun u (hu : Chg [] w8 u) => slices_min u a8 c8 (m + 2) (D.waits ++ [x0, x1]) HLN.out (by omega) (HO.out.chg hu (by simp)).rd (by omega))
    have HMA := Lib.hid (fun u (hu : Chg [] w8 u) => slices_max u a8 c8 (m + 2) (D.waits ++ [x0, x1]) HLN.out (by omega) (HO.out.chg hu (by simp)).rd (by omega))
    rw [← HEQ.out, ← HLO.out] at HMI
    rw [← HEQ.out, ← HHI.out] at HMA
    clear HR7 HO7 HO8 q2 c2 c3 z0 z1
    go_wp2_with fail
    refine (HMI.out _ (Chg.refl _ _)).mono ?_
    rintro e w' ⟨rfl, rfl⟩
    go_wp2_with fail
    refine (HMA.out _ (Chg.refl _ _)).mono ?_
    rintro e w' ⟨rfl, rfl⟩
    go_wp2_with fail
    refine bodyPost_ret (v := .tuple #[.int .i64 LO, .int .i64 HI, .bool true]) (by simp [results, Try.results31, go_sem]) rfl ?_
    exact .inr ⟨HTP.out, rfl, HC8.out⟩
/-- Ends, told by the values that were put. -/
theorem gk_Ends (w : World) (p : Nat) (rv wv : Value) (D : GkD) (h : Gk w p rv wv D) (hok : D.ok) (hn : D.total ≤ 30000) (l : List Vl) (hu : ∀ x, upC D.all x = upS x l) (ht : D.total = sumS l) (hp : ∀ v ∈ l, 1 ≤ v.n)
    (lo hi : Int) (B : Bool) (hlo : lo = loV l) (hhi : hi = hiV l) (hB : B = decide (l ≠ [])) :
    Calls Try.prog 31 #[.pointer (some ⟨p, 0, none⟩)] w fun e w' => e = .returned (.tuple #[.int .i64 lo, .int .i64 hi, .bool B]) ∧ Chg [] w w' := by
  refine (gk_ends w p rv wv D h hok hn).mono ?_
  rintro e w' (⟨h0, rfl, hc⟩ | ⟨h0, rfl, hc⟩)
  · have hl : l = [] := by
      cases l with
      | nil => rfl
      | cons v l => have := hp v (by simp); simp only [sumS] at ht; omega
    subst hl
    rw [hlo, hhi, hB]
    exact ⟨rfl, hc⟩
  · have hl : l ≠ [] := by
      intro e
      rw [e] at ht
      simp only [sumS] at ht
      omega
    obtain ⟨e1, e2⟩ := GkD.ends_is hok hu ht hp hl
    rw [e1, e2, ← hlo, ← hhi, hB, decide_eq_true hl]
    exact ⟨rfl, hc⟩
end Go.Proofs.Ytkcldhimjnehdaa
