/-
  The walk of the law CoinsKeeps. Conditions: the form's own reach.
-/
import Derived.Test.YtbaobiniianamaaSplit
namespace Go.Proofs.Ytbaobiniianamaa
open Go.RowKit

theorem take_le_drop {S : List Int} (h : up S) (m : Nat) : ∀ x ∈ S.take m, ∀ y ∈ S.drop m, x ≤ y := by
  intro x hx y hy
  obtain ⟨i, hi, rfl⟩ := List.getElem_of_mem hx
  obtain ⟨j, hj, rfl⟩ := List.getElem_of_mem hy
  simp only [List.length_take, List.length_drop] at hi hj
  rw [List.getElem_take, List.getElem_drop]
  exact h _ _ (by omega) (by omega)

set_option maxRecDepth 100000 in
set_option maxHeartbeats 2000000 in
theorem law_CoinsKeeps (w : World) (ao : Option Addr) (cap : Nat) (l : List Int) (hr : Rd w 1 (.slice ao l.length cap) l.length (ints l)) (hl : l.length ≤ 140737488351232) (k : Int) (_h0 : -9223372036854775808 ≤ k) (_h1 : k < 9223372036854775808) :
    Calls Try.prog 4 #[.slice ao l.length cap, .int .i64 k] w fun e w' => e = .returned (.bool true) ∧ Chg [] w w' := by
  clear _h0 _h1
  go_enter Try.func4, Try.ntmps4
  go_wp2_with fail
  refine (law20_alive w).mono ?_
  rintro e w1 ⟨rfl, hc1⟩
  by_cases h100 : 100 < l.length
  · have hd : decide ((100 : Int) < (l.length : Int)) = true := decide_eq_true (by omega)
    clear h100
    go_wp2
    go_ret
    exact ⟨rfl, hc1⟩
  have hd : decide ((100 : Int) < (l.length : Int)) = false := decide_eq_false (by omega)
  have HS := Lib.hid (fun n hn => coins_split w1 ao cap l n hn k _ rfl (by rw [hn]; exact hr.chg hc1 (by simp)) (by omega))
  obtain ⟨K, hK⟩ : ∃ K : Nat, min (max k 0) (l.length : Int) = (K : Int) := ⟨(min (max k 0) (l.length : Int)).toNat, by omega⟩
  obtain ⟨m, hm⟩ : ∃ m, m = keepI l.length k := ⟨_, rfl⟩
  have hmK : m = K ∨ m = K + 1 := by
    rw [hm, keepI, keepN]
    split <;> omega
  have hmn : m ≤ l.length := by rw [hm, keepI, keepN]; split <;> omega
  have HLE := Lib.hid (take_le_drop (sort_ok l).1 m)
  have hsl := (sort_ok l).2.2
  have hA : ((sortL l).take m).length = m := by rw [List.length_take]; omega
  have hB : ((sortL l).drop m).length = l.length - m := by rw [List.length_drop]; omega
  have HM := Lib.hid hm
  have hl100 : l.length ≤ 100 := by omega
  clear hm hsl h100 hr hl
  generalize hn : l.length = n at *
  have HN := Lib.hid hn
  have HS := Lib.hid (HS.out n rfl)
  rw [← HM.out] at HS
  clear hn
  go_wp2_with fail
  refine HS.out.mono ?_
  rintro e w2 ⟨a3, c3, a4, c4, rfl, ho, hb, hc2, _, _, _, _⟩
  have HA := Lib.hid ho.rd
  have HB := Lib.hid hb
  have hc2 := hc1.trans hc2
  clear HS ho hb hc1
  generalize (sortL l).take m = A at *
  generalize (sortL l).drop m = B at *
  have HLA := Lib.hid hA
  have HLB := Lib.hid hB
  clear hA hB HM
  have hsum : (m : Int) + ((n - m : Nat) : Int) = (n : Int) := by omega
  have HLL := Lib.hid hmn
  have hn100 : n ≤ 100 := by omega
  have hK100 : K ≤ 100 := by omega
  have hm100 : m ≤ 100 := by omega
  have hne : ((m : Int) != (K : Int)) = decide (m ≠ K) := by rw [Bool.eq_iff_iff, bne_iff_ne, decide_eq_true_eq]; omega
  have hne2 : ((m : Int) != (K : Int) + 1) = decide (m ≠ K + 1) := by rw [Bool.eq_iff_iff, bne_iff_ne, decide_eq_true_eq]; omega
  have hor : (m ≠ K ∧ m ≠ K + 1) = False := by rw [eq_iff_iff]; constructor; (intro h; omega); exact False.elim
  rcases hmK with hmK | hmK
  · have e1 : decide (m ≠ K) = false := decide_eq_false (by omega)
    rw [e1] at hne
    clear e1 hor hne2 hmK hmn
    generalize n - m = d at *
    go_wp2
    go_loopw [51] (fun i wx => ∃ p : Nat, p ≤ m ∧ i = .int .i64 (p : Nat) ∧ w2 = wx) (fun i _ => m - (intOf i).toNat)
    case atStart => exact ⟨0, Nat.zero_le _, rfl, rfl⟩
    case round =>
      obtain ⟨p, hp, rfl, hw⟩ := hrel
      subst hw
      by_cases hpm : p < m
      · obtain ⟨b1, o1, rfl, hcA⟩ := HA.out.addr (by omega)
        have hpA : p < A.length := by have := HLA.out; omega
        have xA := ints_at (l := A) (fun j hj => hcA j (by rw [HLA.out] at hj; exact hj)) p hpA
        have HX := Lib.hid (fun y hy => HLE.out A[p] (List.getElem_mem _) y hy)
        generalize A[p] = x at *
        clear hcA
        go_wp2
        go_loopw [57] (fun i wx => ∃ q : Nat, q ≤ d ∧ i = .int .i64 (q : Nat) ∧ w2 = wx) (fun i _ => d - (intOf i).toNat)
        case atStart => exact ⟨0, Nat.zero_le _, rfl, rfl⟩
        case round =>
          obtain ⟨q, hq, rfl, hw⟩ := hrel
          subst hw
          by_cases hqd : q < d
          · obtain ⟨b2, o2, rfl, hcB⟩ := HB.out.addr (by omega)
            have hqB : q < B.length := by have := HLB.out; omega
            have xB := ints_at (l := B) (fun j hj => hcB j (by rw [HLB.out] at hj; exact hj)) q hqB
            have hxy := HX.out B[q] (List.getElem_mem _)
            generalize B[q] = y at *
            have hyx : decide (y < x) = false := decide_eq_false (by omega)
            clear hcB hxy
            go_wp2
            exact ⟨⟨q + 1, by omega, by go_num, by first | rfl | trivial⟩, by simp [intOf]; omega⟩
          · obtain rfl : q = d := by omega
            go_wp2
            exact ⟨⟨p + 1, by omega, by go_num, by first | rfl | trivial⟩, by simp [intOf]; omega⟩
      · obtain rfl : p = m := by omega
        go_wp2
        go_ret
        exact ⟨rfl, hc2⟩
  · have e1 : decide (m ≠ K) = true := decide_eq_true (by omega)
    have e2 : decide (m ≠ K + 1) = false := decide_eq_false (by omega)
    rw [e1] at hne
    rw [e2] at hne2
    clear e1 e2 hor hmK hmn
    generalize n - m = d at *
    go_wp2
    go_loopw [51] (fun i wx => ∃ p : Nat, p ≤ m ∧ i = .int .i64 (p : Nat) ∧ w2 = wx) (fun i _ => m - (intOf i).toNat)
    case atStart => exact ⟨0, Nat.zero_le _, rfl, rfl⟩
    case round =>
      obtain ⟨p, hp, rfl, hw⟩ := hrel
      subst hw
      by_cases hpm : p < m
      · obtain ⟨b1, o1, rfl, hcA⟩ := HA.out.addr (by omega)
        have hpA : p < A.length := by have := HLA.out; omega
        have xA := ints_at (l := A) (fun j hj => hcA j (by rw [HLA.out] at hj; exact hj)) p hpA
        have HX := Lib.hid (fun y hy => HLE.out A[p] (List.getElem_mem _) y hy)
        generalize A[p] = x at *
        clear hcA
        go_wp2
        go_loopw [57] (fun i wx => ∃ q : Nat, q ≤ d ∧ i = .int .i64 (q : Nat) ∧ w2 = wx) (fun i _ => d - (intOf i).toNat)
        case atStart => exact ⟨0, Nat.zero_le _, rfl, rfl⟩
        case round =>
          obtain ⟨q, hq, rfl, hw⟩ := hrel
          subst hw
          by_cases hqd : q < d
          · obtain ⟨b2, o2, rfl, hcB⟩ := HB.out.addr (by omega)
            have hqB : q < B.length := by have := HLB.out; omega
            have xB := ints_at (l := B) (fun j hj => hcB j (by rw [HLB.out] at hj; exact hj)) q hqB
            have hxy := HX.out B[q] (List.getElem_mem _)
            generalize B[q] = y at *
            have hyx : decide (y < x) = false := decide_eq_false (by omega)
            clear hcB hxy
            go_wp2
            exact ⟨⟨q + 1, by omega, by go_num, by first | rfl | trivial⟩, by simp [intOf]; omega⟩
          · obtain rfl : q = d := by omega
            go_wp2
            exact ⟨⟨p + 1, by omega, by go_num, by first | rfl | trivial⟩, by simp [intOf]; omega⟩
      · obtain rfl : p = m := by omega
        go_wp2
        go_ret
        exact ⟨rfl, hc2⟩
end Go.Proofs.Ytbaobiniianamaa
