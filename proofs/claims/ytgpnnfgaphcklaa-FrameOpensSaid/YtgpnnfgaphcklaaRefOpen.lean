/-
  The walk of the reference's Open. Conditions: the form's own reach.
-/
import Derived.Test.YtgpnnfgaphcklaaRefClose
namespace Go.Proofs.Ytgpnnfgaphcklaa
open Go.RowKit
attribute [local go_sem] ByteArray.extract_mk

def refV : Option (UInt8 × List UInt8) → Value
  | none => .tuple #[.int .u8 0, .string ⟨#[]⟩, .bool false]
  | some (k, t) => .tuple #[.int .u8 (k.toNat : Nat), .string ⟨t.toArray⟩, .bool true]

theorem takenP_used (most : Nat) (l : List UInt8) : (takenP most l).2 ≤ l.length := by
  unfold takenP
  split
  · split
    · simp only; omega
    · simp
  · simp

theorem openR_parts {s : List UInt8} {n u m : Nat} (hm : m = 262144) (h9 : ¬ s.length < 9) (h : takenP m (s.drop 4) = (n, u)) :
    openR s = if u = 0 ∨ s.length ≠ 8 + u + n then none else if closeB (s.getD 3 0) ((s.drop (4 + u)).take n) ≠ s then none else some (s.getD 3 0, (s.drop (4 + u)).take n) := by
  subst hm
  rw [openR, if_neg h9, h]
theorem ref_taken_e (w : World) (l : List UInt8) (most : Nat) (hmost : most < 18446744073709551616) (hlen : l.length ≤ 70368744177664) (x : Int) (hx : x = (most : Int)) :
    Calls Try.prog 26 #[.string ⟨l.toArray⟩, .int .u64 x] w fun e w' => e = .returned (.tuple #[.int .u64 (takenP most l).1, .int .i64 (takenP most l).2]) ∧ Chg [] w w' := by
  subst hx
  exact ref_taken w l most hmost hlen
set_option maxRecDepth 100000 in
set_option maxHeartbeats 1000000 in
theorem ref_open (w : World) (s : List UInt8) (hs : s.length ≤ 100000) :
    Calls Try.prog 48 #[.string ⟨s.toArray⟩] w fun e w' => e = .returned (refV (openR s)) ∧ Chg [] w w' := by
  go_enter Try.func48, Try.ntmps48
  by_cases h9 : s.length < 9
  · have hd : decide ((s.length : Int) < 9) = true := decide_eq_true (by omega)
    have HO := Lib.hid (show openR s = none from by rw [openR, if_pos h9])
    clear h9
    go_wp2
    go_ret3
    exact ⟨by rw [HO.out]; rfl, Chg.refl _ _⟩
  have hd : decide ((s.length : Int) < 9) = false := decide_eq_false (by omega)
  obtain ⟨m, hm⟩ : ∃ m : Nat, m = 262144 := ⟨_, rfl⟩
  have HP := Lib.hid (fun n u => openR_parts (n := n) (u := u) hm h9)
  have hmm := hm
  have HX := Lib.hid (show (262144 : Int) = (m : Int) by rw [hm]; rfl)
  have HTL := Lib.hid (takenP_le m (s.drop 4))
  have HTU := Lib.hid (takenP_used m (s.drop 4))
  have HM := Lib.hid (show m < 18446744073709551616 by omega)
  have hl4 : (s.drop 4).length ≤ 70368744177664 := by rw [List.length_drop]; omega
  have h4 : (4 : Int) ≤ (s.length : Int) := by omega
  clear h9 hm hmm
  have htd : List.take (s.length - 4) (List.drop 4 s) = List.drop 4 s := List.take_of_length_le (by rw [List.length_drop]; omega)
  go_wp2_with fail
  refine (ref_taken_e w (s.drop 4) m HM.out hl4 _ HX.out).mono ?_
  rintro e w1 ⟨rfl, hc1⟩
  have htl := HTL.out
  have htu := HTU.out
  generalize hT : takenP m (s.drop 4) = T at *
  obtain ⟨n, u⟩ := T
  have HR := Lib.hid (HP.out n u rfl)
  simp only at htl htu ⊢
  rw [List.length_drop] at htu
  have htl : n ≤ 262144 := by have := HX.out; omega
  clear HTL HTU hl4 hT HP
  by_cases hu : u = 0
  · subst hu
    have HO := Lib.hid (show openR s = none from by rw [HR.out, if_pos (.inl rfl)])
    clear HR
    go_wp2
    go_ret3
    exact ⟨by rw [HO.out]; rfl, hc1⟩
  have hub : ((u : Int) == 0) = false := beq_eq_false_iff_ne.2 (by omega)
  by_cases hq : s.length = 8 + u + n
  · have hqb : ((s.length : Int) != 8 + (u : Int) + (n : Int)) = false := by rw [hq]; simp
    have HO := Lib.hid (show openR s = _ from by rw [HR.out, if_neg (fun h => h.elim hu (fun h => h hq))])
    have hle : (4 : Int) + (u : Int) ≤ 4 + (u : Int) + (n : Int) := by omega
    have hle2 : (4 : Int) + (u : Int) + (n : Int) ≤ (s.length : Int) := by omega
    have hx : ((s.take (4 + u + n)).drop (4 + u)) = (s.drop (4 + u)).take n := by
      rw [List.drop_take]
      congr 1
      omega
    clear HR hu
    have hlt : ((s.drop (4 + u)).take n).length ≤ 1000000 := by rw [List.length_take]; omega
    have h3 : s.getD 3 0 = s[3]'(by omega) := by simp [List.getD, show 3 < s.length by omega]
    rw [h3] at HO
    clear h3 hx
    go_wp2_with fail
    refine (ref_close w1 (s[3]'(by omega)) _ hlt).mono ?_
    rintro e w2 ⟨rfl, hc2⟩
    have hc2 := hc1.trans hc2
    by_cases he : closeB (s[3]'(by omega)) ((s.drop (4 + u)).take n) = s
    · have hb : (closeB (s[3]'(by omega)) ((s.drop (4 + u)).take n) == s) = true := by simp [he]
      have HO2 := Lib.hid (show openR s = _ from by rw [HO.out, if_neg (fun h => h he)])
      clear he HO
      generalize closeB (s[3]'(by omega)) ((s.drop (4 + u)).take n) = C at *
      go_wp2
      go_ret3
      exact ⟨by rw [HO2.out]; rfl, hc2⟩
    · have hb : (closeB (s[3]'(by omega)) ((s.drop (4 + u)).take n) == s) = false := by simpa using he
      have HO2 := Lib.hid (show openR s = none from by rw [HO.out, if_pos he])
      clear he HO
      generalize closeB (s[3]'(by omega)) ((s.drop (4 + u)).take n) = C at *
      go_wp2
      go_ret3
      exact ⟨by rw [HO2.out]; rfl, hc2⟩
  · have hqb : ((s.length : Int) != 8 + (u : Int) + (n : Int)) = true := by
      rw [bne_iff_ne]
      omega
    have HO := Lib.hid (show openR s = none from by rw [HR.out, if_pos (.inr hq)])
    clear HR hq
    go_wp2
    go_ret3
    exact ⟨by rw [HO.out]; rfl, hc1⟩
end Go.Proofs.Ytgpnnfgaphcklaa
