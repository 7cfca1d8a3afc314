/-
  The walk of the law QuillNumbers. Conditions: the form's own reach.
-/
import Derived.Test.YtgpnnfgaphcklaaLaw04Put
namespace Go.Proofs.Ytgpnnfgaphcklaa
open Go.RowKit

/-- What an eye reads is what the reference takes. -/
theorem eNat_some (most : Nat) (l : List UInt8) : eNat most (some l) = match leb 0 l with
    | some (v, r) => if v ≤ most then (v, some r) else (0, none)
    | none => (0, none) := rfl
theorem eNat_taken (most : Nat) (l : List UInt8) : (eNat most (some l)).1 = (takenP most l).1 ∧ (eNat most (some l)).2.isNone = decide ((takenP most l).2 = 0) := by
  cases h : leb 0 l with
  | none => simp [eNat_some, takenP, h]
  | some p =>
    obtain ⟨v, r⟩ := p
    obtain ⟨e, _, _⟩ := leb_sound l 0 v r (by omega) h
    have := natB_pos v
    have hl : l.length = (natB v).length + r.length := by rw [e, List.length_append]
    by_cases hv : v ≤ most
    · simp [eNat_some, takenP, h, hv]; omega
    · simp [eNat_some, takenP, h, hv]

theorem eNat_natB {n most : Nat} (hn : n < 2 ^ 64) (r : List UInt8) : eNat most (some (natB n ++ r)) = if n ≤ most then (n, some r) else (0, none) := by
  rw [eNat_some, leb_natB n 0 r (by omega) (by simpa using hn) (by omega)]

theorem quill_natn (w : World) (q : Nat) (F : List Nat) (l : List UInt8) (us : List Nat) (hus : ∀ u ∈ us, u < 2 ^ 64) (hq : Qul w q F l) (n b0 : Nat) (hn : n = us.length) (hb0 : b0 = w.heap.size) (hroom : l.length + 10 * us.length ≤ 70368744177664) :
    Calls Try.prog 27 #[.pointer (some ⟨q, 0, none⟩), .slice (some ⟨b0, 0, none⟩) n n] (w.alloc (.cells (u64s us).toArray 32)) fun e w' => e = .returned (.tuple #[]) ∧
      ∃ F', Qul w' q F' (l ++ us.flatMap natB) ∧ Mv F w F' w' := by
  subst hn hb0
  refine (quill_nat (w.alloc (.cells (u64s us).toArray 32)) q F l (some ⟨w.heap.size, 0, none⟩) us.length us hus (hq.alloc _) ?_ (fun b hb => ?_) hroom).mono ?_
  · have := Rd.lit w (u64s us).toArray 32 1 us.length us.length (by simp)
    simpa using this
  · have hlt := hq.lt
    simp only [abl_some, List.mem_singleton] at hb
    intro hF
    have := hlt b hF
    omega
  · rintro e w' ⟨rfl, F', h1, h2⟩
    exact ⟨rfl, F', h1, (Mv.alloc F w _).trans h2⟩

theorem new_quill (w : World) : Qul (w.alloc (.cells #[.slice none 0 0] 41)) w.heap.size [w.heap.size] [] := ⟨none, 0, rfl, Blk.alloc_new _ _ _, Own.nil _ _ _⟩

set_option maxRecDepth 100000 in
set_option maxHeartbeats 1000000 in
theorem law_QuillNumbers (w : World) (b : List UInt8) (_hb : b.length ≤ 140737488351232) (most : Nat) (hm : most < 18446744073709551616) (n : Nat) (hn : n < 18446744073709551616) :
    Calls Try.prog 5 #[.string ⟨b.toArray⟩, .int .u64 most, .int .u64 n] w fun e w' => e = .returned (.bool true) ∧ Chg [] w w' := by
  have HN := Lib.hid hn
  go_enter Try.func5, Try.ntmps5
  go_wp2_with fail
  refine (law_alive w).mono ?_
  rintro e w1 ⟨rfl, hc1⟩
  by_cases h100 : 100 < b.length
  · go_wp2
    go_ret
    exact ⟨rfl, hc1⟩
  go_wp2_with fail
  refine (eye_on w1 b).mono ?_
  rintro e w2 ⟨rfl, he2, hc2⟩
  have hlt2 : w1.heap.size < w2.heap.size := he2.lt
  go_wp2_with fail
  refine (eye_nat w2 w1.heap.size most _ hm he2 (by intro l h; cases h; omega)).mono ?_
  rintro e w3 ⟨rfl, he3, hc3⟩
  go_wp2_with fail
  refine (ref_taken w3 b most hm (by omega)).mono ?_
  rintro e w4 ⟨rfl, hc4⟩
  obtain ⟨t1, t2⟩ := eNat_taken most b
  rw [t1]
  have hle : (takenP most b).1 < 18446744073709551616 := by have := eNat_le most (some b); rw [t1] at this; omega
  generalize (eNat most (some b)).2 = st at *
  generalize takenP most b = tk at *
  obtain ⟨tv, tu⟩ := tk
  simp only at t2 hle
  clear t1
  have hc4' := hc3.trans' hc4 (by simp)
  have hw4 : Chg [] w w4 := (hc1.trans hc2).trans' hc4' (by intro x hx; simp at hx; right; rw [hx]; exact hc1.size)
  have he4 := he3.chg hc4 (by simp)
  have hlt4 : w1.heap.size < w4.heap.size := he4.lt
  clear hc1 hc2 hc3 hc4 hc4' he2 he3
  have hq4 := new_quill w4
  have he4a := he4.chg ((Chg.refl [] w4).alloc (.cells #[.slice none 0 0] 41)) (by simp)
  have HQ := Lib.hid hq4
  have HE := Lib.hid he4a
  have HC := Lib.hid hw4
  clear hq4 he4 hw4 he4a
  go_wp2_with fail
  refine (quill_natn _ w4.heap.size [w4.heap.size] [] [n, n] (by simpa using HN.out) HQ.out _ _ rfl (by simp) (by simp)).mono ?_
  rintro e w5 ⟨rfl, F5, hq5, hm5⟩
  have hc5 : Chg [] w w5 := hm5.chg_own (HC.out.alloc _) (by simp; exact HC.out.size)
  have he5 : EyeAt w5 w1.heap.size st := HE.out.chg hm5.chg (by simp; omega)
  have HQ5 := Lib.hid hq5
  clear hm5 HQ HE HC hq5
  go_wp2_with fail
  refine (quill_text w5 w4.heap.size F5 _ HQ5.out).mono ?_
  rintro e w6 ⟨rfl, rfl⟩
  go_wp2_with fail
  refine (eye_on w5 _).mono ?_
  rintro e w6 ⟨rfl, hf6, hc6⟩
  have he6 := he5.chg hc6 (by simp)
  have hw6 := hc5.trans hc6
  have hne : w1.heap.size ≠ w5.heap.size := by have := Blk.lt he5; omega
  have hs5 := hc5.size
  clear HQ5 he5 hc5 hc6
  go_wp2_with fail
  refine (eye_bad w6 w1.heap.size st he6).mono ?_
  rintro e w7 ⟨rfl, rfl⟩
  rw [t2]
  have hlen := natB_len10 (n := n) (by omega)
  have HF := Lib.hid hf6
  clear hf6 t2
  have e1 := eNat_natB (n := n) (most := n) (by omega) (natB n)
  have e2 := eNat_natB (n := n) (most := 18446744073709551615) (by omega) []
  rw [if_pos (by omega)] at e1 e2
  rw [List.append_nil] at e2
  have E1 := Lib.hid e1
  have E2 := Lib.hid e2
  clear e1 e2
  by_cases hu : tu = 0
  · subst hu
    rw [decide_eq_true (rfl : 0 = 0)]
    go_wp2_with fail
    refine (eye_nat w6 w5.heap.size n _ hn HF.out (by intro l h; cases h; rw [List.length_append]; omega)).mono ?_
    rintro e w7 ⟨rfl, hf7, hc7⟩
    rw [E1.out] at hf7 ⊢
    go_wp2_with fail
    refine (eye_nat w7 w5.heap.size 18446744073709551615 _ (by omega) hf7 (by intro l h; cases h; omega)).mono ?_
    rintro e w8 ⟨rfl, hf8, hc8⟩
    rw [E2.out] at hf8 ⊢
    go_wp2_with fail
    refine (eye_over w8 w5.heap.size _ hf8).mono ?_
    rintro e w9 ⟨rfl, rfl⟩
    go_wp2
    go_ret
    exact ⟨rfl, (hw6.trans' hc7 (by simp; omega)).trans' hc8 (by simp; omega)⟩
  · have hu1 : decide (tu = 0) = false := by simp; omega
    have hu2 : ((tu : Int) == 0) = false := by simp; omega
    rw [hu1]
    clear hu1 hu
    go_wp2_with fail
    refine (eye_nat w6 w5.heap.size n _ hn HF.out (by intro l h; cases h; rw [List.length_append]; omega)).mono ?_
    rintro e w7 ⟨rfl, hf7, hc7⟩
    rw [E1.out] at hf7 ⊢
    go_wp2_with fail
    refine (eye_nat w7 w5.heap.size 18446744073709551615 _ (by omega) hf7 (by intro l h; cases h; omega)).mono ?_
    rintro e w8 ⟨rfl, hf8, hc8⟩
    rw [E2.out] at hf8 ⊢
    go_wp2_with fail
    refine (eye_over w8 w5.heap.size _ hf8).mono ?_
    rintro e w9 ⟨rfl, rfl⟩
    go_wp2
    go_ret
    exact ⟨rfl, (hw6.trans' hc7 (by simp; omega)).trans' hc8 (by simp; omega)⟩
end Go.Proofs.Ytgpnnfgaphcklaa
