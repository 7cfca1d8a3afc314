/-
  The walk of wide.Plus. Conditions: the form's own reach.
  The walk of (*Sketch).Put (layer 22). Conditions: the form's own reach.
  The walks of the reference's Add, Less, Bit, Sub, Double, Times, Over (layer 1). Conditions: none.
-/
import Derived.Test.YtlcoibhbdgdfcaaGreatDoorProg
import Derived.Test.YtlcoibhbdgdfcaaGreatDoorCoreLumpsB1
import Derived.Test.YtlcoibhbdgdfcaaGreatDoorCoreLumpsB27
import Derived.Test.YtlcoibhbdgdfcaaGreatDoorCoreLumpsB15
import Derived.Test.YtlcoibhbdgdfcaaGreatDoorCoreLumpsB26
namespace Go.Proofs.YtlcoibhbdgdfcaaGreatDoor
open Go.RowKit

def sumTo (l : List Nat) (k : Nat) : Nat := (l.take k).sum
theorem sumTo_succ (l : List Nat) (k : Nat) (h : k < l.length) : sumTo l (k + 1) = sumTo l k + l[k] := by
  rw [sumTo, List.take_add_one, List.getElem?_eq_getElem h, List.sum_append]
  simp only [Option.toList_some, List.sum_cons, List.sum_nil, Nat.add_zero, sumTo]
theorem sumTo_le (l : List Nat) (k : Nat) : sumTo l k ≤ l.sum := by
  have := List.sum_append (l₁ := l.take k) (l₂ := l.drop k)
  rw [List.take_append_drop] at this
  unfold sumTo
  omega
/-- A sum of counts, if it is one. -/
def plusV (l : List Nat) : Value := if l.sum ≤ 9223372036854775807 then .tuple #[.int .u64 (l.sum : Nat), .bool true] else .tuple #[.int .u64 0, .bool false]
theorem plusV_big {l : List Nat} (k : Nat) (h : 9223372036854775807 < sumTo l k) : plusV l = .tuple #[.int .u64 0, .bool false] := by
  have := sumTo_le l k
  exact if_neg (by omega)
theorem plusV_all {l : List Nat} (h : sumTo l l.length ≤ 9223372036854775807) : plusV l = .tuple #[.int .u64 (sumTo l l.length : Nat), .bool true] := by
  rw [sumTo, List.take_length] at *
  exact if_pos h

set_option maxRecDepth 100000 in
set_option maxHeartbeats 1000000 in
theorem wide_plus (w : World) (ao : Option Addr) (cap : Nat) (l : List Nat) (hok : ∀ u ∈ l, u < 18446744073709551616) (hr : Rd w 1 (.slice ao l.length cap) l.length (u64s l)) (hl : l.length ≤ 140737488351232) :
    Calls Tryz.prog 96 #[.slice ao l.length cap] w fun e w' => e = .returned (plusV l) ∧ w = w' := by
  go_enter Tryz.func96, Tryz.ntmps96
  go_wp2
  go_loopw [4, 9] (fun n i wx => ∃ k : Nat, k ≤ l.length ∧ i = .int .i64 (k : Nat) ∧ n = .int .u64 (sumTo l k : Nat) ∧ sumTo l k ≤ 9223372036854775807 ∧ w = wx) (fun _ i _ => l.length - (intOf i).toNat)
  case atStart => exact ⟨0, Nat.zero_le _, rfl, rfl, by simp [sumTo], rfl⟩
  case round =>
    obtain ⟨k, hk, rfl, rfl, hs, hw⟩ := hrel
    subst hw
    by_cases hlt : k < l.length
    · obtain ⟨b, o, rfl, hc⟩ := hr.addr (by omega)
      have c0 : w.cell? ⟨b, o + k, none⟩ = some (.int .u64 (l[k] : Nat)) := by rw [hc k (by omega)]; simp [u64s, hlt]
      have hok1 := hok l[k] (List.getElem_mem _)
      have hsucc := sumTo_succ l k hlt
      by_cases hbig : 9223372036854775807 < sumTo l k + l[k]
      · have HB := Lib.hid (plusV_big (l := l) (k + 1) (by rw [hsucc]; exact hbig))
        generalize l[k] = p at *
        generalize sumTo l k = s at *
        clear hsucc hc hok
        go_wp2
        go_ret2
        rw [HB.out]
        exact ⟨rfl, rfl⟩
      · have HS := Lib.hid hsucc
        have hs2 : sumTo l (k + 1) ≤ 9223372036854775807 := by omega
        have HS2 := Lib.hid hs2
        generalize l[k] = p at *
        generalize sumTo l k = s at *
        clear hsucc hc hok hs2
        go_wp2
        exact ⟨⟨k + 1, by omega, by go_num, by rw [HS.out]; go_num, HS2.out, trivial⟩, by simp [intOf]; omega⟩
    · obtain rfl : k = l.length := by omega
      have HG := Lib.hid (plusV_all hs)
      clear hs
      generalize sumTo l l.length = s at *
      go_wp2
      go_ret2
      rw [HG.out]
      exact ⟨rfl, rfl⟩

theorem wide_plus2 (w : World) (a c : Nat) (ha : a < 18446744073709551616) (hc : c < 18446744073709551616) (b0 : Nat) (hb0 : b0 = w.heap.size) :
    Calls Tryz.prog 96 #[.slice (some ⟨b0, 0, none⟩) 2 2] (w.alloc (.cells #[.int .u64 (a : Nat), .int .u64 (c : Nat)] 25)) fun e w' => e = .returned (plusV [a, c]) ∧ w.alloc (.cells #[.int .u64 (a : Nat), .int .u64 (c : Nat)] 25) = w' := by
  subst hb0
  refine wide_plus _ _ 2 [a, c] (by simp [ha, hc]) ?_ (by simp)
  exact Rd.lit w #[.int .u64 (a : Nat), .int .u64 (c : Nat)] 25 1 2 2 (by simp)

end Go.Proofs.YtlcoibhbdgdfcaaGreatDoor

namespace Go.Proofs.YtlcoibhbdgdfcaaGreatDoor
open Go.RowKit

/-- A sketch of lumps in the heap, whole. -/
def LmS (w : World) (p : Nat) (rv : Value) (D : LmD) : Prop := Lms w p rv (D.most : Int) D.l (totL D.l)
namespace LmS
variable {w w1 : World} {p : Nat} {rv : Value} {D : LmD}
theorem lt (h : LmS w p rv D) : ∀ b ∈ fpL p rv, b < w.heap.size := Lms.lt h
theorem chg {F : List Nat} (h : LmS w p rv D) (k : Chg F w w1) (hF : ∀ b ∈ fpL p rv, b ∉ F) : LmS w1 p rv D := Lms.chg h k hF
end LmS
theorem lump_put_zero (w : World) (p : Nat) (x : Int) : Calls Tryz.prog 179 #[.pointer (some ⟨p, 0, none⟩), .int .i64 x, .int .u64 (0 : Nat)] w fun e w' => e = .returned (.int .i64 1) ∧ Chg [] w w' := by
  go_enter Tryz.func179, Tryz.ntmps179
  go_wp2
  go_ret
  exact ⟨rfl, Chg.refl _ _⟩
set_option maxRecDepth 100000 in
set_option maxHeartbeats 2000000 in
theorem lump_put_full (w : World) (p : Nat) (rv : Value) (D : LmD) (h : LmS w p rv D) (ht : totL D.l ≤ 9223372036854775807) (x : Int) (n : Nat) (h1 : 1 ≤ n) (hn : n < 18446744073709551616) (hfull : 9223372036854775807 < totL D.l + n) :
    Calls Tryz.prog 179 #[.pointer (some ⟨p, 0, none⟩), .int .i64 x, .int .u64 (n : Nat)] w fun e w' => e = .returned (.int .i64 6) ∧ Chg [] w w' := by
  obtain ⟨-, -, c2⟩ := Lms.cells h
  obtain ⟨T, hT⟩ : ∃ T, T = totL D.l := ⟨_, rfl⟩
  rw [← hT] at c2 ht hfull
  have d0 : ((n : Int) == 0) = false := by rw [beq_eq_false_iff_ne]; omega
  have HPL := Lib.hid (fun u b0 hb0 => wide_plus2 u T n (by omega) hn b0 hb0)
  have e : plusV [T, n] = .tuple #[.int .u64 0, .bool false] := by
    unfold plusV
    rw [if_neg (by simp; omega)]
  rw [e] at HPL
  clear e hT h ht hfull hn h1
  go_enter Tryz.func179, Tryz.ntmps179
  go_wp2_with fail
  refine (HPL.out _ _ rfl).mono ?_
  rintro e w1 ⟨rfl, rfl⟩
  clear HPL
  go_wp2
  go_ret
  exact ⟨rfl, (Chg.refl [] w).alloc _⟩
set_option maxRecDepth 100000 in
set_option maxHeartbeats 2000000 in
theorem lump_put (w : World) (p : Nat) (rv : Value) (D : LmD) (h : LmS w p rv D) (hok : D.ok) (x : Int) (n : Nat) (h1 : 1 ≤ n) (ht : totL D.l + n ≤ 9223372036854775807) :
    Calls Tryz.prog 179 #[.pointer (some ⟨p, 0, none⟩), .int .i64 x, .int .u64 (n : Nat)] w fun e w' => e = .returned (.int .i64 0) ∧ ∃ rv', LmS w' p rv' (D.put x n) ∧ Mv (fpL p rv) w (fpL p rv') w' := by
  obtain ⟨-, -, c2⟩ := Lms.cells h
  obtain ⟨ao, cap, hrv⟩ := h.own.shape
  subst hrv
  obtain ⟨T, hT⟩ : ∃ T, T = totL D.l := ⟨_, rfl⟩
  have HT := Lib.hid hT
  have HH := Lib.hid h
  have HOK := Lib.hid hok
  have HTL := Lib.hid ht
  have HH1 := Lib.hid h1
  rw [← hT] at c2 ht
  have d0 : ((n : Int) == 0) = false := by rw [beq_eq_false_iff_ne]; omega
  have HPL := Lib.hid (fun u b0 hb0 => wide_plus2 u T n (by omega) (by omega) b0 hb0)
  obtain ⟨S, hS⟩ : ∃ S, S = T + n := ⟨_, rfl⟩
  have e : plusV [T, n] = .tuple #[.int .u64 (S : Nat), .bool true] := by
    have e0 : [T, n].sum = S := by simp [hS]
    unfold plusV
    rw [e0, if_pos (by omega)]
  rw [e] at HPL
  clear e hT h hok ht hS h1
  go_enter Tryz.func179, Tryz.ntmps179
  go_wp2_with fail
  refine (HPL.out _ _ rfl).mono ?_
  rintro e w1 ⟨rfl, rfl⟩
  have HC := Lib.hid ((Chg.refl [] w).alloc (.cells #[.int .u64 (T : Nat), .int .u64 (n : Nat)] 25))
  clear HPL c2
  generalize w.alloc (.cells #[.int .u64 (T : Nat), .int .u64 (n : Nat)] 25) = w1 at *
  have hL := HH.out.chg HC.out (by simp)
  have HLY := Lib.hid (lump_lay w1 p ao cap D.l.length (D.most : Int) D.l rfl (totL D.l) hL HOK.out.rises (by have h1 := HOK.out.few; have h2 := HOK.out.m2; omega) ⟨n, x, x⟩ (Nat.le_refl _) (by have h1 := HTL.out; show totL D.l + n < _; omega))
  clear hL
  go_wp2_with fail
  refine HLY.out.mono ?_
  rintro e w2 ⟨rfl, a2, c2, hL2, hm2⟩
  have hlen := lay_len HOK.out.rises ⟨n, x, x⟩
  have htot : totL D.l + (⟨n, x, x⟩ : Lp).n = totL (layL D.l ⟨n, x, x⟩) := (totL_lay _ _).symm
  rw [htot] at hL2
  have hPR := lump_press w2 p a2 c2 _ (D.most : Int) (layL D.l ⟨n, x, x⟩) rfl hL2 (lay_rises HOK.out.rises _) (by have h1 := HOK.out.few; have h2 := HOK.out.m2; omega) D.most rfl (by have := HOK.out.m1; omega) (by rw [totL_lay]; have h1 := HTL.out; show totL D.l + n < _; omega)
  have HPR := Lib.hid hPR
  have HM2 := Lib.hid hm2
  clear hL2 hm2 hPR HLY hlen htot
  go_wp2_with fail
  refine HPR.out.mono ?_
  rintro e w3 ⟨rfl, a3, c3, hL3, hm3⟩
  have HL3 := Lib.hid hL3
  have HM3 := Lib.hid hm3
  clear hL3 hm3 HPR
  go_wp2
  go_ret
  refine ⟨rfl, .slice a3 (pressL D.most (layL D.l ⟨n, x, x⟩)).length c3, ?_, ((Mv.of_chg (HC.out.mono (by simp))).trans HM2.out).trans HM3.out⟩
  have h1 := HL3.out
  have h2 : totL (layL D.l ⟨n, x, x⟩) = totL (pressL D.most (layL D.l ⟨n, x, x⟩)) := (LmD.pressedT (HOK.out.m1) (lay_rises HOK.out.rises _)).symm
  rw [h2] at h1
  exact h1
end Go.Proofs.YtlcoibhbdgdfcaaGreatDoor

namespace Go.Proofs.YtlcoibhbdgdfcaaGreatDoor
open Go.RowKit

set_option maxRecDepth 100000 in
set_option maxHeartbeats 1000000 in
theorem ref01_add (w : World) (ah al bh bl hi lo : Nat) (h2 : al < 18446744073709551616) (h4 : bl < 18446744073709551616)
    (hlo : (al + bl) % 18446744073709551616 = lo) (hhi : (ah + bh + (al + bl) / 18446744073709551616) % 18446744073709551616 = hi) :
    Calls Tryz.prog 52 #[.agg #[.int .u64 ah, .int .u64 al], .agg #[.int .u64 bh, .int .u64 bl]] w fun e w' => ∃ ov : Value, e = .returned (.tuple #[.agg #[.int .u64 hi, .int .u64 lo], ov]) ∧ Chg [] w w' := by
  obtain ⟨m, hm⟩ : ∃ m, m = (ah + bh) % 18446744073709551616 := ⟨_, rfl⟩
  have e1 : IntKind.u64.wrap ((al : Int) + (bl : Int)) = (lo : Int) := by rw [IntKind.wrap_u64]; omega
  have e2 : IntKind.u64.wrap ((ah : Int) + (bh : Int)) = (m : Int) := by rw [IntKind.wrap_u64]; omega
  have e3 : IntKind.u64.wrap ((m : Int) + 1) = (((m + 1) % 18446744073709551616 : Nat) : Int) := by rw [IntKind.wrap_u64]; omega
  have HC := Lib.hid ((((Chg.refl [] w).alloc (.cells #[.int .u64 ah, .int .u64 al] 99)).alloc (.cells #[.int .u64 bh, .int .u64 bl] 99)).alloc (.cells #[.int .u64 hi, .int .u64 lo] 99))
  have HB := Lib.hid (Blk.alloc_new ((w.alloc (.cells #[.int .u64 ah, .int .u64 al] 99)).alloc (.cells #[.int .u64 bh, .int .u64 bl] 99)) #[.int .u64 hi, .int .u64 lo] 99)
  by_cases hcar : lo < al
  · have hd : decide (lo < al) = true := decide_eq_true hcar
    have HH := Lib.hid (show (m + 1) % 18446744073709551616 = hi by omega)
    generalize (m + 1) % 18446744073709551616 = h' at *
    obtain rfl := HH.out
    clear hlo hhi hm hcar
    by_cases hq : m < ah
    · have hdq : decide (m < ah) = true := decide_eq_true hq
      clear hq
      go_enter Tryz.func52, Tryz.ntmps52
      go_wp2
      have z0 := HB.out.cell 0
      have z1 := HB.out.cell 1
      simp only [World.size_alloc] at z0 z1
      exact bodyPost_ret (v := .tuple #[.agg #[.int .u64 h', .int .u64 lo], .bool true]) (by simp [results, Tryz.results52, go_sem, z0, z1]) rfl (by first | exact ⟨_, rfl, HC.out⟩ | exact ⟨⟨_, rfl⟩, HC.out⟩)
    · have hdq : decide (m < ah) = false := decide_eq_false hq
      clear hq
      go_enter Tryz.func52, Tryz.ntmps52
      go_wp2
      have z0 := HB.out.cell 0
      have z1 := HB.out.cell 1
      simp only [World.size_alloc] at z0 z1
      exact bodyPost_ret (v := .tuple #[.agg #[.int .u64 h', .int .u64 lo], .bool ((h' : Int) == 0)]) (by simp [results, Tryz.results52, go_sem, z0, z1]) rfl (by first | exact ⟨_, rfl, HC.out⟩ | exact ⟨⟨_, rfl⟩, HC.out⟩)
  · have hd : decide (lo < al) = false := decide_eq_false hcar
    have HH := Lib.hid (show m = hi by omega)
    obtain rfl := HH.out
    clear hlo hhi hm hcar
    go_enter Tryz.func52, Tryz.ntmps52
    go_wp2
    have z0 := HB.out.cell 0
    have z1 := HB.out.cell 1
    simp only [World.size_alloc] at z0 z1
    exact bodyPost_ret (v := .tuple #[.agg #[.int .u64 m, .int .u64 lo], .bool (decide (m < ah))]) (by simp [results, Tryz.results52, go_sem, z0, z1]) rfl (by first | exact ⟨_, rfl, HC.out⟩ | exact ⟨⟨_, rfl⟩, HC.out⟩)

set_option maxRecDepth 100000 in
set_option maxHeartbeats 1000000 in
theorem ref01_less (w : World) (ah al bh bl : Nat) (q : Bool) (hq : (if ah = bh then decide (al < bl) else decide (ah < bh)) = q) :
    Calls Tryz.prog 39 #[.agg #[.int .u64 ah, .int .u64 al], .agg #[.int .u64 bh, .int .u64 bl]] w fun e w' => e = .returned (.bool q) ∧ Chg [] w w' := by
  have HC := Lib.hid (((Chg.refl [] w).alloc (.cells #[.int .u64 ah, .int .u64 al] 99)).alloc (.cells #[.int .u64 bh, .int .u64 bl] 99))
  by_cases he : ah = bh
  · rw [if_pos he] at hq
    subst he
    have HQ := Lib.hid hq
    have hne : ((ah : Int) != (ah : Int)) = false := by simp
    clear hq
    go_enter Tryz.func39, Tryz.ntmps39
    go_wp2
    go_ret
    rw [← HQ.out]
    exact ⟨rfl, HC.out⟩
  · rw [if_neg he] at hq
    have HQ := Lib.hid hq
    have hne : ((ah : Int) != (bh : Int)) = true := by rw [bne_iff_ne]; omega
    clear hq
    go_enter Tryz.func39, Tryz.ntmps39
    go_wp2
    go_ret
    rw [← HQ.out]
    exact ⟨rfl, HC.out⟩

theorem tmod2 (a : Nat) : ((a : Int)).tmod 2 = ((a % 2 : Nat) : Int) := by rw [Int.tmod_eq_emod_of_nonneg (by omega)]; omega
end Go.Proofs.YtlcoibhbdgdfcaaGreatDoor
