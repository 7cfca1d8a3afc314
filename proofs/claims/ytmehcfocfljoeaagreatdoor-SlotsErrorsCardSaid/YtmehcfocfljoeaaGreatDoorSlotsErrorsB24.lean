/-
  The library's sort and collection at rows of int64: that this program's bodies are those of the shelf. Conditions: none.
  The walks of the tape of package coins, and the reference's coin. Conditions: the form's own reach.
  The walk of coins.Halve, and of the layer's alive. Conditions: the form's own reach.
  The walk of the reference's Sorted. Conditions: the form's own reach.
  The walks of the library's Values, AppendSeq, Collect, Sort, Sorted at rows of int64. Conditions: the form's own reach.
-/
import Derived.Test.YtmehcfocfljoeaaGreatDoorProg
import Derived.Shelf.SlIterI.Sorted
import Derived.Shelf.SortM.Plain
import Derived.Shelf.SortM.SortNone
import Derived.Test.YtmehcfocfljoeaaGreatDoorSlotsErrorsB1
import Derived.Laws.BitsAllLaws
import Derived.Test.YtmehcfocfljoeaaGreatDoorSlotsErrorsB19
import Derived.Test.YtmehcfocfljoeaaGreatDoorSlotsErrorsB3
import Derived.Test.YtmehcfocfljoeaaGreatDoorSlotsErrorsB21
import Derived.RangeFuncBox
import Derived.RangeFuncLeaves
import Derived.Shelf.Abstract
import Derived.OwnWalkIn
import Derived.TacticsInMore
import Derived.LoopNIn
import Derived.LoopIn
import Derived.Shelf.SlIter.Sorted
import Derived.Sort.OwnSorted
namespace Go.Proofs.YtmehcfocfljoeaaGreatDoor
open Go.Shelf

def sortedL_ren : Go.Shelf.Ren := ⟨fun | 6 => 405 | 8 => 415 | 9 => 349 | 11 => 420 | 13 => 318 | 12 => 353 | 23 => 327 | 24 => 192 | 14 => 358 | 15 => 359 | 16 => 360 | 17 => 361 | 18 => 362 | 19 => 363 | 20 => 364 | 21 => 365 | 22 => 366 | 25 => 371 | 26 => 329 | 27 => 330 | 28 => 372 | 29 => 373 | 30 => 374 | 31 => 376 | n => n, fun | 26 => 2 | 28 => 480 | 24 => 73 | 0 => 0 | 3 => 3 | 37 => 194 | 48 => 135 | 50 => 23 | 4 => 4 | 40 => 421 | 39 => 420 | 45 => 294 | 5 => 5 | 9 => 9 | 51 => 426 | 55 => 429 | 57 => 431 | 58 => 432 | 33 => 457 | n => n, fun | n => n⟩
theorem sortedL : Go.Proofs.SlLaysZI.n6 Tryz.prog sortedL_ren := {
  mixed := by kernel_rfl,
  f6 := ⟨Tryz.f405.name, by decide, Tryz.func405.trans (congrArg some (by kernel_rfl))⟩,
  f8 := ⟨Tryz.f415.name, by decide, Tryz.func415.trans (congrArg some (by kernel_rfl))⟩,
  f11 := ⟨Tryz.f420.name, by decide, Tryz.func420.trans (congrArg some (by kernel_rfl))⟩,
  t0 := Tryz.underlying0,
  a0 := Tryz.isAgg0,
  z0 := Tryz.sizeOf0,
  v0 := Tryz.zeroValue0,
  t24 := Tryz.underlying73,
  a24 := Tryz.isAgg73,
  z24 := Tryz.sizeOf73,
  v24 := Tryz.zeroValue73,
  t26 := Tryz.underlying2,
  a26 := Tryz.isAgg2,
  z26 := Tryz.sizeOf2,
  v26 := Tryz.zeroValue2,
  t28 := Tryz.underlying480,
  a28 := Tryz.isAgg480,
  z28 := Tryz.sizeOf480,
  v28 := Tryz.zeroValue480,
  i26 := by kernel_rfl }
def sortL5_ren : Go.Shelf.Ren := ⟨fun | 5 => 349 | 8 => 318 | 7 => 353 | 19 => 327 | 20 => 192 | 10 => 358 | 11 => 359 | 12 => 360 | 13 => 361 | 14 => 362 | 15 => 363 | 16 => 364 | 17 => 365 | 18 => 366 | 30 => 371 | 31 => 329 | 32 => 330 | 33 => 372 | 34 => 373 | 35 => 374 | 40 => 376 | n => n, fun | 23 => 73 | 25 => 2 | 3 => 3 | 32 => 194 | 22 => 73 | 0 => 0 | 44 => 135 | 46 => 23 | 4 => 4 | 36 => 421 | 35 => 420 | 41 => 294 | 5 => 5 | 9 => 9 | 53 => 426 | 57 => 429 | 63 => 431 | 64 => 432 | n => n, fun | n => n⟩
theorem sortL5 : Go.Proofs.SlLaysM.n5 Tryz.prog sortL5_ren := {
  mixed := by kernel_rfl,
  f5 := ⟨Tryz.f349.name, by decide, Tryz.func349.trans (congrArg some (by kernel_rfl))⟩,
  f7 := ⟨Tryz.f353.name, by decide, Tryz.func353.trans (congrArg some (by kernel_rfl))⟩,
  f8 := Tryz.func318.trans (congrArg some (by kernel_rfl)),
  f10 := ⟨Tryz.f358.name, by decide, Tryz.func358.trans (congrArg some (by kernel_rfl))⟩,
  f11 := ⟨Tryz.f359.name, by decide, Tryz.func359.trans (congrArg some (by kernel_rfl))⟩,
  f12 := ⟨Tryz.f360.name, by decide, Tryz.func360.trans (congrArg some (by kernel_rfl))⟩,
  f13 := ⟨Tryz.f361.name, by decide, Tryz.func361.trans (congrArg some (by kernel_rfl))⟩,
  f14 := ⟨Tryz.f362.name, by decide, Tryz.func362.trans (congrArg some (by kernel_rfl))⟩,
  f15 := ⟨Tryz.f363.name, by decide, Tryz.func363.trans (congrArg some (by kernel_rfl))⟩,
  f16 := ⟨Tryz.f364.name, by decide, Tryz.func364.trans (congrArg some (by kernel_rfl))⟩,
  f17 := ⟨Tryz.f365.name, by decide, Tryz.func365.trans (congrArg some (by kernel_rfl))⟩,
  f18 := ⟨Tryz.f366.name, by decide, Tryz.func366.trans (congrArg some (by kernel_rfl))⟩,
  f19 := Tryz.func327.trans (congrArg some (by kernel_rfl)),
  f20 := Tryz.func192.trans (congrArg some (by kernel_rfl)),
  f30 := ⟨Tryz.f371.name, by decide, Tryz.func371.trans (congrArg some (by kernel_rfl))⟩,
  f31 := Tryz.func329.trans (congrArg some (by kernel_rfl)),
  f32 := Tryz.func330.trans (congrArg some (by kernel_rfl)),
  f33 := ⟨Tryz.f372.name, by decide, Tryz.func372.trans (congrArg some (by kernel_rfl))⟩,
  f34 := ⟨Tryz.f373.name, by decide, Tryz.func373.trans (congrArg some (by kernel_rfl))⟩,
  f35 := ⟨Tryz.f374.name, by decide, Tryz.func374.trans (congrArg some (by kernel_rfl))⟩,
  f40 := ⟨Tryz.f376.name, by decide, Tryz.func376.trans (congrArg some (by kernel_rfl))⟩,
  t0 := Tryz.underlying0,
  a0 := Tryz.isAgg0,
  z0 := Tryz.sizeOf0,
  v0 := Tryz.zeroValue0,
  t3 := Tryz.underlying3,
  a3 := Tryz.isAgg3,
  z3 := Tryz.sizeOf3,
  v3 := Tryz.zeroValue3,
  t4 := Tryz.underlying4,
  a4 := Tryz.isAgg4,
  z4 := Tryz.sizeOf4,
  v4 := Tryz.zeroValue4,
  t5 := Tryz.underlying5,
  a5 := Tryz.isAgg5,
  z5 := Tryz.sizeOf5,
  v5 := Tryz.zeroValue5,
  t9 := Tryz.underlying9,
  a9 := Tryz.isAgg9,
  z9 := Tryz.sizeOf9,
  v9 := Tryz.zeroValue9,
  t22 := Tryz.underlying73,
  a22 := Tryz.isAgg73,
  z22 := Tryz.sizeOf73,
  v22 := Tryz.zeroValue73,
  t23 := Tryz.underlying73,
  a23 := Tryz.isAgg73,
  z23 := Tryz.sizeOf73,
  v23 := Tryz.zeroValue73,
  t25 := Tryz.underlying2,
  a25 := Tryz.isAgg2,
  z25 := Tryz.sizeOf2,
  v25 := Tryz.zeroValue2,
  t32 := Tryz.underlying194,
  a32 := Tryz.isAgg194,
  z32 := Tryz.sizeOf194,
  v32 := Tryz.zeroValue194,
  t35 := Tryz.underlying420,
  a35 := Tryz.isAgg420,
  z35 := Tryz.sizeOf420,
  v35 := Tryz.zeroValue420,
  t36 := Tryz.underlying421,
  a36 := Tryz.isAgg421,
  z36 := Tryz.sizeOf421,
  v36 := Tryz.zeroValue421,
  t41 := Tryz.underlying294,
  a41 := Tryz.isAgg294,
  z41 := Tryz.sizeOf294,
  v41 := Tryz.zeroValue294,
  t44 := Tryz.underlying135,
  a44 := Tryz.isAgg135,
  z44 := Tryz.sizeOf135,
  v44 := Tryz.zeroValue135,
  t46 := Tryz.underlying23,
  a46 := Tryz.isAgg23,
  z46 := Tryz.sizeOf23,
  v46 := Tryz.zeroValue23,
  t53 := Tryz.underlying426,
  a53 := Tryz.isAgg426,
  z53 := Tryz.sizeOf426,
  v53 := Tryz.zeroValue426,
  t57 := Tryz.underlying429,
  a57 := Tryz.isAgg429,
  z57 := Tryz.sizeOf429,
  v57 := Tryz.zeroValue429,
  t63 := Tryz.underlying431,
  a63 := Tryz.isAgg431,
  z63 := Tryz.sizeOf431,
  v63 := Tryz.zeroValue431,
  t64 := Tryz.underlying432,
  a64 := Tryz.isAgg432,
  z64 := Tryz.sizeOf432,
  v64 := Tryz.zeroValue432 }
end Go.Proofs.YtmehcfocfljoeaaGreatDoor

namespace Go.Proofs.YtmehcfocfljoeaaGreatDoor
open Go.RowKit

/-- The k-th coin of a word. -/
def coinB (word k : Nat) : Bool := decide (word / 2 ^ (k % 64) % 2 = 1)
def Tape (w : World) (t word used : Nat) : Prop := Blk w t #[.int .u64 (word : Nat), .int .i64 (used : Nat)] 283
theorem Tape.chg {w w1 : World} {t word used : Nat} {F : List Nat} (h : Tape w t word used) (k : Chg F w w1) (hn : t ∉ F) : Tape w1 t word used := Blk.chg h k hn
theorem and_one64 (c : Nat) (h : c < 18446744073709551616) : bits .and .u64 (c : Int) 1 = ((c % 2 : Nat) : Int) := by
  have := u64_and_nat c 1 h (by omega)
  rw [Nat.and_one_is_mod] at this
  exact this

set_option maxRecDepth 100000 in
theorem coins_new (w : World) (word : Nat) :
    Calls Tryz.prog 105 #[.int .u64 word] w fun e w' => e = .returned (.pointer (some ⟨w.heap.size, 0, none⟩)) ∧ Tape w' w.heap.size word 0 ∧ Chg [] w w' := by
  go_enter Tryz.func105, Tryz.ntmps105
  go_wp2
  go_ret
  exact ⟨rfl, Blk.alloc_new _ _ _, (Chg.refl [] w).alloc _⟩

set_option maxRecDepth 100000 in
theorem coins_next (w : World) (t word used : Nat) (hw : word < 18446744073709551616) (hu : used < 9223372036854775807) (ht : Tape w t word used) :
    Calls Tryz.prog 403 #[.pointer (some ⟨t, 0, none⟩)] w fun e w' => e = .returned (.bool (coinB word used)) ∧ Tape w' t word (used + 1) ∧ Chg [t] w w' := by
  have c0 := ht.cell 0
  have c1 := ht.cell 1
  have f1 := ht.free 1
  have hm : (used : Int).tmod 64 = ((used % 64 : Nat) : Int) := by rw [Int.tmod_eq_emod_of_nonneg (by omega)]; omega
  have hd : word / 2 ^ (used % 64) < 18446744073709551616 := Nat.lt_of_le_of_lt (Nat.div_le_self _ _) hw
  have HB : Hid ((bits .and .u64 ((word : Int) / 2 ^ (used % 64)) 1 == 1) = coinB word used) := Lib.hid (by
    have hb := and_one64 _ hd
    rw [show ((word / 2 ^ (used % 64) : Nat) : Int) = (word : Int) / 2 ^ (used % 64) from by simp] at hb
    rw [hb, coinB, Bool.eq_iff_iff, beq_iff_eq, decide_eq_true_eq]
    omega)
  have HT := Lib.hid ht
  clear hd
  go_enter Tryz.func403, Tryz.ntmps403
  go_wp2
  go_quiet (fail)
  go_wp2
  go_ret
  refine ⟨by rw [← HB.out]; rfl, ?_, Chg.setCell ((Chg.refl [t] w).drewN nq) (.inl (by simp)) _⟩
  exact Blk.setCell (show Blk (w.drewN nq) t _ _ from HT.out) 1 _
theorem coins_next_nil (w : World) :
    Calls Tryz.prog 403 #[.pointer none] w fun e w' => e = .returned (.bool false) ∧ w = w' := by
  go_enter Tryz.func403, Tryz.ntmps403
  go_wp2
  go_ret
  exact ⟨rfl, rfl⟩
theorem coins_used (w : World) (t word used : Nat) (ht : Tape w t word used) :
    Calls Tryz.prog 431 #[.pointer (some ⟨t, 0, none⟩)] w fun e w' => e = .returned (.int .i64 (used : Nat)) ∧ w = w' := by
  have c1 := ht.cell 1
  go_enter Tryz.func431, Tryz.ntmps431
  go_wp2
  go_ret
  exact ⟨rfl, rfl⟩
theorem coins_used_nil (w : World) :
    Calls Tryz.prog 431 #[.pointer none] w fun e w' => e = .returned (.int .i64 0) ∧ w = w' := by
  go_enter Tryz.func431, Tryz.ntmps431
  go_wp2
  go_ret
  exact ⟨rfl, rfl⟩
theorem coins_skip (w : World) (t word used n : Nat) (ht : Tape w t word used) :
    Calls Tryz.prog 159 #[.pointer (some ⟨t, 0, none⟩), .int .i64 n] w fun e w' => e = .returned (.bool true) ∧ Tape w' t word n ∧ Chg [t] w w' := by
  have c1 := ht.cell 1
  have f1 := ht.free 1
  have hn : ¬ (n : Int) < 0 := by omega
  have HT := Lib.hid (ht.setCell 1 (.int .i64 ((n : Nat) : Int)))
  have HC := Lib.hid (Chg.setCell (Chg.refl [t] w) (a := ⟨t, 1, none⟩) (.inl (by simp)) (.int .i64 ((n : Nat) : Int)))
  go_enter Tryz.func159, Tryz.ntmps159
  go_wp2
  go_ret
  exact ⟨rfl, HT.out, HC.out⟩
theorem coins_skip_neg (w : World) (t word used : Nat) (n : Int) (hn : n < 0) (_ht : Tape w t word used) :
    Calls Tryz.prog 159 #[.pointer (some ⟨t, 0, none⟩), .int .i64 n] w fun e w' => e = .returned (.bool false) ∧ w = w' := by
  go_enter Tryz.func159, Tryz.ntmps159
  go_wp2
  go_ret
  exact ⟨rfl, rfl⟩
theorem coins_skip_nil (w : World) (n : Int) :
    Calls Tryz.prog 159 #[.pointer none, .int .i64 n] w fun e w' => e = .returned (.bool false) ∧ w = w' := by
  go_enter Tryz.func159, Tryz.ntmps159
  go_wp2
  go_ret
  exact ⟨rfl, rfl⟩

end Go.Proofs.YtmehcfocfljoeaaGreatDoor

namespace Go.Proofs.YtmehcfocfljoeaaGreatDoor
open Go.RowKit

theorem halveL_step (l : List Int) (s : Bool) (k : Nat) (h : k < l.length) : halveL (l.take (k + 1)) s = halveL (l.take k) s ++ if decide (k % 2 = 1) == s then [l[k]] else [] := by
  induction l generalizing s k with
  | nil => simp at h
  | cons x l ih =>
    cases k with
    | zero => cases s <;> simp [halveL]
    | succ k =>
      have hk : k < l.length := by simpa using h
      have hpar : decide ((k + 1) % 2 = 1) = !decide (k % 2 = 1) := by
        rw [Bool.eq_iff_iff]
        simp
        omega
      cases s with
      | false =>
        have := ih true k hk
        simp only [List.take_succ_cons, halveL, List.getElem_cons_succ, List.cons_append] at this ⊢
        rw [this, hpar]
        cases decide (k % 2 = 1) <;> simp
      | true =>
        have := ih false k hk
        simp only [List.take_succ_cons, halveL, List.getElem_cons_succ] at this ⊢
        rw [this, hpar]
        cases decide (k % 2 = 1) <;> simp
theorem halveL_len (l : List Int) (s : Bool) : (halveL l s).length ≤ l.length := by
  induction l generalizing s with
  | nil => simp [halveL]
  | cons x l ih =>
    cases s with
    | false => have := ih true; simp [halveL]; omega
    | true => have := ih false; simp [halveL]; omega

set_option maxRecDepth 100000 in
set_option maxHeartbeats 1000000 in
theorem coins_halve (w : World) (ao : Option Addr) (cap : Nat) (l : List Int) (s : Bool) (hr : Rd w 1 (.slice ao l.length cap) l.length (ints l)) (hl : l.length ≤ 1000000) :
    Calls Tryz.prog 402 #[.slice ao l.length cap, .bool s] w fun e w' => ∃ a3 c3, e = .returned (.slice a3 (halveL l s).length c3) ∧
      Own w' 2 1 (.slice a3 (halveL l s).length c3) (halveL l s).length (ints (halveL l s)) ∧ Chg [] w w' ∧ ∀ b ∈ abl a3, w.heap.size ≤ b := by
  have HR := Lib.hid hr
  clear hr
  go_enter Tryz.func402, Tryz.ntmps402
  go_wp2
  go_loopw [5, 10] (fun out j wx => ∃ (k : Nat) (F : List Int) (a3 : Option Addr) (c3 : Nat), k ≤ l.length ∧ j = .int .i64 (k : Nat) ∧ out = .slice a3 F.length c3 ∧ Hid (F = halveL (l.take k) s) ∧ F.length ≤ k ∧
    Own wx 2 1 (.slice a3 F.length c3) F.length (ints F) ∧ Chg [] w wx ∧ ∀ b ∈ abl a3, w.heap.size ≤ b) (fun _ j _ => l.length - (intOf j).toNat)
  case atStart => exact ⟨0, [], none, 0, Nat.zero_le _, rfl, rfl, Lib.hid (by simp [halveL]), Nat.le_refl _, Own.nil _ _ _, Chg.refl _ _, by simp [abl]⟩
  case round =>
    obtain ⟨k, F, a3, c3, hk, rfl, rfl, HF, hFk, ho, hch, hab⟩ := hrel
    by_cases hlt : k < l.length
    · have hr1 := HR.out.chg hch (by simp)
      obtain ⟨b, o, rfl, hcs⟩ := hr1.addr (by omega)
      have c0 := ints_at hcs k hlt
      have HS := Lib.hid (halveL_step l s k hlt)
      have hsz := hch.size
      have hq : ((k : Int) % 2 == 1) = decide (k % 2 = 1) := by rw [Bool.eq_iff_iff, beq_iff_eq, decide_eq_true_eq]; omega
      generalize decide (k % 2 = 1) = q at *
      generalize l[k] = p at *
      clear hcs hr1
      by_cases hqs : (q == s) = true
      · rw [if_pos hqs, ← HF.out] at HS
        have hrd : Rd (wr.alloc (.cells #[.int .i64 p] 2)) 1 (.slice (some ⟨wr.heap.size, 0, none⟩) 1 1) 1 (ints [p]) := Rd.lit1 wr (.int .i64 p) 2 1
        go_wp2_with (at_builtin; go_must (refine wpList_append_src _ rfl (.tmp 20) (.tmp 22) 73 73 rfl 2 _ 1 8 under_ints info_i64 rfl (by decide) (.slice a3 F.length c3) F.length (ints F) rfl (ho.alloc _) (.slice (some ⟨wr.heap.size, 0, none⟩) 1 1) 1 (ints [p]) rfl (Src.of_rd under_ints hrd) (ints_oneCell _) (by unfold maxLen; omega) (by omega) ?_; intro a4 c4 w7 ho7 hg7 hf7))
        refine ⟨⟨k + 1, F ++ [p], a4, c4, by omega, by go_num, by simp, Lib.hid HS.out.symm, by simp; omega, by simpa [ints_append] using ho7, (hch.alloc _).trans' hg7 (fun b hb => .inr (hab b (by simpa using hb))), ?_⟩, by simp [intOf]; omega⟩
        intro b hb
        rcases hf7 b hb with h | h
        · exact hab b (by simpa using h)
        · simp at h; omega
      · rw [if_neg hqs, List.append_nil, ← HF.out] at HS
        have hqf : (q == s) = false := by simpa using hqs
        clear hqs
        go_wp2
        exact ⟨⟨k + 1, F, a3, c3, by omega, by go_num, rfl, Lib.hid HS.out.symm, by omega, ho, hch, hab⟩, by simp [intOf]; omega⟩
    · obtain rfl : k = l.length := by omega
      rw [List.take_length] at HF
      go_wp2
      go_ret
      rw [← HF.out]
      exact ⟨a3, c3, rfl, ho, hch, hab⟩

end Go.Proofs.YtmehcfocfljoeaaGreatDoor

namespace Go.Proofs.YtmehcfocfljoeaaGreatDoor
open Go.RowKit


end Go.Proofs.YtmehcfocfljoeaaGreatDoor

namespace Go.Proofs.YtmehcfocfljoeaaGreatDoor
open Go.RowKit Go.Maps Go.Sort Go.Shelf

attribute [local go_sem] Oper.semAt_some

theorem set_of_ints {w : World} {b o : Nat} {l : List Int} (hc : ∀ j, j < l.length * 1 → w.cell? ⟨b, o + j, none⟩ = (ints l)[j]?) : ∀ j, j < l.length → w.cell? ⟨b, o + j, none⟩ = some (.int .i64 (l[j]?.getD 0)) := fun j hj => by
  rw [ints_at hc j hj]; simp [hj]

set_option maxRecDepth 100000 in
set_option maxHeartbeats 2000000 in
/-- slices.Values's closure, for a caller whose rounds leave the row as it was. -/
theorem values1_in (F : Fence) (n : Nat) (h7 : F.fn 416) (hro : F.round = none) (hn : 1 ≤ n) (l Bs len cap : Nat) (ao : Option Addr) (zs : List Int) (hlz : zs.length = len) (hreach : len * 8 ≤ 140737488351232) (w0 : World) (J : List Int → World → Prop)
    (hJb : ∀ pre W, J pre W → Below w0.heap.size w0 W)
    (hY : ∀ pre x W, J pre W → pre.length < len → YieldAt F (n - 1) Tryz.prog l #[.int .i64 x] W fun e W' => e = .returned (.bool true) ∧ J (pre ++ [x]) W' ∧ KeepsWalks W W')
    (W : World) (hBs : W.cell? ⟨Bs, 0, none⟩ = some (.slice ao len cap)) (hA : len = 0 ∨ ∃ b off, ao = some ⟨b, off, none⟩ ∧ b < w0.heap.size ∧ ∀ j, j < len → w0.cell? ⟨b, off + j, none⟩ = some (.int .i64 (zs[j]?.getD 0))) (h0 : J [] W) :
    CallsIn F n Tryz.prog 416 #[.func (.yield l) #[] #[], .pointer (some ⟨Bs, 0, none⟩)] W fun e W' => (∃ v, e = .returned v) ∧ ∃ ys, ys = zs ∧ J ys W' := by
  refine callsIn_of_wp Tryz.func416 rfl h7 ?_ hro
  simp only [Tryz.ntmps416, List.size_toArray, List.length_cons, List.length_nil, Nat.reduceAdd, Nat.reduceSub, Array.replicate_succ, Array.replicate_zero, List.push_toArray, List.append_toArray, List.nil_append, List.cons_append]
  gi_wp2
  gi_loopw [7] (fun i wr => ∃ k : Nat, k ≤ len ∧ i = .int .i64 k ∧ J (zs.take k) wr)
    (fun i _ => len - (intOf i).toNat)
  case atStart => exact ⟨0, Nat.zero_le _, rfl, by simpa using h0⟩
  case round =>
    obtain ⟨k, hk, rfl, hJs⟩ := hrel
    have hnx := hJb _ _ hJs
    by_cases hlt : k < len
    · have hkz : k < zs.length := by omega
      rcases hA with hA | ⟨b, off, rfl, hb, hc⟩
      · omega
      have hcx' := (hnx.cell (p := ⟨b, off + k, none⟩) hb).trans (hc k hlt)
      rw [show zs[k]?.getD 0 = zs[k] from by simp [hkz]] at hcx'
      obtain ⟨fn, tmps, assign, body, hy, hR⟩ := hY _ zs[k] wr hJs (by rw [List.length_take]; omega)
      have HT := Lib.hid (List.take_succ_eq_append_getElem hkz)
      generalize zs[k] = z at *
      clear hc
      gi_wp2
      refine hR.mono ?_
      rintro e W3 ⟨rfl, hJ3, _⟩
      gi_wp2
      go_roundw
      case rel => exact ⟨k + 1, by omega, by simp, by rw [HT.out]; exact hJ3⟩
      case measure => simp [intOf]; omega
    · obtain rfl : k = len := by omega
      gi_wp2
      go_end0
      exact ⟨⟨_, rfl⟩, _, rfl, by rwa [List.take_of_length_le (by omega)] at hJs⟩

/-- What an iterator gives to rounds that leave what lay before as it was. -/
def GivesBelow (F : Fence) (n : Nat) (P : Program) (g : Nat) (lb : Array Value) (S : List Int → Prop) (N : Nat) (w : World) : Prop :=
  ∀ (l : Nat) (J : List Int → World → Prop) (W : World), Below w.heap.size w W → (∀ pre W1, J pre W1 → Below w.heap.size w W1) →
    (∀ pre x W1, J pre W1 → pre.length < N → YieldAt F (n - 1) P l #[encZ x] W1 fun e W' => e = .returned (.bool true) ∧ J (pre ++ [x]) W' ∧ KeepsWalks W1 W') →
    J [] W → CallsIn F n P g (#[.func (.yield l) #[] #[]] ++ lb) W fun e W' => (∃ v, e = .returned v) ∧ ∃ xs, S xs ∧ J xs W'

set_option maxRecDepth 100000 in
set_option maxHeartbeats 2000000 in
/-- slices.AppendSeq(nil, seq), against an iterator whose rounds leave what lay before as it was. -/
theorem appendSeq_below {P : Program} {ρ : Ren} (L : SlLaysZI.n11 P ρ) (F : Fence) (n : Nat) (h11 : F.fn (ρ.f 11)) (hro : F.round = none) (hn : 2 ≤ n) (g : Nat) (lb : Array Value) (hFg : F.fn g) (eg : ∀ args w, (callFunc g args).run P w = .ok (.enter g args) w)
    (S : List Int → Prop) (N : Nat) (hN : N ≤ maxLen) (hNb : N * 8 ≤ 140737488355328) (w : World) (hseq : GivesBelow F (n - 1) P g lb S N w) :
    CallsIn F n P (ρ.f 11) #[.slice none 0 0, .func (.func g) #[] lb] w fun e w' => ∃ (v : Value) (ss : List Int), e = .returned v ∧ S ss ∧ w'.ownsRow w.heap.size (ρ.t 26) 1 v ss.length (ss.map encZ) ∧ (v = .slice none 0 0 ↔ ss = []) ∧ Below w.heap.size w w' := by
  have h1 : 1 ≤ n := by omega
  have mixed := L.mixed; have t0 := L.t0; have a0 := L.a0; have z0 := L.z0; have v0 := L.v0; have t24 := L.t24; have a24 := L.a24; have z24 := L.z24; have v24 := L.v24; have t26 := L.t26; have a26 := L.a26; have z26 := L.z26; have v26 := L.v26; have t28 := L.t28; have a28 := L.a28; have z28 := L.z28; have v28 := L.v28
  have hne : ρ.t 24 ≠ ρ.t 26 := fun e => by have h := L.t24; rw [e, L.t26] at h; cases h
  have u0 := run_underlying L.t0; have u24 := run_underlying L.t24; have u26 := run_underlying L.t26; have u28 := run_underlying L.t28
  obtain ⟨_, _, FG⟩ := L.f11
  refine callsIn_of_wp_marks FG rfl h11 ?_ hro
  simp only [SlBodyZ.n11_ntmps ρ, List.size_toArray, List.length_cons, List.length_nil, Nat.reduceAdd, Nat.reduceSub, Array.replicate_succ, Array.replicate_zero, List.push_toArray, List.append_toArray, List.nil_append, List.cons_append]
  gi_wp2
  refine wpIn_rangeFunc ?_
  intro fn hfn
  rw [hro]
  obtain ⟨W0, hW0⟩ : ∃ W0, w.alloc (.cells #[.slice none 0 0] (ρ.t 24)) = W0 := ⟨_, rfl⟩
  have hs0 : W0.heap.size = w.heap.size + 1 := by rw [← hW0]; simp
  have hv0 : W0.heap[w.heap.size]? = some (.cells #[.slice none 0 0] (ρ.t 24) (0, 0)) := by rw [← hW0]; exact World.alloc_heap_new w _
  have hb0 : Below w.heap.size w W0 := by rw [← hW0]; exact (Below.refl _ w).alloc (Nat.le_refl _) _
  rw [hW0]
  obtain ⟨W1, hW1⟩ : ∃ W1, (W0.alloc (.deferred (some []))).alloc (.loop (AnyZI.apRec ρ fn (.func (.func g) #[] lb) w.heap.size W0.heap.size .ready none)) = W1 := ⟨_, rfl⟩
  have hold : ∀ k, k < W0.heap.size → W1.heap[k]? = W0.heap[k]? := fun k hk => by
    rw [← hW1]; exact (Below.heap_alloc _ _ k (by simp; omega)).trans (Below.heap_alloc _ _ k hk)
  have hb1 : Below w.heap.size w W1 := by rw [← hW1]; exact (hb0.alloc hb0.size _).alloc (by have := hb0.size; simp; omega) _
  have hs1 : W1.heap.size = W0.heap.size + 2 := by rw [← hW1]; simp
  have hM : AnyZI.ApAt ρ w fn (.func (.func g) #[] lb) w.heap.size (W0.heap.size + 1) W0.heap.size [] W1 :=
    ⟨⟨_, (hold w.heap.size (by omega)).trans hv0, ⟨rfl, .inl ⟨rfl, rfl⟩⟩, by simp⟩,
     by rw [← hW1]; have := World.alloc_heap_new (W0.alloc (.deferred (some []))) (.loop (AnyZI.apRec ρ fn (.func (.func g) #[] lb) w.heap.size W0.heap.size .ready none)); rwa [World.size_alloc] at this,
     by rw [← hW1]; exact (Below.heap_alloc _ _ _ (by simp)).trans (World.alloc_heap_new W0 _), hb1⟩
  refine ⟨W0.heap.size + 1, [{ target := .collected W0.heap.size, args := #[] }], W1, { target := .fn (.func g) lb, args := #[.func (.yield (W0.heap.size + 1)) #[] #[]] }, W1, g,
    #[.func (.yield (W0.heap.size + 1)) #[] #[]] ++ lb, W1, ?_, ?_, ?_, ?_, fun _ => h1, ?_⟩
  · rw [← hW1]; exact run_enterLoop_outer _ _ _ _ _
  · simp [resolve, go_sem]
  · intro f' hf'; simp [Target.leads] at hf'; subst hf'; exact hFg
  · simp [invoke, go_sem, eg]
  · refine (hseq (W0.heap.size + 1) (AnyZI.ApAt ρ w fn (.func (.func g) #[] lb) w.heap.size (W0.heap.size + 1) W0.heap.size) W1 hb1 (fun pre W h => h.below)
      (fun pre x W hJ hl => AnyZI.apYield { L with } F (n - 1 - 1) w fn hfn _ w.heap.size (W0.heap.size + 1) W0.heap.size (by omega) (by omega) (by omega) (Nat.le_refl _) (by omega) N hN hNb pre x W hJ hl) hM).mono ?_
    rintro e W2 ⟨⟨v0, rfl⟩, ss, hS, h2⟩
    obtain ⟨v, hv, hrow, hnil⟩ := h2.box
    have hend := run_endLoop (P := P) h2.L (by simp [AnyZI.apRec])
    obtain ⟨W3, hW3⟩ : ∃ W3, W2.putObj (W0.heap.size + 1) (.loop { AnyZI.apRec ρ fn (.func (.func g) #[] lb) w.heap.size W0.heap.size .ready none with state := .exhausted }) = W3 := ⟨_, rfl⟩
    rw [hW3] at hend
    have hg3 : W2.grownBy W3 (some (W0.heap.size + 1)) := by rw [← hW3]; exact grownBy_putObj_a _ _ _
    have hv3 : W3.heap[w.heap.size]? = some (.cells #[v] (ρ.t 24) (0, 0)) := by rw [← hW3]; exact (World.putObj_heap_other (by omega)).trans hv
    have hK3 : W3.heap[W0.heap.size]? = some (.deferred (some [])) := by rw [← hW3]; exact (World.putObj_heap_other (by omega)).trans h2.K
    have hrow3 := hrow.kept hg3 (ownsRow_ne_a hrow h2.L (fun cur e => by first | cases e | exact hne (Obj.cells.inj e).2.1))
    have hb3 : Below w.heap.size w W3 := h2.below.grown hg3 h2.below.size (fun k e => by cases e; omega)
    obtain ⟨hc3, hf3⟩ := cell_of_box_a hv3
    clear hW3
    refine ⟨none, W3, hend, ?_⟩
    gi_wp2
    rw [← hs0]
    refine ⟨by simp, .inl ⟨_, _, rfl, run_takeDeferred hK3, ?_⟩⟩
    exact ⟨_, results_tmp rfl _ _ _, v, ss, rfl, hS, hrow3.kept (grownBy_putObj_a _ _ _) (ownsRow_ne_a hrow3 hK3 (fun cur e => by first | cases e | exact hne (Obj.cells.inj e).2.1)), hnil, hb3.grown (grownBy_putObj_a _ _ _) hb3.size (fun k e => by cases e; omega)⟩


set_option maxHeartbeats 1000000 in
theorem collect_below {P : Program} {ρ : Ren} (L : SlLaysZI.n8 P ρ) (F : Fence) (n : Nat) (h8 : F.fn (ρ.f 8)) (h11 : F.fn (ρ.f 11)) (hro : F.round = none) (hn : 3 ≤ n) (g : Nat) (lb : Array Value) (hFg : F.fn g) (eg : ∀ args w, (callFunc g args).run P w = .ok (.enter g args) w)
    (S : List Int → Prop) (N : Nat) (hN : N ≤ maxLen) (hNb : N * 8 ≤ 140737488355328) (w : World) (hseq : GivesBelow F (n - 1 - 1) P g lb S N w) :
    CallsIn F n P (ρ.f 8) #[.func (.func g) #[] lb] w fun e w' => ∃ (v : Value) (ss : List Int), e = .returned v ∧ S ss ∧ w'.ownsRow w.heap.size (ρ.t 26) 1 v ss.length (ss.map encZ) ∧ (v = .slice none 0 0 ↔ ss = []) ∧ Below w.heap.size w w' := by
  have h1 : 1 ≤ n := by omega
  have e11 : ∀ args w, (callFunc (ρ.f 11) args).run P w = .ok (.enter (ρ.f 11) args) w := L.f11.enters rfl
  have mixed := L.mixed; have t0 := L.t0; have a0 := L.a0; have z0 := L.z0; have v0 := L.v0; have t24 := L.t24; have a24 := L.a24; have z24 := L.z24; have v24 := L.v24; have t26 := L.t26; have a26 := L.a26; have z26 := L.z26; have v26 := L.v26; have t28 := L.t28; have a28 := L.a28; have z28 := L.z28; have v28 := L.v28
  have u0 := run_underlying L.t0; have u24 := run_underlying L.t24; have u26 := run_underlying L.t26; have u28 := run_underlying L.t28
  obtain ⟨_, _, FG⟩ := L.f8
  refine callsIn_of_wp FG rfl h8 ?_ hro
  simp only [SlBodyZ.n8_ntmps ρ, List.size_toArray, List.length_cons, List.length_nil, Nat.reduceAdd, Nat.reduceSub, Array.replicate_succ, Array.replicate_zero, List.push_toArray, List.append_toArray, List.nil_append, List.cons_append]
  gi_wp2_with (gi_at_fn (ρ.f 11); refine (appendSeq_below { L with } F (n - 1) h11 hro (by omega) g lb hFg eg S N hN hNb _ hseq).mono ?_; rintro e w' ⟨v, ss, rfl, hS, hrow, hnil, hb⟩)
  go_ret
  exact ⟨v, ss, rfl, hS, hrow, hnil, hb⟩

set_option maxRecDepth 100000 in
set_option maxHeartbeats 2000000 in
theorem sorted_below {P : Program} {ρ : Ren} (L : SlLaysZI.n6 P ρ) (F : Fence) (n : Nat) (h6 : F.fn (ρ.f 6)) (h8 : F.fn (ρ.f 8)) (h9 : F.fn (ρ.f 9)) (h11 : F.fn (ρ.f 11)) (hro : F.round = none) (hn : 4 ≤ n) (hsort : AnyZI.SortsIn P ρ F (n - 1)) (e9 : ∀ args w, (callFunc (ρ.f 9) args).run P w = .ok (.enter (ρ.f 9) args) w) (g : Nat) (lb : Array Value) (hFg : F.fn g) (eg : ∀ args w, (callFunc g args).run P w = .ok (.enter g args) w)
    (S : List Int → Prop) (N : Nat) (hN : N ≤ maxLen) (hNb : N * 8 ≤ 140737488355328) (w : World) (hseq : GivesBelow F (n - 1 - 1 - 1) P g lb (fun s => S s ∧ s.length ≤ N) N w) :
    CallsIn F n P (ρ.f 6) #[.func (.func g) #[] lb] w fun e w' => ∃ (v : Value) (ss : List Int), e = .returned v ∧ S ss ∧
      w'.ownsRow w.heap.size (ρ.t 26) 1 v ss.length ((ss.mergeSort (fun x y => decide (x ≤ y))).map encZ) ∧ (v = .slice none 0 0 ↔ ss = []) ∧ Below w.heap.size w w' := by
  have h1 : 1 ≤ n := by omega
  have e8 : ∀ args w, (callFunc (ρ.f 8) args).run P w = .ok (.enter (ρ.f 8) args) w := L.f8.enters rfl
  have mixed := L.mixed; have t0 := L.t0; have a0 := L.a0; have z0 := L.z0; have v0 := L.v0; have t24 := L.t24; have a24 := L.a24; have z24 := L.z24; have v24 := L.v24; have t26 := L.t26; have a26 := L.a26; have z26 := L.z26; have v26 := L.v26; have t28 := L.t28; have a28 := L.a28; have z28 := L.z28; have v28 := L.v28
  have u0 := run_underlying L.t0; have u24 := run_underlying L.t24; have u26 := run_underlying L.t26; have u28 := run_underlying L.t28
  obtain ⟨_, _, FG⟩ := L.f6
  refine callsIn_of_wp FG rfl h6 ?_ hro
  simp only [SlBodyZ.n6_ntmps ρ, List.size_toArray, List.length_cons, List.length_nil, Nat.reduceAdd, Nat.reduceSub, Array.replicate_succ, Array.replicate_zero, List.push_toArray, List.append_toArray, List.nil_append, List.cons_append]
  gi_wp2_with (gi_at_fn (ρ.f 8); refine (collect_below { L with } F (n - 1) h8 h11 hro (by omega) g lb hFg eg _ N hN hNb _ hseq).mono ?_; rintro e W ⟨v, ss, rfl, ⟨hS, hlen⟩, hrow, hnil, hb⟩)
  rcases hrow.2 with ⟨rfl, hz⟩ | ⟨gb, cap, cur, rfl, hbase, hgb, r1, r2, r3, r4⟩
  · -- nothing came: the nil slice is sorted and handed back
    have hss : ss = [] := List.eq_nil_of_length_eq_zero hz
    subst hss
    gi_wp2_with (gi_at_fn (ρ.f 9); refine (hsort.2 none 0 W).mono ?_; rintro e w' ⟨rfl, rfl⟩)
    go_ret
    exact ⟨.slice none 0 0, [], rfl, hS, by simpa using hrow, by simp, hb⟩
  · have hH : Holds encZ W gb 0 ss.toArray := holds_of_block_i hgb (by simpa using r4)
    have hgl : gb < W.heap.size := (Array.getElem?_eq_some_iff.1 hgb).1
    have hsz : ss.length < 4611686018427387904 := by omega
    have cS := hsort.1 gb 0 cap ss W hH hgl hsz
    gi_wp2_with (gi_at_fn (ρ.f 9); refine cS.mono ?_; rintro e w' ⟨rfl, nn, os, rfl⟩)
    go_ret
    exact ⟨_, ss, rfl, hS, ownsRow_sorted_i (by simp) hbase hgb r1 r2 r3, hnil, hb.grown (grownBy_sorted_i _) hb.size (fun j hj => by cases hj; exact hbase)⟩



set_option maxRecDepth 100000 in
theorem slices_values (w : World) (a : Option Addr) (len cap : Nat) :
    Calls Tryz.prog 406 #[.slice a len cap] w fun e w' => e = .returned (.func (.func 416) #[] #[.pointer (some ⟨w.heap.size, 0, none⟩)]) ∧ w.alloc (.cells #[.slice a len cap] 73) = w' := by
  go_enter Tryz.func406, Tryz.ntmps406
  go_wp2
  go_ret
  exact ⟨rfl, rfl⟩

/-- slices.Sort's two contracts at this program. -/
theorem sorts_in (m : Nat) : AnyZI.SortsIn Tryz.prog sortedL_ren Fence.wide m :=
  ⟨fun blk off cap ss W hH hblk hsz => callsIn_wide.2 (AnyM.slices_Sort_int sortL5 blk off cap ss W hH hblk hsz),
   fun p cap W => callsIn_wide.2 (AnyM.slices_Sort_int_none sortL5 p cap W)⟩

set_option maxHeartbeats 1000000 in
/-- slices.Sorted of what slices.Values hands back: a new row, sorted. -/
theorem slices_sorted (w : World) (Bs : Nat) (ao : Option Addr) (cap : Nat) (l : List Int) (hB : w.cell? ⟨Bs, 0, none⟩ = some (.slice ao l.length cap)) (hr : Rd w 1 (.slice ao l.length cap) l.length (ints l)) (hl : l.length * 8 ≤ 140737488351232) :
    Calls Tryz.prog 405 #[.func (.func 416) #[] #[.pointer (some ⟨Bs, 0, none⟩)]] w fun e w' => ∃ a3 c3, e = .returned (.slice a3 l.length c3) ∧
      Own w' 2 1 (.slice a3 l.length c3) l.length (ints (sortL l)) ∧ Chg [] w w' ∧ ∀ b ∈ abl a3, w.heap.size ≤ b := by
  refine (callsIn_wide (n := 6)).1 ?_
  have hBl : Bs < w.heap.size := World.block_lt_of_cell? w _ hB
  have hA : l.length = 0 ∨ ∃ b off, ao = some ⟨b, off, none⟩ ∧ b < w.heap.size ∧ ∀ j, j < l.length → w.cell? ⟨b, off + j, none⟩ = some (.int .i64 (l[j]?.getD 0)) := by
    by_cases h0 : l.length = 0
    · exact .inl h0
    · obtain ⟨b, o, rfl, hc⟩ := hr.addr (by omega)
      refine .inr ⟨b, o, rfl, ?_, set_of_ints hc⟩
      exact World.block_lt_of_cell? w _ (set_of_ints hc 0 (by omega))
  have hseq : GivesBelow Fence.wide (6 - 1 - 1 - 1) Tryz.prog 416 #[.pointer (some ⟨Bs, 0, none⟩)] (fun s => s = l ∧ s.length ≤ l.length) l.length w := fun L J W hW hJb hY h0 =>
    (values1_in Fence.wide (6 - 1 - 1 - 1) trivial rfl (by omega) L Bs l.length cap ao l rfl hl w J hJb hY W ((hW.cell (p := ⟨Bs, 0, none⟩) hBl).trans hB) hA h0).mono fun e W' ⟨he, ys, hy, hj⟩ => ⟨he, ys, ⟨hy, by rw [hy]; exact Nat.le_refl _⟩, hj⟩
  refine (sorted_below sortedL Fence.wide 6 trivial trivial trivial trivial rfl (by omega) (sorts_in _) (enters_of Tryz.func349 (by kernel_rfl) rfl) 416 #[.pointer (some ⟨Bs, 0, none⟩)] trivial (enters_of Tryz.func416 (by kernel_rfl) rfl) (fun s => s = l) l.length (by unfold maxLen; omega) (by omega) w hseq).mono ?_
  rintro e w' ⟨v, ss, rfl, hS, hrow, _, hb⟩
  subst hS
  rw [msort_eq] at hrow
  have hi : ints (sortL ss) = (sortL ss).map encZ := rfl
  rw [← hi] at hrow
  obtain ⟨hx, ⟨rfl, h0⟩ | ⟨g, c, cur, rfl, hg, hh, h1, h2, h3, h4⟩⟩ := hrow
  · refine ⟨none, 0, by rw [h0], ⟨hx, .inl ⟨by rw [h0], h0⟩⟩, Chg.of_below hb, by simp⟩
  · exact ⟨some ⟨g, 0, none⟩, c, rfl, ⟨hx, .inr ⟨g, 0, c, cur, rfl, hh, h1, h2, by omega, h4⟩⟩, Chg.of_below hb, by simpa using hg⟩
end Go.Proofs.YtmehcfocfljoeaaGreatDoor
