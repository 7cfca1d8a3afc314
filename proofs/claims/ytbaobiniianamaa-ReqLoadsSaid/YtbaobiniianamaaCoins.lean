/-
  The walks of the tape of package coins, and the reference's coin. Conditions: the form's own reach.
-/
import Derived.Test.YtbaobiniianamaaProg
import Derived.Test.YtbaobiniianamaaBase
import Derived.Laws.BitsAllLaws
namespace Go.Proofs.Ytbaobiniianamaa
open Go.RowKit

/-- The k-th coin of a word. -/
def coinB (word k : Nat) : Bool := decide (word / 2 ^ (k % 64) % 2 = 1)
def Tape (w : World) (t word used : Nat) : Prop := Blk w t #[.int .u64 (word : Nat), .int .i64 (used : Nat)] 103
theorem Tape.chg {w w1 : World} {t word used : Nat} {F : List Nat} (h : Tape w t word used) (k : Chg F w w1) (hn : t ∉ F) : Tape w1 t word used := Blk.chg h k hn
theorem and_one64 (c : Nat) (h : c < 18446744073709551616) : bits .and .u64 (c : Int) 1 = ((c % 2 : Nat) : Int) := by
  have := u64_and_nat c 1 h (by omega)
  rw [Nat.and_one_is_mod] at this
  exact this

set_option maxRecDepth 100000 in
theorem coins_new (w : World) (word : Nat) :
    Calls Try.prog 43 #[.int .u64 word] w fun e w' => e = .returned (.pointer (some ⟨w.heap.size, 0, none⟩)) ∧ Tape w' w.heap.size word 0 ∧ Chg [] w w' := by
  go_enter Try.func43, Try.ntmps43
  go_wp2
  go_ret
  exact ⟨rfl, Blk.alloc_new _ _ _, (Chg.refl [] w).alloc _⟩

set_option maxRecDepth 100000 in
theorem coins_next (w : World) (t word used : Nat) (hw : word < 18446744073709551616) (hu : used < 9223372036854775807) (ht : Tape w t word used) :
    Calls Try.prog 44 #[.pointer (some ⟨t, 0, none⟩)] w fun e w' => e = .returned (.bool (coinB word used)) ∧ Tape w' t word (used + 1) ∧ Chg [t] w w' := by
  have c0 := ht.cell 0
  have c1 := ht.cell 1
  have f1 := ht.free 1
  have hm : (used : Int).tmod 64 = ((used % 64 : Nat) : Int) := by rw [Int.tmod_eq_emod_of_nonneg (by omega)]; omega
  have hd : word / 2 ^ (used % 64) < 18446744073709551616 := Nat.lt_of_le_of_lt (Nat.div_le_self _ _) hw
  have HB : Hid ((bits .and .u64 ((word : Int) / 2 ^ (used % 64)) 1 == 1) = coinB word used) := Lib.hid (by
    have hb := and_one64 _ hd
    rw [show ((word / 2 ^ (used % 64) : Nat) : Int) = (word : Int) / 2 ^ (used % 64) from by simp] at hb
    rw [hb, coinB, Bool.eq_iff_iff, beq_iff_eq, decide_eq_true_eq]
    omega)
  have HT := Lib.hid ht
  clear hd
  go_enter Try.func44, Try.ntmps44
  go_wp2
  go_quiet (fail)
  go_wp2
  go_ret
  refine ⟨by rw [← HB.out]; rfl, ?_, Chg.setCell ((Chg.refl [t] w).drewN nq) (.inl (by simp)) _⟩
  exact Blk.setCell (show Blk (w.drewN nq) t _ _ from HT.out) 1 _
theorem coins_next_nil (w : World) :
    Calls Try.prog 44 #[.pointer none] w fun e w' => e = .returned (.bool false) ∧ w = w' := by
  go_enter Try.func44, Try.ntmps44
  go_wp2
  go_ret
  exact ⟨rfl, rfl⟩
theorem coins_used (w : World) (t word used : Nat) (ht : Tape w t word used) :
    Calls Try.prog 45 #[.pointer (some ⟨t, 0, none⟩)] w fun e w' => e = .returned (.int .i64 (used : Nat)) ∧ w = w' := by
  have c1 := ht.cell 1
  go_enter Try.func45, Try.ntmps45
  go_wp2
  go_ret
  exact ⟨rfl, rfl⟩
theorem coins_used_nil (w : World) :
    Calls Try.prog 45 #[.pointer none] w fun e w' => e = .returned (.int .i64 0) ∧ w = w' := by
  go_enter Try.func45, Try.ntmps45
  go_wp2
  go_ret
  exact ⟨rfl, rfl⟩
theorem coins_word (w : World) (t word used : Nat) (ht : Tape w t word used) :
    Calls Try.prog 46 #[.pointer (some ⟨t, 0, none⟩)] w fun e w' => e = .returned (.int .u64 (word : Nat)) ∧ w = w' := by
  have c0 := ht.cell 0
  go_enter Try.func46, Try.ntmps46
  go_wp2
  go_ret
  exact ⟨rfl, rfl⟩
theorem coins_word_nil (w : World) :
    Calls Try.prog 46 #[.pointer none] w fun e w' => e = .returned (.int .u64 0) ∧ w = w' := by
  go_enter Try.func46, Try.ntmps46
  go_wp2
  go_ret
  exact ⟨rfl, rfl⟩
theorem coins_skip (w : World) (t word used n : Nat) (ht : Tape w t word used) :
    Calls Try.prog 57 #[.pointer (some ⟨t, 0, none⟩), .int .i64 n] w fun e w' => e = .returned (.bool true) ∧ Tape w' t word n ∧ Chg [t] w w' := by
  have c1 := ht.cell 1
  have f1 := ht.free 1
  have hn : ¬ (n : Int) < 0 := by omega
  have HT := Lib.hid (ht.setCell 1 (.int .i64 ((n : Nat) : Int)))
  have HC := Lib.hid (Chg.setCell (Chg.refl [t] w) (a := ⟨t, 1, none⟩) (.inl (by simp)) (.int .i64 ((n : Nat) : Int)))
  go_enter Try.func57, Try.ntmps57
  go_wp2
  go_ret
  exact ⟨rfl, HT.out, HC.out⟩
theorem coins_skip_neg (w : World) (t word used : Nat) (n : Int) (hn : n < 0) (_ht : Tape w t word used) :
    Calls Try.prog 57 #[.pointer (some ⟨t, 0, none⟩), .int .i64 n] w fun e w' => e = .returned (.bool false) ∧ w = w' := by
  go_enter Try.func57, Try.ntmps57
  go_wp2
  go_ret
  exact ⟨rfl, rfl⟩
theorem coins_skip_nil (w : World) (n : Int) :
    Calls Try.prog 57 #[.pointer none, .int .i64 n] w fun e w' => e = .returned (.bool false) ∧ w = w' := by
  go_enter Try.func57, Try.ntmps57
  go_wp2
  go_ret
  exact ⟨rfl, rfl⟩

set_option maxRecDepth 100000 in
theorem ref_coin (w : World) (word k : Nat) (hw : word < 18446744073709551616) :
    Calls Try.prog 67 #[.int .u64 word, .int .i64 k] w fun e w' => e = .returned (.bool (coinB word k)) ∧ w = w' := by
  have hm : (k : Int).tmod 64 = ((k % 64 : Nat) : Int) := by rw [Int.tmod_eq_emod_of_nonneg (by omega)]; omega
  go_enter Try.func67, Try.ntmps67
  go_wp2
  have hd : ∀ j, word / 2 ^ j < 18446744073709551616 := fun j => Nat.lt_of_le_of_lt (Nat.div_le_self _ _) hw
  have HS := Lib.hid (fun j => (show word / 2 ^ j / 2 = word / 2 ^ (j + 1) from by rw [Nat.div_div_eq_div_mul, Nat.pow_succ]))
  have hk : k % 64 < 64 := Nat.mod_lt _ (by omega)
  obtain ⟨m, hmm⟩ : ∃ m, m = k % 64 := ⟨_, rfl⟩
  have HE := Lib.hid (show coinB word k = decide (word / 2 ^ m % 2 = 1) from by rw [hmm]; rfl)
  rw [← hmm] at hm hk
  have hmk : (k : Int) % 64 = (m : Int) := by omega
  clear hmm
  go_loopw [0, 5] (fun x i wx => ∃ j : Nat, j ≤ m ∧ i = .int .i64 (j : Nat) ∧ x = .int .u64 (word / 2 ^ j : Nat) ∧ w = wx) (fun _ i _ => m - (intOf i).toNat)
  case atStart => exact ⟨0, Nat.zero_le _, rfl, by simp, rfl⟩
  case round =>
    obtain ⟨j, hj, rfl, rfl, rfl⟩ := hrel
    have hdj := hd j
    have hsj := HS.out j
    by_cases hlt : j < m
    · obtain ⟨y, hy⟩ : ∃ y, y = word / 2 ^ (j + 1) := ⟨_, rfl⟩
      have HY := Lib.hid hy
      rw [← hy] at hsj
      clear hy hd
      generalize word / 2 ^ j = x at *
      have hx : (x : Int) / 2 = (y : Int) := by omega
      clear hsj
      go_wp2
      exact ⟨⟨j + 1, by omega, by go_num, by rw [← HY.out], trivial⟩, by simp [intOf]; omega⟩
    · obtain rfl : j = m := by omega
      clear hd hsj
      generalize word / 2 ^ j = x at *
      have HX := Lib.hid (show (((x : Int) % 2) == 1) = decide (x % 2 = 1) from by rw [Bool.eq_iff_iff, beq_iff_eq, decide_eq_true_eq]; omega)
      go_wp2
      go_ret
      exact ⟨by rw [HE.out, ← HX.out]; rfl, rfl⟩
end Go.Proofs.Ytbaobiniianamaa
