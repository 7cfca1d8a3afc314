/-
  The walks of the document's Rank and Total of towers. Conditions: the form's own reach.
-/
import Derived.Test.YtbaobiniianamaaRefTower
import Derived.Test.YtbaobiniianamaaVal
import Derived.Test.YtbaobiniianamaaSettle
namespace Go.Proofs.Ytbaobiniianamaa
open Go.RowKit

set_option maxRecDepth 100000 in
set_option maxHeartbeats 2000000 in
theorem ref21_rank (w : World) (p : Nat) (rv : Value) (vs : List Value) (W word used : Nat) (rows : List (List Int)) (ht : RT w p rv vs W word used rows) (hN : rows.flatten.length ≤ 100000) (hR : rows.length ≤ 40) (x : Int) (htot : totR rows ≤ 4611686018427387904) (R : Nat) (hRR : R = rankR x rows) :
    Calls Try.prog 39 #[.pointer (some ⟨p, 0, none⟩), .int .i64 x] w fun e w' => e = .returned (.int .u64 (R : Nat)) ∧ Chg [] w w' := by
  obtain ⟨-, -, -, c3⟩ := ht.cells
  obtain ⟨ro, rc, hrv⟩ := ht.own.shape
  subst hrv
  have HT := Lib.hid ht
  have hvl := Lib.hid ht.len
  have HRB := Lib.hid (fun k => show rankR x (rows.take k) ≤ 4611686018427387904 from Nat.le_trans (rankR_take x rows k) (Nat.le_trans (rankR_le x rows) htot))
  have HNN := Lib.hid hN
  have HRF := Lib.hid hRR
  generalize hrl : rows.length = n at *
  have HRL := Lib.hid hrl
  clear ht hrl hN htot hRR
  go_enter Try.func39, Try.ntmps39
  go_wp2
  go_loopw [5, 6, 14] (fun s q i wx => ∃ (k S P : Nat), k ≤ n ∧ i = .int .i64 (k : Nat) ∧ s = .int .u64 (S : Nat) ∧ q = .int .u64 (P : Nat) ∧ Hid (P = 2 ^ k) ∧ Hid (S = rankR x (rows.take k)) ∧ Chg [] w wx) (fun _ _ i _ => n - (intOf i).toNat)
  case atStart => exact ⟨0, 0, 1, Nat.zero_le _, rfl, rfl, rfl, Lib.hid rfl, Lib.hid (by simp [rankR, wsum]), Chg.refl _ _⟩
  case round =>
    obtain ⟨k, S, P, hk, rfl, rfl, rfl, HP, HS, hch⟩ := hrel
    by_cases hlt : k < n
    · have hkr : k < rows.length := by have := HRL.out; omega
      have hkv : k < vs.length := by have := hvl.out; have := HRL.out; omega
      have HT1 := Lib.hid (HT.out.chg hch (by simp))
      obtain ⟨g, o, cp, hsl, d0, -, -⟩ := HT1.out.own.at1 (j := k) hkr hkv
      rw [HRL.out] at hsl
      simp only [Value.slice.injEq, true_and] at hsl
      obtain ⟨rfl, rfl⟩ := hsl
      have hrow := HT1.out.rd k hkv hkr
      obtain ⟨so, sc, hsv⟩ := hrow.shape
      rw [hsv] at d0 hrow
      have hrn : rows[k].length ≤ 100000 := Nat.le_trans (flat_le hkr) HNN.out
      have HST := Lib.hid (rankR_step x rows k hkr)
      have hb1 := HRB.out (k + 1)
      rw [HST.out, ← HS.out, ← HP.out] at hb1
      have hul := List.countP_le_length (p := fun y : Int => decide (y ≤ x)) (l := rows[k])
      have hUP := Lib.hid (ref20_up wr so sc rows[k] x hrow hrn)
      have hP64 : P ≤ 2 ^ 40 := by rw [HP.out]; exact Nat.pow_le_pow_right (by omega) (by omega)
      have h40 : (2 : Nat) ^ 40 = 1099511627776 := by decide
      rw [h40] at hP64
      obtain ⟨U, hU⟩ : ∃ U, U = upL rows[k] x := ⟨_, rfl⟩
      have hUl : U ≤ 100000 := by rw [hU, upL]; omega
      rw [← hU] at hUP HST hb1
      clear hul h40 hU hsv hrow
      generalize rows[k].length = m at *
      have hcU : IntKind.u64.wrap (U : Int) = (U : Int) := by rw [IntKind.wrap_u64]; omega
      obtain ⟨Y, hY⟩ : ∃ Y, Y = P * U := ⟨_, rfl⟩
      rw [← hY] at hb1
      have hmul : IntKind.u64.wrap ((P : Int) * (U : Int)) = (Y : Int) := by
        rw [← Int.natCast_mul, ← hY, IntKind.wrap_u64]; omega
      have hdb : IntKind.u64.wrap (2 * (P : Int)) = ((2 * P : Nat) : Int) := by rw [IntKind.wrap_u64]; omega
      have HN := Lib.hid (show S + Y = rankR x (rows.take (k + 1)) from by rw [HST.out, HS.out, hY, HP.out])
      have HNP := Lib.hid (show 2 * P = 2 ^ (k + 1) from by rw [HP.out, Nat.pow_succ]; omega)
      clear hY hP64
      go_wp2_with fail
      refine hUP.out.mono ?_
      rintro e w2 ⟨rfl, hc2⟩
      clear hUP
      go_wp2
      exact ⟨⟨k + 1, S + Y, 2 * P, by omega, by go_num, by go_num, by go_num, HNP, HN, hch.trans hc2⟩, by simp [intOf]; omega⟩
    · obtain rfl : k = n := by omega
      have HE := Lib.hid (show S = R from by rw [HS.out, HRF.out, List.take_of_length_le (by have := HRL.out; omega)])
      clear HS
      go_wp2
      go_ret
      rw [HE.out]
      exact ⟨rfl, hch⟩

set_option maxRecDepth 100000 in
theorem ref21_total (w : World) (p : Nat) (rv : Value) (vs : List Value) (W word used : Nat) (rows : List (List Int)) (ht : RT w p rv vs W word used rows) (hN : rows.flatten.length ≤ 100000) (hR : rows.length ≤ 40) (htot : totR rows ≤ 4611686018427387904) (R : Nat) (hRR : R = rankR 9223372036854775807 rows) :
    Calls Try.prog 55 #[.pointer (some ⟨p, 0, none⟩)] w fun e w' => e = .returned (.int .u64 (R : Nat)) ∧ Chg [] w w' := by
  have HC := Lib.hid (ref21_rank w p rv vs W word used rows ht hN hR 9223372036854775807 htot R hRR)
  clear ht hN hR htot hRR
  go_enter Try.func55, Try.ntmps55
  go_wp2_with fail
  refine HC.out.mono ?_
  rintro e w2 ⟨rfl, hc2⟩
  go_wp2
  go_ret
  exact ⟨rfl, hc2⟩
end Go.Proofs.Ytbaobiniianamaa
