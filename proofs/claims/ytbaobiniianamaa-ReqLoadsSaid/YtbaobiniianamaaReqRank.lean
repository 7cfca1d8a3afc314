/-
  The walk of (*Tower).Rank. Conditions: the form's own reach.
-/
import Derived.Test.YtbaobiniianamaaTower
namespace Go.Proofs.Ytbaobiniianamaa
open Go.RowKit

theorem rankR_step (x : Int) (l : List (List Int)) (k : Nat) (h : k < l.length) : rankR x (l.take (k + 1)) = rankR x (l.take k) + 2 ^ k * upL l[k] x := by
  rw [List.take_succ_eq_append_getElem h]
  unfold rankR
  rw [wsum_app, List.length_take, Nat.min_eq_left (by omega)]
  simp [wsum]
theorem upL_step (x : Int) (l : List Int) (k : Nat) (h : k < l.length) : upL (l.take (k + 1)) x = upL (l.take k) x + if l[k] ≤ x then 1 else 0 := by
  rw [List.take_succ_eq_append_getElem h, upL_app, upL_cons]
  simp [upL]
theorem rankR_take (x : Int) (l : List (List Int)) (k : Nat) : rankR x (l.take k) ≤ rankR x l := by
  conv => rhs; rw [← List.take_append_drop k l]
  unfold rankR
  rw [wsum_app]
  omega

set_option maxRecDepth 100000 in
set_option maxHeartbeats 2000000 in
theorem req_rank (w : World) (p tp : Nat) (rv : Value) (vs : List Value) (D : TwD) (ht : Tow w p tp rv vs D) (hN : D.rows.flatten.length ≤ 100000) (hR : D.rows.length ≤ 40) (x : Int) (htot : totR D.rows ≤ 4611686018427387904) (R : Nat) (hRR : R = rankR x D.rows) :
    Calls Try.prog 23 #[.pointer (some ⟨p, 0, none⟩), .int .i64 x] w fun e w' => e = .returned (.int .u64 (R : Nat)) ∧ w = w' := by
  obtain ⟨-, -, -, c3, -, -, -⟩ := ht.cells
  obtain ⟨ro, rc, hrv⟩ := ht.own.shape
  subst hrv
  have HT := Lib.hid ht
  have hvl := Lib.hid (show vs.length = D.rows.length from ht.rows.1)
  have HRB := Lib.hid (fun k => show rankR x (D.rows.take k) ≤ 4611686018427387904 from Nat.le_trans (rankR_take x D.rows k) (Nat.le_trans (rankR_le x D.rows) htot))
  have HNN := Lib.hid hN
  have HRF := Lib.hid hRR
  generalize hrl : D.rows.length = n at *
  have HRL := Lib.hid hrl
  clear ht hrl hN htot hRR
  go_enter Try.func23, Try.ntmps23
  go_wp2
  go_loopw [5, 17] (fun s i wx => ∃ (k S : Nat), k ≤ n ∧ i = .int .i64 (k : Nat) ∧ s = .int .u64 (S : Nat) ∧ Hid (S = rankR x (D.rows.take k)) ∧ w = wx) (fun _ i _ => n - (intOf i).toNat)
  case atStart => exact ⟨0, 0, Nat.zero_le _, rfl, rfl, Lib.hid (by simp [rankR, wsum]), rfl⟩
  case round =>
    obtain ⟨k, S, hk, rfl, rfl, HS, hw⟩ := hrel
    subst hw
    by_cases hlt : k < n
    · have hkr : k < D.rows.length := by have := HRL.out; omega
      have hkv : k < vs.length := by have := hvl.out; have := HRL.out; omega
      obtain ⟨g, o, cp, hsl, d0, -, -⟩ := HT.out.own.at1 (j := k) hkr hkv
      rw [HRL.out] at hsl
      simp only [Value.slice.injEq, true_and] at hsl
      obtain ⟨rfl, rfl⟩ := hsl
      have hrow := HT.out.rows.2.1 k hkv hkr
      obtain ⟨so, sc, hsv⟩ := hrow.shape
      rw [hsv] at d0 hrow
      have hrn : D.rows[k].length ≤ 100000 := by
        obtain ⟨A, r, B, h1, h2⟩ := split_at hkr
        have h3 := HNN.out
        have e : D.rows[k] = r := by simp [h1, ← h2]
        rw [e]
        rw [h1] at h3
        simp at h3
        omega
      have HST := Lib.hid (rankR_step x D.rows k hkr)
      have hb1 := HRB.out (k + 1)
      rw [HST.out, ← HS.out] at hb1
      generalize D.rows[k] = r at *
      obtain ⟨m, hm⟩ : ∃ m, m = r.length := ⟨_, rfl⟩
      rw [← hm] at d0 hrow hrn
      have HM := Lib.hid hm
      have HRW := Lib.hid hrow.rd
      obtain ⟨P, hP⟩ : ∃ P, P = 2 ^ k := ⟨_, rfl⟩
      have hP64 : P ≤ 2 ^ 40 := by rw [hP]; exact Nat.pow_le_pow_right (by omega) (by omega)
      have hPw : IntKind.u64.wrap ((2 : Int) ^ k) = (P : Int) := by
        rw [hP, IntKind.wrap_u64]
        have e : ((2 : Int) ^ k) = ((2 ^ k : Nat) : Int) := by norm_cast
        rw [e, ← hP]
        have : (2 : Nat) ^ 40 = 1099511627776 := by decide
        omega
      rw [← hP] at HST hb1
      have HUB := Lib.hid (fun q (hq : q < r.length) => show S + P * upL (r.take (q + 1)) x ≤ 4611686018427387904 from Nat.le_trans (Nat.add_le_add_left (Nat.mul_le_mul_left _ (List.Sublist.countP_le (List.take_sublist _ _))) _) hb1)
      clear hsv hm hrow hP hb1 hP64
      go_wp2
      go_loopw [5, 24] (fun s i wx => ∃ (q T : Nat), q ≤ m ∧ i = .int .i64 (q : Nat) ∧ s = .int .u64 (T : Nat) ∧ Hid (T = S + P * upL (r.take q) x) ∧ w = wx) (fun _ i _ => m - (intOf i).toNat)
      case atStart => exact ⟨0, S, Nat.zero_le _, rfl, rfl, Lib.hid (by simp [upL]), rfl⟩
      case round =>
        obtain ⟨q, T, hq, rfl, rfl, HTT, hw⟩ := hrel
        subst hw
        by_cases hqm : q < m
        · have hqr : q < r.length := by have := HM.out; omega
          obtain ⟨b, o2, rfl, hcs⟩ := HRW.out.addr (by omega)
          have y0 := ints_at (l := r) (fun j hj => hcs j (by rw [HM.out]; exact hj)) q hqr
          have hus := upL_step x r q hqr
          have hub := HUB.out q hqr
          rw [hus, Nat.mul_add, ← Nat.add_assoc, ← HTT.out] at hub
          have HUS := Lib.hid hus
          generalize r[q] = y at *
          clear hcs
          by_cases hyx : y ≤ x
          · have hd : decide (y ≤ x) = true := decide_eq_true hyx
            rw [if_pos hyx] at HUS hub
            have hT2 : T + P ≤ 4611686018427387904 := by omega
            have HN := Lib.hid (show T + P = S + P * upL (r.take (q + 1)) x from by rw [HUS.out, HTT.out, Nat.mul_add]; omega)
            clear hub hus hyx
            go_wp2
            exact ⟨⟨q + 1, T + P, by omega, by go_num, by go_num, HN, by first | rfl | trivial⟩, by simp [intOf]; omega⟩
          · have hd : decide (y ≤ x) = false := decide_eq_false hyx
            rw [if_neg hyx] at HUS hub
            have HN := Lib.hid (show T = S + P * upL (r.take (q + 1)) x from by rw [HUS.out, HTT.out]; rfl)
            clear hub hus hyx
            go_wp2
            exact ⟨⟨q + 1, T, by omega, by go_num, rfl, HN, by first | rfl | trivial⟩, by simp [intOf]; omega⟩
        · obtain rfl : q = m := by omega
          have HN := Lib.hid (show T = rankR x (D.rows.take (k + 1)) from by rw [HST.out, HTT.out, HS.out, List.take_of_length_le (l := r) (by have := HM.out; omega)])
          clear HST HTT
          go_wp2
          exact ⟨⟨k + 1, T, by omega, by go_num, rfl, HN, by first | rfl | trivial⟩, by simp [intOf]; omega⟩
    · obtain rfl : k = n := by omega
      have HE := Lib.hid (show S = R from by rw [HS.out, HRF.out, List.take_of_length_le (by have := HRL.out; omega)])
      clear HS
      go_wp2
      go_ret
      rw [HE.out]
      exact ⟨rfl, rfl⟩
end Go.Proofs.Ytbaobiniianamaa
