/-
  The walks of the references of layer 4 (and 2): Nat, Int, Zig, Taken. Conditions: the bytes fit into memory.
-/
import Derived.Test.YtgpnnfgaphcklaaEyeNat
import Derived.Test.YtgpnnfgaphcklaaPlainTaken
namespace Go.Proofs.Ytgpnnfgaphcklaa
open Go.RowKit

set_option maxRecDepth 100000 in
set_option maxHeartbeats 400000 in
theorem ref_zig (w : World) (x : Int) (h0 : -9223372036854775808 ≤ x) (h1 : x < 9223372036854775808) :
    Calls Try.prog 61 #[.int .i64 x] w fun e w' => e = .returned (.int .u64 (zig x)) ∧ w = w' := by
  go_enter Try.func61, Try.ntmps61
  go_wp2
  all_goals go_ret
  all_goals refine ⟨ret_int ?_, rfl⟩
  all_goals unfold zig; split <;> omega

/-- 'string([]byte{x})'. -/
theorem run_one_byte (w : World) (x : Int) (c : UInt8) (hx : x = (c.toNat : Int)) :
    (convert 39 9 (.slice (some ⟨w.heap.size, 0, none⟩) 1 1)).run Try.prog (w.alloc (.cells #[.int .u8 x] 5)) = .ok (.string ⟨[c].toArray⟩) (w.alloc (.cells #[.int .u8 x] 5)) := by
  subst hx
  exact run_string_rd under_bytes under_u8 under_string (l := [c]) (Rd.lit1 w (.int .u8 c.toNat) 5 1)

set_option maxRecDepth 100000 in
set_option maxHeartbeats 400000 in
theorem ref_nat (w : World) (n : Nat) (hn : n < 18446744073709551616) :
    Calls Try.prog 41 #[.int .u64 n] w fun e w' => e = .returned (.string ⟨(natB n).toArray⟩) ∧ Chg [] w w' := by
  go_enter Try.func41, Try.ntmps41
  go_wp2
  go_loopw [0, 3] (fun x s wr => ∃ (m : Nat) (l : List UInt8), x = .int .u64 m ∧ s = .string ⟨l.toArray⟩ ∧ m < 18446744073709551616 ∧ l ++ natB m = natB n ∧ Chg [] w wr) (fun x _ _ => (intOf x).toNat)
  case atStart => exact ⟨n, [], rfl, rfl, hn, rfl, Chg.refl _ _⟩
  case round =>
    obtain ⟨m, l, rfl, rfl, hm, hl, hc⟩ := hrel
    have hlen : l.length ≤ 10 := by
      have h1 := congrArg List.length hl
      have h2 := natB_len10 (n := n) (by omega)
      simp only [List.length_append] at h1
      omega
    have HL := Lib.hid hl
    clear hl
    by_cases h : 127 < m
    · obtain ⟨c, hcc⟩ : ∃ c, c = UInt8.ofNat (128 + m % 128) := ⟨_, rfl⟩
      have hcv := run_one_byte wr (128 + (m : Int) % 128) c (by rw [hcc, toNat_ofNat (by omega)]; omega)
      have HC := Lib.hid hcc
      clear hcc
      go_wp2
      refine ⟨⟨m / 128, l ++ [c], by go_num, by simp [ByteArray.mk_append_mk], by omega, ?_, hc.alloc _⟩, by simp [intOf]; omega⟩
      rw [← HL.out, natB_ge (n := m) (by omega), HC.out]
      simp
    · obtain ⟨c, hcc⟩ : ∃ c, c = UInt8.ofNat m := ⟨_, rfl⟩
      have hcv := run_one_byte wr (m : Int) c (by rw [hcc, toNat_ofNat (by omega)])
      have HC := Lib.hid hcc
      clear hcc
      go_wp2
      go_ret
      refine ⟨?_, hc.alloc _⟩
      rw [← HL.out, natB_lt (n := m) (by omega), HC.out]
      simp [ByteArray.mk_append_mk]

set_option maxHeartbeats 400000 in
theorem ref_int (w : World) (x : Int) (h0 : -9223372036854775808 ≤ x) (h1 : x < 9223372036854775808) :
    Calls Try.prog 40 #[.int .i64 x] w fun e w' => e = .returned (.string ⟨(natB (zig x)).toArray⟩) ∧ Chg [] w w' := by
  go_enter Try.func40, Try.ntmps40
  go_wp2_with fail
  refine (ref_zig w x h0 h1).mono ?_
  rintro e w' ⟨rfl, rfl⟩
  go_wp2_with fail
  refine (ref_nat w (zig x) (by have := zig_lt h0 h1; omega)).mono ?_
  rintro e w' ⟨rfl, hc⟩
  go_wp2
  go_ret
  exact ⟨rfl, hc⟩
attribute [local go_sem] ByteArray.extract_mk

set_option maxRecDepth 100000 in
set_option maxHeartbeats 1000000 in
theorem ref_taken (w : World) (l : List UInt8) (most : Nat) (_hmost : most < 18446744073709551616) (hlen : l.length ≤ 70368744177664) :
    Calls Try.prog 26 #[.string ⟨l.toArray⟩, .int .u64 most] w fun e w' => e = .returned (.tuple #[.int .u64 (takenP most l).1, .int .i64 (takenP most l).2]) ∧ Chg [] w w' := by
  go_enter Try.func26, Try.ntmps26
  go_wp2
  go_loop [6] (fun x => ∃ k : Nat, k ≤ 10 ∧ k ≤ l.length ∧ x = .int .i64 ((k : Int) + 1) ∧ ∀ j, j < k → (hj : j < l.length) → 128 ≤ l[j].toNat) (fun x => 20 - (intOf x).toNat)
  case atStart => exact ⟨0, by omega, by omega, rfl, fun j hj => absurd hj (by omega)⟩
  case round =>
    obtain ⟨k, hk, hkl, rfl, hb⟩ := hrel
    have HB := Lib.hid hb
    clear hb
    by_cases h10 : k < 10
    · by_cases hlt : k < l.length
      · have HX := Lib.hid (show l[k]? = some l[k] from List.getElem?_eq_getElem hlt)
        by_cases hc : 127 < l[k].toNat
        · go_wp2
          refine ⟨⟨k + 1, by omega, by omega, by go_num, fun j hj hjl => ?_⟩, by simp [intOf]; omega⟩
          rcases Nat.lt_or_ge j k with h | h
          · exact HB.out j h hjl
          · obtain rfl : j = k := by omega
            omega
        · go_wp2
          go_loop [7, 8] (fun n i => ∃ m : Nat, m ≤ k + 1 ∧ i = .int .i64 ((m : Int) - 1) ∧ n = .int .u64 ((valB ((l.take (k + 1)).drop m) % 18446744073709551616 : Nat) : Int)) (fun _ i => (intOf i + 1).toNat)
          case atStart => exact ⟨k + 1, by omega, by go_num, by rw [List.drop_of_length_le (by simp; omega)]; rfl⟩
          case round =>
            obtain ⟨m, hm, rfl, rfl⟩ := hrel
            rcases m with _ | m
            · rw [List.drop_zero]
              have hk0 : (0 : Int) ≤ (k : Int) + 1 := by omega
              have hk1 : (k : Int) + 1 ≤ (l.length : Int) := by omega
              have HN := Lib.hid (rfl : valB (l.take (k + 1)) % 18446744073709551616 = valB (l.take (k + 1)) % 18446744073709551616)
              have hn : valB (l.take (k + 1)) % 18446744073709551616 < 18446744073709551616 := by omega
              generalize hnn : valB (l.take (k + 1)) % 18446744073709551616 = n at *
              have HNN := Lib.hid hnn
              clear hnn HN
              by_cases heq : natB n = l.take (k + 1)
              · have HH := Lib.hid (takenP_hit (most := most) (n := n) (k := k + 1) (l := l) (by omega) (by omega) heq)
                have hb1 : (natB n == l.take (k + 1)) = true := by simp [heq]
                clear heq
                by_cases hle : n ≤ most
                · have hle' : decide ((most : Int) < (n : Int)) = false := by simp; omega
                  go_upto_region 10 with (fail)
                  go_cut [48] (fun x wx => x = .bool false ∧ Chg [] w wx)
                  case first =>
                    go_region_held3 (fun wx => Chg [] w wx) (first | exact Chg.refl _ _ | exact (Chg.refl _ _).drew | assumption | exact Chg.trans ‹_› ‹_›) (first | (go_at_call 41; refine (ref_nat _ n hn).mono ?_; rintro e w' ⟨rfl, hc1⟩))
                    all_goals
                      go_wp2_with fail
                      go_meet
                      exact ⟨by simp; omega, by assumption⟩
                  case rest =>
                    obtain ⟨rfl, hw2⟩ := hcut
                    go_wp2
                    go_ret2
                    rw [HH.out, if_pos hle]
                    exact ⟨by simp, hw2⟩
                · have hle' : decide ((most : Int) < (n : Int)) = true := by simp; omega
                  go_upto_region 10 with (fail)
                  go_cut [48] (fun x wx => x = .bool true ∧ Chg [] w wx)
                  case first =>
                    go_region_held3 (fun wx => Chg [] w wx) (first | exact Chg.refl _ _ | exact (Chg.refl _ _).drew | assumption | exact Chg.trans ‹_› ‹_›) (first | (go_at_call 41; refine (ref_nat _ n hn).mono ?_; rintro e w' ⟨rfl, hc1⟩))
                    all_goals
                      go_wp2_with fail
                      go_meet
                      exact ⟨by simp; omega, by assumption⟩
                  case rest =>
                    obtain ⟨rfl, hw2⟩ := hcut
                    go_wp2
                    go_ret2
                    rw [HH.out, if_neg hle]
                    exact ⟨by simp, hw2⟩
              · have HH := Lib.hid (takenP_miss (most := most) hlt (fun j hj => HB.out j hj (by omega)) (by omega) (by rw [HNN.out]; exact heq))
                have hb1 : (natB n == l.take (k + 1)) = false := by simp [heq]
                clear heq
                go_upto_region 10 with (fail)
                go_cut [48] (fun x wx => x = .bool true ∧ Chg [] w wx)
                case first =>
                  first | go_region_with (go_at_call 41; refine (ref_nat _ n hn).mono ?_; rintro e w' ⟨rfl, hc1⟩) | fail
                  all_goals
                    go_wp2_with fail
                    go_meet
                    exact ⟨by simp, (Chg.refl [] w).drew.trans hc1⟩
                case rest =>
                  obtain ⟨rfl, hw2⟩ := hcut
                  go_wp2
                  go_ret2
                  rw [HH.out]
                  exact ⟨by simp, hw2⟩
            · have hd : (l.take (k + 1)).drop m = l[m]'(by omega) :: (l.take (k + 1)).drop (m + 1) := by
                rw [List.drop_eq_getElem_cons (by simp; omega)]
                simp
              have hv : valB ((l.take (k + 1)).drop m) = (l[m]'(by omega)).toNat % 128 + 128 * valB ((l.take (k + 1)).drop (m + 1)) := by rw [hd, valB_cons]
              have HV := Lib.hid hv
              clear hv hd
              generalize valB ((l.take (k + 1)).drop (m + 1)) = v at *
              have hml : m < l.length := by omega
              have hs := Lib.hid (taken_step v l[m].toNat (l[m].toNat_lt))
              go_wp2
              refine ⟨⟨m, by omega, rfl, ?_⟩, by simp [intOf]⟩
              rw [hs.out, HV.out]
      · have hout := takenP_out (most := most) HB.out (.inr (by omega))
        have HO := Lib.hid hout
        clear hout
        go_wp2
        go_ret2
        rw [HO.out]
        exact ⟨rfl, Chg.refl _ _⟩
    · have hout := takenP_out (most := most) HB.out (.inl (by omega))
      have HO := Lib.hid hout
      clear hout
      go_wp2
      go_ret2
      rw [HO.out]
      exact ⟨rfl, Chg.refl _ _⟩
end Go.Proofs.Ytgpnnfgaphcklaa
