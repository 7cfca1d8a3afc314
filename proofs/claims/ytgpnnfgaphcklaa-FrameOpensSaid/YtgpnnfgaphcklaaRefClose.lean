/-
  The walk of the reference's Close. Conditions: the form's own reach.
-/
import Derived.Test.YtgpnnfgaphcklaaRefFrame
namespace Go.Proofs.Ytgpnnfgaphcklaa
open Go.RowKit

theorem ref_nat_e' (w : World) (x : Int) (n : Nat) (hn : n < 18446744073709551616) (hx : x = (n : Int)) :
    Calls Try.prog 41 #[.int .u64 x] w fun e w' => e = .returned (.string ⟨(natB n).toArray⟩) ∧ Chg [] w w' := by
  subst hx
  exact ref_nat w n hn

set_option maxRecDepth 100000 in
set_option maxHeartbeats 200000 in
theorem ref_close (w : World) (k : UInt8) (t : List UInt8) (ht : t.length ≤ 1000000) :
    Calls Try.prog 47 #[.int .u8 (k.toNat : Nat), .string ⟨t.toArray⟩] w fun e w' => e = .returned (.string ⟨(closeB k t).toArray⟩) ∧ Chg [] w w' := by
  have HT := Lib.hid (show t.length < 18446744073709551616 by omega)
  have HW := Lib.hid (show IntKind.u64.wrap (t.length : Int) = (t.length : Int) from IntWalk.u64_in _ (by omega))
  have HN := Lib.hid (natB_len10 (n := t.length) (by omega))
  go_enter Try.func47, Try.ntmps47
  have hgl := HN.out
  have hj : ByteArray.mk #[79, 71, 1] ++ ByteArray.mk #[k] = ByteArray.mk [79, 71, 1, k].toArray := rfl
  have f1 : ¬ 9223372036854775807 < 4 + (natB t.length).length := by omega
  have f2 : ¬ 9223372036854775807 < [79, 71, 1, k].length + (natB t.length).length := by simp; omega
  have f3 : ¬ 9223372036854775807 < 4 + (natB t.length).length + t.length := by omega
  have f4 : ¬ 9223372036854775807 < [79, 71, 1, k].length + (natB t.length).length + t.length := by simp; omega
  have hcv := fun wx : World => run_one_byte wx _ k rfl
  have hcvD : ∀ wx : World, (convert 39 9 (.slice (some ⟨wx.heap.size, 0, none⟩) 1 1)).run Try.prog (wx.alloc (.cells #[.int .u8 (k.toNat : Nat)] 5)).drew = .ok (.string ⟨[k].toArray⟩) (wx.alloc (.cells #[.int .u8 (k.toNat : Nat)] 5)).drew := fun wx =>
    one_byte_at _ _ k (Blk.drew (Blk.alloc_new wx #[.int .u8 (k.toNat : Nat)] 5) |>.cell 0)
  go_wp2_with fail
  go_cut [5] (fun x wx => x = .string ⟨(headF k t).toArray⟩ ∧ Chg [] w wx)
  case first =>
    go_region_with (first | (go_at_call 41; refine (ref_nat_e' _ _ t.length HT.out HW.out).mono ?_; rintro e w' ⟨rfl, hc1⟩; (first | (have hcC := one_byte_at w' w.heap.size k (hc1.cell (show _ = some _ from (Blk.drew (Blk.alloc_new w #[.int .u8 (k.toNat : Nat)] 5)).cell 0) (by simp))) | skip)))
    all_goals
      go_wp2_with fail
      go_meet
      exact ⟨by simp [headF, markB, ByteArray.mk_append_mk], by with_reducible (repeat (first | exact Chg.refl _ _ | assumption | apply Chg.drew | apply Chg.alloc | refine Chg.trans ?_ (by assumption)))⟩
  case rest =>
    obtain ⟨rfl, hc1⟩ := hcut
    have hlH : (headF k t).length ≤ 2000000 := by rw [headF_len]; omega
    have HCL := Lib.hid (show closeB k t = headF k t ++ fourB (crcSum (headF k t)) from rfl)
    clear f1 f2 f3 f4 hcv hcvD hgl hj
    generalize headF k t = H at *
    go_wp2_with fail
    refine (ref_sum wc H (by omega)).mono ?_
    rintro e w2 ⟨rfl, rfl⟩
    have hlt := crcSum_lt H
    have h0 := u8_of1 (crcSum H)
    have h1 : IntKind.u8.wrap ((crcSum H : Int) / 256) = _ := u8_of (crcSum H) 256
    have h2 : IntKind.u8.wrap ((crcSum H : Int) / 65536) = _ := u8_of (crcSum H) 65536
    have h3 : IntKind.u8.wrap ((crcSum H : Int) / 16777216) = _ := u8_of (crcSum H) 16777216
    rw [fourB] at HCL
    generalize crcSum H = c at *
    generalize UInt8.ofNat (c % 256) = b0 at *
    generalize UInt8.ofNat (c / 256 % 256) = b1 at *
    generalize UInt8.ofNat (c / 65536 % 256) = b2 at *
    generalize UInt8.ofNat (c / 16777216 % 256) = b3 at *
    have k0 : (c : Int) % 256 = (b0.toNat : Int) := by simpa [IntKind.wrap, IntKind.bits, IntKind.signed] using h0
    have k1 : (c : Int) / 256 % 256 = (b1.toNat : Int) := by simpa [IntKind.wrap, IntKind.bits, IntKind.signed] using h1
    have k2 : (c : Int) / 65536 % 256 = (b2.toNat : Int) := by simpa [IntKind.wrap, IntKind.bits, IntKind.signed] using h2
    have hr := Rd.lit wc #[.int .u8 b0.toNat, .int .u8 b1.toNat, .int .u8 b2.toNat, .int .u8 b3.toNat] 5 1 4 4 (by simp)
    have hcv := run_string_rd (P := Try.prog) (dst := 9) under_bytes under_u8 under_string (l := [b0, b1, b2, b3]) (by simpa [u8s] using hr)
    go_wp2
    go_ret
    exact ⟨by rw [HCL.out]; simp [ByteArray.mk_append_mk], hc1.alloc _⟩
end Go.Proofs.Ytgpnnfgaphcklaa
