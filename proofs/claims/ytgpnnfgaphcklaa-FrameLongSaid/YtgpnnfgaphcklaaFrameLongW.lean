/-
  The walk of the law FrameLong. Conditions: the form's own reach.
-/
import Derived.Test.YtgpnnfgaphcklaaFrameAlive
import Derived.Laws.OwnMore
namespace Go.Proofs.Ytgpnnfgaphcklaa
open Go.RowKit

theorem zeros_text (w : World) (n : Nat) (hn : n ≤ 1000000) :
    (Instr.makeSlice 39 (.int .i64 (n : Nat)) (.int .i64 (n : Nat))).run Try.prog w = .ok (.slice (some ⟨w.heap.size, 0, none⟩) n n) (w.alloc (.cells (List.replicate n (Value.int .u8 0)).toArray 5)) ∧
    (convert 39 9 (.slice (some ⟨w.heap.size, 0, none⟩) n n)).run Try.prog (w.alloc (.cells (List.replicate n (Value.int .u8 0)).toArray 5)) = .ok (.string ⟨(List.replicate n (0 : UInt8)).toArray⟩) (w.alloc (.cells (List.replicate n (Value.int .u8 0)).toArray 5)) := by
  constructor
  · obtain ⟨i0, hi0, hz0, hzs, hzb⟩ := info_parts info_u8
    have h := run_make (P := Try.prog) w 39 5 i0 (.int .u8 0) under_bytes hi0 hz0 .i64 .i64 n n (by omega) (Int.le_refl _) (by rw [hzb]; omega) (by omega)
    rw [h, hzs]
    have e : madeCells (Value.int .u8 0).cells ((n : Int).toNat * 1) = (List.replicate n (Value.int .u8 0)).toArray := by
      apply Array.toList_inj.1
      have := toList_madeCells_one (Value.int .u8 0) n
      simpa [Value.cells] using this
    rw [e]
    simp
  · refine run_string_rd (P := Try.prog) (dst := 9) (n := n) under_bytes under_u8 under_string ?_
    have := Rd.lit w (List.replicate n (Value.int .u8 0)).toArray 5 1 n n (by simp)
    simpa [u8s] using this

set_option maxRecDepth 100000 in
set_option maxHeartbeats 1000000 in
theorem law_FrameLong (w : World) (k : UInt8) (size : Int) (_h0 : -9223372036854775808 ≤ size) (_h1 : size < 9223372036854775808) :
    Calls Try.prog 14 #[.int .u8 (k.toNat : Nat), .int .i64 size] w fun e w' => e = .returned (.bool true) ∧ Chg [] w w' := by
  clear _h0 _h1
  go_enter Try.func14, Try.ntmps14
  go_wp2_with fail
  refine (law05_alive w).mono ?_
  rintro e w1 ⟨rfl, hc1⟩
  by_cases hneg : size < 0
  · have hd : decide (size < 0) = true := decide_eq_true hneg
    go_wp2
    go_ret
    exact ⟨rfl, hc1⟩
  have hd : decide (size < 0) = false := decide_eq_false hneg
  obtain ⟨n, rfl⟩ := Int.eq_ofNat_of_zero_le (show 0 ≤ size by omega)
  clear hneg hd
  by_cases hbig : 262153 < n
  · have hd : decide ((262153 : Int) < (n : Int)) = true := decide_eq_true (by omega)
    go_wp2
    go_ret
    exact ⟨rfl, hc1⟩
  have hd : decide ((262153 : Int) < (n : Int)) = false := decide_eq_false (by omega)
  obtain ⟨hmk, hcv⟩ := zeros_text w1 n (by omega)
  have hc2 := hc1.alloc (.cells (List.replicate n (Value.int .u8 0)).toArray 5)
  have hln : (List.replicate n (0 : UInt8)).length = n := List.length_replicate
  generalize w1.alloc (.cells (List.replicate n (Value.int .u8 0)).toArray 5) = w2 at *
  generalize List.replicate n (0 : UInt8) = t at *
  by_cases hlong : 262144 < n
  · have hd2 : decide ((262144 : Int) < (n : Int)) = true := decide_eq_true (by omega)
    go_wp2_with fail
    refine (frame_close_long w2 k t (by omega)).mono ?_
    rintro e w3 ⟨rfl, rfl⟩
    go_wp2
    go_ret
    exact ⟨rfl, hc2⟩
  · have hd2 : decide ((262144 : Int) < (n : Int)) = false := decide_eq_false (by omega)
    have HO := Lib.hid (openF_close k t (by omega))
    have hcl := closeB_len k t
    have hnl := natB_len10 (n := t.length) (by omega)
    have hcl2 : (closeB k t).length ≤ 1000000 := by omega
    clear hcl hnl
    go_wp2_with fail
    refine (frame_close w2 k t (by omega)).mono ?_
    rintro e w3 ⟨rfl, hc3⟩
    have hc3 := hc2.trans hc3
    generalize closeB k t = C at *
    go_wp2_with fail
    refine (frame_open w3 C hcl2).mono ?_
    rw [HO.out]
    rintro e w4 ⟨rfl, hc4⟩
    have hc4 := hc3.trans hc4
    rw [openV]
    go_wp2
    go_ret
    exact ⟨rfl, hc4⟩
end Go.Proofs.Ytgpnnfgaphcklaa
