/-
  The walks of the rest of package quill: Int, Raw, Text; On, Shut, Raw, Nat, Int, Small, Count, Bad, Left, Over; sign.Zig and Zag. Conditions: what is written fits into memory.
-/
import Derived.Test.YtgpnnfgaphcklaaQuillNat
namespace Go.Proofs.Ytgpnnfgaphcklaa
open Go.RowKit

set_option maxHeartbeats 400000 in
theorem sign_zig (w : World) (x : Int) (h0 : -9223372036854775808 ≤ x) (h1 : x < 9223372036854775808) :
    Calls Try.prog 67 #[.int .i64 x] w fun e w' => e = .returned (.int .u64 (zig x)) ∧ w = w' := by
  go_enter Try.func67, Try.ntmps67
  go_wp2
  go_ret
  exact ⟨ret_int (zig_bits x h0 h1), rfl⟩
set_option maxHeartbeats 400000 in
theorem sign_zag (w : World) (u : Nat) (h : u < 18446744073709551616) :
    Calls Try.prog 60 #[.int .u64 u] w fun e w' => e = .returned (.int .i64 (zag u)) ∧ w = w' := by
  go_enter Try.func60, Try.ntmps60
  go_wp2
  go_ret
  exact ⟨ret_int (zag_bits u h), rfl⟩

/-- The cells of values with a sign. -/
def i64s (us : List Int) : List Value := us.map fun u : Int => Value.int .i64 u

set_option maxRecDepth 100000 in
set_option maxHeartbeats 400000 in
theorem quill_int (w : World) (q : Nat) (F : List Nat) (l : List UInt8) (ao : Option Addr) (cap : Nat) (us : List Int) (hus : ∀ u ∈ us, -9223372036854775808 ≤ u ∧ u < 9223372036854775808)
    (hq : Qul w q F l) (hr : Rd w 1 (.slice ao us.length cap) us.length (i64s us)) (hap : ∀ b ∈ abl ao, b ∉ F) (hroom : l.length + 10 * us.length + 10 ≤ 70368744177664) :
    Calls Try.prog 57 #[.pointer (some ⟨q, 0, none⟩), .slice ao us.length cap] w fun e w' => e = .returned (.tuple #[]) ∧
      ∃ F', Qul w' q F' (l ++ us.flatMap fun x => natB (zig x)) ∧ Mv F w F' w' := by
  go_enter Try.func57, Try.ntmps57
  go_wp2
  go_loopw [8] (fun i wr => ∃ k F1, k ≤ us.length ∧ i = .int .i64 (k : Nat) ∧ Qul wr q F1 (l ++ (us.take k).flatMap fun x => natB (zig x)) ∧ Mv F w F1 wr) (fun i _ => us.length - (intOf i).toNat)
  case atStart => exact ⟨0, F, Nat.zero_le _, rfl, by simpa using hq, Mv.refl _ _⟩
  case round =>
    obtain ⟨k, F1, hk, rfl, hq1, hm1⟩ := hrel
    by_cases hlt : k < us.length
    · have hr1 := hr.chg hm1.chg (by simpa using hap)
      obtain ⟨b, o, rfl, hc⟩ := hr1.addr (by omega)
      have hck := hc k (by omega)
      obtain ⟨hu0, hu1⟩ := hus us[k] (List.getElem_mem _)
      rw [i64s, List.getElem?_map, List.getElem?_eq_getElem hlt, Option.map_some] at hck
      have hlen : (l ++ (us.take k).flatMap fun x => natB (zig x)).length + 10 ≤ 70368744177664 := by
        have h1 := flat10 (us.map zig) (fun u hu => by
          obtain ⟨x, hx, rfl⟩ := List.mem_map.1 hu
          exact zig_lt (hus x hx).1 (hus x hx).2) k
        rw [← List.map_take, List.flatMap_map] at h1
        simp only [List.length_append]
        omega
      have htk : us.take (k + 1) = us.take k ++ [us[k]] := List.take_succ_eq_append_getElem hlt
      generalize us[k] = u at *
      have HTK := Lib.hid htk
      clear hr1 hr hc htk
      go_wp2_with fail
      refine (sign_zig _ u hu0 hu1).mono ?_
      rintro e w' ⟨rfl, rfl⟩
      go_wp2_with fail
      refine (quill_nat1 wr q F1 _ (zig u) (zig_lt hu0 hu1) hq1 _ rfl hlen).mono ?_
      rintro e w2 ⟨rfl, F2, hq2, hm2⟩
      go_wp2
      refine ⟨⟨k + 1, F2, by omega, by go_num, ?_, hm1.trans hm2⟩, by simp [intOf]; omega⟩
      rw [HTK.out, List.flatMap_append, List.flatMap_singleton, ← List.append_assoc]
      exact hq2
    · obtain rfl : k = us.length := by omega
      go_wp2
      go_end0
      exact ⟨rfl, F1, by simpa using hq1, hm1⟩
/-- One value, at the call's own row of one cell. -/
theorem quill_int1 (w : World) (q : Nat) (F : List Nat) (l : List UInt8) (x : Int) (h0 : -9223372036854775808 ≤ x) (h1 : x < 9223372036854775808) (hq : Qul w q F l) (b0 : Nat) (hb0 : b0 = w.heap.size) (hroom : l.length + 20 ≤ 70368744177664) :
    Calls Try.prog 57 #[.pointer (some ⟨q, 0, none⟩), .slice (some ⟨b0, 0, none⟩) 1 1] (w.alloc (.cells #[.int .i64 x] 2)) fun e w' => e = .returned (.tuple #[]) ∧
      ∃ F', Qul w' q F' (l ++ natB (zig x)) ∧ Mv F w F' w' := by
  subst hb0
  refine (quill_int (w.alloc (.cells #[.int .i64 x] 2)) q F l (some ⟨w.heap.size, 0, none⟩) 1 [x] (by simpa using ⟨h0, h1⟩) (hq.alloc _) (Rd.lit1 _ _ _ _) (fun b hb => ?_) (by simp; omega)).mono ?_
  · have hlt := hq.lt
    simp only [abl_some, List.mem_singleton] at hb
    intro hF
    have := hlt b hF
    omega
  · rintro e w' ⟨rfl, F', h1, h2⟩
    exact ⟨rfl, F', by simpa using h1, (Mv.alloc F w _).trans h2⟩

theorem under_string : Try.prog.underlying 9 = some .string := by kernel_rfl
theorem under_u8 : Try.prog.underlying 5 = some (.int .u8) := by kernel_rfl

set_option maxHeartbeats 400000 in
theorem quill_raw (w : World) (q : Nat) (F : List Nat) (l s : List UInt8) (hq : Qul w q F l) (hroom : l.length + s.length ≤ 70368744177664) :
    Calls Try.prog 35 #[.pointer (some ⟨q, 0, none⟩), .string ⟨s.toArray⟩] w fun e w' => e = .returned (.tuple #[]) ∧
      ∃ F', Qul w' q F' (l ++ s) ∧ Mv F w F' w' := by
  obtain ⟨a2, c2, rfl, hb2, ho2⟩ := hq
  have hc2 := hb2.cell 0
  have hq2 : q ∉ abl a2 := by simpa using ho2.ne_blk hb2 (by decide)
  go_enter Try.func35, Try.ntmps35
  go_wp2_with (at_builtin; go_must (refine wpList_append_src _ rfl (.tmp 8) (.tmp 9) 39 9 rfl 5 (.int .u8 0) 1 1 under_bytes info_u8 rfl (by decide) (.slice a2 l.length c2) l.length (u8s l) rfl ho2 (.string ⟨s.toArray⟩) s.length (u8s s) rfl (Src.of_string under_string s) (u8s_oneCell _) (by unfold maxLen; omega) (by omega) ?_; intro a3 c3 w3 ho3 hg3 hf3; have hb3 := hb2.chg hg3 (by simpa using hq2); have hc3 := hb3.cell 0; have hz3 := hb3.free 0))
  have R := Qul.push hb2 ho2 ho3 (x := s) rfl (by simpa using hg3) (by simpa using hf3)
  go_end0
  exact ⟨rfl, _, R.1, R.2⟩

set_option maxHeartbeats 400000 in
theorem quill_text (w : World) (q : Nat) (F : List Nat) (l : List UInt8) (hq : Qul w q F l) :
    Calls Try.prog 28 #[.pointer (some ⟨q, 0, none⟩)] w fun e w' => e = .returned (.string ⟨l.toArray⟩) ∧ w = w' := by
  obtain ⟨a2, c2, rfl, hb2, ho2⟩ := hq
  have hc2 := hb2.cell 0
  have hcv := run_string_rd (P := Try.prog) (dst := 9) under_bytes under_u8 under_string ho2.rd
  go_enter Try.func28, Try.ntmps28
  go_wp2
  go_ret
  exact ⟨rfl, rfl⟩

/-- Block e is an eye: of the bytes that are left, or a bad one. -/
def EyeAt (w : World) (e : Nat) (st : Option (List UInt8)) : Prop := Blk w e #[.string ⟨(st.getD []).toArray⟩, .bool st.isNone] 95

theorem EyeAt.chg {w w1 : World} {e : Nat} {F : List Nat} {st : Option (List UInt8)} (h : EyeAt w e st) (k : Chg F w w1) (hn : e ∉ F) : EyeAt w1 e st := Blk.chg h k hn

set_option maxHeartbeats 400000 in
theorem eye_on (w : World) (s : List UInt8) :
    Calls Try.prog 24 #[.string ⟨s.toArray⟩] w fun r w' => r = .returned (.pointer (some ⟨w.heap.size, 0, none⟩)) ∧ EyeAt w' w.heap.size (some s) ∧ Chg [] w w' := by
  go_enter Try.func24, Try.ntmps24
  go_wp2
  go_ret
  exact ⟨rfl, Blk.alloc_new _ _ _, (Chg.refl _ _).alloc _⟩

set_option maxHeartbeats 400000 in
theorem eye_shut (w : World) (e : Nat) (st : Option (List UInt8)) (he : EyeAt w e st) :
    Calls Try.prog 43 #[.pointer (some ⟨e, 0, none⟩)] w fun r w' => r = .returned (.tuple #[]) ∧ EyeAt w' e none ∧ Chg [e] w w' := by
  have c0 := he.cell 0
  have c1 := he.cell 1
  have z0 := he.free 0
  have z1 := he.free 1
  go_enter Try.func43, Try.ntmps43
  go_wp2
  go_end0
  exact ⟨rfl, by simpa [EyeAt] using (he.setCell 0 (.string ⟨#[]⟩)).setCell 1 (.bool true), ((Chg.refl _ _).setCell (.inl (by simp)) _).setCell (.inl (by simp)) _⟩
theorem eye_shut_nil (w : World) :
    Calls Try.prog 43 #[.pointer none] w fun r w' => r = .returned (.tuple #[]) ∧ w = w' := by
  go_enter Try.func43, Try.ntmps43
  go_wp2
  go_end0
  exact ⟨rfl, rfl⟩

attribute [local go_sem] ByteArray.extract_mk
set_option maxHeartbeats 400000 in
theorem eye_raw (w : World) (e : Nat) (st : Option (List UInt8)) (n : Int) (he : EyeAt w e st) (hl : ∀ l, st = some l → l.length ≤ 70368744177664) :
    Calls Try.prog 38 #[.pointer (some ⟨e, 0, none⟩), .int .i64 n] w fun r w' => r = .returned (.string ⟨(eRaw n st).1.toArray⟩) ∧ EyeAt w' e (eRaw n st).2 ∧ Chg [e] w w' := by
  have bad : ∀ st' : Option (List UInt8), EyeAt ((w.setCell ⟨e, 0, none⟩ (.string ⟨#[]⟩)).setCell ⟨e, 1, none⟩ (.bool true)) e none ∧ Chg [e] w ((w.setCell ⟨e, 0, none⟩ (.string ⟨#[]⟩)).setCell ⟨e, 1, none⟩ (.bool true)) := fun _ =>
    ⟨by simpa [EyeAt] using (he.setCell 0 (.string ⟨#[]⟩)).setCell 1 (.bool true), ((Chg.refl _ _).setCell (.inl (by simp)) _).setCell (.inl (by simp)) _⟩
  have HB := Lib.hid bad
  clear bad
  have c0 := he.cell 0
  have c1 := he.cell 1
  have z0 := he.free 0
  have z1 := he.free 1
  cases st with
  | none =>
    go_enter Try.func38, Try.ntmps38
    go_wp2
    go_ret
    exact ⟨rfl, HB.out none⟩
  | some l =>
    have hl' := hl l rfl
    clear hl
    by_cases h0 : 0 ≤ n
    · by_cases h1 : n ≤ l.length
      · have HF := Lib.hid (show eRaw n (some l) = (l.take n.toNat, some (l.drop n.toNat)) from if_pos ⟨h0, h1⟩)
        obtain ⟨n, rfl⟩ := Int.eq_ofNat_of_zero_le h0
        have h2 : n ≤ l.length := by omega
        go_enter Try.func38, Try.ntmps38
        go_wp2
        go_ret
        rw [HF.out]
        refine ⟨by simp, ?_, (Chg.refl _ _).setCell (.inl (by simp)) _⟩
        have := he.setCell 0 (.string ⟨(l.drop n).toArray⟩)
        rw [show (l.drop n).take (l.length - n) = l.drop n from List.take_of_length_le (by simp)]
        simpa [EyeAt] using this
      · have HF := Lib.hid (show eRaw n (some l) = ([], none) from if_neg (by omega))
        obtain ⟨n, rfl⟩ := Int.eq_ofNat_of_zero_le h0
        have h2 : ¬ n ≤ l.length := by omega
        go_enter Try.func38, Try.ntmps38
        go_wp2
        go_ret
        rw [HF.out]
        exact ⟨rfl, HB.out none⟩
    · have HF := Lib.hid (show eRaw n (some l) = ([], none) from if_neg (by omega))
      have h2 : n < 0 := by omega
      go_enter Try.func38, Try.ntmps38
      go_wp2
      go_ret
      rw [HF.out]
      exact ⟨rfl, HB.out none⟩
theorem eye_raw_nil (w : World) (n : Int) :
    Calls Try.prog 38 #[.pointer none, .int .i64 n] w fun r w' => r = .returned (.string ⟨#[]⟩) ∧ w = w' := by
  go_enter Try.func38, Try.ntmps38
  go_wp2
  go_ret
  exact ⟨rfl, rfl⟩

theorem eye_bad (w : World) (e : Nat) (st : Option (List UInt8)) (he : EyeAt w e st) :
    Calls Try.prog 29 #[.pointer (some ⟨e, 0, none⟩)] w fun r w' => r = .returned (.bool st.isNone) ∧ w = w' := by
  have c1 := he.cell 1
  go_enter Try.func29, Try.ntmps29
  go_wp2
  go_ret
  exact ⟨rfl, rfl⟩
theorem eye_bad_nil (w : World) :
    Calls Try.prog 29 #[.pointer none] w fun r w' => r = .returned (.bool true) ∧ w = w' := by
  go_enter Try.func29, Try.ntmps29
  go_wp2
  go_ret
  exact ⟨rfl, rfl⟩
theorem eye_left (w : World) (e : Nat) (st : Option (List UInt8)) (he : EyeAt w e st) :
    Calls Try.prog 37 #[.pointer (some ⟨e, 0, none⟩)] w fun r w' => r = .returned (.int .i64 (st.getD []).length) ∧ w = w' := by
  have c0 := he.cell 0
  go_enter Try.func37, Try.ntmps37
  go_wp2
  go_ret
  exact ⟨rfl, rfl⟩
theorem eye_left_nil (w : World) :
    Calls Try.prog 37 #[.pointer none] w fun r w' => r = .returned (.int .i64 0) ∧ w = w' := by
  go_enter Try.func37, Try.ntmps37
  go_wp2
  go_ret
  exact ⟨rfl, rfl⟩
theorem eye_over (w : World) (e : Nat) (st : Option (List UInt8)) (he : EyeAt w e st) :
    Calls Try.prog 30 #[.pointer (some ⟨e, 0, none⟩)] w fun r w' => r = .returned (.bool (st == some [])) ∧ w = w' := by
  have c0 := he.cell 0
  have c1 := he.cell 1
  rcases st with _ | _ | ⟨a, l⟩
  all_goals
    go_enter Try.func30, Try.ntmps30
    go_wp2
    go_ret
    exact ⟨rfl, rfl⟩
theorem eye_over_nil (w : World) :
    Calls Try.prog 30 #[.pointer none] w fun r w' => r = .returned (.bool false) ∧ w = w' := by
  go_enter Try.func30, Try.ntmps30
  go_wp2
  go_ret
  exact ⟨rfl, rfl⟩
end Go.Proofs.Ytgpnnfgaphcklaa
