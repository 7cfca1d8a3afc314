/-
  The walk of (*quill.Quill).Nat: numbers' bytes are put behind what was written. Conditions: what is written fits into memory.
  The walks of the rest of package quill: Int, Raw, Text; On, Shut, Raw, Nat, Int, Small, Count, Bad, Left, Over; sign.Zig and Zag. Conditions: what is written fits into memory.
-/
import Derived.Test.YtmehcfocfljoeaaGreatDoorProg
import Derived.Test.YtmehcfocfljoeaaGreatDoorSlotsErrorsB1
import Derived.Test.YtmehcfocfljoeaaGreatDoorSlotsErrorsB12
import Derived.Handy
import Derived.Deep.DeepMust
namespace Go.Proofs.YtmehcfocfljoeaaGreatDoor
open Go.RowKit

/-- Block q is a Quill that holds these bytes; F: its blocks. -/
def Qul (w : World) (q : Nat) (F : List Nat) (l : List UInt8) : Prop :=
  ∃ ao cap, F = q :: abl ao ∧ Blk w q #[.slice ao l.length cap] 97 ∧ Own w 5 1 (.slice ao l.length cap) l.length (u8s l)

theorem under_bytes : Tryz.prog.underlying 52 = some (.slice 5) := by kernel_rfl
theorem info_u8 : (Tryz.prog.info? 5).map (fun i => (i.zero, i.size, i.bytes)) = some (some (.int .u8 0), 1, 1) := by kernel_rfl

/-- Behind an append and the store of what came: a Quill that holds more. -/
theorem Qul.push {w w3 : World} {q : Nat} {a2 a3 : Option Addr} {c2 c3 m : Nat} {l2 x : List UInt8} (hb : Blk w q #[.slice a2 l2.length c2] 97) (ho : Own w 5 1 (.slice a2 l2.length c2) l2.length (u8s l2))
    (ho3 : Own w3 5 1 (.slice a3 (l2.length + m) c3) (l2.length + m) (u8s l2 ++ u8s x)) (hm : x.length = m) (hch : Chg (abl a2) w w3) (hf : ∀ b ∈ abl a3, b ∈ abl a2 ∨ w.heap.size ≤ b) :
    Qul (w3.setCell ⟨q, 0, none⟩ (.slice a3 (l2.length + m) c3)) q (q :: abl a3) (l2 ++ x) ∧ Mv (q :: abl a2) w (q :: abl a3) (w3.setCell ⟨q, 0, none⟩ (.slice a3 (l2.length + m) c3)) := by
  subst hm
  have hq2 : q ∉ abl a2 := by simpa using ho.ne_blk hb (by decide)
  have hq3 : q ∉ abl a3 := fun h => by
    rcases hf q h with h1 | h1
    · exact hq2 h1
    · have := hb.lt; omega
  have hb3 : Blk w3 q #[.slice a2 l2.length c2] 97 := hb.chg hch hq2
  refine ⟨⟨a3, c3, rfl, ?_, ?_⟩, ⟨(hch.mono (fun b hb => .inl (by simp [hb]))).setCell (.inl (by simp)) _, fun b hb => ?_⟩⟩
  · have := hb3.setCell 0 (.slice a3 (l2.length + x.length) c3)
    simpa using this
  · have := ho3.chg (F := [q]) ((Chg.refl [q] w3).setCell (a := ⟨q, 0, none⟩) (.inl (by simp)) (.slice a3 (l2.length + x.length) c3)) (fun b hb => by
      simp only [blkOf_slice] at hb
      simp only [List.mem_singleton]
      intro h; subst h; exact hq3 ‹_›)
    simpa using this
  · rcases List.mem_cons.1 hb with rfl | hb
    · exact .inl (by simp)
    · rcases hf b hb with h | h
      · exact .inl (by simp [h])
      · exact .inr h

theorem flat10 (us : List Nat) (h : ∀ u ∈ us, u < 2 ^ 64) (k : Nat) : ((us.take k).flatMap natB).length ≤ 10 * k := by
  have gen : ∀ vs : List Nat, (∀ u ∈ vs, u < 2 ^ 64) → (vs.flatMap natB).length ≤ 10 * vs.length := by
    intro vs
    induction vs with
    | nil => intro _; simp
    | cons a r ih =>
      intro hv
      have h1 := natB_len10 (hv a (by simp))
      have h2 := ih (fun u hu => hv u (by simp [hu]))
      simp only [List.flatMap_cons, List.length_append, List.length_cons]
      omega
  have h1 := gen (us.take k) (fun u hu => h u (List.mem_of_mem_take hu))
  have h2 : (us.take k).length ≤ k := List.length_take_le _ _
  omega

set_option maxRecDepth 100000 in
set_option maxHeartbeats 400000 in
theorem quill_nat (w : World) (q : Nat) (F : List Nat) (l : List UInt8) (ao : Option Addr) (cap : Nat) (us : List Nat) (hus : ∀ u ∈ us, u < 2 ^ 64)
    (hq : Qul w q F l) (hr : Rd w 1 (.slice ao us.length cap) us.length (u64s us)) (hap : ∀ b ∈ abl ao, b ∉ F) (hroom : l.length + 10 * us.length ≤ 70368744177664) :
    Calls Tryz.prog 64 #[.pointer (some ⟨q, 0, none⟩), .slice ao us.length cap] w fun e w' => e = .returned (.tuple #[]) ∧
      ∃ F', Qul w' q F' (l ++ us.flatMap natB) ∧ Mv F w F' w' := by
  go_enter Tryz.func64, Tryz.ntmps64
  go_wp2
  go_loopw [5, 8] (fun _ i wr => ∃ k F1, k ≤ us.length ∧ i = .int .i64 (k : Nat) ∧ Qul wr q F1 (l ++ (us.take k).flatMap natB) ∧ Mv F w F1 wr) (fun _ i _ => us.length - (intOf i).toNat)
  case atStart => exact ⟨0, F, Nat.zero_le _, rfl, by simpa using hq, Mv.refl _ _⟩
  case round =>
    obtain ⟨k, F1, hk, rfl, hq1, hm1⟩ := hrel
    by_cases hlt : k < us.length
    · have hr1 := hr.chg hm1.chg (by simpa using hap)
      obtain ⟨b, o, rfl, hc⟩ := hr1.addr (by omega)
      have hck := hc k (by omega)
      have hu := hus us[k] (List.getElem_mem _)
      rw [u64s, List.getElem?_map, List.getElem?_eq_getElem hlt, Option.map_some] at hck
      generalize hgu : us[k] = u at *
      clear hr1 hr hc
      go_wp2
      have htk : us.take (k + 1) = us.take k ++ [u] := by rw [List.take_succ_eq_append_getElem hlt, hgu]
      have hlen : (l ++ (us.take k).flatMap natB).length + 10 ≤ 70368744177664 := by
        have := flat10 us hus k
        simp only [List.length_append]
        omega
      have HTK := Lib.hid htk
      clear htk hgu
      obtain ⟨wo, rfl⟩ : ∃ wo : World, wo = wr := ⟨_, rfl⟩
      go_loopw [5] (fun x wi => ∃ m F2 l2, x = .int .u64 (m : Nat) ∧ m < 2 ^ 64 ∧ Qul wi q F2 l2 ∧ Mv F1 wo F2 wi ∧ l2 ++ natB m = l ++ (us.take k).flatMap natB ++ natB u) (fun x _ => (intOf x).toNat)
      case atStart => exact ⟨u, F1, _, rfl, hu, hq1, Mv.refl _ _, rfl⟩
      case round =>
        obtain ⟨m, F2, l2, rfl, hm, hq2, hm2, hl2⟩ := hrel
        have HL : Hid (l2 ++ natB m = l ++ (us.take k).flatMap natB ++ natB u) := hl2
        have hlen2 : l2.length ≤ 70368744177664 := by
          have h1 := congrArg List.length hl2
          have h2 := natB_len10 hu
          have h3 := natB_pos m
          simp only [List.length_append] at h1 hlen
          omega
        clear hl2
        obtain ⟨a2, c2, rfl, hb2, ho2⟩ := hq2
        have hc2 := hb2.cell 0
        have hq2 : q ∉ abl a2 := by simpa using ho2.ne_blk hb2 (by decide)
        by_cases hge : 128 ≤ m
        · obtain ⟨c, hc⟩ : ∃ c, c = UInt8.ofNat (128 + m % 128) := ⟨_, rfl⟩
          have hor := or_128 m
          rw [← hc] at hor
          have HC := Lib.hid hc
          clear hc
          go_wp2_with (at_builtin; go_must (refine wpList_append_src _ rfl (.tmp 18) (.tmp 22) 52 52 rfl 5 (.int .u8 0) 1 1 under_bytes info_u8 rfl (by decide) (.slice a2 l2.length c2) l2.length (u8s l2) rfl (ho2.alloc _) _ 1 (u8s [c]) rfl (Src.of_rd under_bytes (Rd.lit1 _ _ _ _)) (u8s_oneCell _) (by unfold maxLen; omega) (by omega) ?_; intro a3 c3 w3 ho3 hg3 hf3; have hb3 := (hb2.alloc _).chg hg3 (by simpa using hq2); have hc3 := hb3.cell 0; have hz3 := hb3.free 0))
          have R := Qul.push hb2 ho2 ho3 (x := [c]) rfl (((Chg.refl (abl a2) wr).alloc _).trans (by simpa using hg3)) (fun b hb => by rcases hf3 b hb with h | h; exact .inl (by simpa using h); right; simp at h; omega)
          refine ⟨⟨m / 128, _, _, by go_num, by omega, R.1, hm2.trans R.2, ?_⟩, by simp [intOf]; omega⟩
          rw [← HL.out, natB_ge hge, HC.out]
          simp
        · obtain ⟨c, hc⟩ : ∃ c, c = UInt8.ofNat m := ⟨_, rfl⟩
          have hR : Rd (wr.alloc (.cells #[.int .u8 (m : Int)] 5)) 1 (.slice (some ⟨wr.heap.size, 0, none⟩) 1 1) 1 (u8s [c]) := by
            rw [show u8s [c] = [.int .u8 (m : Int)] from by rw [hc, u8s, List.map_singleton, toNat_ofNat (by omega)]]
            exact Rd.lit1 _ _ _ _
          have HC := Lib.hid hc
          clear hc
          go_wp2_with (at_builtin; go_must (refine wpList_append_src _ rfl (.tmp 32) (.tmp 35) 52 52 rfl 5 (.int .u8 0) 1 1 under_bytes info_u8 rfl (by decide) (.slice a2 l2.length c2) l2.length (u8s l2) rfl (ho2.alloc _) _ 1 (u8s [c]) rfl (Src.of_rd under_bytes hR) (u8s_oneCell _) (by unfold maxLen; omega) (by omega) ?_; intro a3 c3 w3 ho3 hg3 hf3; have hb3 := (hb2.alloc _).chg hg3 (by simpa using hq2); have hc3 := hb3.cell 0; have hz3 := hb3.free 0))
          have R := Qul.push hb2 ho2 ho3 (x := [c]) rfl (((Chg.refl (abl a2) wr).alloc _).trans (by simpa using hg3)) (fun b hb => by rcases hf3 b hb with h | h; exact .inl (by simpa using h); right; simp at h; omega)
          refine ⟨⟨k + 1, _, by omega, by go_num, ?_, (hm1.trans hm2).trans R.2⟩, by simp [intOf]; omega⟩
          have e : l ++ (us.take (k + 1)).flatMap natB = l2 ++ [c] := by
            rw [HTK.out, List.flatMap_append, List.flatMap_singleton, ← List.append_assoc, ← HL.out, natB_lt (by omega), HC.out]
          rw [e]
          exact R.1
    · obtain rfl : k = us.length := by omega
      go_wp2
      go_end0
      exact ⟨rfl, F1, by simpa using hq1, hm1⟩
theorem Qul.chg {w w1 : World} {q : Nat} {F G : List Nat} {l : List UInt8} (h : Qul w q F l) (k : Chg G w w1) (hn : ∀ b ∈ F, b ∉ G) : Qul w1 q F l := by
  obtain ⟨ao, cap, rfl, hb, ho⟩ := h
  exact ⟨ao, cap, rfl, hb.chg k (hn q (by simp)), ho.chg k (fun b hb => hn b (by simpa using .inr (by simpa using hb)))⟩
theorem Qul.alloc {w : World} {q : Nat} {F : List Nat} {l : List UInt8} (h : Qul w q F l) (o : Obj) : Qul (w.alloc o) q F l := h.chg ((Chg.refl [] w).alloc o) (by simp)
theorem Qul.lt {w : World} {q : Nat} {F : List Nat} {l : List UInt8} (h : Qul w q F l) : ∀ b ∈ F, b < w.heap.size := by
  obtain ⟨ao, cap, rfl, hb, ho⟩ := h
  intro b hb'
  rcases List.mem_cons.1 hb' with rfl | h1
  · exact hb.lt
  · exact ho.lt b (by simpa using h1)

/-- One number, at the call's own row of one cell. -/
theorem quill_nat1 (w : World) (q : Nat) (F : List Nat) (l : List UInt8) (u : Nat) (hu : u < 18446744073709551616) (hq : Qul w q F l) (b0 : Nat) (hb0 : b0 = w.heap.size) (hroom : l.length + 10 ≤ 70368744177664) :
    Calls Tryz.prog 64 #[.pointer (some ⟨q, 0, none⟩), .slice (some ⟨b0, 0, none⟩) 1 1] (w.alloc (.cells #[.int .u64 u] 23)) fun e w' => e = .returned (.tuple #[]) ∧
      ∃ F', Qul w' q F' (l ++ natB u) ∧ Mv F w F' w' := by
  subst hb0
  refine (quill_nat (w.alloc (.cells #[.int .u64 u] 23)) q F l (some ⟨w.heap.size, 0, none⟩) 1 [u] (by simpa using hu) (hq.alloc _) (Rd.lit1 _ _ _ _) (fun b hb => ?_) (by simpa using hroom)).mono ?_
  · have hlt := hq.lt
    simp only [abl_some, List.mem_singleton] at hb
    intro hF
    have := hlt b hF
    omega
  · rintro e w' ⟨rfl, F', h1, h2⟩
    exact ⟨rfl, F', by simpa using h1, (Mv.alloc F w _).trans h2⟩
end Go.Proofs.YtmehcfocfljoeaaGreatDoor

namespace Go.Proofs.YtmehcfocfljoeaaGreatDoor
open Go.RowKit

set_option maxHeartbeats 400000 in
theorem sign_zig (w : World) (x : Int) (h0 : -9223372036854775808 ≤ x) (h1 : x < 9223372036854775808) :
    Calls Tryz.prog 276 #[.int .i64 x] w fun e w' => e = .returned (.int .u64 (zig x)) ∧ w = w' := by
  go_enter Tryz.func276, Tryz.ntmps276
  go_wp2
  go_ret
  exact ⟨ret_int (zig_bits x h0 h1), rfl⟩
set_option maxHeartbeats 400000 in
theorem sign_zag (w : World) (u : Nat) (h : u < 18446744073709551616) :
    Calls Tryz.prog 140 #[.int .u64 u] w fun e w' => e = .returned (.int .i64 (zag u)) ∧ w = w' := by
  go_enter Tryz.func140, Tryz.ntmps140
  go_wp2
  go_ret
  exact ⟨ret_int (zag_bits u h), rfl⟩

/-- The cells of values with a sign. -/
def i64s (us : List Int) : List Value := us.map fun u : Int => Value.int .i64 u

set_option maxRecDepth 100000 in
set_option maxHeartbeats 400000 in
theorem quill_int (w : World) (q : Nat) (F : List Nat) (l : List UInt8) (ao : Option Addr) (cap : Nat) (us : List Int) (hus : ∀ u ∈ us, -9223372036854775808 ≤ u ∧ u < 9223372036854775808)
    (hq : Qul w q F l) (hr : Rd w 1 (.slice ao us.length cap) us.length (i64s us)) (hap : ∀ b ∈ abl ao, b ∉ F) (hroom : l.length + 10 * us.length + 10 ≤ 70368744177664) :
    Calls Tryz.prog 272 #[.pointer (some ⟨q, 0, none⟩), .slice ao us.length cap] w fun e w' => e = .returned (.tuple #[]) ∧
      ∃ F', Qul w' q F' (l ++ us.flatMap fun x => natB (zig x)) ∧ Mv F w F' w' := by
  go_enter Tryz.func272, Tryz.ntmps272
  go_wp2
  go_loopw [8] (fun i wr => ∃ k F1, k ≤ us.length ∧ i = .int .i64 (k : Nat) ∧ Qul wr q F1 (l ++ (us.take k).flatMap fun x => natB (zig x)) ∧ Mv F w F1 wr) (fun i _ => us.length - (intOf i).toNat)
  case atStart => exact ⟨0, F, Nat.zero_le _, rfl, by simpa using hq, Mv.refl _ _⟩
  case round =>
    obtain ⟨k, F1, hk, rfl, hq1, hm1⟩ := hrel
    by_cases hlt : k < us.length
    · have hr1 := hr.chg hm1.chg (by simpa using hap)
      obtain ⟨b, o, rfl, hc⟩ := hr1.addr (by omega)
      have hck := hc k (by omega)
      obtain ⟨hu0, hu1⟩ := hus us[k] (List.getElem_mem _)
      rw [i64s, List.getElem?_map, List.getElem?_eq_getElem hlt, Option.map_some] at hck
      have hlen : (l ++ (us.take k).flatMap fun x => natB (zig x)).length + 10 ≤ 70368744177664 := by
        have h1 := flat10 (us.map zig) (fun u hu => by
          obtain ⟨x, hx, rfl⟩ := List.mem_map.1 hu
          exact zig_lt (hus x hx).1 (hus x hx).2) k
        rw [← List.map_take, List.flatMap_map] at h1
        simp only [List.length_append]
        omega
      have htk : us.take (k + 1) = us.take k ++ [us[k]] := List.take_succ_eq_append_getElem hlt
      generalize us[k] = u at *
      have HTK := Lib.hid htk
      clear hr1 hr hc htk
      go_wp2_with fail
      refine (sign_zig _ u hu0 hu1).mono ?_
      rintro e w' ⟨rfl, rfl⟩
      go_wp2_with fail
      refine (quill_nat1 wr q F1 _ (zig u) (zig_lt hu0 hu1) hq1 _ rfl hlen).mono ?_
      rintro e w2 ⟨rfl, F2, hq2, hm2⟩
      go_wp2
      refine ⟨⟨k + 1, F2, by omega, by go_num, ?_, hm1.trans hm2⟩, by simp [intOf]; omega⟩
      rw [HTK.out, List.flatMap_append, List.flatMap_singleton, ← List.append_assoc]
      exact hq2
    · obtain rfl : k = us.length := by omega
      go_wp2
      go_end0
      exact ⟨rfl, F1, by simpa using hq1, hm1⟩
/-- One value, at the call's own row of one cell. -/
theorem quill_int1 (w : World) (q : Nat) (F : List Nat) (l : List UInt8) (x : Int) (h0 : -9223372036854775808 ≤ x) (h1 : x < 9223372036854775808) (hq : Qul w q F l) (b0 : Nat) (hb0 : b0 = w.heap.size) (hroom : l.length + 20 ≤ 70368744177664) :
    Calls Tryz.prog 272 #[.pointer (some ⟨q, 0, none⟩), .slice (some ⟨b0, 0, none⟩) 1 1] (w.alloc (.cells #[.int .i64 x] 2)) fun e w' => e = .returned (.tuple #[]) ∧
      ∃ F', Qul w' q F' (l ++ natB (zig x)) ∧ Mv F w F' w' := by
  subst hb0
  refine (quill_int (w.alloc (.cells #[.int .i64 x] 2)) q F l (some ⟨w.heap.size, 0, none⟩) 1 [x] (by simpa using ⟨h0, h1⟩) (hq.alloc _) (Rd.lit1 _ _ _ _) (fun b hb => ?_) (by simp; omega)).mono ?_
  · have hlt := hq.lt
    simp only [abl_some, List.mem_singleton] at hb
    intro hF
    have := hlt b hF
    omega
  · rintro e w' ⟨rfl, F', h1, h2⟩
    exact ⟨rfl, F', by simpa using h1, (Mv.alloc F w _).trans h2⟩

theorem under_string : Tryz.prog.underlying 9 = some .string := by kernel_rfl
theorem under_u8 : Tryz.prog.underlying 5 = some (.int .u8) := by kernel_rfl

set_option maxHeartbeats 400000 in
theorem quill_raw (w : World) (q : Nat) (F : List Nat) (l s : List UInt8) (hq : Qul w q F l) (hroom : l.length + s.length ≤ 70368744177664) :
    Calls Tryz.prog 63 #[.pointer (some ⟨q, 0, none⟩), .string ⟨s.toArray⟩] w fun e w' => e = .returned (.tuple #[]) ∧
      ∃ F', Qul w' q F' (l ++ s) ∧ Mv F w F' w' := by
  obtain ⟨a2, c2, rfl, hb2, ho2⟩ := hq
  have hc2 := hb2.cell 0
  have hq2 : q ∉ abl a2 := by simpa using ho2.ne_blk hb2 (by decide)
  go_enter Tryz.func63, Tryz.ntmps63
  go_wp2_with (at_builtin; go_must (refine wpList_append_src _ rfl (.tmp 8) (.tmp 9) 52 9 rfl 5 (.int .u8 0) 1 1 under_bytes info_u8 rfl (by decide) (.slice a2 l.length c2) l.length (u8s l) rfl ho2 (.string ⟨s.toArray⟩) s.length (u8s s) rfl (Src.of_string under_string s) (u8s_oneCell _) (by unfold maxLen; omega) (by omega) ?_; intro a3 c3 w3 ho3 hg3 hf3; have hb3 := hb2.chg hg3 (by simpa using hq2); have hc3 := hb3.cell 0; have hz3 := hb3.free 0))
  have R := Qul.push hb2 ho2 ho3 (x := s) rfl (by simpa using hg3) (by simpa using hf3)
  go_end0
  exact ⟨rfl, _, R.1, R.2⟩

set_option maxHeartbeats 400000 in
theorem quill_text (w : World) (q : Nat) (F : List Nat) (l : List UInt8) (hq : Qul w q F l) :
    Calls Tryz.prog 43 #[.pointer (some ⟨q, 0, none⟩)] w fun e w' => e = .returned (.string ⟨l.toArray⟩) ∧ w = w' := by
  obtain ⟨a2, c2, rfl, hb2, ho2⟩ := hq
  have hc2 := hb2.cell 0
  have hcv := run_string_rd (P := Tryz.prog) (dst := 9) under_bytes under_u8 under_string ho2.rd
  go_enter Tryz.func43, Tryz.ntmps43
  go_wp2
  go_ret
  exact ⟨rfl, rfl⟩

/-- Block e is an eye: of the bytes that are left, or a bad one. -/
def EyeAt (w : World) (e : Nat) (st : Option (List UInt8)) : Prop := Blk w e #[.string ⟨(st.getD []).toArray⟩, .bool st.isNone] 178

theorem EyeAt.chg {w w1 : World} {e : Nat} {F : List Nat} {st : Option (List UInt8)} (h : EyeAt w e st) (k : Chg F w w1) (hn : e ∉ F) : EyeAt w1 e st := Blk.chg h k hn

set_option maxHeartbeats 400000 in
theorem eye_on (w : World) (s : List UInt8) :
    Calls Tryz.prog 47 #[.string ⟨s.toArray⟩] w fun r w' => r = .returned (.pointer (some ⟨w.heap.size, 0, none⟩)) ∧ EyeAt w' w.heap.size (some s) ∧ Chg [] w w' := by
  go_enter Tryz.func47, Tryz.ntmps47
  go_wp2
  go_ret
  exact ⟨rfl, Blk.alloc_new _ _ _, (Chg.refl _ _).alloc _⟩

set_option maxHeartbeats 400000 in
theorem eye_shut (w : World) (e : Nat) (st : Option (List UInt8)) (he : EyeAt w e st) :
    Calls Tryz.prog 106 #[.pointer (some ⟨e, 0, none⟩)] w fun r w' => r = .returned (.tuple #[]) ∧ EyeAt w' e none ∧ Chg [e] w w' := by
  have c0 := he.cell 0
  have c1 := he.cell 1
  have z0 := he.free 0
  have z1 := he.free 1
  go_enter Tryz.func106, Tryz.ntmps106
  go_wp2
  go_end0
  exact ⟨rfl, by simpa [EyeAt] using (he.setCell 0 (.string ⟨#[]⟩)).setCell 1 (.bool true), ((Chg.refl _ _).setCell (.inl (by simp)) _).setCell (.inl (by simp)) _⟩
theorem eye_shut_nil (w : World) :
    Calls Tryz.prog 106 #[.pointer none] w fun r w' => r = .returned (.tuple #[]) ∧ w = w' := by
  go_enter Tryz.func106, Tryz.ntmps106
  go_wp2
  go_end0
  exact ⟨rfl, rfl⟩

attribute [local go_sem] ByteArray.extract_mk
set_option maxHeartbeats 400000 in
theorem eye_raw (w : World) (e : Nat) (st : Option (List UInt8)) (n : Int) (he : EyeAt w e st) (hl : ∀ l, st = some l → l.length ≤ 70368744177664) :
    Calls Tryz.prog 73 #[.pointer (some ⟨e, 0, none⟩), .int .i64 n] w fun r w' => r = .returned (.string ⟨(eRaw n st).1.toArray⟩) ∧ EyeAt w' e (eRaw n st).2 ∧ Chg [e] w w' := by
  have bad : ∀ st' : Option (List UInt8), EyeAt ((w.setCell ⟨e, 0, none⟩ (.string ⟨#[]⟩)).setCell ⟨e, 1, none⟩ (.bool true)) e none ∧ Chg [e] w ((w.setCell ⟨e, 0, none⟩ (.string ⟨#[]⟩)).setCell ⟨e, 1, none⟩ (.bool true)) := fun _ =>
    ⟨by simpa [EyeAt] using (he.setCell 0 (.string ⟨#[]⟩)).setCell 1 (.bool true), ((Chg.refl _ _).setCell (.inl (by simp)) _).setCell (.inl (by simp)) _⟩
  have HB := Lib.hid bad
  clear bad
  have c0 := he.cell 0
  have c1 := he.cell 1
  have z0 := he.free 0
  have z1 := he.free 1
  cases st with
  | none =>
    go_enter Tryz.func73, Tryz.ntmps73
    go_wp2
    go_ret
    exact ⟨rfl, HB.out none⟩
  | some l =>
    have hl' := hl l rfl
    clear hl
    by_cases h0 : 0 ≤ n
    · by_cases h1 : n ≤ l.length
      · have HF := Lib.hid (show eRaw n (some l) = (l.take n.toNat, some (l.drop n.toNat)) from if_pos ⟨h0, h1⟩)
        obtain ⟨n, rfl⟩ := Int.eq_ofNat_of_zero_le h0
        have h2 : n ≤ l.length := by omega
        go_enter Tryz.func73, Tryz.ntmps73
        go_wp2
        go_ret
        rw [HF.out]
        refine ⟨by simp, ?_, (Chg.refl _ _).setCell (.inl (by simp)) _⟩
        have := he.setCell 0 (.string ⟨(l.drop n).toArray⟩)
        rw [show (l.drop n).take (l.length - n) = l.drop n from List.take_of_length_le (by simp)]
        simpa [EyeAt] using this
      · have HF := Lib.hid (show eRaw n (some l) = ([], none) from if_neg (by omega))
        obtain ⟨n, rfl⟩ := Int.eq_ofNat_of_zero_le h0
        have h2 : ¬ n ≤ l.length := by omega
        go_enter Tryz.func73, Tryz.ntmps73
        go_wp2
        go_ret
        rw [HF.out]
        exact ⟨rfl, HB.out none⟩
    · have HF := Lib.hid (show eRaw n (some l) = ([], none) from if_neg (by omega))
      have h2 : n < 0 := by omega
      go_enter Tryz.func73, Tryz.ntmps73
      go_wp2
      go_ret
      rw [HF.out]
      exact ⟨rfl, HB.out none⟩
theorem eye_raw_nil (w : World) (n : Int) :
    Calls Tryz.prog 73 #[.pointer none, .int .i64 n] w fun r w' => r = .returned (.string ⟨#[]⟩) ∧ w = w' := by
  go_enter Tryz.func73, Tryz.ntmps73
  go_wp2
  go_ret
  exact ⟨rfl, rfl⟩

theorem eye_bad (w : World) (e : Nat) (st : Option (List UInt8)) (he : EyeAt w e st) :
    Calls Tryz.prog 111 #[.pointer (some ⟨e, 0, none⟩)] w fun r w' => r = .returned (.bool st.isNone) ∧ w = w' := by
  have c1 := he.cell 1
  go_enter Tryz.func111, Tryz.ntmps111
  go_wp2
  go_ret
  exact ⟨rfl, rfl⟩
theorem eye_bad_nil (w : World) :
    Calls Tryz.prog 111 #[.pointer none] w fun r w' => r = .returned (.bool true) ∧ w = w' := by
  go_enter Tryz.func111, Tryz.ntmps111
  go_wp2
  go_ret
  exact ⟨rfl, rfl⟩
theorem eye_over (w : World) (e : Nat) (st : Option (List UInt8)) (he : EyeAt w e st) :
    Calls Tryz.prog 49 #[.pointer (some ⟨e, 0, none⟩)] w fun r w' => r = .returned (.bool (st == some [])) ∧ w = w' := by
  have c0 := he.cell 0
  have c1 := he.cell 1
  rcases st with _ | _ | ⟨a, l⟩
  all_goals
    go_enter Tryz.func49, Tryz.ntmps49
    go_wp2
    go_ret
    exact ⟨rfl, rfl⟩
theorem eye_over_nil (w : World) :
    Calls Tryz.prog 49 #[.pointer none] w fun r w' => r = .returned (.bool false) ∧ w = w' := by
  go_enter Tryz.func49, Tryz.ntmps49
  go_wp2
  go_ret
  exact ⟨rfl, rfl⟩
end Go.Proofs.YtmehcfocfljoeaaGreatDoor
