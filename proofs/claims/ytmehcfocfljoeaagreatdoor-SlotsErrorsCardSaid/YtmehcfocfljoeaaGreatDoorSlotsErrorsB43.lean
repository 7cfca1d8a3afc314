/-
  The walk of what suite writes of lumps. Conditions: the form's own reach.
  The sums of frames, plainly: a step is linear, and tells every two states apart; what stands behind its own sum leaves one state. Conditions: none.
  The walks of package frame. Conditions: the form's own reach.
  Frames, plainly: what is opened is just what is closed; no frame begins another one; four bytes in a row that are turned are found. Conditions: none.
-/
import Derived.Test.YtmehcfocfljoeaaGreatDoorSlotsErrorsB38
import Derived.Test.YtmehcfocfljoeaaGreatDoorSlotsErrorsB42
import Derived.Test.YtmehcfocfljoeaaGreatDoorSlotsErrorsB36
import Derived.Test.YtmehcfocfljoeaaGreatDoorSlotsErrorsB37
import Derived.Laws.BitsAllLaws
namespace Go.Proofs.YtmehcfocfljoeaaGreatDoor
open Go.RowKit

theorem flatMap_takeL {α : Type} (f : α → List UInt8) (l : List α) (k : Nat) (h : k < l.length) : (l.take (k + 1)).flatMap f = (l.take k).flatMap f ++ f l[k] := by
  rw [List.take_succ_eq_append_getElem h, List.flatMap_append]; simp
theorem lumpsB_take (l : List Lp) (h : ∀ p ∈ l, p.fit) (k : Nat) : ((l.take k).flatMap lumpB).length ≤ 30 * l.length := by
  have h1 := lumpsB_len (l.take k) (fun p hp => h p (List.mem_of_mem_take hp))
  have h2 : (l.take k).length ≤ l.length := by rw [List.length_take]; omega
  omega
set_option maxRecDepth 100000 in
set_option maxHeartbeats 4000000 in
theorem lump_write (w : World) (p : Nat) (rv : Value) (D : LmD) (h : LmS w p rv D) (hok : D.ok) (q : Nat) (F : List Nat) (l : List UInt8) (hl : l.length ≤ 1000) (hql : Qul w q F l) :
    Calls Tryz.prog 451 #[.agg #[.pointer (some ⟨p, 0, none⟩)], .pointer (some ⟨q, 0, none⟩)] w fun e w' => e = .returned (.tuple #[]) ∧ ∃ F', Qul w' q F' (l ++ putLm D.most D.l) ∧ Mv F w F' w' := by
  obtain ⟨ao, cap, hrv⟩ := h.own.shape
  subst hrv
  obtain ⟨n, hn⟩ : ∃ n, n = D.l.length := ⟨_, rfl⟩
  have HN := Lib.hid hn
  have hn64 : n ≤ 64 := by have h1 := hok.few; have h2 := hok.m2; omega
  have HH := Lib.hid h
  have HOK := Lib.hid hok
  have HQ := Lib.hid hql
  have HFL := Lib.hid (show ∀ b ∈ F, b < w.heap.size from hql.lt)
  obtain ⟨b0, hb0⟩ : ∃ z, z = w.heap.size := ⟨_, rfl⟩
  have HB := Lib.hid (show Blk (w.alloc (.cells #[.pointer (some ⟨p, 0, none⟩)] 174)) b0 #[.pointer (some ⟨p, 0, none⟩)] 174 from by rw [hb0]; exact Blk.alloc_new _ _ _)
  have HC0 := Lib.hid ((Chg.refl [] w).alloc (.cells #[.pointer (some ⟨p, 0, none⟩)] 174))
  clear h hok hql hn
  go_enter Tryz.func451, Tryz.ntmps451
  go_wp2_with fail
  rw [← hb0]
  clear hb0
  generalize w.alloc (.cells #[.pointer (some ⟨p, 0, none⟩)] 174) = w0 at *
  have hc0 := HB.out.cell 0
  simp only [List.getElem?_toArray, List.getElem?_cons_zero] at hc0
  go_wp2_with fail
  refine (lump_lumps w0 p ao n cap (D.most : Int) D.l (totL D.l) HN.out (by have h := HH.out.chg HC0.out (by simp); rw [← HN.out] at h; exact h) (by omega)).mono ?_
  rintro e w1 ⟨a1, c1, rfl, ho1, hc1, hf1⟩
  have HC1 := Lib.hid (HC0.out.trans hc1)
  have HB1 := Lib.hid (HB.out.chg hc1 (by simp))
  have HRD := Lib.hid ho1.rd
  have HF1 := Lib.hid (show ∀ b ∈ abl a1, w.heap.size ≤ b from fun b hb => Nat.le_trans HC0.out.size (hf1 b hb))
  clear hc0 hc1 ho1 hf1 HB HC0
  have hc0 := HB1.out.cell 0
  simp only [List.getElem?_toArray, List.getElem?_cons_zero] at hc0
  go_wp2_with fail
  refine (lump_most w1 p (.slice ao D.l.length cap) (D.most : Int) D.l (totL D.l) (HH.out.chg HC1.out (by simp))).mono ?_
  rintro e w2 ⟨rfl, hc2⟩
  have HC2 := Lib.hid (HC1.out.trans hc2)
  have HRD2 := Lib.hid (HRD.out.chg hc2 (by simp))
  have hwm : IntKind.u64.wrap (D.most : Int) = (D.most : Int) := IntWalk.u64_in _ (by have := HOK.out.m2; omega)
  have hwn : IntKind.u64.wrap (n : Int) = (n : Int) := IntWalk.u64_in _ (by omega)
  have hq2 : Qul (w2.alloc (.cells #[.int .u64 (D.most : Nat), .int .u64 (n : Nat)] 23)) q F l := (HQ.out.chg HC2.out (by simp)).chg ((Chg.refl [] w2).alloc _) (by simp)
  have hbn : w2.heap.size ∉ F := fun hb => by have h1 := HFL.out _ hb; have h2 := HC2.out.size; omega
  have HQN := Lib.hid (quill_nat (w2.alloc (.cells #[.int .u64 (D.most : Nat), .int .u64 (n : Nat)] 23)) q F l (some ⟨w2.heap.size, 0, none⟩) 2 [D.most, n] (by intro u hu; simp at hu; have := HOK.out.m2; rcases hu with rfl | rfl <;> omega) hq2 (Rd.lit w2 #[.int .u64 (D.most : Nat), .int .u64 (n : Nat)] 23 1 2 2 rfl) (by intro b hb; simp at hb; rw [hb]; exact hbn) (by simp; omega))
  clear hc0 hc2 HB1 HC1 HRD hq2 hbn
  go_wp2_with fail
  refine HQN.out.mono ?_
  rintro e w3 ⟨rfl, F3, hq3, hm3⟩
  have HM3 := Lib.hid ((Mv.alloc F w2 (.cells #[.int .u64 (D.most : Nat), .int .u64 (n : Nat)] 23)).trans hm3)
  have HQ3 := Lib.hid (show Qul w3 q F3 (l ++ (natB D.most ++ natB n)) from by simpa using hq3)
  have HLN := Lib.hid (show (natB D.most).length ≤ 10 ∧ (natB n).length ≤ 10 from ⟨natB_len10 (by have := HOK.out.m2; omega), natB_len10 (by omega)⟩)
  clear hq3 hm3 HQN hwm hwn
  go_wp2_with fail
  go_loopw [22] (fun i wx => ∃ (k : Nat) (F' : List Nat), k ≤ n ∧ i = .int .i64 (k : Nat) ∧ Hid (Qul wx q F' (l ++ (natB D.most ++ natB n) ++ (D.l.take k).flatMap lumpB) ∧ Mv F w2 F' wx)) (fun i _ => n - (intOf i).toNat)
  case atStart => exact ⟨0, F3, Nat.zero_le _, rfl, Lib.hid ⟨by simpa using HQ3.out, HM3.out⟩⟩
  case round =>
    obtain ⟨k, F4, hk, rfl, HX⟩ := hrel
    by_cases hlt : k < n
    · have hkl : k < D.l.length := by have := HN.out; omega
      have hrd := HRD2.out.chg HX.out.2.chg (fun b hb e => by have h1 := HFL.out b e; have h2 := HF1.out b (by simpa using hb); omega)
      obtain ⟨g, o, rfl, hc⟩ := hrd.addr (by omega)
      obtain ⟨d0, d1, d2⟩ := lp_at (l := D.l) (fun j hj => hc j (by rw [HN.out]; exact hj)) hkl
      have hfit := HOK.out.fit _ (List.getElem_mem hkl)
      have HFT := Lib.hid (flatMap_takeL lumpB D.l k hkl)
      have hlb := lumpsB_take D.l HOK.out.fit k
      have hlb2 := lumpB_len hfit
      obtain ⟨Z, hZ⟩ : ∃ Z, Z = l ++ (natB D.most ++ natB n) ++ (D.l.take k).flatMap lumpB := ⟨_, rfl⟩
      have hZl : Z.length ≤ 4000 := by
        rw [hZ]
        have h1 := HLN.out
        have h2 := HN.out
        simp only [List.length_append]
        omega
      have HZ := Lib.hid hZ
      have HFI := Lib.hid hfit
      generalize D.l[k] = y at *
      obtain ⟨b6, hb6⟩ : ∃ z, z = wr.heap.size := ⟨_, rfl⟩
      have HB6 := Lib.hid (show Blk (wr.alloc (.cells #[.int .u64 (y.n : Nat), .int .i64 y.lo, .int .i64 y.hi] 256)) b6 #[.int .u64 (y.n : Nat), .int .i64 y.lo, .int .i64 y.hi] 256 from by rw [hb6]; exact Blk.alloc_new _ _ _)
      have HC6 := Lib.hid ((Chg.refl [] wr).alloc (.cells #[.int .u64 (y.n : Nat), .int .i64 y.lo, .int .i64 y.hi] 256))
      have hq4 := HX.out.1.chg HC6.out (by simp)
      rw [← hZ] at hq4
      have HQ4 := Lib.hid hq4
      have HM4 := Lib.hid (HX.out.2.trans (Mv.of_chg (HC6.out.nil (F := F4))))
      have H64 := Lib.hid (show b6 ∉ F4 from fun hb => by have := HX.out.1.lt _ hb; omega)
      have H61 := Lib.hid (show (wr.alloc (.cells #[.int .u64 (y.n : Nat), .int .i64 y.lo, .int .i64 y.hi] 256)).heap.size = b6 + 1 from by rw [World.size_alloc, hb6])
      clear hc hrd hfit hlb hlb2 hZ hq4 HX
      go_wp2_with fail
      rw [← hb6]
      clear d0 d1 d2 hb6 HC6
      generalize wr.alloc (.cells #[.int .u64 (y.n : Nat), .int .i64 y.lo, .int .i64 y.hi] 256) = w6 at *
      have z0 := HB6.out.cell 0
      have z1 := HB6.out.cell 1
      have z2 := HB6.out.cell 2
      simp only [List.getElem?_toArray, List.getElem?_cons_zero, List.getElem?_cons_succ] at z0 z1 z2
      have HQI := Lib.hid (quill_int (w6.alloc (.cells #[.int .i64 y.lo, .int .i64 y.hi] 2)) q F4 Z (some ⟨w6.heap.size, 0, none⟩) 2 [y.lo, y.hi] (by intro u hu; simp at hu; rcases hu with rfl | rfl; (exact HFI.out.lo); (exact HFI.out.hi)) (HQ4.out.chg ((Chg.refl [] w6).alloc _) (by simp)) (Rd.lit w6 #[.int .i64 y.lo, .int .i64 y.hi] 2 1 2 2 rfl) (by intro b hb; simp at hb; intro h; have := HQ4.out.lt _ h; omega) (by simp; omega))
      rw [H61.out] at HQI
      go_wp2_with fail
      refine HQI.out.mono ?_
      rintro e w7 ⟨rfl, F7, hq7, hm7⟩
      have HM7 := Lib.hid ((Mv.alloc F4 w6 (.cells #[.int .i64 y.lo, .int .i64 y.hi] 2)).trans hm7)
      have HB7 := Lib.hid (HB6.out.chg HM7.out.chg H64.out)
      have HQ7 := Lib.hid (show Qul w7 q F7 (Z ++ (natB (zig y.lo) ++ natB (zig y.hi))) from by simpa using hq7)
      have HL7 := Lib.hid (show (Z ++ (natB (zig y.lo) ++ natB (zig y.hi))).length ≤ 4020 from by
        have h1 := natB_len10 (n := zig y.lo) (by have := HFI.out.lo.zig; omega)
        have h2 := natB_len10 (n := zig y.hi) (by have := HFI.out.hi.zig; omega)
        simp only [List.length_append]
        omega)
      clear hq7 hm7 HQI z0 z1 z2 HB6
      have z0 := HB7.out.cell 0
      simp only [List.getElem?_toArray, List.getElem?_cons_zero] at z0
      have HQN := Lib.hid (quill_nat1 w7 q F7 _ y.n (by have := HFI.out.n2; omega) HQ7.out w7.heap.size rfl (by have := HL7.out; omega))
      go_wp2_with fail
      refine HQN.out.mono ?_
      rintro e w8 ⟨rfl, F8, hq8, hm8⟩
      have HM8 := Lib.hid ((HM4.out.trans HM7.out).trans hm8)
      have HQ8 := Lib.hid (show Qul w8 q F8 (l ++ (natB D.most ++ natB n) ++ (D.l.take (k + 1)).flatMap lumpB) from by
        rw [HFT.out, ← List.append_assoc, ← HZ.out]
        simpa [lumpB] using hq8)
      clear hq8 hm8 HQN z0
      go_wp2_with fail
      exact ⟨⟨k + 1, F8, by omega, by go_num, Lib.hid ⟨HQ8.out, HM8.out⟩⟩, by simp [intOf]; omega⟩
    · obtain rfl : k = n := by omega
      have hfull : D.l.take k = D.l := List.take_of_length_le (by have := HN.out; omega)
      have hx := HX.out
      rw [hfull] at hx
      have HE := Lib.hid hx
      clear hx hfull HX
      go_wp2_with fail
      go_end0
      refine ⟨rfl, F4, ?_, (Mv.of_chg (HC2.out.nil (F := F))).trans HE.out.2⟩
      have h1 := HE.out.1
      rw [putLm, ← HN.out]
      simpa using h1
end Go.Proofs.YtmehcfocfljoeaaGreatDoor

namespace Go.Proofs.YtmehcfocfljoeaaGreatDoor

/-- A sum behind one bit more. -/
def crcT (c : Nat) : Nat := if c % 2 = 1 then (c / 2) ^^^ 3988292384 else c / 2
def crcTN : Nat → Nat → Nat
  | 0, c => c
  | n + 1, c => crcT (crcTN n c)
def crcStep (c : Nat) (b : UInt8) : Nat := crcTN 8 (c ^^^ b.toNat)
def crcOf (c : Nat) (l : List UInt8) : Nat := l.foldl crcStep c
def crcSum (l : List UInt8) : Nat := 4294967295 - crcOf 4294967295 l
def fourB (c : Nat) : List UInt8 := [UInt8.ofNat (c % 256), UInt8.ofNat (c / 256 % 256), UInt8.ofNat (c / 65536 % 256), UInt8.ofNat (c / 16777216 % 256)]

theorem crcT_lt {c : Nat} (h : c < 4294967296) : crcT c < 4294967296 := by
  unfold crcT
  split
  · exact Nat.xor_lt_two_pow (n := 32) (by omega) (by omega)
  · omega
theorem crcTN_lt {c : Nat} (h : c < 4294967296) (n : Nat) : crcTN n c < 4294967296 := by
  induction n with
  | zero => exact h
  | succ n ih => exact crcT_lt ih
theorem xor_byte_lt {c : Nat} (h : c < 4294967296) (b : UInt8) : c ^^^ b.toNat < 4294967296 := Nat.xor_lt_two_pow (n := 32) (by omega) (by have := b.toNat_lt; omega)
theorem crcStep_lt {c : Nat} (h : c < 4294967296) (b : UInt8) : crcStep c b < 4294967296 := crcTN_lt (xor_byte_lt h b) 8
theorem crcOf_lt {c : Nat} (h : c < 4294967296) (l : List UInt8) : crcOf c l < 4294967296 := by
  induction l generalizing c with
  | nil => exact h
  | cons b l ih => exact ih (crcStep_lt h b)
theorem crcSum_lt (l : List UInt8) : crcSum l < 4294967296 := by unfold crcSum; omega
theorem crcOf_append (c : Nat) (x y : List UInt8) : crcOf c (x ++ y) = crcOf (crcOf c x) y := List.foldl_append
theorem crcOf_take_succ (c : Nat) (l : List UInt8) (k : Nat) (h : k < l.length) : crcOf c (l.take (k + 1)) = crcStep (crcOf c (l.take k)) l[k] := by
  rw [List.take_succ_eq_append_getElem h, crcOf_append]
  rfl

theorem crcT_xor (a b : Nat) : crcT (a ^^^ b) = crcT a ^^^ crcT b := by
  have hm : (a ^^^ b) % 2 = (a + b) % 2 := by
    have := @Nat.xor_mod_two_eq_one a b
    omega
  have hd : (a ^^^ b) / 2 = a / 2 ^^^ b / 2 := Nat.xor_div_two
  unfold crcT
  rw [hm, hd]
  generalize a / 2 = p
  generalize b / 2 = q
  rcases Nat.mod_two_eq_zero_or_one a with ha | ha <;> rcases Nat.mod_two_eq_zero_or_one b with hb | hb
  · rw [if_neg (by omega), if_neg (by omega), if_neg (by omega)]
  · rw [if_pos (by omega), if_neg (by omega), if_pos (by omega), Nat.xor_assoc]
  · rw [if_pos (by omega), if_pos (by omega), if_neg (by omega), Nat.xor_assoc, Nat.xor_assoc, Nat.xor_comm q]
  · rw [if_neg (by omega), if_pos (by omega), if_pos (by omega)]
    rw [Nat.xor_assoc, Nat.xor_comm 3988292384 (q ^^^ 3988292384), Nat.xor_assoc, Nat.xor_self, Nat.xor_zero]
theorem crcTN_xor (n a b : Nat) : crcTN n (a ^^^ b) = crcTN n a ^^^ crcTN n b := by
  induction n with
  | zero => rfl
  | succ n ih => simp only [crcTN, ih, crcT_xor]
theorem crcT_even (m : Nat) : crcT (2 * m) = m := by
  unfold crcT
  rw [if_neg (by omega)]
  omega
theorem crcTN_shift (n m : Nat) : crcTN n (2 ^ n * m) = m := by
  induction n generalizing m with
  | zero => simp [crcTN]
  | succ n ih =>
    rw [crcTN, show 2 ^ (n + 1) * m = 2 ^ n * (2 * m) from by rw [Nat.pow_succ, Nat.mul_assoc], ih, crcT_even]
theorem crcTN_add (m n c : Nat) : crcTN m (crcTN n c) = crcTN (m + n) c := by
  induction m with
  | zero => simp [crcTN]
  | succ m ih => rw [show m + 1 + n = (m + n) + 1 from by omega, crcTN, crcTN, ih]
theorem crcT_inj {a b : Nat} (ha : a < 4294967296) (hb : b < 4294967296) (h : crcT a = crcT b) : a = b := by
  have top : ∀ x, x < 2147483648 → 2147483648 ≤ x ^^^ 3988292384 := fun x hx => by
    have h1 : (x ^^^ 3988292384) / 2147483648 = 1 := by
      have := Nat.xor_div_two_pow (a := x) (b := 3988292384) (n := 31)
      rw [show (2 : Nat) ^ 31 = 2147483648 from by decide] at this
      rw [this, Nat.div_eq_of_lt hx]
      decide
    omega
  unfold crcT at h
  by_cases h1 : a % 2 = 1 <;> by_cases h2 : b % 2 = 1
  · rw [if_pos h1, if_pos h2] at h
    have := congrArg (· ^^^ 3988292384) h
    simp only [Nat.xor_assoc, Nat.xor_self, Nat.xor_zero] at this
    omega
  · rw [if_pos h1, if_neg h2] at h
    have := top (a / 2) (by omega)
    omega
  · rw [if_neg h1, if_pos h2] at h
    have := top (b / 2) (by omega)
    omega
  · rw [if_neg h1, if_neg h2] at h
    omega
theorem crcTN_inj {n a b : Nat} (ha : a < 4294967296) (hb : b < 4294967296) (h : crcTN n a = crcTN n b) : a = b := by
  induction n with
  | zero => exact h
  | succ n ih => exact ih (crcT_inj (crcTN_lt ha n) (crcTN_lt hb n) h)
theorem xor_cancel_right {a b c : Nat} (h : a ^^^ c = b ^^^ c) : a = b := by
  have := congrArg (· ^^^ c) h
  simpa only [Nat.xor_assoc, Nat.xor_self, Nat.xor_zero] using this
theorem xor_cancel_left {a b c : Nat} (h : c ^^^ a = c ^^^ b) : a = b := by
  rw [Nat.xor_comm c, Nat.xor_comm c] at h
  exact xor_cancel_right h
theorem crcOf_inj {a b : Nat} (ha : a < 4294967296) (hb : b < 4294967296) (l : List UInt8) (h : crcOf a l = crcOf b l) : a = b := by
  induction l generalizing a b with
  | nil => exact h
  | cons x l ih => exact xor_cancel_right (crcTN_inj (xor_byte_lt ha x) (xor_byte_lt hb x) (ih (crcStep_lt ha x) (crcStep_lt hb x) h))

theorem xor_ones32 (b : Nat) (hb : b < 4294967296) : b ^^^ (4294967295 - b) = 4294967295 := by
  apply Nat.eq_of_testBit_eq
  intro i
  rw [Nat.testBit_xor, show 4294967295 - b = 2 ^ 32 - (b + 1) from by omega, Nat.testBit_two_pow_sub_succ (by omega), show (4294967295 : Nat) = 2 ^ 32 - 1 from rfl, Nat.testBit_two_pow_sub_one]
  by_cases h : i < 32
  · simp [h]
  · simp [h]
    exact Nat.testBit_lt_two_pow (Nat.lt_of_lt_of_le (show b < 2 ^ 32 from hb) (Nat.pow_le_pow_right (by omega) (by omega)))

/-- Four bytes, as one number, the lowest first. -/
def word4 (a b c d : UInt8) : Nat := a.toNat ^^^ (256 * b.toNat ^^^ (65536 * c.toNat ^^^ 16777216 * d.toNat))
theorem crcOf_four (s : Nat) (a b c d : UInt8) : crcOf s [a, b, c, d] = crcTN 32 (s ^^^ word4 a b c d) := by
  have sh : ∀ (y n : Nat) (x : Nat), crcTN n y ^^^ x = crcTN n (y ^^^ 2 ^ n * x) := fun y n x => by rw [crcTN_xor, crcTN_shift]
  show crcStep (crcStep (crcStep (crcStep s a) b) c) d = _
  simp only [crcStep]
  rw [sh _ 8 b.toNat, crcTN_add, sh _ (8 + 8) c.toNat, crcTN_add, sh _ (8 + (8 + 8)) d.toNat, crcTN_add]
  rw [word4]
  simp only [Nat.xor_assoc, Nat.reduceAdd, Nat.reducePow]
end Go.Proofs.YtmehcfocfljoeaaGreatDoor

namespace Go.Proofs.YtmehcfocfljoeaaGreatDoor
open Go.RowKit

theorem and_one32 (c : Nat) (h : c < 4294967296) : bits .and .u32 (c : Int) 1 = ((c % 2 : Nat) : Int) := by
  have := u32_and_nat c 1 h (by omega)
  rw [Nat.and_one_is_mod] at this
  exact this
theorem crcT_odd {c : Nat} (h : c % 2 = 1) (hc : c < 4294967296) : bits .xor .u32 ((c : Int) / 2) 3988292384 = (crcT c : Int) := by
  have := u32_xor_nat (c / 2) 3988292384 (by omega) (by omega)
  rw [crcT, if_pos h]
  simpa using this
theorem crcT_ev {c : Nat} (h : ¬ c % 2 = 1) : (c : Int) / 2 = (crcT c : Int) := by rw [crcT, if_neg h]; simp

set_option maxRecDepth 100000 in
theorem frame_step (w : World) (c : Nat) (b : UInt8) (hc : c < 4294967296) :
    Calls Tryz.prog 98 #[.int .u32 c, .int .u8 (b.toNat : Nat)] w fun e w' => e = .returned (.int .u32 (crcStep c b : Nat)) ∧ w = w' := by
  have hb := b.toNat_lt
  have hx := u32_xor_nat c b.toNat hc (by omega)
  have hw : IntKind.u32.wrap (b.toNat : Int) = (b.toNat : Int) := by simp [IntKind.wrap, IntKind.bits, IntKind.signed]; omega
  have hlt := xor_byte_lt hc b
  generalize hd : c ^^^ b.toNat = d at *
  rw [crcStep, hd]
  generalize b.toNat = u at *
  clear hd
  go_enter Tryz.func98, Tryz.ntmps98
  go_wp2
  go_loopw [0, 9] (fun c i wx => ∃ k, k ≤ 8 ∧ i = .int .i64 (k : Nat) ∧ c = .int .u32 (crcTN k d : Nat) ∧ w = wx) (fun _ i _ => 8 - (intOf i).toNat)
  case atStart => exact ⟨0, by omega, rfl, rfl, rfl⟩
  case round =>
    obtain ⟨k, hk, rfl, rfl, rfl⟩ := hrel
    have hcl := crcTN_lt hlt k
    have hand := and_one32 _ hcl
    have hs : crcTN (k + 1) d = crcT (crcTN k d) := rfl
    by_cases h8 : k < 8
    · by_cases ho : crcTN k d % 2 = 1
      · have hx := crcT_odd ho hcl
        rw [← hs] at hx
        obtain ⟨n2, hn2⟩ : ∃ n2, n2 = crcTN (k + 1) d := ⟨_, rfl⟩
        rw [← hn2] at hx
        have HS := Lib.hid hn2
        clear hs hn2
        generalize crcTN k d = n1 at *
        go_wp2
        exact ⟨⟨k + 1, by omega, by go_num, by rw [HS.out], trivial⟩, by simp [intOf]; omega⟩
      · have hx := crcT_ev ho
        rw [← hs] at hx
        obtain ⟨n2, hn2⟩ : ∃ n2, n2 = crcTN (k + 1) d := ⟨_, rfl⟩
        rw [← hn2] at hx
        have HS := Lib.hid hn2
        clear hs hn2
        generalize crcTN k d = n1 at *
        go_wp2
        exact ⟨⟨k + 1, by omega, by go_num, by rw [HS.out], trivial⟩, by simp [intOf]; omega⟩
    · obtain rfl : k = 8 := by omega
      go_wp2
      go_ret
      exact ⟨rfl, rfl⟩
theorem crc_not (c : Nat) (h : c < 4294967296) : bits .xor .u32 IntKind.u32.max (c : Int) = ((4294967295 - c : Nat) : Int) := by
  have := u32_xor_nat 4294967295 c (by omega) h
  rw [show (4294967295 : Nat) ^^^ c = 4294967295 - c from by
    rw [Nat.xor_comm]
    have h1 : c ^^^ (4294967295 - c) = 4294967295 := xor_ones32 c h
    have h2 := congrArg (c ^^^ ·) h1
    simp only [← Nat.xor_assoc, Nat.xor_self, Nat.zero_xor] at h2
    exact h2.symm] at this
  exact this

set_option maxRecDepth 100000 in
theorem frame_sum (w : World) (s : List UInt8) (hs : s.length ≤ 70368744177664) :
    Calls Tryz.prog 66 #[.string ⟨s.toArray⟩] w fun e w' => e = .returned (.int .u32 (crcSum s : Nat)) ∧ w = w' := by
  go_enter Tryz.func66, Tryz.ntmps66
  go_wp2
  go_loopw [3, 7] (fun c i wx => ∃ k, k ≤ s.length ∧ i = .int .i64 (k : Nat) ∧ c = .int .u32 (crcOf 4294967295 (s.take k) : Nat) ∧ w = wx) (fun _ i _ => s.length - (intOf i).toNat)
  case atStart => exact ⟨0, by omega, rfl, rfl, rfl⟩
  case round =>
    obtain ⟨k, hk, rfl, rfl, rfl⟩ := hrel
    have hcl := crcOf_lt (c := 4294967295) (by omega) (s.take k)
    by_cases hlt : k < s.length
    · have HS := Lib.hid (crcOf_take_succ 4294967295 s k hlt)
      have hg : s.toArray.getD k 0 = s[k] := by simp [hlt]
      generalize crcOf 4294967295 (s.take k) = c at *
      go_wp2_with fail
      refine (frame_step w c s[k] hcl).mono ?_
      rintro e w1 ⟨rfl, rfl⟩
      go_wp2
      exact ⟨⟨k + 1, by omega, by go_num, by rw [HS.out], trivial⟩, by simp [intOf]; omega⟩
    · obtain rfl : k = s.length := by omega
      rw [List.take_length] at hcl ⊢
      have hn := crc_not _ hcl
      rw [show 4294967295 - crcOf 4294967295 s = crcSum s from rfl] at hn
      generalize crcOf 4294967295 s = c at *
      go_wp2
      go_ret
      exact ⟨rfl, rfl⟩
theorem u8_of (x m : Nat) : IntKind.u8.wrap ((x : Int) / (m : Nat)) = ((UInt8.ofNat (x / m % 256)).toNat : Int) := by
  rw [toNat_ofNat (by omega)]
  simp [IntKind.wrap, IntKind.bits, IntKind.signed]
theorem u8_of1 (x : Nat) : IntKind.u8.wrap (x : Int) = ((UInt8.ofNat (x % 256)).toNat : Int) := by
  have := u8_of x 1
  simpa using this

set_option maxRecDepth 100000 in
theorem frame_four (w : World) (c : Nat) :
    Calls Tryz.prog 65 #[.int .u32 c] w fun e w' => e = .returned (.string ⟨(fourB c).toArray⟩) ∧ Chg [] w w' := by
  have h0 := u8_of1 c
  have h1 : IntKind.u8.wrap ((c : Int) / 256) = _ := u8_of c 256
  have h2 : IntKind.u8.wrap ((c : Int) / 65536) = _ := u8_of c 65536
  have h3 : IntKind.u8.wrap ((c : Int) / 16777216) = _ := u8_of c 16777216
  rw [fourB]
  generalize UInt8.ofNat (c % 256) = b0 at *
  generalize UInt8.ofNat (c / 256 % 256) = b1 at *
  generalize UInt8.ofNat (c / 65536 % 256) = b2 at *
  generalize UInt8.ofNat (c / 16777216 % 256) = b3 at *
  have hr := Rd.lit w #[.int .u8 b0.toNat, .int .u8 b1.toNat, .int .u8 b2.toNat, .int .u8 b3.toNat] 5 1 4 4 (by simp)
  have hcv := run_string_rd (P := Tryz.prog) (dst := 9) under_bytes under_u8 under_string (l := [b0, b1, b2, b3]) (by simpa [u8s] using hr)
  go_enter Tryz.func65, Tryz.ntmps65
  go_wp2
  go_ret
  exact ⟨rfl, (Chg.refl [] w).alloc _⟩
end Go.Proofs.YtmehcfocfljoeaaGreatDoor

namespace Go.Proofs.YtmehcfocfljoeaaGreatDoor

theorem xor_up (a m : Nat) (h : a < 256) : a ^^^ 256 * m = a + 256 * m := by
  have h1 := @Nat.xor_mod_two_pow a (256 * m) 8
  have h2 := @Nat.xor_div_two_pow a (256 * m) 8
  simp only [show (2 : Nat) ^ 8 = 256 from rfl] at h1 h2
  rw [Nat.mul_mod_right, Nat.xor_zero, Nat.mod_eq_of_lt h] at h1
  rw [Nat.mul_div_cancel_left _ (by omega : 0 < 256), Nat.div_eq_of_lt h, Nat.zero_xor] at h2
  omega
theorem word4_eq (a b c d : UInt8) : word4 a b c d = a.toNat + 256 * b.toNat + 65536 * c.toNat + 16777216 * d.toNat := by
  have ha := a.toNat_lt
  have hb := b.toNat_lt
  have hc := c.toNat_lt
  have sh : ∀ x y : Nat, 256 * x ^^^ 256 * y = 256 * (x ^^^ y) := fun x y => by
    have h1 := @Nat.xor_mod_two_pow (256 * x) (256 * y) 8
    have h2 := @Nat.xor_div_two_pow (256 * x) (256 * y) 8
    simp only [show (2 : Nat) ^ 8 = 256 from rfl] at h1 h2
    rw [Nat.mul_mod_right, Nat.mul_mod_right, Nat.xor_self] at h1
    rw [Nat.mul_div_cancel_left _ (by omega : 0 < 256), Nat.mul_div_cancel_left _ (by omega : 0 < 256)] at h2
    omega
  have e : word4 a b c d = a.toNat ^^^ 256 * (b.toNat ^^^ 256 * (c.toNat ^^^ 256 * d.toNat)) := by
    unfold word4
    rw [show 65536 * c.toNat = 256 * (256 * c.toNat) from by omega, show 16777216 * d.toNat = 256 * (256 * (256 * d.toNat)) from by omega, sh, sh, sh]
  rw [e, xor_up _ _ hc, xor_up _ _ hb, xor_up _ _ ha]
  omega
theorem word4_four {x : Nat} (h : x < 4294967296) : word4 (UInt8.ofNat (x % 256)) (UInt8.ofNat (x / 256 % 256)) (UInt8.ofNat (x / 65536 % 256)) (UInt8.ofNat (x / 16777216 % 256)) = x := by
  rw [word4_eq, toNat_ofNat (by omega), toNat_ofNat (by omega), toNat_ofNat (by omega), toNat_ofNat (by omega)]
  omega
theorem word4_inj {a b c d a' b' c' d' : UInt8} (h : word4 a b c d = word4 a' b' c' d') : a = a' ∧ b = b' ∧ c = c' ∧ d = d' := by
  rw [word4_eq, word4_eq] at h
  have := a.toNat_lt; have := b.toNat_lt; have := c.toNat_lt; have := d.toNat_lt
  have := a'.toNat_lt; have := b'.toNat_lt; have := c'.toNat_lt; have := d'.toNat_lt
  exact ⟨UInt8.toNat_inj.1 (by omega), UInt8.toNat_inj.1 (by omega), UInt8.toNat_inj.1 (by omega), UInt8.toNat_inj.1 (by omega)⟩
theorem crc_residue (x : List UInt8) : crcOf 4294967295 (x ++ fourB (crcSum x)) = crcTN 32 4294967295 := by
  rw [crcOf_append, fourB, crcOf_four, word4_four (crcSum_lt x), crcSum, xor_ones32 _ (crcOf_lt (by omega) x)]
theorem crc_burst (s : Nat) (hs : s < 4294967296) (p r : List UInt8) (a b c d a' b' c' d' : UInt8) (h : crcOf s (p ++ [a, b, c, d] ++ r) = crcOf s (p ++ [a', b', c', d'] ++ r)) : a = a' ∧ b = b' ∧ c = c' ∧ d = d' := by
  rw [crcOf_append, crcOf_append, crcOf_append, crcOf_append] at h
  have h1 := crcOf_lt hs p
  have lt4 : ∀ l, crcOf (crcOf s p) l < 4294967296 := fun l => crcOf_lt h1 l
  have h2 := crcOf_inj (lt4 _) (lt4 _) r h
  rw [crcOf_four, crcOf_four] at h2
  have wl : ∀ a b c d : UInt8, word4 a b c d < 4294967296 := fun a b c d => by
    rw [word4_eq]
    have := a.toNat_lt; have := b.toNat_lt; have := c.toNat_lt; have := d.toNat_lt
    omega
  exact word4_inj (xor_cancel_left (crcTN_inj (Nat.xor_lt_two_pow (n := 32) h1 (wl ..)) (Nat.xor_lt_two_pow (n := 32) h1 (wl ..)) h2))

def markB : List UInt8 := [79, 71, 1]
def headF (k : UInt8) (t : List UInt8) : List UInt8 := markB ++ [k] ++ natB t.length ++ t
def closeB (k : UInt8) (t : List UInt8) : List UInt8 := headF k t ++ fourB (crcSum (headF k t))
def openF (s : List UInt8) : Option (UInt8 × List UInt8) :=
  let a := eRaw 3 (some s)
  if a.1 ≠ markB then none
  else
    let b := eRaw 1 a.2
    let n := eNat 262144 b.2
    let t := eRaw n.1 n.2
    let u := eRaw 4 t.2
    if u.2 = some [] ∧ fourB (crcSum (s.take (s.length - 4))) = u.1 then some (b.1.headD 0, t.1) else none

theorem eRaw_sound {n : Int} {st : Option (List UInt8)} {x r : List UInt8} (h : eRaw n st = (x, some r)) : st = some (x ++ r) ∧ 0 ≤ n ∧ x.length = n.toNat := by
  cases st with
  | none => simp [eRaw] at h
  | some l =>
    simp only [eRaw] at h
    split at h
    · next hn =>
      simp only [Prod.mk.injEq, Option.some.injEq] at h
      obtain ⟨rfl, rfl⟩ := h
      exact ⟨by rw [List.take_append_drop], hn.1, by rw [List.length_take]; omega⟩
    · simp at h
theorem eRaw_app (x r : List UInt8) (n : Int) (hn : n = (x.length : Nat)) : eRaw n (some (x ++ r)) = (x, some r) := by
  subst hn
  simp only [eRaw]
  rw [if_pos (by rw [List.length_append]; omega)]
  simp
theorem headF_len (k : UInt8) (t : List UInt8) : (headF k t).length = 4 + (natB t.length).length + t.length := by
  simp [headF, markB]
  omega
theorem closeB_len (k : UInt8) (t : List UInt8) : (closeB k t).length = 8 + (natB t.length).length + t.length := by
  rw [closeB, List.length_append, headF_len]
  simp [fourB]
  omega
theorem openF_close (k : UInt8) (t : List UInt8) (ht : t.length ≤ 262144) : openF (closeB k t) = some (k, t) := by
  have e : closeB k t = markB ++ ([k] ++ (natB t.length ++ (t ++ (fourB (crcSum (headF k t)) ++ [])))) := by simp [closeB, headF]
  have e2 : (closeB k t).take ((closeB k t).length - 4) = headF k t := by
    rw [closeB_len, closeB, show 8 + (natB t.length).length + t.length - 4 = (headF k t).length from by rw [headF_len]; omega, List.take_left]
  unfold openF
  rw [e2, e]
  have r1 : eRaw 3 (some (markB ++ ([k] ++ (natB t.length ++ (t ++ (fourB (crcSum (headF k t)) ++ [])))))) = (markB, some ([k] ++ (natB t.length ++ (t ++ (fourB (crcSum (headF k t)) ++ []))))) := eRaw_app _ _ _ rfl
  have r2 : eRaw 1 (some ([k] ++ (natB t.length ++ (t ++ (fourB (crcSum (headF k t)) ++ []))))) = ([k], some (natB t.length ++ (t ++ (fourB (crcSum (headF k t)) ++ [])))) := eRaw_app _ _ _ rfl
  have r3 := eNat_natB (n := t.length) (most := 262144) (by omega) (t ++ (fourB (crcSum (headF k t)) ++ []))
  rw [if_pos ht] at r3
  have r4 : eRaw (t.length : Nat) (some (t ++ (fourB (crcSum (headF k t)) ++ []))) = (t, some (fourB (crcSum (headF k t)) ++ [])) := eRaw_app _ _ _ rfl
  have r5 : eRaw 4 (some (fourB (crcSum (headF k t)) ++ [])) = (fourB (crcSum (headF k t)), some []) := eRaw_app _ _ _ rfl
  simp only [r1, r2, r3, r4, r5]
  simp
theorem openF_sound {s : List UInt8} {k : UInt8} {t : List UInt8} (h : openF s = some (k, t)) : s = closeB k t ∧ t.length ≤ 262144 := by
  unfold openF at h
  simp only at h
  split at h
  · simp at h
  · next h1 =>
    split at h
    · next h2 =>
      obtain ⟨h2, h3⟩ := h2
      simp only [Option.some.injEq, Prod.mk.injEq] at h
      obtain ⟨hk, ht⟩ := h
      obtain ⟨q5, _, l5⟩ := eRaw_sound (pair_eq h2)
      obtain ⟨q4, _, l4⟩ := eRaw_sound (pair_eq q5)
      cases hb : (eRaw 1 (eRaw 3 (some s)).2).2 with
      | none => rw [hb] at q4; simp [eNat] at q4
      | some s2 =>
        have q3 := pair_eq q4
        rw [hb] at q3 q4 l4 ht h3 l5
        obtain ⟨q3, n3, _⟩ := eNat_sound q3
        obtain ⟨q2, _, l2⟩ := eRaw_sound (pair_eq hb)
        obtain ⟨q1, _, l1⟩ := eRaw_sound (pair_eq q2)
        rw [Decidable.not_not.1 h1] at q1
        rw [← ht]
        generalize (eNat 262144 (some s2)).1 = n at *
        generalize (eRaw 1 (eRaw 3 (some s)).2).1 = kk at *
        generalize (eRaw (↑n) (eNat 262144 (some s2)).2).1 = tt at *
        generalize (eRaw 4 (eRaw (↑n) (eNat 262144 (some s2)).2).2).1 = uu at *
        match kk, l2 with
        | [c], _ =>
          simp only [List.headD_cons] at hk
          subst hk
          have ln : tt.length = n := by omega
          have es : s = headF c tt ++ uu := by
            simp only [Option.some.injEq] at q1
            rw [q1, q3, headF, ln]
            simp
          have el : s.length - 4 = (headF c tt).length := by
            rw [es, List.length_append]
            omega
          rw [el, es, List.take_left] at h3
          exact ⟨by rw [es, closeB, h3], by omega⟩
    · simp at h
theorem closeB_free {k k' : UInt8} {t t' x x' : List UInt8} (h : closeB k t ++ x = closeB k' t' ++ x') : k = k' ∧ t = t' ∧ x = x' := by
  have e : ∀ k t x, closeB k t ++ x = markB ++ ([k] ++ (natB t.length ++ (t ++ (fourB (crcSum (headF k t)) ++ x)))) := fun k t x => by simp [closeB, headF]
  rw [e, e] at h
  have h1 := List.append_cancel_left h
  obtain ⟨hk, h2⟩ := List.append_inj h1 rfl
  have hs := shaped_unique _ _ _ _ (natB_shaped t.length) (natB_shaped t'.length) h2
  have hl : t.length = t'.length := by rw [← valB_natB t.length, hs, valB_natB]
  rw [hs] at h2
  obtain ⟨ht, h4⟩ := List.append_inj (List.append_cancel_left h2) hl
  obtain ⟨_, h5⟩ := List.append_inj h4 rfl
  exact ⟨by simpa using hk, ht, h5⟩
def openR (s : List UInt8) : Option (UInt8 × List UInt8) :=
  if s.length < 9 then none
  else if (takenP 262144 (s.drop 4)).2 = 0 ∨ s.length ≠ 8 + (takenP 262144 (s.drop 4)).2 + (takenP 262144 (s.drop 4)).1 then none
  else if closeB (s.getD 3 0) ((s.drop (4 + (takenP 262144 (s.drop 4)).2)).take (takenP 262144 (s.drop 4)).1) ≠ s then none
  else some (s.getD 3 0, (s.drop (4 + (takenP 262144 (s.drop 4)).2)).take (takenP 262144 (s.drop 4)).1)
theorem takenP_le (most : Nat) (l : List UInt8) : (takenP most l).1 ≤ most := by
  unfold takenP
  split
  · split
    · assumption
    · simp
  · simp
theorem openR_eq (s : List UInt8) : openR s = openF s := by
  have snd : ∀ k t, openR s = some (k, t) → s = closeB k t ∧ t.length ≤ 262144 := fun k t h => by
    unfold openR at h
    split at h
    · simp at h
    · split at h
      · simp at h
      · split at h
        · simp at h
        · next h3 =>
          simp only [Option.some.injEq, Prod.mk.injEq] at h
          obtain ⟨rfl, rfl⟩ := h
          have := takenP_le 262144 (s.drop 4)
          exact ⟨(Decidable.not_not.1 h3).symm, by rw [List.length_take]; omega⟩
  have cmp : ∀ k t, s = closeB k t → t.length ≤ 262144 → openR s = some (k, t) := fun k t h ht => by
    subst h
    have hp := natB_pos t.length
    have hl := closeB_len k t
    have e4 : (closeB k t).drop 4 = natB t.length ++ (t ++ fourB (crcSum (headF k t))) := by simp [closeB, headF, markB]
    have et : takenP 262144 ((closeB k t).drop 4) = (t.length, (natB t.length).length) := by
      have := leb_natB t.length 0 (t ++ fourB (crcSum (headF k t))) (by omega) (by simp; omega) (by omega)
      rw [e4, takenP, this]
      simp only
      rw [if_pos ht]
      simp
    have e3 : (closeB k t).getD 3 0 = k := by simp [closeB, headF, markB]
    have ed : ((closeB k t).drop (4 + (natB t.length).length)).take t.length = t := by
      rw [← List.drop_drop, e4, List.drop_left, List.take_left]
    unfold openR
    rw [et, e3]
    simp only
    rw [ed, if_neg (by omega), if_neg (by omega), if_neg (by simp)]
  cases h : openF s with
  | some p =>
    obtain ⟨k, t⟩ := p
    obtain ⟨h1, h2⟩ := openF_sound h
    exact cmp k t h1 h2
  | none =>
    cases h2 : openR s with
    | none => rfl
    | some p =>
      obtain ⟨k, t⟩ := p
      obtain ⟨h1, h3⟩ := snd k t h2
      have := openF_close k t h3
      rw [← h1, h] at this
      simp at this
end Go.Proofs.YtmehcfocfljoeaaGreatDoor
