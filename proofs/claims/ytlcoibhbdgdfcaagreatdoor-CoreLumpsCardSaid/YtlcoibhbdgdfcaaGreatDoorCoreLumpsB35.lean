/-
  The walk of what suite writes of lumps. Conditions: the form's own reach.
  How a config is stored. Conditions: none.
  The sums of frames, plainly: a step is linear, and tells every two states apart; what stands behind its own sum leaves one state. Conditions: none.
-/
import Derived.Test.YtlcoibhbdgdfcaaGreatDoorCoreLumpsB15
import Derived.Test.YtlcoibhbdgdfcaaGreatDoorCoreLumpsB34
import Derived.Test.YtlcoibhbdgdfcaaGreatDoorCoreLumpsB9
import Derived.Test.YtlcoibhbdgdfcaaGreatDoorCoreLumpsB4
import Derived.Test.YtlcoibhbdgdfcaaGreatDoorCoreLumpsB11
namespace Go.Proofs.YtlcoibhbdgdfcaaGreatDoor
open Go.RowKit

theorem flatMap_takeL {α : Type} (f : α → List UInt8) (l : List α) (k : Nat) (h : k < l.length) : (l.take (k + 1)).flatMap f = (l.take k).flatMap f ++ f l[k] := by
  rw [List.take_succ_eq_append_getElem h, List.flatMap_append]; simp
theorem lumpsB_take (l : List Lp) (h : ∀ p ∈ l, p.fit) (k : Nat) : ((l.take k).flatMap lumpB).length ≤ 30 * l.length := by
  have h1 := lumpsB_len (l.take k) (fun p hp => h p (List.mem_of_mem_take hp))
  have h2 : (l.take k).length ≤ l.length := by rw [List.length_take]; omega
  omega
set_option maxRecDepth 100000 in
set_option maxHeartbeats 4000000 in
theorem lump_write (w : World) (p : Nat) (rv : Value) (D : LmD) (h : LmS w p rv D) (hok : D.ok) (q : Nat) (F : List Nat) (l : List UInt8) (hl : l.length ≤ 1000) (hql : Qul w q F l) :
    Calls Tryz.prog 379 #[.agg #[.pointer (some ⟨p, 0, none⟩)], .pointer (some ⟨q, 0, none⟩)] w fun e w' => e = .returned (.tuple #[]) ∧ ∃ F', Qul w' q F' (l ++ putLm D.most D.l) ∧ Mv F w F' w' := by
  obtain ⟨ao, cap, hrv⟩ := h.own.shape
  subst hrv
  obtain ⟨n, hn⟩ : ∃ n, n = D.l.length := ⟨_, rfl⟩
  have HN := Lib.hid hn
  have hn64 : n ≤ 64 := by have h1 := hok.few; have h2 := hok.m2; omega
  have HH := Lib.hid h
  have HOK := Lib.hid hok
  have HQ := Lib.hid hql
  have HFL := Lib.hid (show ∀ b ∈ F, b < w.heap.size from hql.lt)
  obtain ⟨b0, hb0⟩ : ∃ z, z = w.heap.size := ⟨_, rfl⟩
  have HB := Lib.hid (show Blk (w.alloc (.cells #[.pointer (some ⟨p, 0, none⟩)] 169)) b0 #[.pointer (some ⟨p, 0, none⟩)] 169 from by rw [hb0]; exact Blk.alloc_new _ _ _)
  have HC0 := Lib.hid ((Chg.refl [] w).alloc (.cells #[.pointer (some ⟨p, 0, none⟩)] 169))
  clear h hok hql hn
  go_enter Tryz.func379, Tryz.ntmps379
  go_wp2_with fail
  rw [← hb0]
  clear hb0
  generalize w.alloc (.cells #[.pointer (some ⟨p, 0, none⟩)] 169) = w0 at *
  have hc0 := HB.out.cell 0
  simp only [List.getElem?_toArray, List.getElem?_cons_zero] at hc0
  go_wp2_with fail
  refine (lump_lumps w0 p ao n cap (D.most : Int) D.l (totL D.l) HN.out (by have h := HH.out.chg HC0.out (by simp); rw [← HN.out] at h; exact h) (by omega)).mono ?_
  rintro e w1 ⟨a1, c1, rfl, ho1, hc1, hf1⟩
  have HC1 := Lib.hid (HC0.out.trans hc1)
  have HB1 := Lib.hid (HB.out.chg hc1 (by simp))
  have HRD := Lib.hid ho1.rd
  have HF1 := Lib.hid (show ∀ b ∈ abl a1, w.heap.size ≤ b from fun b hb => Nat.le_trans HC0.out.size (hf1 b hb))
  clear hc0 hc1 ho1 hf1 HB HC0
  have hc0 := HB1.out.cell 0
  simp only [List.getElem?_toArray, List.getElem?_cons_zero] at hc0
  go_wp2_with fail
  refine (lump_most w1 p (.slice ao D.l.length cap) (D.most : Int) D.l (totL D.l) (HH.out.chg HC1.out (by simp))).mono ?_
  rintro e w2 ⟨rfl, hc2⟩
  have HC2 := Lib.hid (HC1.out.trans hc2)
  have HRD2 := Lib.hid (HRD.out.chg hc2 (by simp))
  have hwm : IntKind.u64.wrap (D.most : Int) = (D.most : Int) := IntWalk.u64_in _ (by have := HOK.out.m2; omega)
  have hwn : IntKind.u64.wrap (n : Int) = (n : Int) := IntWalk.u64_in _ (by omega)
  have hq2 : Qul (w2.alloc (.cells #[.int .u64 (D.most : Nat), .int .u64 (n : Nat)] 25)) q F l := (HQ.out.chg HC2.out (by simp)).chg ((Chg.refl [] w2).alloc _) (by simp)
  have hbn : w2.heap.size ∉ F := fun hb => by have h1 := HFL.out _ hb; have h2 := HC2.out.size; omega
  have HQN := Lib.hid (quill_nat (w2.alloc (.cells #[.int .u64 (D.most : Nat), .int .u64 (n : Nat)] 25)) q F l (some ⟨w2.heap.size, 0, none⟩) 2 [D.most, n] (by intro u hu; simp at hu; have := HOK.out.m2; rcases hu with rfl | rfl <;> omega) hq2 (Rd.lit w2 #[.int .u64 (D.most : Nat), .int .u64 (n : Nat)] 25 1 2 2 rfl) (by intro b hb; simp at hb; rw [hb]; exact hbn) (by simp; omega))
  clear hc0 hc2 HB1 HC1 HRD hq2 hbn
  go_wp2_with fail
  refine HQN.out.mono ?_
  rintro e w3 ⟨rfl, F3, hq3, hm3⟩
  have HM3 := Lib.hid ((Mv.alloc F w2 (.cells #[.int .u64 (D.most : Nat), .int .u64 (n : Nat)] 25)).trans hm3)
  have HQ3 := Lib.hid (show Qul w3 q F3 (l ++ (natB D.most ++ natB n)) from by simpa using hq3)
  have HLN := Lib.hid (show (natB D.most).length ≤ 10 ∧ (natB n).length ≤ 10 from ⟨natB_len10 (by have := HOK.out.m2; omega), natB_len10 (by omega)⟩)
  clear hq3 hm3 HQN hwm hwn
  go_wp2_with fail
  go_loopw [22] (fun i wx => ∃ (k : Nat) (F' : List Nat), k ≤ n ∧ i = .int .i64 (k : Nat) ∧ Hid (Qul wx q F' (l ++ (natB D.most ++ natB n) ++ (D.l.take k).flatMap lumpB) ∧ Mv F w2 F' wx)) (fun i _ => n - (intOf i).toNat)
  case atStart => exact ⟨0, F3, Nat.zero_le _, rfl, Lib.hid ⟨by simpa using HQ3.out, HM3.out⟩⟩
  case round =>
    obtain ⟨k, F4, hk, rfl, HX⟩ := hrel
    by_cases hlt : k < n
    · have hkl : k < D.l.length := by have := HN.out; omega
      have hrd := HRD2.out.chg HX.out.2.chg (fun b hb e => by have h1 := HFL.out b e; have h2 := HF1.out b (by simpa using hb); omega)
      obtain ⟨g, o, rfl, hc⟩ := hrd.addr (by omega)
      obtain ⟨d0, d1, d2⟩ := lp_at (l := D.l) (fun j hj => hc j (by rw [HN.out]; exact hj)) hkl
      have hfit := HOK.out.fit _ (List.getElem_mem hkl)
      have HFT := Lib.hid (flatMap_takeL lumpB D.l k hkl)
      have hlb := lumpsB_take D.l HOK.out.fit k
      have hlb2 := lumpB_len hfit
      obtain ⟨Z, hZ⟩ : ∃ Z, Z = l ++ (natB D.most ++ natB n) ++ (D.l.take k).flatMap lumpB := ⟨_, rfl⟩
      have hZl : Z.length ≤ 4000 := by
        rw [hZ]
        have h1 := HLN.out
        have h2 := HN.out
        simp only [List.length_append]
        omega
      have HZ := Lib.hid hZ
      have HFI := Lib.hid hfit
      generalize D.l[k] = y at *
      obtain ⟨b6, hb6⟩ : ∃ z, z = wr.heap.size := ⟨_, rfl⟩
      have HB6 := Lib.hid (show Blk (wr.alloc (.cells #[.int .u64 (y.n : Nat), .int .i64 y.lo, .int .i64 y.hi] 194)) b6 #[.int .u64 (y.n : Nat), .int .i64 y.lo, .int .i64 y.hi] 194 from by rw [hb6]; exact Blk.alloc_new _ _ _)
      have HC6 := Lib.hid ((Chg.refl [] wr).alloc (.cells #[.int .u64 (y.n : Nat), .int .i64 y.lo, .int .i64 y.hi] 194))
      have hq4 := HX.out.1.chg HC6.out (by simp)
      rw [← hZ] at hq4
      have HQ4 := Lib.hid hq4
      have HM4 := Lib.hid (HX.out.2.trans (Mv.of_chg (HC6.out.nil (F := F4))))
      have H64 := Lib.hid (show b6 ∉ F4 from fun hb => by have := HX.out.1.lt _ hb; omega)
      have H61 := Lib.hid (show (wr.alloc (.cells #[.int .u64 (y.n : Nat), .int .i64 y.lo, .int .i64 y.hi] 194)).heap.size = b6 + 1 from by rw [World.size_alloc, hb6])
      clear hc hrd hfit hlb hlb2 hZ hq4 HX
      go_wp2_with fail
      rw [← hb6]
      clear d0 d1 d2 hb6 HC6
      generalize wr.alloc (.cells #[.int .u64 (y.n : Nat), .int .i64 y.lo, .int .i64 y.hi] 194) = w6 at *
      have z0 := HB6.out.cell 0
      have z1 := HB6.out.cell 1
      have z2 := HB6.out.cell 2
      simp only [List.getElem?_toArray, List.getElem?_cons_zero, List.getElem?_cons_succ] at z0 z1 z2
      have HQI := Lib.hid (quill_int (w6.alloc (.cells #[.int .i64 y.lo, .int .i64 y.hi] 2)) q F4 Z (some ⟨w6.heap.size, 0, none⟩) 2 [y.lo, y.hi] (by intro u hu; simp at hu; rcases hu with rfl | rfl; (exact HFI.out.lo); (exact HFI.out.hi)) (HQ4.out.chg ((Chg.refl [] w6).alloc _) (by simp)) (Rd.lit w6 #[.int .i64 y.lo, .int .i64 y.hi] 2 1 2 2 rfl) (by intro b hb; simp at hb; intro h; have := HQ4.out.lt _ h; omega) (by simp; omega))
      rw [H61.out] at HQI
      go_wp2_with fail
      refine HQI.out.mono ?_
      rintro e w7 ⟨rfl, F7, hq7, hm7⟩
      have HM7 := Lib.hid ((Mv.alloc F4 w6 (.cells #[.int .i64 y.lo, .int .i64 y.hi] 2)).trans hm7)
      have HB7 := Lib.hid (HB6.out.chg HM7.out.chg H64.out)
      have HQ7 := Lib.hid (show Qul w7 q F7 (Z ++ (natB (zig y.lo) ++ natB (zig y.hi))) from by simpa using hq7)
      have HL7 := Lib.hid (show (Z ++ (natB (zig y.lo) ++ natB (zig y.hi))).length ≤ 4020 from by
        have h1 := natB_len10 (n := zig y.lo) (by have := HFI.out.lo.zig; omega)
        have h2 := natB_len10 (n := zig y.hi) (by have := HFI.out.hi.zig; omega)
        simp only [List.length_append]
        omega)
      clear hq7 hm7 HQI z0 z1 z2 HB6
      have z0 := HB7.out.cell 0
      simp only [List.getElem?_toArray, List.getElem?_cons_zero] at z0
      have HQN := Lib.hid (quill_nat1 w7 q F7 _ y.n (by have := HFI.out.n2; omega) HQ7.out w7.heap.size rfl (by have := HL7.out; omega))
      go_wp2_with fail
      refine HQN.out.mono ?_
      rintro e w8 ⟨rfl, F8, hq8, hm8⟩
      have HM8 := Lib.hid ((HM4.out.trans HM7.out).trans hm8)
      have HQ8 := Lib.hid (show Qul w8 q F8 (l ++ (natB D.most ++ natB n) ++ (D.l.take (k + 1)).flatMap lumpB) from by
        rw [HFT.out, ← List.append_assoc, ← HZ.out]
        simpa [lumpB] using hq8)
      clear hq8 hm8 HQN z0
      go_wp2_with fail
      exact ⟨⟨k + 1, F8, by omega, by go_num, Lib.hid ⟨HQ8.out, HM8.out⟩⟩, by simp [intOf]; omega⟩
    · obtain rfl : k = n := by omega
      have hfull : D.l.take k = D.l := List.take_of_length_le (by have := HN.out; omega)
      have hx := HX.out
      rw [hfull] at hx
      have HE := Lib.hid hx
      clear hx hfull HX
      go_wp2_with fail
      go_end0
      refine ⟨rfl, F4, ?_, (Mv.of_chg (HC2.out.nil (F := F))).trans HE.out.2⟩
      have h1 := HE.out.1
      rw [putLm, ← HN.out]
      simpa using h1
end Go.Proofs.YtlcoibhbdgdfcaaGreatDoor

namespace Go.Proofs.YtlcoibhbdgdfcaaGreatDoor
open Go.RowKit

/-- All cells of a config are stored. -/
def cfStore (w : World) (b : Nat) (c : Cf) : World :=
  ((((((((((w.setCell ⟨b, 0, none⟩ (.int .i64 c.kind)).setCell ⟨b, 1, none⟩ (.int .u64 c.num)).setCell ⟨b, 2, none⟩ (.int .u64 c.den)).setCell ⟨b, 3, none⟩ (.int .i64 c.side)).setCell ⟨b, 4, none⟩ (.int .i64 c.most)).setCell ⟨b, 5, none⟩ (.int .i64 c.digits)).setCell ⟨b, 6, none⟩ (.int .u64 c.limit)).setCell ⟨b, 7, none⟩ (.int .i64 c.depth)).setCell ⟨b, 8, none⟩ (.int .i64 c.factor)).setCell ⟨b, 9, none⟩ (.int .i64 c.width)).setCell ⟨b, 10, none⟩ (.int .u64 c.word)
theorem cfStore_ok {w : World} {b : Nat} {d : Cf} (h : Blk w b d.cells 30) (c : Cf) : Blk (cfStore w b c) b c.cells 30 ∧ Chg [b] w (cfStore w b c) := by
  unfold cfStore
  refine ⟨?_, ?_⟩
  · have h' := ((((((((((h.setCell 0 (.int .i64 c.kind)).setCell 1 (.int .u64 c.num)).setCell 2 (.int .u64 c.den)).setCell 3 (.int .i64 c.side)).setCell 4 (.int .i64 c.most)).setCell 5 (.int .i64 c.digits)).setCell 6 (.int .u64 c.limit)).setCell 7 (.int .i64 c.depth)).setCell 8 (.int .i64 c.factor)).setCell 9 (.int .i64 c.width)).setCell 10 (.int .u64 c.word)
    have e : c.cells = ((((((((((d.cells.setIfInBounds 0 (.int .i64 c.kind)).setIfInBounds 1 (.int .u64 c.num)).setIfInBounds 2 (.int .u64 c.den)).setIfInBounds 3 (.int .i64 c.side)).setIfInBounds 4 (.int .i64 c.most)).setIfInBounds 5 (.int .i64 c.digits)).setIfInBounds 6 (.int .u64 c.limit)).setIfInBounds 7 (.int .i64 c.depth)).setIfInBounds 8 (.int .i64 c.factor)).setIfInBounds 9 (.int .i64 c.width)).setIfInBounds 10 (.int .u64 c.word) := by
      simp only [Cf.cells, List.setIfInBounds_toArray, List.set_cons_zero, List.set_cons_succ]
    rw [e]
    exact h'
  · have k : ∀ {w1 : World} (_ : Chg [b] w w1) (j : Nat) (u : Value), Chg [b] w (w1.setCell ⟨b, j, none⟩ u) := fun h j u => h.setCell (.inl (by simp)) u
    exact (k (k (k (k (k (k (k (k (k (k (k (Chg.refl [b] w) 0 _) 1 _) 2 _) 3 _) 4 _) 5 _) 6 _) 7 _) 8 _) 9 _) 10 _)
end Go.Proofs.YtlcoibhbdgdfcaaGreatDoor

namespace Go.Proofs.YtlcoibhbdgdfcaaGreatDoor

/-- A sum behind one bit more. -/
def crcT (c : Nat) : Nat := if c % 2 = 1 then (c / 2) ^^^ 3988292384 else c / 2
def crcTN : Nat → Nat → Nat
  | 0, c => c
  | n + 1, c => crcT (crcTN n c)
def crcStep (c : Nat) (b : UInt8) : Nat := crcTN 8 (c ^^^ b.toNat)
def crcOf (c : Nat) (l : List UInt8) : Nat := l.foldl crcStep c
def crcSum (l : List UInt8) : Nat := 4294967295 - crcOf 4294967295 l
def fourB (c : Nat) : List UInt8 := [UInt8.ofNat (c % 256), UInt8.ofNat (c / 256 % 256), UInt8.ofNat (c / 65536 % 256), UInt8.ofNat (c / 16777216 % 256)]

theorem crcT_lt {c : Nat} (h : c < 4294967296) : crcT c < 4294967296 := by
  unfold crcT
  split
  · exact Nat.xor_lt_two_pow (n := 32) (by omega) (by omega)
  · omega
theorem crcTN_lt {c : Nat} (h : c < 4294967296) (n : Nat) : crcTN n c < 4294967296 := by
  induction n with
  | zero => exact h
  | succ n ih => exact crcT_lt ih
theorem xor_byte_lt {c : Nat} (h : c < 4294967296) (b : UInt8) : c ^^^ b.toNat < 4294967296 := Nat.xor_lt_two_pow (n := 32) (by omega) (by have := b.toNat_lt; omega)
theorem crcStep_lt {c : Nat} (h : c < 4294967296) (b : UInt8) : crcStep c b < 4294967296 := crcTN_lt (xor_byte_lt h b) 8
theorem crcOf_lt {c : Nat} (h : c < 4294967296) (l : List UInt8) : crcOf c l < 4294967296 := by
  induction l generalizing c with
  | nil => exact h
  | cons b l ih => exact ih (crcStep_lt h b)
theorem crcSum_lt (l : List UInt8) : crcSum l < 4294967296 := by unfold crcSum; omega
theorem crcOf_append (c : Nat) (x y : List UInt8) : crcOf c (x ++ y) = crcOf (crcOf c x) y := List.foldl_append
theorem crcOf_take_succ (c : Nat) (l : List UInt8) (k : Nat) (h : k < l.length) : crcOf c (l.take (k + 1)) = crcStep (crcOf c (l.take k)) l[k] := by
  rw [List.take_succ_eq_append_getElem h, crcOf_append]
  rfl

theorem crcT_xor (a b : Nat) : crcT (a ^^^ b) = crcT a ^^^ crcT b := by
  have hm : (a ^^^ b) % 2 = (a + b) % 2 := by
    have := @Nat.xor_mod_two_eq_one a b
    omega
  have hd : (a ^^^ b) / 2 = a / 2 ^^^ b / 2 := Nat.xor_div_two
  unfold crcT
  rw [hm, hd]
  generalize a / 2 = p
  generalize b / 2 = q
  rcases Nat.mod_two_eq_zero_or_one a with ha | ha <;> rcases Nat.mod_two_eq_zero_or_one b with hb | hb
  · rw [if_neg (by omega), if_neg (by omega), if_neg (by omega)]
  · rw [if_pos (by omega), if_neg (by omega), if_pos (by omega), Nat.xor_assoc]
  · rw [if_pos (by omega), if_pos (by omega), if_neg (by omega), Nat.xor_assoc, Nat.xor_assoc, Nat.xor_comm q]
  · rw [if_neg (by omega), if_pos (by omega), if_pos (by omega)]
    rw [Nat.xor_assoc, Nat.xor_comm 3988292384 (q ^^^ 3988292384), Nat.xor_assoc, Nat.xor_self, Nat.xor_zero]
theorem crcTN_xor (n a b : Nat) : crcTN n (a ^^^ b) = crcTN n a ^^^ crcTN n b := by
  induction n with
  | zero => rfl
  | succ n ih => simp only [crcTN, ih, crcT_xor]
theorem crcT_even (m : Nat) : crcT (2 * m) = m := by
  unfold crcT
  rw [if_neg (by omega)]
  omega
theorem crcTN_shift (n m : Nat) : crcTN n (2 ^ n * m) = m := by
  induction n generalizing m with
  | zero => simp [crcTN]
  | succ n ih =>
    rw [crcTN, show 2 ^ (n + 1) * m = 2 ^ n * (2 * m) from by rw [Nat.pow_succ, Nat.mul_assoc], ih, crcT_even]
theorem crcTN_add (m n c : Nat) : crcTN m (crcTN n c) = crcTN (m + n) c := by
  induction m with
  | zero => simp [crcTN]
  | succ m ih => rw [show m + 1 + n = (m + n) + 1 from by omega, crcTN, crcTN, ih]
theorem crcT_inj {a b : Nat} (ha : a < 4294967296) (hb : b < 4294967296) (h : crcT a = crcT b) : a = b := by
  have top : ∀ x, x < 2147483648 → 2147483648 ≤ x ^^^ 3988292384 := fun x hx => by
    have h1 : (x ^^^ 3988292384) / 2147483648 = 1 := by
      have := Nat.xor_div_two_pow (a := x) (b := 3988292384) (n := 31)
      rw [show (2 : Nat) ^ 31 = 2147483648 from by decide] at this
      rw [this, Nat.div_eq_of_lt hx]
      decide
    omega
  unfold crcT at h
  by_cases h1 : a % 2 = 1 <;> by_cases h2 : b % 2 = 1
  · rw [if_pos h1, if_pos h2] at h
    have := congrArg (· ^^^ 3988292384) h
    simp only [Nat.xor_assoc, Nat.xor_self, Nat.xor_zero] at this
    omega
  · rw [if_pos h1, if_neg h2] at h
    have := top (a / 2) (by omega)
    omega
  · rw [if_neg h1, if_pos h2] at h
    have := top (b / 2) (by omega)
    omega
  · rw [if_neg h1, if_neg h2] at h
    omega
theorem crcTN_inj {n a b : Nat} (ha : a < 4294967296) (hb : b < 4294967296) (h : crcTN n a = crcTN n b) : a = b := by
  induction n with
  | zero => exact h
  | succ n ih => exact ih (crcT_inj (crcTN_lt ha n) (crcTN_lt hb n) h)
theorem xor_cancel_right {a b c : Nat} (h : a ^^^ c = b ^^^ c) : a = b := by
  have := congrArg (· ^^^ c) h
  simpa only [Nat.xor_assoc, Nat.xor_self, Nat.xor_zero] using this
theorem xor_cancel_left {a b c : Nat} (h : c ^^^ a = c ^^^ b) : a = b := by
  rw [Nat.xor_comm c, Nat.xor_comm c] at h
  exact xor_cancel_right h
theorem crcOf_inj {a b : Nat} (ha : a < 4294967296) (hb : b < 4294967296) (l : List UInt8) (h : crcOf a l = crcOf b l) : a = b := by
  induction l generalizing a b with
  | nil => exact h
  | cons x l ih => exact xor_cancel_right (crcTN_inj (xor_byte_lt ha x) (xor_byte_lt hb x) (ih (crcStep_lt ha x) (crcStep_lt hb x) h))

theorem xor_ones32 (b : Nat) (hb : b < 4294967296) : b ^^^ (4294967295 - b) = 4294967295 := by
  apply Nat.eq_of_testBit_eq
  intro i
  rw [Nat.testBit_xor, show 4294967295 - b = 2 ^ 32 - (b + 1) from by omega, Nat.testBit_two_pow_sub_succ (by omega), show (4294967295 : Nat) = 2 ^ 32 - 1 from rfl, Nat.testBit_two_pow_sub_one]
  by_cases h : i < 32
  · simp [h]
  · simp [h]
    exact Nat.testBit_lt_two_pow (Nat.lt_of_lt_of_le (show b < 2 ^ 32 from hb) (Nat.pow_le_pow_right (by omega) (by omega)))

/-- Four bytes, as one number, the lowest first. -/
def word4 (a b c d : UInt8) : Nat := a.toNat ^^^ (256 * b.toNat ^^^ (65536 * c.toNat ^^^ 16777216 * d.toNat))
theorem crcOf_four (s : Nat) (a b c d : UInt8) : crcOf s [a, b, c, d] = crcTN 32 (s ^^^ word4 a b c d) := by
  have sh : ∀ (y n : Nat) (x : Nat), crcTN n y ^^^ x = crcTN n (y ^^^ 2 ^ n * x) := fun y n x => by rw [crcTN_xor, crcTN_shift]
  show crcStep (crcStep (crcStep (crcStep s a) b) c) d = _
  simp only [crcStep]
  rw [sh _ 8 b.toNat, crcTN_add, sh _ (8 + 8) c.toNat, crcTN_add, sh _ (8 + (8 + 8)) d.toNat, crcTN_add]
  rw [word4]
  simp only [Nat.xor_assoc, Nat.reduceAdd, Nat.reducePow]
end Go.Proofs.YtlcoibhbdgdfcaaGreatDoor
