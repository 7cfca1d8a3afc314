/-
  The walk of the law FrameTurned. Conditions: the form's own reach.
-/
import Derived.Test.YtgpnnfgaphcklaaFrameAlive
namespace Go.Proofs.Ytgpnnfgaphcklaa
open Go.RowKit

/-- The bytes of a frame, with the first i of four turned. -/
def turnTo (C : List UInt8) (c turn i : Nat) : List UInt8 := (List.range i).foldl (fun l j => l.set (c + j) (l.getD (c + j) 0 ^^^ UInt8.ofNat (turn / 2 ^ (8 * j) % 256))) C
theorem turnTo_succ (C : List UInt8) (c turn i : Nat) : turnTo C c turn (i + 1) = (turnTo C c turn i).set (c + i) ((turnTo C c turn i).getD (c + i) 0 ^^^ UInt8.ofNat (turn / 2 ^ (8 * i) % 256)) := by
  simp [turnTo, List.range_succ]
theorem turnTo_len (C : List UInt8) (c turn i : Nat) : (turnTo C c turn i).length = C.length := by
  induction i with
  | zero => rfl
  | succ i ih => rw [turnTo_succ, List.length_set, ih]
theorem turnTo_four (p r : List UInt8) (a b c d : UInt8) (turn : Nat) : turnTo (p ++ [a, b, c, d] ++ r) p.length turn 4 =
    p ++ [a ^^^ UInt8.ofNat (turn / 2 ^ 0 % 256), b ^^^ UInt8.ofNat (turn / 2 ^ 8 % 256), c ^^^ UInt8.ofNat (turn / 2 ^ 16 % 256), d ^^^ UInt8.ofNat (turn / 2 ^ 24 % 256)] ++ r := by
  simp [turnTo, List.range_succ, List.getD]
theorem four_of (C : List UInt8) (c : Nat) (h : c + 4 ≤ C.length) : ∃ p a b x y r, C = p ++ [a, b, x, y] ++ r ∧ p.length = c := by
  have e := (List.take_append_drop c C).symm
  have hl : 4 ≤ (C.drop c).length := by rw [List.length_drop]; omega
  match hd : C.drop c, hl with
  | a :: b :: x :: y :: r, _ =>
    refine ⟨C.take c, a, b, x, y, r, ?_, by rw [List.length_take]; omega⟩
    rw [hd] at e
    exact e.trans (by simp)
theorem xor_same {a b : UInt8} (h : a = a ^^^ b) : b = 0 := by
  have h2 : a.toNat = (a ^^^ b).toNat := congrArg UInt8.toNat h
  rw [UInt8.toNat_xor] at h2
  have h3 : a.toNat ^^^ 0 = a.toNat ^^^ b.toNat := by rw [Nat.xor_zero]; exact h2
  exact UInt8.toNat_inj.1 (xor_cancel_left h3).symm
theorem openF_turned (k : UInt8) (t : List UInt8) (c turn : Nat) (hc : c + 4 ≤ (closeB k t).length) (ht : turn < 4294967296) (h0 : turn ≠ 0) : openF (turnTo (closeB k t) c turn 4) = none := by
  cases h2 : openF (turnTo (closeB k t) c turn 4) with
  | none => rfl
  | some q =>
    obtain ⟨k', t'⟩ := q
    obtain ⟨h3, _⟩ := openF_sound h2
    have e1 : crcOf 4294967295 (closeB k t) = crcTN 32 4294967295 := crc_residue _
    have e2 : crcOf 4294967295 (turnTo (closeB k t) c turn 4) = crcTN 32 4294967295 := by rw [h3]; exact crc_residue _
    obtain ⟨p, a, b, x, y, r, hC, rfl⟩ := four_of _ c hc
    rw [hC] at e1 e2
    rw [turnTo_four] at e2
    obtain ⟨q1, q2, q3, q4⟩ := crc_burst 4294967295 (by omega) p r _ _ _ _ _ _ _ _ (e1.trans e2.symm)
    have z1 := congrArg UInt8.toNat (xor_same q1)
    have z2 := congrArg UInt8.toNat (xor_same q2)
    have z3 := congrArg UInt8.toNat (xor_same q3)
    have z4 := congrArg UInt8.toNat (xor_same q4)
    rw [toNat_ofNat (by omega)] at z1 z2 z3 z4
    simp at z1 z2 z3 z4
    omega

/-- Block g is a row of bytes with the run-time's mark behind it: what '[]byte(s)' lays. -/
def Bys (w : World) (g : Nat) (l : List UInt8) (z : Nat) : Prop := ∃ cs, w.heap[g]? = some (.cells cs 5 (z, z + 1)) ∧ l.length ≤ z ∧ ∀ j (h : j < l.length), cs[j]? = some (.int .u8 (l[j].toNat : Nat))
theorem Bys.cell {w : World} {g z : Nat} {l : List UInt8} (h : Bys w g l z) (j : Nat) (hj : j < l.length) : w.cell? ⟨g, j, none⟩ = some (.int .u8 (l[j].toNat : Nat)) := by
  obtain ⟨cs, h1, _, h3⟩ := h
  rw [cell_of_row w g j cs _ _ h1, h3 j hj]
theorem Bys.free {w : World} {g z : Nat} {l : List UInt8} (h : Bys w g l z) (j : Nat) (hj : j < l.length) : w.frozen? ⟨g, j, none⟩ = false := by
  obtain ⟨cs, h1, h2, _⟩ := h
  simp [World.frozen?, h1]
  omega
theorem Bys.chg {w w1 : World} {g z : Nat} {l : List UInt8} {F : List Nat} (h : Bys w g l z) (k : Chg F w w1) (hn : g ∉ F) : Bys w1 g l z := by
  obtain ⟨cs, h1, h2, h3⟩ := h
  exact ⟨cs, k.heap h1 hn, h2, h3⟩
theorem Bys.set {w : World} {g z : Nat} {l : List UInt8} (h : Bys w g l z) (j : Nat) (b : UInt8) (hj : j < l.length) : Bys (w.setCell ⟨g, j, none⟩ (.int .u8 (b.toNat : Nat))) g (l.set j b) z := by
  obtain ⟨cs, h1, h2, h3⟩ := h
  refine ⟨cs.setIfInBounds j (.int .u8 (b.toNat : Nat)), ?_, by rw [List.length_set]; exact h2, ?_⟩
  · have hlt := lt_of_block h1
    simp only [World.setCell, Array.getElem?_modify, if_true, h1, Option.map_some]
    rfl
  · intro i hi
    rw [List.length_set] at hi
    have hs : j < cs.size := (Array.getElem?_eq_some_iff.1 (h3 j hj)).1
    by_cases hij : j = i
    · subst hij
      simp [hs]
    · simp [hij, h3 i hi]
theorem Bys.rd {w : World} {g z : Nat} {l : List UInt8} (h : Bys w g l z) (cap n : Nat) (hn : n = l.length) : Rd w 1 (.slice (some ⟨g, 0, none⟩) n cap) n (u8s l) := by
  subst hn
  refine ⟨by simp, _, _, rfl, .inr ⟨_, _, rfl, fun j hj => ?_⟩⟩
  rw [Nat.zero_add, h.cell j (by omega)]
  have hjl : j < l.length := by omega
  simp [u8s, hjl]
theorem bytes_of (w : World) (C : List UInt8) : ∃ cap w3 z, (convert 9 39 (.string ⟨C.toArray⟩)).run Try.prog w = .ok (.slice (some ⟨w.heap.size, 0, none⟩) C.length cap) w3 ∧ Bys w3 w.heap.size C z ∧ Chg [] w w3 := by
  have h := run_bytes_of_string (P := Try.prog) w 9 39 5 ⟨C.toArray⟩ under_string under_bytes under_u8
  have hsz : (ByteArray.mk C.toArray).size = C.length := by simp [ByteArray.size]
  rw [hsz] at h
  refine ⟨_, _, _, h, ⟨_, heap_alloc_new w.drew _, by simp [bytesRow, hsz], fun j hj => ?_⟩, (Chg.drew (Chg.refl [] w)).alloc _⟩
  rw [bytesRow, Array.getElem?_append_left (by simpa using hj)]
  simp [hj]

set_option maxRecDepth 100000 in
set_option maxHeartbeats 1000000 in
theorem law_FrameTurned (w : World) (k : UInt8) (t : List UInt8) (_ht : t.length ≤ 140737488351232) (at_ : Int) (_h0 : -9223372036854775808 ≤ at_) (_h1 : at_ < 9223372036854775808) (turn : Nat) (hturn : turn < 4294967296) :
    Calls Try.prog 12 #[.int .u8 (k.toNat : Nat), .string ⟨t.toArray⟩, .int .i64 at_, .int .u32 turn] w fun e w' => e = .returned (.bool true) ∧ Chg [] w w' := by
  clear _h0 _h1
  go_enter Try.func12, Try.ntmps12
  go_wp2_with fail
  refine (law05_alive w).mono ?_
  rintro e w1 ⟨rfl, hc1⟩
  by_cases hl : 2048 < t.length
  · have hd : decide ((2048 : Int) < (t.length : Int)) = true := decide_eq_true (by omega)
    go_wp2
    go_ret
    exact ⟨rfl, hc1⟩
  have hd : decide ((2048 : Int) < (t.length : Int)) = false := decide_eq_false (by omega)
  by_cases h0 : turn = 0
  · subst h0
    go_wp2
    go_ret
    exact ⟨rfl, hc1⟩
  have hz : ((turn : Int) == 0) = false := beq_eq_false_iff_ne.2 (by omega)
  have H0 := Lib.hid h0
  clear h0
  go_wp2_with fail
  refine (frame_close w1 k t (by omega)).mono ?_
  rintro e w2 ⟨rfl, hc2⟩
  have hc2 := hc1.trans hc2
  have hcl := closeB_len k t
  have hnl := natB_len10 (n := t.length) (by omega)
  have HO := Lib.hid (fun c hc => openF_turned k t c turn hc hturn H0.out)
  have hpos : 3 < (closeB k t).length := by omega
  have hsm : (closeB k t).length ≤ 10000 := by omega
  clear hcl hnl hz
  generalize closeB k t = C at *
  obtain ⟨cap, w3, z, hcv, hb3, hc3⟩ := bytes_of w2 C
  have hsz := hc2.size
  have hc3' := hc2.trans hc3
  have hcu := cut_u at_ (C.length - 3) (by omega) (by omega)
  have hlt := Nat.mod_lt (at_ % 18446744073709551616).toNat (show C.length - 3 > 0 by omega)
  rw [show ((C.length - 3 : Nat) : Int) = (C.length : Int) - 3 from by omega] at hcu
  generalize (at_ % 18446744073709551616).toNat % (C.length - 3) = c at *
  have hne : ((C.length : Int) - 3 == 0) = false := beq_eq_false_iff_ne.2 (by omega)
  have HOC := Lib.hid (HO.out c (by omega))
  clear HO
  go_wp2
  go_loopw [13] (fun i wx => ∃ k, k ≤ 4 ∧ i = .int .i64 (k : Nat) ∧ Bys wx w2.heap.size (turnTo C c turn k) z ∧ Chg [w2.heap.size] w3 wx) (fun i _ => 4 - (intOf i).toNat)
  case atStart => exact ⟨0, by omega, rfl, hb3, Chg.refl _ _⟩
  case round =>
    obtain ⟨k, hk, rfl, hb, hch⟩ := hrel
    have hlc : (turnTo C c turn k).length = C.length := turnTo_len C c turn k
    by_cases h4 : k < 4
    · have HT := Lib.hid (turnTo_succ C c turn k)
      have hB : (bits .xor .u8 ((turnTo C c turn k).getD (c + k) 0).toNat (IntKind.u8.wrap ((turn : Int) / ((2 ^ (8 * k) : Nat) : Int)))) = ((((turnTo C c turn k).getD (c + k) 0) ^^^ UInt8.ofNat (turn / 2 ^ (8 * k) % 256)).toNat : Int) := by
        rw [u8_of turn (2 ^ (8 * k)), u8_xor_nat _ _ (UInt8.toNat_lt _) (UInt8.toNat_lt _), UInt8.toNat_xor]
      have hcell := hb.cell (c + k) (by omega)
      rw [show (turnTo C c turn k)[c + k]'(by omega) = (turnTo C c turn k).getD (c + k) 0 from by simp [List.getD, show c + k < (turnTo C c turn k).length by omega]] at hcell
      have hfree := hb.free (c + k) (by omega)
      have HB := Lib.hid (hb.set (c + k) (((turnTo C c turn k).getD (c + k) 0) ^^^ UInt8.ofNat (turn / 2 ^ (8 * k) % 256)) (by omega))
      rw [← HT.out] at HB
      generalize ((turnTo C c turn k).getD (c + k) 0 ^^^ UInt8.ofNat (turn / 2 ^ (8 * k) % 256)) = nb at *
      generalize (turnTo C c turn k).getD (c + k) 0 = ob at *
      have HK := Lib.hid (Chg.setCell hch (a := ⟨w2.heap.size, c + k, none⟩) (.inl (by simp)) (.int .u8 (nb.toNat : Nat)))
      clear hb hlc HT
      obtain ⟨p, hpk⟩ : ∃ p, p = c + k := ⟨_, rfl⟩
      rw [← hpk] at hcell hfree HB HK
      have hpl : (p : Int) < (C.length : Int) := by omega
      have hpn : (0 : Int) ≤ (p : Int) := by omega
      have h4' : k = 0 ∨ k = 1 ∨ k = 2 ∨ k = 3 := by omega
      rcases h4' with rfl | rfl | rfl | rfl
      · have hB' : bits .xor .u8 (ob.toNat : Int) ((turn : Int) % 256) = (nb.toNat : Int) := by simpa [IntKind.wrap, IntKind.bits, IntKind.signed] using hB
        have hcp : (c : Int) = (p : Int) := by omega
        clear hB hpk
        go_wp2
        exact ⟨⟨1, by omega, rfl, HB.out, HK.out⟩, by simp [intOf]⟩
      · have hB' : bits .xor .u8 (ob.toNat : Int) ((turn : Int) / 256 % 256) = (nb.toNat : Int) := by simpa [IntKind.wrap, IntKind.bits, IntKind.signed] using hB
        have hcp : (c : Int) + 1 = (p : Int) := by omega
        clear hB hpk
        go_wp2
        exact ⟨⟨2, by omega, rfl, HB.out, HK.out⟩, by simp [intOf]⟩
      · have hB' : bits .xor .u8 (ob.toNat : Int) ((turn : Int) / 65536 % 256) = (nb.toNat : Int) := by simpa [IntKind.wrap, IntKind.bits, IntKind.signed] using hB
        have hcp : (c : Int) + 2 = (p : Int) := by omega
        clear hB hpk
        go_wp2
        exact ⟨⟨3, by omega, rfl, HB.out, HK.out⟩, by simp [intOf]⟩
      · have hB' : bits .xor .u8 (ob.toNat : Int) ((turn : Int) / 16777216) = (nb.toNat : Int) := by
          have h1 : bits .xor .u8 (ob.toNat : Int) ((turn : Int) / 16777216 % 256) = (nb.toNat : Int) := by simpa [IntKind.wrap, IntKind.bits, IntKind.signed] using hB
          rwa [show (turn : Int) / 16777216 % 256 = (turn : Int) / 16777216 from by omega] at h1
        have hcp : (c : Int) + 3 = (p : Int) := by omega
        clear hB hpk
        go_wp2
        exact ⟨⟨4, by omega, rfl, HB.out, HK.out⟩, by simp [intOf]⟩
    · obtain rfl : k = 4 := by omega
      have hrd := hb.rd cap C.length hlc.symm
      have hcb := run_string_rd (P := Try.prog) (dst := 9) under_bytes under_u8 under_string hrd
      go_wp2_with fail
      refine (frame_open wr (turnTo C c turn 4) (by omega)).mono ?_
      rw [HOC.out]
      rintro e w5 ⟨rfl, hc5⟩
      rw [openV]
      go_wp2
      go_ret
      exact ⟨rfl, (hc3'.trans' hch (by simp; omega)).trans hc5⟩
end Go.Proofs.Ytgpnnfgaphcklaa
