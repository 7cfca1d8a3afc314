/-
  The walk of ogivetop's great. Conditions: the form's own reach.
  Rows of pairs: their cells. Conditions: none.
  Plain laws on a number's bytes: natB, seven bits in each, the lowest first. Conditions: none.
-/
import Derived.Test.YtlcoibhbdgdfcaaGreatDoorCoreLumpsB7
import Derived.Test.YtlcoibhbdgdfcaaGreatDoorProg
import Derived.Test.YtlcoibhbdgdfcaaGreatDoorCoreLumpsB1
import Derived.WalkKit
import Derived.Laws.BitsAllLaws
namespace Go.Proofs.YtlcoibhbdgdfcaaGreatDoor
open Go.RowKit

/-- What is played. -/
structure Played (c : Cf) (fs : List Lf) : Prop where
  few : fs.length ≤ 12
  each : ∀ f ∈ fs, f.l.length ≤ 30 ∧ ∀ v ∈ f.l, v.n ≤ 20
  log : ¬ (c.kind = 1 ∧ 100 < c.den)
def GreatQ (w w' : World) (c : Cf) (fs : List Lf) (e : Ending) : Prop := ∃ B : Bool, e = .returned (.bool B) ∧ Chg [] w w' ∧ (B = false → Played c fs)
set_option maxRecDepth 100000 in
set_option maxHeartbeats 4000000 in
theorem core_great (w : World) (c : Cf) (lo : Option Addr) (lc n : Nat) (fs : List Lf) (hn : n = fs.length) (hr : Rd w 2 (.slice lo n lc) n (lfCells fs)) (hl : n ≤ 140737488351232)
    (hf : ∀ f ∈ fs, Rd w 2 (.slice f.ao f.l.length f.cap) f.l.length (vlCells f.l) ∧ f.l.length ≤ 140737488351232) :
    Calls Tryz.prog 12 #[c.val, .slice lo n lc] w fun e w' => GreatQ w w' c fs e := by
  have HR := Lib.hid hr
  have HF := Lib.hid hf
  have HN := Lib.hid hn
  obtain ⟨q, hq⟩ : ∃ q, q = w.heap.size := ⟨_, rfl⟩
  have HB0 := Lib.hid (show Blk (w.alloc (.cells c.cells 30)) q c.cells 30 from by rw [hq]; exact Blk.alloc_new _ _ _)
  have HC0 := Lib.hid ((Chg.refl [] w).alloc (.cells c.cells 30))
  simp only [Cf.val, Cf.cells] at HB0 HC0 ⊢
  clear hr hf hn
  go_enter Tryz.func12, Tryz.ntmps12
  go_wp2_with fail
  rw [← hq]
  clear hq
  generalize w.alloc (.cells #[.int .i64 c.kind, .int .u64 c.num, .int .u64 c.den, .int .i64 c.side, .int .i64 c.most, .int .i64 c.digits, .int .u64 c.limit, .int .i64 c.depth, .int .i64 c.factor, .int .i64 c.width, .int .u64 c.word] 30) = w0 at *
  go_loopw [11] (fun i wx => ∃ k : Nat, k ≤ n ∧ i = .int .i64 (k : Nat) ∧ Hid (∀ f ∈ fs.take k, f.l.length ≤ 30 ∧ ∀ v ∈ f.l, v.n ≤ 20) ∧ Hid (Chg [] w0 wx)) (fun i _ => n - (intOf i).toNat)
  case atStart => exact ⟨0, Nat.zero_le _, rfl, Lib.hid (by simp), Lib.hid (Chg.refl _ _)⟩
  case round =>
    obtain ⟨k, hk, rfl, HG, HC⟩ := hrel
    by_cases hlt : k < n
    · have hkl : k < fs.length := by have := HN.out; omega
      obtain ⟨b, o, rfl, hcl⟩ := (HR.out.chg (HC0.out.trans HC.out) (by simp)).addr (by omega)
      obtain ⟨l0, l1⟩ := lf_at (l := fs) (fun j hj => hcl j (by rw [HN.out]; exact hj)) hkl
      have g1 := HF.out fs[k] (List.getElem_mem hkl)
      have HTK := Lib.hid (show ∀ P : Lf → Prop, (∀ f ∈ fs.take k, P f) → P fs[k] → ∀ f ∈ fs.take (k + 1), P f from fun P h1 h2 f hf => by
        rw [List.take_succ_eq_append_getElem hkl] at hf
        rcases List.mem_append.1 hf with hf | hf
        · exact h1 f hf
        · rw [List.mem_singleton.1 hf]; exact h2)
      generalize fs[k] = f at *
      have HRV := Lib.hid (g1.1.chg (HC0.out.trans HC.out) (by simp))
      have hlb := g1.2
      clear hcl g1
      obtain ⟨m, hm⟩ : ∃ m, m = f.l.length := ⟨_, rfl⟩
      have HM := Lib.hid hm
      rw [← hm] at l0 HRV hlb
      clear hm
      by_cases h30 : m ≤ 30
      · have d30 : decide ((30 : Int) < (m : Int)) = false := decide_eq_false (by omega)
        have d30' : decide (30 < m) = false := decide_eq_false (by omega)
        obtain ⟨bf, hbf⟩ : ∃ z, z = wr.heap.size := ⟨_, rfl⟩
        have HBF := Lib.hid (show Blk (wr.alloc (.cells #[.slice f.ao m f.cap, .bool f.by_] 67)) bf #[.slice f.ao m f.cap, .bool f.by_] 67 from by rw [hbf]; exact Blk.alloc_new _ _ _)
        have HC1 := Lib.hid (HC.out.alloc (.cells #[.slice f.ao m f.cap, .bool f.by_] 67))
        have HRV1 := Lib.hid (HRV.out.alloc (.cells #[.slice f.ao m f.cap, .bool f.by_] 67))
        go_wp2_with fail
        rw [← hbf]
        clear hbf
        generalize wr.alloc (.cells #[.slice f.ao m f.cap, .bool f.by_] 67) = w1 at *
        clear l0 l1
        go_loopw [22] (fun i wx => ∃ h : Nat, h ≤ m ∧ i = .int .i64 (h : Nat) ∧ Hid (∀ v ∈ f.l.take h, v.n ≤ 20) ∧ Hid (Chg [] w1 wx)) (fun i _ => m - (intOf i).toNat)
        case atStart => exact ⟨0, Nat.zero_le _, rfl, Lib.hid (by simp), Lib.hid (Chg.refl _ _)⟩
        case round =>
          obtain ⟨h, hh, rfl, HV, HCV⟩ := hrel
          by_cases hlv : h < m
          · have hvl : h < f.l.length := by have := HM.out; omega
            obtain ⟨b2, o2, hao, hcv⟩ := (HRV1.out.chg HCV.out (by simp)).addr (by omega)
            obtain ⟨v0, v1⟩ := vl_at (l := f.l) (fun j hj => hcv j (by rw [HM.out]; exact hj)) hvl
            have HTV := Lib.hid (show f.l[h].n ≤ 20 → ∀ v ∈ f.l.take (h + 1), v.n ≤ 20 from fun h2 v hv => by
              rw [List.take_succ_eq_append_getElem hvl] at hv
              rcases List.mem_append.1 hv with hv | hv
              · exact HV.out v hv
              · rw [List.mem_singleton.1 hv]; exact h2)
            generalize f.l[h] = v at *
            clear hcv
            rw [hao]
            by_cases h20 : v.n ≤ 20
            · have d20 : decide ((20 : Int) < (v.n : Int)) = false := decide_eq_false (by omega)
              have d20' : decide (20 < v.n) = false := decide_eq_false (by omega)
              go_wp2
              exact ⟨⟨h + 1, hlv, by go_num, Lib.hid (HTV.out h20), Lib.hid (HCV.out.alloc _)⟩, by simp [intOf]; omega⟩
            · have d20 : decide ((20 : Int) < (v.n : Int)) = true := decide_eq_true (by omega)
              have d20' : decide (20 < v.n) = true := decide_eq_true (by omega)
              go_wp2
              go_ret
              exact ⟨true, rfl, HC0.out.trans ((HC1.out.trans HCV.out).alloc _), by simp⟩
          · obtain rfl : h = m := by omega
            have hall : ∀ v ∈ f.l, v.n ≤ 20 := by
              have := HV.out
              rwa [List.take_of_length_le (by have := HM.out; omega)] at this
            have HFK := Lib.hid (HTK.out (fun f => f.l.length ≤ 30 ∧ ∀ v ∈ f.l, v.n ≤ 20) HG.out ⟨by have := HM.out; omega, hall⟩)
            clear hall
            go_wp2
            exact ⟨⟨k + 1, hlt, by go_num, HFK, Lib.hid (HC1.out.trans HCV.out)⟩, by simp [intOf]; omega⟩
      · have d30 : decide ((30 : Int) < (m : Int)) = true := decide_eq_true (by omega)
        have d30' : decide (30 < m) = true := decide_eq_true (by omega)
        go_wp2
        go_ret
        exact ⟨true, rfl, HC0.out.trans (HC.out.alloc _), by simp⟩
    · obtain rfl : k = n := by omega
      have hall : ∀ f ∈ fs, f.l.length ≤ 30 ∧ ∀ v ∈ f.l, v.n ≤ 20 := by
        have := HG.out
        rwa [List.take_of_length_le (by have := HN.out; omega)] at this
      have HALL := Lib.hid hall
      obtain ⟨z0, z1, z2, z3, z4, z5, z6, z7, z8, z9, z10⟩ := cf_cells (c := c) (b := q) (HB0.out.chg HC.out (by simp))
      clear hall
      by_cases h12 : k ≤ 12
      · have d12 : decide ((12 : Int) < (k : Int)) = false := decide_eq_false (by omega)
        have d12' : decide (12 < k) = false := decide_eq_false (by omega)
        by_cases hk1 : c.kind = 1
        · have e1 : (c.kind == 1) = true := by rw [beq_iff_eq]; exact hk1
          by_cases hd : c.den ≤ 100
          · have d100 : decide ((100 : Int) < (c.den : Int)) = false := decide_eq_false (by omega)
            have d100' : decide (100 < c.den) = false := decide_eq_false (by omega)
            have HK := Lib.hid hk1
            clear hk1
            go_wp2
            go_ret
            exact ⟨false, rfl, HC0.out.trans HC.out, fun _ => ⟨by have := HN.out; omega, HALL.out, fun h => by omega⟩⟩
          · have d100 : decide ((100 : Int) < (c.den : Int)) = true := decide_eq_true (by omega)
            have d100' : decide (100 < c.den) = true := decide_eq_true (by omega)
            have HK := Lib.hid hk1
            clear hk1
            go_wp2
            go_ret
            exact ⟨true, rfl, HC0.out.trans HC.out, by simp⟩
        · have e1 : (c.kind == 1) = false := by rw [beq_eq_false_iff_ne]; exact hk1
          have HK := Lib.hid hk1
          clear hk1
          go_wp2
          go_ret
          exact ⟨false, rfl, HC0.out.trans HC.out, fun _ => ⟨by have := HN.out; omega, HALL.out, fun h => HK.out h.1⟩⟩
      · have d12 : decide ((12 : Int) < (k : Int)) = true := decide_eq_true (by omega)
        have d12' : decide (12 < k) = true := decide_eq_true (by omega)
        go_wp2
        go_ret
        exact ⟨true, rfl, HC0.out.trans HC.out, by simp⟩
end Go.Proofs.YtlcoibhbdgdfcaaGreatDoor

namespace Go.Proofs.YtlcoibhbdgdfcaaGreatDoor
open Go.RowKit

structure Pr where
  i : Int
  c : Nat
def Pr.cells (p : Pr) : List Value := [.int .i64 p.i, .int .u64 p.c]
def Pr.ok (p : Pr) : Prop := -9223372036854775808 ≤ p.i ∧ p.i < 9223372036854775808 ∧ p.c < 18446744073709551616
instance : Inhabited Pr := ⟨⟨0, 0⟩⟩
def prCells (l : List Pr) : List Value := (l.map Pr.cells).flatten
theorem prCells_len (l : List Pr) : (prCells l).length = l.length * 2 := by
  induction l with
  | nil => rfl
  | cons a r ih => simp only [prCells, List.map_cons, List.flatten_cons, List.length_append, List.length_cons] at *; rw [ih]; simp [Pr.cells]; omega
theorem prCells_append (a b : List Pr) : prCells (a ++ b) = prCells a ++ prCells b := by simp [prCells]
theorem prCells_get (l : List Pr) (k j : Nat) (hk : k < l.length) (hj : j < 2) : (prCells l)[k * 2 + j]? = (l[k].cells)[j]? := by
  induction l generalizing k with
  | nil => simp at hk
  | cons a r ih =>
    cases k with
    | zero =>
      simp only [prCells, List.map_cons, List.flatten_cons, Nat.zero_mul, Nat.zero_add, List.getElem_cons_zero]
      rw [List.getElem?_append_left (by simpa [Pr.cells] using hj)]
    | succ k =>
      have := ih k (by simpa using hk)
      simp only [prCells, List.map_cons, List.flatten_cons, List.getElem_cons_succ] at *
      rw [List.getElem?_append_right (by simp [Pr.cells]; omega), ← this]
      congr 1
      simp [Pr.cells]
      omega
theorem pr_at {w : World} {b o k : Nat} {l : List Pr} (hc : ∀ j, j < l.length * 2 → w.cell? ⟨b, o + j, none⟩ = (prCells l)[j]?) (h : k < l.length) :
    w.cell? ⟨b, o + k * 2, none⟩ = some (.int .i64 l[k].i) ∧ w.cell? ⟨b, o + k * 2 + 1, none⟩ = some (.int .u64 l[k].c) := by
  have g : ∀ j, j < 2 → w.cell? ⟨b, o + k * 2 + j, none⟩ = (l[k].cells)[j]? := fun j hj => by
    rw [← prCells_get l k j h hj, ← hc (k * 2 + j) (by omega), Nat.add_assoc]
  exact ⟨g 0 (by omega), g 1 (by omega)⟩
theorem prCells_oneCell (l : List Pr) : ∀ y ∈ prCells l, y.oneCell' = true := by
  intro y hy
  simp only [prCells, List.mem_flatten, List.mem_map] at hy
  obtain ⟨x, ⟨i, _, rfl⟩, hy⟩ := hy
  simp only [Pr.cells, List.mem_cons, List.not_mem_nil, or_false] at hy
  rcases hy with rfl | rfl <;> rfl

theorem under_pairs : Tryz.prog.underlying 177 = some (.slice 226) := by kernel_rfl
theorem info_pair : (Tryz.prog.info? 226).map (fun i => (i.zero, i.size, i.bytes)) = some (some (.agg #[.int .i64 0, .int .u64 0]), 2, 16) := by kernel_rfl
def totP (l : List Pr) : Nat := (l.map Pr.c).sum
theorem totP_cons (p : Pr) (l : List Pr) : totP (p :: l) = p.c + totP l := by simp [totP]
theorem totP_app (a b : List Pr) : totP (a ++ b) = totP a + totP b := by simp [totP]
theorem mem_tot {l : List Pr} {p : Pr} (h : p ∈ l) : p.c ≤ totP l := by
  induction l with
  | nil => simp at h
  | cons q l ih =>
    rw [totP_cons]
    rcases List.mem_cons.1 h with rfl | h
    · omega
    · have := ih h; omega
theorem take_tot (l : List Pr) (k : Nat) : totP (l.take k) ≤ totP l := by
  conv => rhs; rw [← List.take_append_drop k l, totP_app]
  omega
/-- May a row be: indexes that rise, counts from 1 to 2^63 - 1. -/
def goodTo (l : List Pr) (k : Nat) : Bool := (List.range k).all fun j => decide (1 ≤ (l.getD j default).c ∧ (l.getD j default).c ≤ 9223372036854775807 ∧ (0 < j → (l.getD (j - 1) default).i < (l.getD j default).i))
def goodP (l : List Pr) : Bool := goodTo l l.length
theorem goodTo_succ (l : List Pr) (k : Nat) : goodTo l (k + 1) = (goodTo l k && decide (1 ≤ (l.getD k default).c ∧ (l.getD k default).c ≤ 9223372036854775807 ∧ (0 < k → (l.getD (k - 1) default).i < (l.getD k default).i))) := by
  simp [goodTo, List.range_succ]
theorem goodTo_false {l : List Pr} {k m : Nat} (h : goodTo l k = false) (hm : k ≤ m) : goodTo l m = false := by
  induction m with
  | zero => rw [show k = 0 from by omega] at h; exact h
  | succ m ih =>
    rcases Nat.lt_or_ge m k with h1 | h1
    · obtain rfl : k = m + 1 := by omega
      exact h
    · rw [goodTo_succ, ih h1]; rfl
end Go.Proofs.YtlcoibhbdgdfcaaGreatDoor

namespace Go.Proofs.YtlcoibhbdgdfcaaGreatDoor
open Go.RowKit

def natB (n : Nat) : List UInt8 := if n < 128 then [UInt8.ofNat n] else UInt8.ofNat (128 + n % 128) :: natB (n / 128)
termination_by n
decreasing_by omega

theorem natB_lt {n : Nat} (h : n < 128) : natB n = [UInt8.ofNat n] := by rw [natB, if_pos h]
theorem natB_ge {n : Nat} (h : 128 ≤ n) : natB n = UInt8.ofNat (128 + n % 128) :: natB (n / 128) := by rw [natB, if_neg (by omega)]

theorem natB_pos (n : Nat) : 0 < (natB n).length := by
  by_cases h : n < 128
  · rw [natB_lt h]; simp
  · rw [natB_ge (by omega)]; simp

theorem natB_len (k : Nat) : ∀ n, n < 128 ^ (k + 1) → (natB n).length ≤ k + 1 := by
  induction k with
  | zero => intro n h; rw [natB_lt (by omega)]; simp
  | succ k ih =>
    intro n h
    by_cases h1 : n < 128
    · rw [natB_lt h1]; simp
    · rw [natB_ge (by omega)]
      have := ih (n / 128) (by
        rw [Nat.pow_succ] at h
        exact Nat.div_lt_of_lt_mul (by omega))
      simp
      omega

theorem natB_len10 {n : Nat} (h : n < 2 ^ 64) : (natB n).length ≤ 10 := natB_len 9 n (by
  have : (2 : Nat) ^ 64 < 128 ^ 10 := by decide
  omega)
theorem toNat_ofNat {n : Nat} (h : n < 256) : (UInt8.ofNat n).toNat = n := by simp; omega

/-- 'byte(u) | 0x80', as the model reckons it. -/
theorem or_128 (m : Nat) : bits .or .u8 ((m : Int) % 256) 128 = ((UInt8.ofNat (128 + m % 128)).toNat : Int) := by
  have h : ∀ k : Nat, k < 256 → bits .or .u8 (k : Int) 128 = ((UInt8.ofNat (128 + k % 128)).toNat : Int) := by decide +kernel
  have := h (m % 256) (by omega)
  rw [show ((m % 256 : Nat) : Int) = (m : Int) % 256 from by omega, show m % 256 % 128 = m % 128 from by omega] at this
  exact this
theorem byte_lt (m : Nat) (h : m < 128) : (m : Int) % 256 = ((UInt8.ofNat m).toNat : Int) := by
  rw [toNat_ofNat (by omega)]; omega
/-- A value with a sign as a number without, small magnitudes small; and back. -/
def zig (x : Int) : Nat := if x < 0 then (-2 * x - 1).toNat else (2 * x).toNat
def zag (u : Nat) : Int := if u % 2 = 0 then (u / 2 : Nat) else -((u / 2 : Nat) : Int) - 1

theorem zig_lt {x : Int} (h0 : -9223372036854775808 ≤ x) (h1 : x < 9223372036854775808) : zig x < 2 ^ 64 := by unfold zig; split <;> omega
theorem zag_zig (x : Int) : zag (zig x) = x := by unfold zig zag; split <;> split <;> omega
theorem zig_zag (u : Nat) : zig (zag u) = u := by unfold zig zag; split <;> split <;> omega
theorem zag_range {u : Nat} (h : u < 2 ^ 64) : -9223372036854775808 ≤ zag u ∧ zag u < 9223372036854775808 := by unfold zag; split <;> omega

theorem xor_ones_u64 (a : Nat) (ha : a < 18446744073709551616) : bits .xor .u64 (a : Int) 18446744073709551615 = 18446744073709551615 - (a : Int) := by
  show IntKind.u64.wrap ((BitVec.ofInt 64 (a : Int) ^^^ BitVec.ofInt 64 18446744073709551615).toNat : Int) = _
  have h1 : BitVec.ofInt 64 18446744073709551615 = BitVec.allOnes 64 := by decide
  rw [h1, BitVec.xor_allOnes, BitVec.toNat_not, ofInt_u64 a ha]
  simp [IntKind.wrap, IntKind.bits, IntKind.signed]
  omega
theorem xor_zero_u64 (a : Nat) (ha : a < 18446744073709551616) : bits .xor .u64 (a : Int) 0 = (a : Int) := by
  rw [u64_xor _ _ (by omega) (by omega) (by omega) (by omega)]
  simp
theorem wrap_u64' (n : Int) : IntKind.u64.wrap n = n % 18446744073709551616 := by simp [IntKind.wrap, IntKind.bits, IntKind.signed]

/-- 'uint64(x)<<1 ^ uint64(x>>63)', as the model reckons it. -/
theorem zig_bits (x : Int) (h0 : -9223372036854775808 ≤ x) (h1 : x < 9223372036854775808) :
    bits .xor .u64 (IntKind.u64.wrap (IntKind.u64.wrap x * 2)) (IntKind.u64.wrap (x / 9223372036854775808)) = (zig x : Int) := by
  simp only [wrap_u64']
  by_cases hx : x < 0
  · have e1 : x / 9223372036854775808 % 18446744073709551616 = 18446744073709551615 := by omega
    obtain ⟨a, ha⟩ := Int.eq_ofNat_of_zero_le (show 0 ≤ x % 18446744073709551616 * 2 % 18446744073709551616 by omega)
    rw [e1, ha, xor_ones_u64 a (by omega)]
    unfold zig
    rw [if_pos hx]
    omega
  · have e1 : x / 9223372036854775808 % 18446744073709551616 = 0 := by omega
    obtain ⟨a, ha⟩ := Int.eq_ofNat_of_zero_le (show 0 ≤ x % 18446744073709551616 * 2 % 18446744073709551616 by omega)
    rw [e1, ha, xor_zero_u64 a (by omega)]
    unfold zig
    rw [if_neg hx]
    omega

theorem xor_neg1_i64 (a : Nat) (ha : a < 9223372036854775808) : bits .xor .i64 (a : Int) (-1) = -1 - (a : Int) := by
  show IntKind.i64.wrap ((BitVec.ofInt 64 (a : Int) ^^^ BitVec.ofInt 64 (-1)).toNat : Int) = _
  have h1 : BitVec.ofInt 64 (-1) = BitVec.allOnes 64 := by decide
  rw [h1, BitVec.xor_allOnes, BitVec.toNat_not, ofInt_u64 a (by omega)]
  simp [IntKind.wrap, IntKind.bits, IntKind.signed]
  omega
theorem xor_zero_i64 (a : Nat) (ha : a < 9223372036854775808) : bits .xor .i64 (a : Int) 0 = (a : Int) := by
  show IntKind.i64.wrap ((BitVec.ofInt 64 (a : Int) ^^^ BitVec.ofInt 64 0).toNat : Int) = _
  have h1 : BitVec.ofInt 64 0 = 0#64 := by decide
  rw [h1, BitVec.xor_zero, ofInt_u64 a (by omega)]
  simp [IntKind.wrap, IntKind.bits, IntKind.signed]
  omega

/-- 'int64(u>>1) ^ -int64(u&1)', as the model reckons it. -/
theorem zag_bits (u : Nat) (h : u < 18446744073709551616) :
    bits .xor .i64 ((u : Int) / 2) (wrap64 (-wrap64 (bits .and .u64 (u : Int) 1))) = zag u := by
  rw [u64_and _ _ (by omega) (by omega) (by omega) (by omega)]
  have e1 : ((u : Int).toNat &&& (1 : Int).toNat : Nat) = u % 2 := by
    show u &&& 1 = u % 2
    exact Nat.and_one_is_mod u
  rw [e1]
  have e2 : (u : Int) / 2 = ((u / 2 : Nat) : Int) := by omega
  rw [e2]
  unfold zag
  rcases Nat.mod_two_eq_zero_or_one u with h2 | h2
  · rw [h2, if_pos rfl]
    have : wrap64 (-wrap64 ((0 : Nat) : Int)) = 0 := by unfold wrap64; omega
    rw [this, xor_zero_i64 _ (by omega)]
  · rw [h2, if_neg (by omega)]
    have : wrap64 (-wrap64 ((1 : Nat) : Int)) = -1 := by unfold wrap64; omega
    rw [this, xor_neg1_i64 _ (by omega)]
    omega
theorem pow128 (i : Nat) : (128 : Nat) ^ i = 2 ^ (7 * i) := by rw [Nat.pow_mul]

/-- 'u |= uint64(c&0x7f) << shift', as the model reckons it. -/
theorem or_shl (u i c : Nat) (hi : i ≤ 9) (hc : c < 256) (h9 : i = 9 → c % 128 ≤ 1) (hu : u < 128 ^ i) :
    bits .or .u64 (u : Int) (IntKind.u64.wrap (IntKind.u64.wrap (bits .and .u8 (c : Int) 127) * 2 ^ (7 * i))) = ((u + c % 128 * 128 ^ i : Nat) : Int) := by
  have hand : bits .and .u8 (c : Int) 127 = ((c % 128 : Nat) : Int) := by
    have h : ∀ k : Nat, k < 256 → bits .and .u8 (k : Int) 127 = ((k % 128 : Nat) : Int) := by decide +kernel
    exact h c hc
  have hp : (128 : Nat) ^ i ≤ 2 ^ 63 := by rw [pow128]; exact Nat.pow_le_pow_right (by decide) (by omega)
  have hlt : c % 128 * 128 ^ i < 18446744073709551616 := by
    by_cases h : i = 9
    · subst h
      have := h9 rfl
      omega
    · have hp : (128 : Nat) ^ i ≤ 128 ^ 8 := Nat.pow_le_pow_right (by decide) (by omega)
      have : c % 128 * 128 ^ i ≤ 127 * 128 ^ 8 := Nat.mul_le_mul (by omega) hp
      omega
  rw [hand, wrap_u64' ((c % 128 : Nat) : Int), wrap_u64']
  have e1 : (((c % 128 : Nat) : Int) % 18446744073709551616 * 2 ^ (7 * i)) % 18446744073709551616 = ((c % 128 * 128 ^ i : Nat) : Int) := by
    have : ((c % 128 : Nat) : Int) % 18446744073709551616 = ((c % 128 : Nat) : Int) := by omega
    rw [this, pow128, show ((2 : Int) ^ (7 * i)) = ((2 ^ (7 * i) : Nat) : Int) from by norm_cast, ← Int.natCast_mul, ← pow128]
    omega
  rw [e1, u64_or_nat _ _ (by omega) hlt, pow128, ← Nat.shiftLeft_eq, Nat.or_comm, ← Nat.shiftLeft_add_eq_or_of_lt (by rw [← pow128]; exact hu), Nat.add_comm]

/-- What an eye does: on the bytes that are left, or bad (none). -/
def eRaw (n : Int) : Option (List UInt8) → List UInt8 × Option (List UInt8)
  | none => ([], none)
  | some l => if 0 ≤ n ∧ n ≤ l.length then (l.take n.toNat, some (l.drop n.toNat)) else ([], none)

/-- A number at the head of bytes, at its i-th one: the number, and what is left. -/
def leb : Nat → List UInt8 → Option (Nat × List UInt8)
  | _, [] => none
  | i, b :: r =>
    if i = 9 ∧ 1 < b.toNat ∨ b.toNat = 0 ∧ 0 < i then none
    else if 128 ≤ b.toNat then (leb (i + 1) r).map fun p => (b.toNat % 128 + 128 * p.1, p.2)
    else some (b.toNat, r)

def eNat (most : Nat) : Option (List UInt8) → Nat × Option (List UInt8)
  | none => (0, none)
  | some l => match leb 0 l with
    | some (v, r) => if v ≤ most then (v, some r) else (0, none)
    | none => (0, none)
theorem eNat_le (most : Nat) (st : Option (List UInt8)) : (eNat most st).1 ≤ most := by
  cases st with
  | none => simp [eNat]
  | some l =>
    unfold eNat
    cases hl : leb 0 l with
    | none => simp [hl]
    | some p =>
      simp only [hl]
      split
      · assumption
      · simp
end Go.Proofs.YtlcoibhbdgdfcaaGreatDoor
