/-
  The plain law of towers however they came: by values, by joins, by bytes and back. Conditions: none.
  Rows of pairs: their cells. Conditions: none.
  Plain laws on a number's bytes: natB, seven bits in each, the lowest first. Conditions: none.
-/
import Derived.Test.YtlcoibhbdgdfcaaGreatDoorCoreCoinsB22
import Derived.Test.YtlcoibhbdgdfcaaGreatDoorProg
import Derived.Test.YtlcoibhbdgdfcaaGreatDoorCoreCoinsB1
import Derived.WalkKit
import Derived.Laws.BitsAllLaws
namespace Go.Proofs.YtlcoibhbdgdfcaaGreatDoor

theorem step_sum {W : Nat} (c : Nat → Bool) {h : Nat} {s : Nat × List (List Int)} (hW : 4 ≤ W) (hh : h < s.2.length) :
    (stepR W c h s).1 + (stepR W c h s).2.flatten.length ≤ s.1 + s.2.flatten.length := by
  obtain ⟨u, l⟩ := s
  obtain ⟨A, r, B, rfl, rfl⟩ := split_at hh
  rw [stepR_split]
  split
  · exact Nat.le_refl _
  · next hlt =>
    have hk := keepN_le (n := r.length) (k := W / 2) (by omega)
    have hl := half_len (W := W) (c u) r rfl rfl (by omega)
    simp only [List.length_append, List.flatten_append, List.flatten_cons, hl, List.length_take, (sort_ok r).2.2]
    cases B with
    | nil => simp; omega
    | cons b B => simp; omega
theorem settle_sum {W : Nat} {c : Nat → Bool} (hW : 4 ≤ W) (s : Nat × List (List Int)) :
    (settle W c s).1 + (settle W c s).2.flatten.length ≤ s.1 + s.2.flatten.length := by
  obtain ⟨h', hi, _⟩ := settleF_inv (c := c) hW (fun _ t => t.1 + t.2.flatten.length ≤ s.1 + s.2.flatten.length)
    (fun h t hi hh => by have := step_sum c hW hh; omega) (needF 0 s) 0 s (Nat.le_refl _) (Nat.le_refl _)
  exact hi
theorem TwD.fine.few12 {D : TwD} {W word n : Nat} (h : D.fine W word n) (hn : n ≤ 8000) : D.rows.length ≤ 12 := by
  have h1 := h.few
  by_cases h2 : D.rows.length ≤ 12
  · exact h2
  · have h3 : 2 ^ 13 ≤ 2 ^ D.rows.length := Nat.pow_le_pow_right (by omega) (by omega)
    have h4 : (2 : Nat) ^ 13 = 8192 := by decide
    omega
theorem TwD.put1_fine {D : TwD} {W word n : Nat} (hW : 4 ≤ W) (h : D.fine W word n) {x : Int} (hx : x ≤ 9223372036854775807) : (D.put1 x).fine W word (n + 1) := by
  obtain ⟨rfl, rfl, rfl, h4, h5, h6, h7, h8⟩ := h
  obtain ⟨r, l, hr⟩ : ∃ r l, D.rows = r :: l := by
    cases hr : D.rows with
    | nil => rw [hr] at h4; simp at h4
    | cons r l => exact ⟨r, l, rfl⟩
  have e1 : (D.add x).rows = (r ++ [x]) :: l := by simp [TwD.add, hr]
  have hs : (D.put1 x).rows = (settle D.W (coinB D.word) (D.used, (r ++ [x]) :: l)).2 := by
    show (settle D.W (coinB D.word) (D.used, (D.add x).rows)).2 = _
    rw [e1]
  refine ⟨rfl, rfl, rfl, ?_, ?_, ?_, ?_, ?_⟩
  · rw [hs]; exact settle_ne hW _ (by simp)
  · rw [hs, settle_tot hW]
    rw [hr] at h5
    simp only [totR, wsum, List.length_append, List.length_cons, List.length_nil] at h5 ⊢
    omega
  · rw [hs]; exact settle_short hW _
  · rw [hs]
    exact settle_full hW _ (by rw [hr] at h7; simpa using h7)
  · rw [hs]
    refine settle_all hW _ _ ?_
    rw [hr] at h8
    intro q hq v hv
    simp only [List.mem_cons] at hq
    rcases hq with rfl | hq
    · rcases List.mem_append.1 hv with hv | hv
      · exact h8 r (by simp) v hv
      · simp at hv; subst hv; exact hx
    · exact h8 q (by simp [hq]) v hv
theorem TwD.put1_used {D : TwD} (hW : 4 ≤ D.W) (h : 1 ≤ D.rows.length) (x : Int) : (D.put1 x).used + (D.put1 x).rows.flatten.length ≤ D.used + D.rows.flatten.length + 1 := by
  have h1 := settle_sum (c := coinB D.word) hW (D.used, (D.add x).rows)
  have h2 := (TwD.add_size (D := D) x h).1
  simp only [h2] at h1
  exact h1
theorem TwD.ends_fine {D : TwD} {W word n : Nat} (h : D.fine W word n) (x y : Int) : (D.ends x y).fine W word n := by
  unfold TwD.ends
  split <;> exact ⟨h.1, h.2, h.3, h.4, h.5, h.6, h.7, h.8⟩
/-- What is so of a tower behind the values m. -/
structure TwD.rq (D : TwD) (W word B : Nat) (m : List Vl) : Prop where
  fine : D.fine W word (sumS m)
  used : D.used + D.rows.flatten.length ≤ B
  few : sumS m ≤ B
  tells : ∀ x, D.tells x (upS x m)
theorem TwD.rq.mono {D : TwD} {W word B B' : Nat} {m : List Vl} (h : D.rq W word B m) (hB : B ≤ B') : D.rq W word B' m := ⟨h.fine, Nat.le_trans h.used hB, Nat.le_trans h.few hB, h.tells⟩
theorem TwD.new_rq {W word : Nat} (hW : 4 ≤ W) : (TwD.new W word).rq W word 0 [] := ⟨(TwD.new_ok hW).fine, by simp [TwD.new], Nat.le_refl _, fun x => TwD.new_tells x⟩
/-- On the way through one Put. -/
structure TwD.way (D : TwD) (W word B n : Nat) (t : Int → Nat) : Prop where
  fine : D.fine W word n
  used : D.used + D.rows.flatten.length ≤ B
  tells : ∀ x, D.tells x (t x)
theorem TwD.put1_way {D : TwD} {W word B n : Nat} {t : Int → Nat} (hW : 4 ≤ W) (h4 : W % 4 = 0) (h : D.way W word B n t) {y : Int} (hy : y ≤ 9223372036854775807) : (D.put1 y).way W word (B + 1) (n + 1) (fun x => t x + if y ≤ x then 1 else 0) :=
  ⟨TwD.put1_fine hW h.fine hy, Nat.le_trans (TwD.put1_used (by rw [h.fine.W_eq]; exact hW) h.fine.ne y) (Nat.succ_le_succ h.used), fun x => TwD.put1_tells (by rw [h.fine.W_eq]; exact hW) (by rw [h.fine.W_eq]; exact h4) h.fine.ne (h.tells x) y⟩
theorem TwD.putN_way {D : TwD} {W word B n : Nat} {t : Int → Nat} (hW : 4 ≤ W) (h4 : W % 4 = 0) (h : D.way W word B n t) {y : Int} (hy : y ≤ 9223372036854775807) (k : Nat) : (D.putN y k).way W word (B + k) (n + k) (fun x => t x + if y ≤ x then k else 0) := by
  induction k with
  | zero => simpa [TwD.putN] using h
  | succ k ih =>
    have h1 := TwD.put1_way hW h4 ih hy
    have e : (fun x => (t x + if y ≤ x then k else 0) + if y ≤ x then 1 else 0) = fun x => t x + if y ≤ x then k + 1 else 0 := by
      funext x; split <;> omega
    rw [e] at h1
    exact h1
theorem TwD.rq.way {D : TwD} {W word B : Nat} {m : List Vl} (h : D.rq W word B m) (x : Int) : (D.ends x x).way W word B (sumS m) (fun y => upS y m) := by
  refine ⟨TwD.ends_fine h.fine x x, ?_, fun y => TwD.ends_tells (h.tells y) x x⟩
  obtain ⟨-, -, -, e4, e5⟩ := D.ends_same x x
  rw [e4]
  have : (D.ends x x).used = D.used := by unfold TwD.ends; split <;> rfl
  rw [this]
  exact h.used
theorem TwD.rq.put {D : TwD} {W word B : Nat} {m : List Vl} (hW : 4 ≤ W) (h4 : W % 4 = 0) (h : D.rq W word B m) {x : Int} (hx : x ≤ 9223372036854775807) (n : Nat) : ((D.ends x x).putN x n).rq W word (B + n) (m ++ [⟨x, n⟩]) := by
  have h1 := TwD.putN_way hW h4 (h.way x) hx n
  have h2 := h.few
  refine ⟨?_, h1.used, ?_, fun y => ?_⟩
  · rw [sumS_app]; exact h1.fine
  · rw [sumS_app]; simp only [sumS]; omega
  · rw [upS_app]
    have := h1.tells y
    simp only [upS, Nat.add_zero] at this ⊢
    exact this
theorem TwD.joinZ_used {D O : TwD} (hW : 4 ≤ D.W) : (D.joinZ O).used + (D.joinZ O).rows.flatten.length ≤ D.used + D.rows.flatten.length + O.rows.flatten.length := by
  unfold TwD.joinZ
  split
  · omega
  · obtain ⟨e1, e2, -, e4, -⟩ := D.ends_same O.least O.most
    have e5 : (D.ends O.least O.most).used = D.used := by unfold TwD.ends; split <;> rfl
    have h1 := settle_sum (c := coinB (D.ends O.least O.most).word) (W := (D.ends O.least O.most).W) (by rw [e1]; exact hW) ((D.ends O.least O.most).used, joinR D.rows O.rows)
    simp only [joinR_flat, e5] at h1
    show (settle _ _ _).1 + (settle _ _ _).2.flatten.length ≤ _
    rw [show (D.joined O).rows = joinR D.rows O.rows from rfl, show (D.joined O).used = D.used from e5, show (D.joined O).W = (D.ends O.least O.most).W from rfl, show (D.joined O).word = (D.ends O.least O.most).word from rfl]
    omega
theorem TwD.rq.join {D O : TwD} {W word word2 B1 B2 : Nat} {a b : List Vl} (hW : 4 ≤ W) (h4 : W % 4 = 0) (hd : D.rq W word B1 a) (ho : O.rq W word2 B2 b) : (D.joinZ O).rq W word (B1 + B2) (a ++ b) := by
  have h1 := hd.used
  have h2 := ho.used
  have h3 := TwD.joinZ_used (D := D) (O := O) (by rw [hd.fine.W_eq]; exact hW)
  have h5 := hd.few
  have h6 := ho.few
  refine ⟨?_, by omega, by rw [sumS_app]; omega, fun x => ?_⟩
  · rw [sumS_app]; exact TwD.joinZ_fine hW hd.fine ho.fine
  · rw [upS_app]; exact TwD.joinZ_tells hW h4 hd.fine ho.fine (hd.tells x) (ho.tells x)
theorem TwD.rq.load {D : TwD} {W word B : Nat} {m : List Vl} (h : D.rq W word B m) (used low high : Int) (hu : used.toNat ≤ 63) : (TwD.loaded (W : Int) word D.rows used low high).rq W word (B + 64) m := by
  have h1 := h.used
  have h2 := h.few
  refine ⟨⟨by simp [TwD.loaded], rfl, h.fine.sum, h.fine.ne, h.fine.sum, h.fine.short, h.fine.full, h.fine.low⟩, ?_, by omega, fun x => ?_⟩
  · show used.toNat + D.rows.flatten.length ≤ _
    omega
  · have h3 := h.tells x
    unfold TwD.tells at *
    rw [h.fine.W_eq] at h3
    exact h3
end Go.Proofs.YtlcoibhbdgdfcaaGreatDoor

namespace Go.Proofs.YtlcoibhbdgdfcaaGreatDoor
open Go.RowKit

structure Pr where
  i : Int
  c : Nat
def Pr.cells (p : Pr) : List Value := [.int .i64 p.i, .int .u64 p.c]
def Pr.ok (p : Pr) : Prop := -9223372036854775808 ≤ p.i ∧ p.i < 9223372036854775808 ∧ p.c < 18446744073709551616
instance : Inhabited Pr := ⟨⟨0, 0⟩⟩
def prCells (l : List Pr) : List Value := (l.map Pr.cells).flatten
theorem prCells_len (l : List Pr) : (prCells l).length = l.length * 2 := by
  induction l with
  | nil => rfl
  | cons a r ih => simp only [prCells, List.map_cons, List.flatten_cons, List.length_append, List.length_cons] at *; rw [ih]; simp [Pr.cells]; omega
theorem prCells_append (a b : List Pr) : prCells (a ++ b) = prCells a ++ prCells b := by simp [prCells]
theorem prCells_get (l : List Pr) (k j : Nat) (hk : k < l.length) (hj : j < 2) : (prCells l)[k * 2 + j]? = (l[k].cells)[j]? := by
  induction l generalizing k with
  | nil => simp at hk
  | cons a r ih =>
    cases k with
    | zero =>
      simp only [prCells, List.map_cons, List.flatten_cons, Nat.zero_mul, Nat.zero_add, List.getElem_cons_zero]
      rw [List.getElem?_append_left (by simpa [Pr.cells] using hj)]
    | succ k =>
      have := ih k (by simpa using hk)
      simp only [prCells, List.map_cons, List.flatten_cons, List.getElem_cons_succ] at *
      rw [List.getElem?_append_right (by simp [Pr.cells]; omega), ← this]
      congr 1
      simp [Pr.cells]
      omega
theorem pr_at {w : World} {b o k : Nat} {l : List Pr} (hc : ∀ j, j < l.length * 2 → w.cell? ⟨b, o + j, none⟩ = (prCells l)[j]?) (h : k < l.length) :
    w.cell? ⟨b, o + k * 2, none⟩ = some (.int .i64 l[k].i) ∧ w.cell? ⟨b, o + k * 2 + 1, none⟩ = some (.int .u64 l[k].c) := by
  have g : ∀ j, j < 2 → w.cell? ⟨b, o + k * 2 + j, none⟩ = (l[k].cells)[j]? := fun j hj => by
    rw [← prCells_get l k j h hj, ← hc (k * 2 + j) (by omega), Nat.add_assoc]
  exact ⟨g 0 (by omega), g 1 (by omega)⟩
theorem prCells_oneCell (l : List Pr) : ∀ y ∈ prCells l, y.oneCell' = true := by
  intro y hy
  simp only [prCells, List.mem_flatten, List.mem_map] at hy
  obtain ⟨x, ⟨i, _, rfl⟩, hy⟩ := hy
  simp only [Pr.cells, List.mem_cons, List.not_mem_nil, or_false] at hy
  rcases hy with rfl | rfl <;> rfl

theorem under_pairs : Tryz.prog.underlying 177 = some (.slice 226) := by kernel_rfl
theorem info_pair : (Tryz.prog.info? 226).map (fun i => (i.zero, i.size, i.bytes)) = some (some (.agg #[.int .i64 0, .int .u64 0]), 2, 16) := by kernel_rfl
def totP (l : List Pr) : Nat := (l.map Pr.c).sum
theorem totP_cons (p : Pr) (l : List Pr) : totP (p :: l) = p.c + totP l := by simp [totP]
theorem totP_app (a b : List Pr) : totP (a ++ b) = totP a + totP b := by simp [totP]
theorem mem_tot {l : List Pr} {p : Pr} (h : p ∈ l) : p.c ≤ totP l := by
  induction l with
  | nil => simp at h
  | cons q l ih =>
    rw [totP_cons]
    rcases List.mem_cons.1 h with rfl | h
    · omega
    · have := ih h; omega
theorem take_tot (l : List Pr) (k : Nat) : totP (l.take k) ≤ totP l := by
  conv => rhs; rw [← List.take_append_drop k l, totP_app]
  omega
/-- May a row be: indexes that rise, counts from 1 to 2^63 - 1. -/
def goodTo (l : List Pr) (k : Nat) : Bool := (List.range k).all fun j => decide (1 ≤ (l.getD j default).c ∧ (l.getD j default).c ≤ 9223372036854775807 ∧ (0 < j → (l.getD (j - 1) default).i < (l.getD j default).i))
def goodP (l : List Pr) : Bool := goodTo l l.length
theorem goodTo_succ (l : List Pr) (k : Nat) : goodTo l (k + 1) = (goodTo l k && decide (1 ≤ (l.getD k default).c ∧ (l.getD k default).c ≤ 9223372036854775807 ∧ (0 < k → (l.getD (k - 1) default).i < (l.getD k default).i))) := by
  simp [goodTo, List.range_succ]
theorem goodTo_false {l : List Pr} {k m : Nat} (h : goodTo l k = false) (hm : k ≤ m) : goodTo l m = false := by
  induction m with
  | zero => rw [show k = 0 from by omega] at h; exact h
  | succ m ih =>
    rcases Nat.lt_or_ge m k with h1 | h1
    · obtain rfl : k = m + 1 := by omega
      exact h
    · rw [goodTo_succ, ih h1]; rfl
end Go.Proofs.YtlcoibhbdgdfcaaGreatDoor

namespace Go.Proofs.YtlcoibhbdgdfcaaGreatDoor
open Go.RowKit

def natB (n : Nat) : List UInt8 := if n < 128 then [UInt8.ofNat n] else UInt8.ofNat (128 + n % 128) :: natB (n / 128)
termination_by n
decreasing_by omega

theorem natB_lt {n : Nat} (h : n < 128) : natB n = [UInt8.ofNat n] := by rw [natB, if_pos h]
theorem natB_ge {n : Nat} (h : 128 ≤ n) : natB n = UInt8.ofNat (128 + n % 128) :: natB (n / 128) := by rw [natB, if_neg (by omega)]

theorem natB_pos (n : Nat) : 0 < (natB n).length := by
  by_cases h : n < 128
  · rw [natB_lt h]; simp
  · rw [natB_ge (by omega)]; simp

theorem natB_len (k : Nat) : ∀ n, n < 128 ^ (k + 1) → (natB n).length ≤ k + 1 := by
  induction k with
  | zero => intro n h; rw [natB_lt (by omega)]; simp
  | succ k ih =>
    intro n h
    by_cases h1 : n < 128
    · rw [natB_lt h1]; simp
    · rw [natB_ge (by omega)]
      have := ih (n / 128) (by
        rw [Nat.pow_succ] at h
        exact Nat.div_lt_of_lt_mul (by omega))
      simp
      omega

theorem natB_len10 {n : Nat} (h : n < 2 ^ 64) : (natB n).length ≤ 10 := natB_len 9 n (by
  have : (2 : Nat) ^ 64 < 128 ^ 10 := by decide
  omega)
theorem toNat_ofNat {n : Nat} (h : n < 256) : (UInt8.ofNat n).toNat = n := by simp; omega

/-- 'byte(u) | 0x80', as the model reckons it. -/
theorem or_128 (m : Nat) : bits .or .u8 ((m : Int) % 256) 128 = ((UInt8.ofNat (128 + m % 128)).toNat : Int) := by
  have h : ∀ k : Nat, k < 256 → bits .or .u8 (k : Int) 128 = ((UInt8.ofNat (128 + k % 128)).toNat : Int) := by decide +kernel
  have := h (m % 256) (by omega)
  rw [show ((m % 256 : Nat) : Int) = (m : Int) % 256 from by omega, show m % 256 % 128 = m % 128 from by omega] at this
  exact this
theorem byte_lt (m : Nat) (h : m < 128) : (m : Int) % 256 = ((UInt8.ofNat m).toNat : Int) := by
  rw [toNat_ofNat (by omega)]; omega
/-- A value with a sign as a number without, small magnitudes small; and back. -/
def zig (x : Int) : Nat := if x < 0 then (-2 * x - 1).toNat else (2 * x).toNat
def zag (u : Nat) : Int := if u % 2 = 0 then (u / 2 : Nat) else -((u / 2 : Nat) : Int) - 1

theorem zig_lt {x : Int} (h0 : -9223372036854775808 ≤ x) (h1 : x < 9223372036854775808) : zig x < 2 ^ 64 := by unfold zig; split <;> omega
theorem zag_zig (x : Int) : zag (zig x) = x := by unfold zig zag; split <;> split <;> omega
theorem zig_zag (u : Nat) : zig (zag u) = u := by unfold zig zag; split <;> split <;> omega
theorem zag_range {u : Nat} (h : u < 2 ^ 64) : -9223372036854775808 ≤ zag u ∧ zag u < 9223372036854775808 := by unfold zag; split <;> omega

theorem xor_ones_u64 (a : Nat) (ha : a < 18446744073709551616) : bits .xor .u64 (a : Int) 18446744073709551615 = 18446744073709551615 - (a : Int) := by
  show IntKind.u64.wrap ((BitVec.ofInt 64 (a : Int) ^^^ BitVec.ofInt 64 18446744073709551615).toNat : Int) = _
  have h1 : BitVec.ofInt 64 18446744073709551615 = BitVec.allOnes 64 := by decide
  rw [h1, BitVec.xor_allOnes, BitVec.toNat_not, ofInt_u64 a ha]
  simp [IntKind.wrap, IntKind.bits, IntKind.signed]
  omega
theorem xor_zero_u64 (a : Nat) (ha : a < 18446744073709551616) : bits .xor .u64 (a : Int) 0 = (a : Int) := by
  rw [u64_xor _ _ (by omega) (by omega) (by omega) (by omega)]
  simp
theorem wrap_u64' (n : Int) : IntKind.u64.wrap n = n % 18446744073709551616 := by simp [IntKind.wrap, IntKind.bits, IntKind.signed]

/-- 'uint64(x)<<1 ^ uint64(x>>63)', as the model reckons it. -/
theorem zig_bits (x : Int) (h0 : -9223372036854775808 ≤ x) (h1 : x < 9223372036854775808) :
    bits .xor .u64 (IntKind.u64.wrap (IntKind.u64.wrap x * 2)) (IntKind.u64.wrap (x / 9223372036854775808)) = (zig x : Int) := by
  simp only [wrap_u64']
  by_cases hx : x < 0
  · have e1 : x / 9223372036854775808 % 18446744073709551616 = 18446744073709551615 := by omega
    obtain ⟨a, ha⟩ := Int.eq_ofNat_of_zero_le (show 0 ≤ x % 18446744073709551616 * 2 % 18446744073709551616 by omega)
    rw [e1, ha, xor_ones_u64 a (by omega)]
    unfold zig
    rw [if_pos hx]
    omega
  · have e1 : x / 9223372036854775808 % 18446744073709551616 = 0 := by omega
    obtain ⟨a, ha⟩ := Int.eq_ofNat_of_zero_le (show 0 ≤ x % 18446744073709551616 * 2 % 18446744073709551616 by omega)
    rw [e1, ha, xor_zero_u64 a (by omega)]
    unfold zig
    rw [if_neg hx]
    omega

theorem xor_neg1_i64 (a : Nat) (ha : a < 9223372036854775808) : bits .xor .i64 (a : Int) (-1) = -1 - (a : Int) := by
  show IntKind.i64.wrap ((BitVec.ofInt 64 (a : Int) ^^^ BitVec.ofInt 64 (-1)).toNat : Int) = _
  have h1 : BitVec.ofInt 64 (-1) = BitVec.allOnes 64 := by decide
  rw [h1, BitVec.xor_allOnes, BitVec.toNat_not, ofInt_u64 a (by omega)]
  simp [IntKind.wrap, IntKind.bits, IntKind.signed]
  omega
theorem xor_zero_i64 (a : Nat) (ha : a < 9223372036854775808) : bits .xor .i64 (a : Int) 0 = (a : Int) := by
  show IntKind.i64.wrap ((BitVec.ofInt 64 (a : Int) ^^^ BitVec.ofInt 64 0).toNat : Int) = _
  have h1 : BitVec.ofInt 64 0 = 0#64 := by decide
  rw [h1, BitVec.xor_zero, ofInt_u64 a (by omega)]
  simp [IntKind.wrap, IntKind.bits, IntKind.signed]
  omega

/-- 'int64(u>>1) ^ -int64(u&1)', as the model reckons it. -/
theorem zag_bits (u : Nat) (h : u < 18446744073709551616) :
    bits .xor .i64 ((u : Int) / 2) (wrap64 (-wrap64 (bits .and .u64 (u : Int) 1))) = zag u := by
  rw [u64_and _ _ (by omega) (by omega) (by omega) (by omega)]
  have e1 : ((u : Int).toNat &&& (1 : Int).toNat : Nat) = u % 2 := by
    show u &&& 1 = u % 2
    exact Nat.and_one_is_mod u
  rw [e1]
  have e2 : (u : Int) / 2 = ((u / 2 : Nat) : Int) := by omega
  rw [e2]
  unfold zag
  rcases Nat.mod_two_eq_zero_or_one u with h2 | h2
  · rw [h2, if_pos rfl]
    have : wrap64 (-wrap64 ((0 : Nat) : Int)) = 0 := by unfold wrap64; omega
    rw [this, xor_zero_i64 _ (by omega)]
  · rw [h2, if_neg (by omega)]
    have : wrap64 (-wrap64 ((1 : Nat) : Int)) = -1 := by unfold wrap64; omega
    rw [this, xor_neg1_i64 _ (by omega)]
    omega
theorem pow128 (i : Nat) : (128 : Nat) ^ i = 2 ^ (7 * i) := by rw [Nat.pow_mul]

/-- 'u |= uint64(c&0x7f) << shift', as the model reckons it. -/
theorem or_shl (u i c : Nat) (hi : i ≤ 9) (hc : c < 256) (h9 : i = 9 → c % 128 ≤ 1) (hu : u < 128 ^ i) :
    bits .or .u64 (u : Int) (IntKind.u64.wrap (IntKind.u64.wrap (bits .and .u8 (c : Int) 127) * 2 ^ (7 * i))) = ((u + c % 128 * 128 ^ i : Nat) : Int) := by
  have hand : bits .and .u8 (c : Int) 127 = ((c % 128 : Nat) : Int) := by
    have h : ∀ k : Nat, k < 256 → bits .and .u8 (k : Int) 127 = ((k % 128 : Nat) : Int) := by decide +kernel
    exact h c hc
  have hp : (128 : Nat) ^ i ≤ 2 ^ 63 := by rw [pow128]; exact Nat.pow_le_pow_right (by decide) (by omega)
  have hlt : c % 128 * 128 ^ i < 18446744073709551616 := by
    by_cases h : i = 9
    · subst h
      have := h9 rfl
      omega
    · have hp : (128 : Nat) ^ i ≤ 128 ^ 8 := Nat.pow_le_pow_right (by decide) (by omega)
      have : c % 128 * 128 ^ i ≤ 127 * 128 ^ 8 := Nat.mul_le_mul (by omega) hp
      omega
  rw [hand, wrap_u64' ((c % 128 : Nat) : Int), wrap_u64']
  have e1 : (((c % 128 : Nat) : Int) % 18446744073709551616 * 2 ^ (7 * i)) % 18446744073709551616 = ((c % 128 * 128 ^ i : Nat) : Int) := by
    have : ((c % 128 : Nat) : Int) % 18446744073709551616 = ((c % 128 : Nat) : Int) := by omega
    rw [this, pow128, show ((2 : Int) ^ (7 * i)) = ((2 ^ (7 * i) : Nat) : Int) from by norm_cast, ← Int.natCast_mul, ← pow128]
    omega
  rw [e1, u64_or_nat _ _ (by omega) hlt, pow128, ← Nat.shiftLeft_eq, Nat.or_comm, ← Nat.shiftLeft_add_eq_or_of_lt (by rw [← pow128]; exact hu), Nat.add_comm]

/-- What an eye does: on the bytes that are left, or bad (none). -/
def eRaw (n : Int) : Option (List UInt8) → List UInt8 × Option (List UInt8)
  | none => ([], none)
  | some l => if 0 ≤ n ∧ n ≤ l.length then (l.take n.toNat, some (l.drop n.toNat)) else ([], none)

/-- A number at the head of bytes, at its i-th one: the number, and what is left. -/
def leb : Nat → List UInt8 → Option (Nat × List UInt8)
  | _, [] => none
  | i, b :: r =>
    if i = 9 ∧ 1 < b.toNat ∨ b.toNat = 0 ∧ 0 < i then none
    else if 128 ≤ b.toNat then (leb (i + 1) r).map fun p => (b.toNat % 128 + 128 * p.1, p.2)
    else some (b.toNat, r)

def eNat (most : Nat) : Option (List UInt8) → Nat × Option (List UInt8)
  | none => (0, none)
  | some l => match leb 0 l with
    | some (v, r) => if v ≤ most then (v, some r) else (0, none)
    | none => (0, none)
theorem eNat_le (most : Nat) (st : Option (List UInt8)) : (eNat most st).1 ≤ most := by
  cases st with
  | none => simp [eNat]
  | some l =>
    unfold eNat
    cases hl : leb 0 l with
    | none => simp [hl]
    | some p =>
      simp only [hl]
      split
      · assumption
      · simp
end Go.Proofs.YtlcoibhbdgdfcaaGreatDoor
