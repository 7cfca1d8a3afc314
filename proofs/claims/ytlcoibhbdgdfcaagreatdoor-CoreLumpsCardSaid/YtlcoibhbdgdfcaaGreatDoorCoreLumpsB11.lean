/-
  Plain laws: a number's bytes are read again, and only these; what the reference's Taken comes to. Conditions: none.
  The walks of the references of layer 4 (and 2): Nat, Int, Zig, Taken. Conditions: the bytes fit into memory.
  The walks of what the laws of layer 4 share: alive, great, put. Conditions: the form's own reach.
  The walk of the law QuillNumbers. Conditions: the form's own reach.
  Rows of pairs: their cells, their bytes. Conditions: none.
-/
import Derived.Test.YtlcoibhbdgdfcaaGreatDoorCoreLumpsB8
import Derived.Test.YtlcoibhbdgdfcaaGreatDoorCoreLumpsB10
import Derived.Test.YtlcoibhbdgdfcaaGreatDoorCoreLumpsB2
import Derived.Test.YtlcoibhbdgdfcaaGreatDoorCoreLumpsB1
namespace Go.Proofs.YtlcoibhbdgdfcaaGreatDoor
open Go.RowKit

/-- What the low seven bits of each byte come to. -/
def valB (l : List UInt8) : Nat := l.foldr (fun b acc => b.toNat % 128 + 128 * acc) 0
theorem valB_cons (b : UInt8) (l : List UInt8) : valB (b :: l) = b.toNat % 128 + 128 * valB l := rfl

theorem natB_induct {P : Nat → Prop} (h0 : ∀ n, n < 128 → P n) (h1 : ∀ n, 128 ≤ n → P (n / 128) → P n) (n : Nat) : P n := by
  induction n using Nat.strongRecOn with
  | _ n ih =>
    by_cases h : n < 128
    · exact h0 n h
    · exact h1 n (by omega) (ih (n / 128) (by omega))

theorem valB_natB (n : Nat) : valB (natB n) = n := by
  induction n using natB_induct with
  | h0 n h => rw [natB_lt h, valB_cons, toNat_ofNat (by omega)]; simp [valB]; omega
  | h1 n h ih => rw [natB_ge h, valB_cons, ih, toNat_ofNat (by omega)]; omega

/-- All bytes of a number but the last one are 128 at least; the last one is below. -/
def shaped (l : List UInt8) : Prop := ∃ a b, l = a ++ [b] ∧ (∀ c ∈ a, 128 ≤ c.toNat) ∧ b.toNat < 128
theorem natB_shaped (n : Nat) : shaped (natB n) := by
  induction n using natB_induct with
  | h0 n h => rw [natB_lt h]; exact ⟨[], _, rfl, by simp, by rw [toNat_ofNat (by omega)]; omega⟩
  | h1 n h ih =>
    obtain ⟨a, b, e, h2, h3⟩ := ih
    rw [natB_ge h, e]
    refine ⟨UInt8.ofNat (128 + n % 128) :: a, b, rfl, fun c hc => ?_, h3⟩
    rcases List.mem_cons.1 hc with rfl | hc
    · rw [toNat_ofNat (by omega)]; omega
    · exact h2 c hc

/-- Two texts, each begun by shaped bytes: these are one. -/
theorem shaped_unique : ∀ (x y r s : List UInt8), shaped x → shaped y → x ++ r = y ++ s → x = y := by
  have gen : ∀ (a1 a2 : List UInt8) (b1 b2 : UInt8) (r s : List UInt8), (∀ c ∈ a1, 128 ≤ c.toNat) → (∀ c ∈ a2, 128 ≤ c.toNat) → b1.toNat < 128 → b2.toNat < 128 → a1 ++ b1 :: r = a2 ++ b2 :: s → a1 ++ [b1] = a2 ++ [b2] := by
    intro a1
    induction a1 with
    | nil =>
      intro a2 b1 b2 r s _ h2 hb1 _ he
      cases a2 with
      | nil => simp at he; simp [he.1]
      | cons c t =>
        simp at he
        have := h2 c (by simp)
        rw [← he.1] at this
        omega
    | cons d t ih =>
      intro a2 b1 b2 r s h1 h2 hb1 hb2 he
      cases a2 with
      | nil =>
        simp at he
        have := h1 d (by simp)
        rw [he.1] at this
        omega
      | cons c t' =>
        simp at he
        have := ih t' b1 b2 r s (fun c hc => h1 c (by simp [hc])) (fun c hc => h2 c (by simp [hc])) hb1 hb2 he.2
        simp [he.1, this]
  rintro x y r s ⟨a1, b1, rfl, h1, hb1⟩ ⟨a2, b2, rfl, h2, hb2⟩ he
  exact gen a1 a2 b1 b2 r s h1 h2 hb1 hb2 (by simpa using he)

theorem leb_natB (v : Nat) : ∀ (i : Nat) (r : List UInt8), i ≤ 9 → v < 2 ^ (64 - 7 * i) → (0 < i → 0 < v) → leb i (natB v ++ r) = some (v, r) := by
  induction v using natB_induct with
  | h0 n h =>
    intro i r hi hv h0
    rw [natB_lt h]
    have hc : (UInt8.ofNat n).toNat = n := toNat_ofNat (by omega)
    simp only [List.cons_append, List.nil_append, leb, hc]
    rw [if_neg, if_neg (by omega)]
    rintro (⟨rfl, h1⟩ | ⟨rfl, h1⟩)
    · simp at hv; omega
    · have := h0 h1; omega
  | h1 n h ih =>
    intro i r hi hv h0
    rw [natB_ge h]
    have hc : (UInt8.ofNat (128 + n % 128)).toNat = 128 + n % 128 := toNat_ofNat (by omega)
    simp only [List.cons_append, leb, hc]
    have hi9 : i < 9 := by
      rcases Nat.lt_or_ge i 9 with h9 | h9
      · exact h9
      · obtain rfl : i = 9 := by omega
        simp at hv; omega
    have hp : (2 : Nat) ^ (64 - 7 * i) = 128 * 2 ^ (64 - 7 * (i + 1)) := by
      rw [show 64 - 7 * i = 7 + (64 - 7 * (i + 1)) from by omega, Nat.pow_add]
    rw [if_neg (by omega), if_pos (by omega), ih (i + 1) r (by omega) (by rw [hp] at hv; omega) (by omega)]
    simp
    omega

theorem leb_sound : ∀ (l : List UInt8) (i v : Nat) (r : List UInt8), i ≤ 9 → leb i l = some (v, r) → l = natB v ++ r ∧ v < 2 ^ (64 - 7 * i) ∧ (0 < i → 0 < v) := by
  intro l
  induction l with
  | nil => intro i v r _ h; simp [leb] at h
  | cons b t ih =>
    intro i v r hi h
    have hb := b.toNat_lt
    simp only [leb] at h
    split at h
    · cases h
    · rename_i h1
      split at h
      · rename_i h2
        cases hl : leb (i + 1) t with
        | none => simp [hl] at h
        | some p =>
          simp [hl] at h
          obtain ⟨rfl, rfl⟩ := h
          have hi9 : i < 9 := by omega
          obtain ⟨e, hv, h0⟩ := ih (i + 1) p.1 p.2 (by omega) hl
          have hp0 := h0 (by omega)
          have hp : (2 : Nat) ^ (64 - 7 * i) = 128 * 2 ^ (64 - 7 * (i + 1)) := by
            rw [show 64 - 7 * i = 7 + (64 - 7 * (i + 1)) from by omega, Nat.pow_add]
          refine ⟨?_, by rw [hp]; omega, by omega⟩
          rw [natB_ge (n := b.toNat % 128 + 128 * p.1) (by omega), show (b.toNat % 128 + 128 * p.1) / 128 = p.1 from by omega, show 128 + (b.toNat % 128 + 128 * p.1) % 128 = b.toNat from by omega]
          rw [List.cons_append, ← e]
          simp
      · rename_i h2
        simp at h
        obtain ⟨rfl, rfl⟩ := h
        refine ⟨?_, ?_, by omega⟩
        · rw [natB_lt (by omega)]; simp
        · by_cases h9 : i = 9
          · subst h9; simp; omega
          · have : (2 : Nat) ^ 7 ≤ 2 ^ (64 - 7 * i) := Nat.pow_le_pow_right (by decide) (by omega)
            omega

/-- What Taken answers. -/
def takenP (most : Nat) (l : List UInt8) : Nat × Nat :=
  match leb 0 l with
  | some (v, r) => if v ≤ most then (v, l.length - r.length) else (0, 0)
  | none => (0, 0)

theorem takenP_hit {most n k : Nat} {l : List UInt8} (hk : k ≤ l.length) (hn : n < 2 ^ 64) (h : natB n = l.take k) : takenP most l = if n ≤ most then (n, k) else (0, 0) := by
  have e : leb 0 l = some (n, l.drop k) := by
    have := leb_natB n 0 (l.drop k) (by omega) (by simpa using hn) (by omega)
    rw [h, List.take_append_drop] at this
    exact this
  simp only [takenP, e, List.length_drop]
  rw [show l.length - (l.length - k) = k from by omega]

theorem takenP_none {most : Nat} {l : List UInt8} (h : ∀ v r, v < 2 ^ 64 → l ≠ natB v ++ r) : takenP most l = (0, 0) := by
  unfold takenP
  cases e : leb 0 l with
  | none => rfl
  | some p =>
    obtain ⟨e1, e2, _⟩ := leb_sound l 0 p.1 p.2 (by omega) e
    exact absurd e1 (h _ _ (by simpa using e2))

theorem takenP_miss {most k : Nat} {l : List UInt8} (hk : k < l.length) (hb : ∀ j, (hj : j < k) → 128 ≤ (l[j]'(by omega)).toNat) (hl : (l[k]).toNat < 128) (h : natB (valB (l.take (k + 1)) % 18446744073709551616) ≠ l.take (k + 1)) : takenP most l = (0, 0) := by
  refine takenP_none fun v r hv he => h ?_
  have hs : shaped (l.take (k + 1)) := by
    refine ⟨l.take k, l[k], List.take_succ_eq_append_getElem hk, fun c hc => ?_, hl⟩
    obtain ⟨j, hj, rfl⟩ := List.mem_take_iff_getElem.1 hc
    exact hb j (by omega)
  have e := shaped_unique (l.take (k + 1)) (natB v) (l.drop (k + 1)) r hs (natB_shaped v) (by rw [List.take_append_drop]; exact he)
  rw [e, valB_natB, Nat.mod_eq_of_lt hv]

theorem takenP_out {most k : Nat} {l : List UInt8} (hb : ∀ j, j < k → (hj : j < l.length) → 128 ≤ l[j].toNat) (h : 10 ≤ k ∨ l.length ≤ k) : takenP most l = (0, 0) := by
  refine takenP_none fun v r hv he => ?_
  obtain ⟨a, b, e, h1, h2⟩ := natB_shaped v
  have hlen := natB_len10 hv
  rw [e] at hlen he
  have hal : a.length < l.length := by rw [he]; simp
  have := hb a.length (by rcases h with h | h; simp at hlen; omega; omega) hal
  have hx : l[a.length] = b := by
    simp only [he]
    rw [List.getElem_append_left (by simp), List.getElem_append_right (by omega)]
    simp
  rw [hx] at this
  omega
theorem taken_step (v b : Nat) (hb : b < 256) : IntKind.u64.wrap (IntKind.u64.wrap ((v : Int) % 18446744073709551616 * 128) + (IntKind.u64.wrap (b : Int)).tmod 128) = (((b % 128 + 128 * v) % 18446744073709551616 : Nat) : Int) := by
  rw [Int.tmod_eq_emod_of_nonneg (by rw [wrap_u64']; omega)]
  simp only [wrap_u64']
  omega
end Go.Proofs.YtlcoibhbdgdfcaaGreatDoor

namespace Go.Proofs.YtlcoibhbdgdfcaaGreatDoor
open Go.RowKit

/-- 'string([]byte{x})'. -/
theorem run_one_byte (w : World) (x : Int) (c : UInt8) (hx : x = (c.toNat : Int)) :
    (convert 114 9 (.slice (some ⟨w.heap.size, 0, none⟩) 1 1)).run Tryz.prog (w.alloc (.cells #[.int .u8 x] 5)) = .ok (.string ⟨[c].toArray⟩) (w.alloc (.cells #[.int .u8 x] 5)) := by
  subst hx
  exact run_string_rd under_bytes under_u8 under_string (l := [c]) (Rd.lit1 w (.int .u8 c.toNat) 5 1)

attribute [local go_sem] ByteArray.extract_mk

end Go.Proofs.YtlcoibhbdgdfcaaGreatDoor

namespace Go.Proofs.YtlcoibhbdgdfcaaGreatDoor
open Go.RowKit

/-- An item that is written: its kind, a number, a value, a text. -/
structure Itm4 where
  k : Int
  u : Nat
  x : Int
  s : List UInt8
def Itm4.cells (i : Itm4) : List Value := [.int .i64 i.k, .int .u64 i.u, .int .i64 i.x, .string ⟨i.s.toArray⟩]
def Itm4.ok (i : Itm4) : Prop := -9223372036854775808 ≤ i.k ∧ i.k < 9223372036854775808 ∧ i.u < 18446744073709551616 ∧ -9223372036854775808 ≤ i.x ∧ i.x < 9223372036854775808 ∧ i.s.length ≤ 140737488351232
/-- An item's bytes. -/
def Itm4.enc (i : Itm4) : List UInt8 := if i.k = 0 then natB i.u else if i.k = 1 then natB (zig i.x) else if i.k = 2 then i.s else []
def itmCells (l : List Itm4) : List Value := (l.map Itm4.cells).flatten
def itmTot (l : List Itm4) : Nat := (l.map fun i => i.s.length).sum
def itmEnc (l : List Itm4) : List UInt8 := (l.map Itm4.enc).flatten

theorem itmCells_len (l : List Itm4) : (itmCells l).length = l.length * 4 := by
  induction l with
  | nil => rfl
  | cons a r ih => simp only [itmCells, List.map_cons, List.flatten_cons, List.length_append, List.length_cons] at *; rw [ih]; simp [Itm4.cells]; omega
theorem itmCells_get (l : List Itm4) (k j : Nat) (hk : k < l.length) (hj : j < 4) : (itmCells l)[k * 4 + j]? = (l[k].cells)[j]? := by
  induction l generalizing k with
  | nil => simp at hk
  | cons a r ih =>
    cases k with
    | zero =>
      simp only [itmCells, List.map_cons, List.flatten_cons, Nat.zero_mul, Nat.zero_add, List.getElem_cons_zero]
      rw [List.getElem?_append_left (by simpa [Itm4.cells] using hj)]
    | succ k =>
      have := ih k (by simpa using hk)
      simp only [itmCells, List.map_cons, List.flatten_cons, List.getElem_cons_succ] at *
      rw [List.getElem?_append_right (by simp [Itm4.cells]; omega), ← this]
      congr 1
      simp [Itm4.cells]
      omega

theorem itmTot_take (l : List Itm4) (k : Nat) (h : k < l.length) : itmTot (l.take (k + 1)) = itmTot (l.take k) + (l[k]).s.length := by
  rw [List.take_succ_eq_append_getElem h]
  simp only [itmTot, List.map_append, List.sum_append, List.map_cons, List.map_nil, List.sum_cons, List.sum_nil, Nat.add_zero]
theorem itmTot_mono (l : List Itm4) (k : Nat) : itmTot (l.take k) ≤ itmTot l := by
  have : itmTot l = itmTot (l.take k) + itmTot (l.drop k) := by
    conv => lhs; rw [← List.take_append_drop k l]
    simp only [itmTot, List.map_append, List.sum_append]
  omega

theorem itm_at {w : World} {b o k : Nat} {l : List Itm4} (hc : ∀ j, j < l.length * 4 → w.cell? ⟨b, o + j, none⟩ = (itmCells l)[j]?) (h : k < l.length) :
    w.cell? ⟨b, o + k * 4, none⟩ = some (.int .i64 l[k].k) ∧ w.cell? ⟨b, o + k * 4 + 1, none⟩ = some (.int .u64 l[k].u) ∧
    w.cell? ⟨b, o + k * 4 + 2, none⟩ = some (.int .i64 l[k].x) ∧ w.cell? ⟨b, o + k * 4 + 3, none⟩ = some (.string ⟨l[k].s.toArray⟩) := by
  have g : ∀ j, j < 4 → w.cell? ⟨b, o + k * 4 + j, none⟩ = (l[k].cells)[j]? := fun j hj => by
    rw [← itmCells_get l k j h hj, ← hc (k * 4 + j) (by omega), Nat.add_assoc]
  exact ⟨g 0 (by omega), g 1 (by omega), g 2 (by omega), g 3 (by omega)⟩

theorem itmCells_oneCell (l : List Itm4) : ∀ y ∈ itmCells l, y.oneCell' = true := by
  intro y hy
  simp only [itmCells, List.mem_flatten, List.mem_map] at hy
  obtain ⟨x, ⟨i, _, rfl⟩, hy⟩ := hy
  simp only [Itm4.cells, List.mem_cons, List.not_mem_nil, or_false] at hy
  rcases hy with rfl | rfl | rfl | rfl <;> rfl
theorem itmCells_append (a b : List Itm4) : itmCells (a ++ b) = itmCells a ++ itmCells b := by simp [itmCells]
theorem itmEnc_append (a b : List Itm4) : itmEnc (a ++ b) = itmEnc a ++ itmEnc b := by simp [itmEnc]
theorem itmTot_append (a b : List Itm4) : itmTot (a ++ b) = itmTot a + itmTot b := by simp [itmTot]

theorem enc_len (i : Itm4) (h : i.ok) : i.enc.length ≤ 10 + i.s.length := by
  unfold Itm4.enc
  split
  · have := natB_len10 (n := i.u) h.2.2.1; omega
  · split
    · have := natB_len10 (zig_lt h.2.2.2.1 h.2.2.2.2.1); omega
    · split
      · omega
      · simp
theorem itmEnc_len (l : List Itm4) (h : ∀ i ∈ l, i.ok) : (itmEnc l).length ≤ 10 * l.length + itmTot l := by
  induction l with
  | nil => simp [itmEnc]
  | cons a r ih =>
    have h1 := enc_len a (h a (by simp))
    have h2 := ih (fun i hi => h i (by simp [hi]))
    simp only [itmEnc, itmTot, List.map_cons, List.flatten_cons, List.length_append, List.length_cons, List.sum_cons] at *
    omega
theorem itmEnc_take (l : List Itm4) (k : Nat) (h : k < l.length) : itmEnc (l.take (k + 1)) = itmEnc (l.take k) ++ (l[k]).enc := by
  rw [List.take_succ_eq_append_getElem h]
  simp only [itmEnc, List.map_append, List.flatten_append, List.map_cons, List.map_nil, List.flatten_cons, List.flatten_nil, List.append_nil]

theorem natB_300 : natB 300 = [172, 2] := by rw [natB_ge (by omega), natB_lt (by omega)]; rfl

end Go.Proofs.YtlcoibhbdgdfcaaGreatDoor

namespace Go.Proofs.YtlcoibhbdgdfcaaGreatDoor
open Go.RowKit

/-- What an eye reads is what the reference takes. -/
theorem eNat_some (most : Nat) (l : List UInt8) : eNat most (some l) = match leb 0 l with
    | some (v, r) => if v ≤ most then (v, some r) else (0, none)
    | none => (0, none) := rfl
theorem eNat_taken (most : Nat) (l : List UInt8) : (eNat most (some l)).1 = (takenP most l).1 ∧ (eNat most (some l)).2.isNone = decide ((takenP most l).2 = 0) := by
  cases h : leb 0 l with
  | none => simp [eNat_some, takenP, h]
  | some p =>
    obtain ⟨v, r⟩ := p
    obtain ⟨e, _, _⟩ := leb_sound l 0 v r (by omega) h
    have := natB_pos v
    have hl : l.length = (natB v).length + r.length := by rw [e, List.length_append]
    by_cases hv : v ≤ most
    · simp [eNat_some, takenP, h, hv]; omega
    · simp [eNat_some, takenP, h, hv]

theorem eNat_natB {n most : Nat} (hn : n < 2 ^ 64) (r : List UInt8) : eNat most (some (natB n ++ r)) = if n ≤ most then (n, some r) else (0, none) := by
  rw [eNat_some, leb_natB n 0 r (by omega) (by simpa using hn) (by omega)]

theorem quill_natn (w : World) (q : Nat) (F : List Nat) (l : List UInt8) (us : List Nat) (hus : ∀ u ∈ us, u < 2 ^ 64) (hq : Qul w q F l) (n b0 : Nat) (hn : n = us.length) (hb0 : b0 = w.heap.size) (hroom : l.length + 10 * us.length ≤ 70368744177664) :
    Calls Tryz.prog 69 #[.pointer (some ⟨q, 0, none⟩), .slice (some ⟨b0, 0, none⟩) n n] (w.alloc (.cells (u64s us).toArray 25)) fun e w' => e = .returned (.tuple #[]) ∧
      ∃ F', Qul w' q F' (l ++ us.flatMap natB) ∧ Mv F w F' w' := by
  subst hn hb0
  refine (quill_nat (w.alloc (.cells (u64s us).toArray 25)) q F l (some ⟨w.heap.size, 0, none⟩) us.length us hus (hq.alloc _) ?_ (fun b hb => ?_) hroom).mono ?_
  · have := Rd.lit w (u64s us).toArray 25 1 us.length us.length (by simp)
    simpa using this
  · have hlt := hq.lt
    simp only [abl_some, List.mem_singleton] at hb
    intro hF
    have := hlt b hF
    omega
  · rintro e w' ⟨rfl, F', h1, h2⟩
    exact ⟨rfl, F', h1, (Mv.alloc F w _).trans h2⟩

theorem new_quill (w : World) : Qul (w.alloc (.cells #[.slice none 0 0] 116)) w.heap.size [w.heap.size] [] := ⟨none, 0, rfl, Blk.alloc_new _ _ _, Own.nil _ _ _⟩

end Go.Proofs.YtlcoibhbdgdfcaaGreatDoor

namespace Go.Proofs.YtlcoibhbdgdfcaaGreatDoor
open Go.RowKit

instance : Inhabited Pr := ⟨⟨0, 0⟩⟩
/-- How far one index is behind the one ahead, less 1, as the program reckons it. -/
def gapN (p q : Int) : Nat := ((p - q - 1) % 18446744073709551616).toNat
theorem gapN_lt (p q : Int) : gapN p q < 18446744073709551616 := by unfold gapN; omega
/-- The bytes of the pair at a place of a row. -/
def pairB (l : List Pr) (k : Nat) : List UInt8 := (if k = 0 then natB (zig (l.getD k default).i) else natB (gapN (l.getD k default).i (l.getD (k - 1) default).i)) ++ natB (l.getD k default).c
def bodyTo (l : List Pr) (k : Nat) : List UInt8 := ((List.range k).map (pairB l)).flatten
def putB (l : List Pr) : List UInt8 := natB l.length ++ bodyTo l l.length
theorem bodyTo_succ (l : List Pr) (k : Nat) : bodyTo l (k + 1) = bodyTo l k ++ pairB l k := by
  simp [bodyTo, List.range_succ]

theorem pairB_len (l : List Pr) (hok : ∀ p ∈ l, p.ok) (k : Nat) (h : k < l.length) : (pairB l k).length ≤ 20 := by
  have hg : l.getD k default = l[k] := by simp [List.getD, h]
  have hp := hok l[k] (List.getElem_mem _)
  unfold pairB
  rw [hg, List.length_append]
  have h1 := natB_len10 (n := l[k].c) (by have := hp.2.2; omega)
  split
  · have := natB_len10 (zig_lt hp.1 hp.2.1); omega
  · have := natB_len10 (n := gapN l[k].i (l.getD (k - 1) default).i) (by have := gapN_lt l[k].i (l.getD (k - 1) default).i; omega)
    omega
theorem bodyTo_len (l : List Pr) (hok : ∀ p ∈ l, p.ok) (k : Nat) (h : k ≤ l.length) : (bodyTo l k).length ≤ 20 * k := by
  induction k with
  | zero => simp [bodyTo]
  | succ k ih =>
    have := ih (by omega)
    have := pairB_len l hok k (by omega)
    rw [bodyTo_succ, List.length_append]
    omega

end Go.Proofs.YtlcoibhbdgdfcaaGreatDoor
