/-
  Plain laws on worlds, used by all walks of this seat: what a call may have changed (Chg), slices that are read (Rd), slices that are the program's own (Own), and append onto these. Conditions: none. More plain laws on worlds and slices. Conditions: none.
-/
import Derived.WalkKit
import Derived.WalkSpells
import Derived.WalkLawsBesides
import Derived.Lib.Hide
import Derived.Deep.QuietTactic
import Derived.BigQuiet
import Derived.Handy
import Derived.Deep.RegionWith
import Derived.Deep.DeepMust
import Derived.Deep.RegionHeld3
import Derived.Deep.DeepCutAuto
import Derived.Deep.LoopGhost
import Derived.Deep.DeepFit
import Derived.Deep.RegionLaw
import Derived.StillTailTactics
namespace Go.Proofs.YtmehcfocfljoeaaGreatDoor
open Go.RowKit

theorem ret_int {k : IntKind} {a b : Int} (h : a = b) : Ending.returned (.int k a) = .returned (.int k b) := by rw [h]

/-- Behind w the world w' has new blocks, and of the old ones at most those of F have turned. -/
structure Chg (F : List Nat) (w w' : World) : Prop where
  os : w'.os = w.os
  tape : w'.tape = w.tape
  output : w'.output = w.output
  size : w.heap.size ≤ w'.heap.size
  block : ∀ k, k < w.heap.size → k ∉ F → w'.heap[k]? = w.heap[k]?

namespace Chg
variable {F F1 : List Nat} {w w1 w2 : World}
theorem refl (F : List Nat) (w : World) : Chg F w w := ⟨rfl, rfl, rfl, Nat.le_refl _, fun _ _ _ => rfl⟩
theorem trans' (h : Chg F w w1) (k : Chg F1 w1 w2) (hf : ∀ b ∈ F1, b ∈ F ∨ w.heap.size ≤ b) : Chg F w w2 :=
  ⟨k.os.trans h.os, k.tape.trans h.tape, k.output.trans h.output, Nat.le_trans h.size k.size,
   fun b hb hn => (k.block b (Nat.lt_of_lt_of_le hb h.size) (fun hm => by rcases hf b hm with h1 | h1; exact hn h1; omega)).trans (h.block b hb hn)⟩
theorem trans (h : Chg F w w1) (k : Chg F w1 w2) : Chg F w w2 := h.trans' k fun _ hb => .inl hb
theorem mono (h : Chg F w w1) (hf : ∀ b ∈ F, b ∈ F1 ∨ w.heap.size ≤ b) : Chg F1 w w1 := (Chg.refl F1 w).trans' h hf
theorem nil (h : Chg [] w w1) : Chg F w w1 := h.mono (by simp)
theorem alloc (h : Chg F w w1) (o : Obj) : Chg F w (w1.alloc o) :=
  h.trans' (F1 := []) ⟨rfl, rfl, rfl, by simp, fun k hk _ => heap_alloc_old w1 o hk⟩ (by simp)
theorem drew (h : Chg F w w1) : Chg F w w1.drew := ⟨h.os, h.tape, h.output, h.size, h.block⟩
theorem drewN (h : Chg F w w1) (n : Nat) : Chg F w (w1.drewN n) := ⟨h.os, h.tape, h.output, h.size, h.block⟩
theorem setCell (h : Chg F w w1) {a : Addr} (ha : a.block ∈ F ∨ w.heap.size ≤ a.block) (u : Value) : Chg F w (w1.setCell a u) :=
  h.trans' (F1 := [a.block]) ⟨rfl, rfl, rfl, by simp [World.setCell], fun k _ hn => Below.heap_setCell _ _ _ _ (by simpa using hn)⟩ (by simpa using ha)
theorem setRow (h : Chg F w w1) {g : Nat} (ha : g ∈ F ∨ w.heap.size ≤ g) (cs : Array Value) : Chg F w (w1.setRow g cs) :=
  h.trans' (F1 := [g]) ⟨rfl, rfl, rfl, by simp [World.setRow], fun k _ hn => setRow_other _ _ _ _ (by simpa using hn)⟩ (by simpa using ha)
theorem grown {row : Option Nat} (h : Chg F w w1) (hg : w1.grownBy w2 row) (hr : ∀ k, row = some k → k ∈ F ∨ w.heap.size ≤ k) : Chg F w w2 :=
  h.trans' (F1 := row.toList) ⟨hg.os, hg.tape, hg.output, hg.size, fun k hk hn => hg.block k hk (fun e => hn (by simp [← e]))⟩ (fun b hb => hr b (by simpa using hb))
theorem below (h : Chg [] w w1) : Below w.heap.size w w1 := ⟨h.os, h.tape, h.output, h.size, fun k hk => h.block k hk (by simp)⟩
theorem of_below (h : Below w.heap.size w w1) : Chg F w w1 := ⟨h.os, h.tape, h.output, h.size, fun k hk _ => h.block k hk⟩
theorem heap (h : Chg F w w1) {b : Nat} {o : Obj} (hb : w.heap[b]? = some o) (hn : b ∉ F) : w1.heap[b]? = some o :=
  (h.block b (lt_of_block hb) hn).trans hb
theorem cell (h : Chg F w w1) {a : Addr} {v : Value} (hc : w.cell? a = some v) (hn : a.block ∉ F) : w1.cell? a = some v :=
  (World.cell?_of_block (h.block a.block (World.block_lt_of_cell? w a hc) hn)).trans hc
theorem cell' (h : Chg F w w1) {a : Addr} (hb : a.block < w.heap.size) (hn : a.block ∉ F) : w1.cell? a = w.cell? a := World.cell?_of_block (h.block a.block hb hn)
theorem frozen (h : Chg F w w1) {a : Addr} (hb : a.block < w.heap.size) (hn : a.block ∉ F) : w1.frozen? a = w.frozen? a := World.frozen?_of_block (h.block a.block hb hn)
end Chg

/-- Block b is this row of cells, none of them frozen. -/
def Blk (w : World) (b : Nat) (cs : Array Value) (t : TypeId) : Prop := w.heap[b]? = some (.cells cs t (0, 0))

namespace Blk
variable {w w1 : World} {b : Nat} {cs : Array Value} {t : TypeId}
theorem cell (h : Blk w b cs t) (j : Nat) : w.cell? ⟨b, j, none⟩ = cs[j]? := cell_of_row w b j cs t (0, 0) h
theorem free (h : Blk w b cs t) (j : Nat) : w.frozen? ⟨b, j, none⟩ = false := by
  simp only [Blk] at h; simp [World.frozen?, h]
theorem lt (h : Blk w b cs t) : b < w.heap.size := lt_of_block h
theorem chg {F : List Nat} (h : Blk w b cs t) (k : Chg F w w1) (hn : b ∉ F) : Blk w1 b cs t := k.heap h hn
theorem alloc_new (w : World) (cs : Array Value) (t : TypeId) : Blk (w.alloc (.cells cs t)) w.heap.size cs t := heap_alloc_new w _
theorem alloc (h : Blk w b cs t) (o : Obj) : Blk (w.alloc o) b cs t := h.chg ((Chg.refl [] w).alloc o) (by simp)
theorem drew (h : Blk w b cs t) : Blk w.drew b cs t := h
theorem setCell_other (h : Blk w b cs t) {a : Addr} (ha : b ≠ a.block) (u : Value) : Blk (w.setCell a u) b cs t :=
  (Below.heap_setCell w a u b ha).trans h
theorem setCell (h : Blk w b cs t) (j : Nat) (u : Value) : Blk (w.setCell ⟨b, j, none⟩ u) b (cs.setIfInBounds j u) t := by
  simp only [Blk] at h ⊢
  have hlt := lt_of_block h
  have hv : w.heap[b] = .cells cs t (0, 0) := (Array.getElem?_eq_some_iff.1 h).2
  simp only [World.setCell, Array.getElem?_modify, if_true, h, Option.map_some]
  rfl
theorem of_one {v : Value} (h : Blk w b #[v] t) : w.cell? ⟨b, 0, none⟩ = some v := cell_of_one h
end Blk

/-- A slice's n elements (of so many cells each) read so; nothing is asked of one without elements. -/
def Rd (w : World) (size : Nat) (v : Value) (n : Nat) (xs : List Value) : Prop :=
  xs.length = n * size ∧ ∃ ao cap, v = .slice ao n cap ∧ (n = 0 ∨ ∃ b o, ao = some ⟨b, o, none⟩ ∧ ∀ j, j < n * size → w.cell? ⟨b, o + j, none⟩ = xs[j]?)

/-- A slice of the program's own: nil, or in a row of cells of its element type, with its spare room. -/
def Own (w : World) (e : TypeId) (size : Nat) (v : Value) (n : Nat) (xs : List Value) : Prop :=
  xs.length = n * size ∧
  ((v = .slice none 0 0 ∧ n = 0) ∨
   ∃ g o cap cur, v = .slice (some ⟨g, o, none⟩) n cap ∧ w.heap[g]? = some (.cells cur e (0, 0)) ∧ n ≤ cap ∧ cap ≤ maxLen ∧ o + cap * size ≤ cur.size ∧ (cur.toList.drop o).take (n * size) = xs)

/-- The blocks that a slice's value names: one, or none. -/
def blkOf (v : Value) : List Nat := match v with | .slice (some a) _ _ => [a.block] | _ => []

section
variable {w w1 : World} {e : TypeId} {size : Nat} {v : Value} {n : Nat} {xs : List Value}

@[simp] theorem blkOf_some (a : Addr) (n c : Nat) : blkOf (.slice (some a) n c) = [a.block] := rfl
@[simp] theorem blkOf_none (n c : Nat) : blkOf (.slice none n c) = [] := rfl

theorem Own.nil (w : World) (e : TypeId) (size : Nat) : Own w e size (.slice none 0 0) 0 [] := ⟨by simp, .inl ⟨rfl, rfl⟩⟩
theorem Own.lt (h : Own w e size v n xs) : ∀ k ∈ blkOf v, k < w.heap.size := by
  rcases h.2 with ⟨rfl, _⟩ | ⟨g, o, cap, cur, rfl, hg, _⟩
  · simp
  · simpa using lt_of_block hg
theorem Own.chg {F : List Nat} (h : Own w e size v n xs) (k : Chg F w w1) (hn : ∀ b ∈ blkOf v, b ∉ F) : Own w1 e size v n xs := by
  refine ⟨h.1, ?_⟩
  rcases h.2 with h2 | ⟨g, o, cap, cur, rfl, hg, rest⟩
  · exact .inl h2
  · exact .inr ⟨g, o, cap, cur, rfl, k.heap hg (hn g (by simp)), rest⟩
theorem Own.alloc (h : Own w e size v n xs) (o : Obj) : Own (w.alloc o) e size v n xs := h.chg ((Chg.refl [] w).alloc o) (by simp)
theorem Own.drew (h : Own w e size v n xs) : Own w.drew e size v n xs := h
theorem Own.ne_blk (h : Own w e size v n xs) {b : Nat} {cs : Array Value} {t : TypeId} (hb : Blk w b cs t) (ht : t ≠ e) : b ∉ blkOf v := by
  rcases h.2 with ⟨rfl, _⟩ | ⟨g, o, cap, cur, rfl, hg, _⟩
  · simp
  · simp only [blkOf_some, List.mem_singleton]
    intro hbg
    subst hbg
    simp only [Blk] at hb
    rw [hb] at hg
    simp at hg
    exact ht hg.2
theorem Own.cells {g o m c : Nat} (h : Own w e size (.slice (some ⟨g, o, none⟩) m c) n xs) (j : Nat) (hj : j < n * size) : w.cell? ⟨g, o + j, none⟩ = xs[j]? := by
  rcases h.2 with ⟨h1, _⟩ | ⟨g', o', cap, cur, hv, hg, _, _, _, hx⟩
  · cases h1
  · simp only [Value.slice.injEq, Option.some.injEq, Addr.mk.injEq] at hv
    obtain ⟨⟨rfl, rfl, _⟩, rfl, rfl⟩ := hv
    rw [cell_of_row w g (o + j) cur e (0, 0) hg, ← hx, List.getElem?_take, if_pos hj]
    simp
theorem Own.free {g o m c : Nat} (h : Own w e size (.slice (some ⟨g, o, none⟩) m c) n xs) (j : Nat) : w.frozen? ⟨g, j, none⟩ = false := by
  rcases h.2 with ⟨h1, _⟩ | ⟨g', o', cap, cur, hv, hg, _⟩
  · cases h1
  · simp only [Value.slice.injEq, Option.some.injEq, Addr.mk.injEq] at hv
    obtain ⟨⟨rfl, rfl, _⟩, rfl, rfl⟩ := hv
    simp [World.frozen?, hg]
theorem Own.rd (h : Own w e size v n xs) : Rd w size v n xs := by
  refine ⟨h.1, ?_⟩
  rcases h.2 with ⟨rfl, rfl⟩ | ⟨g, o, cap, cur, rfl, hg, hr⟩
  · exact ⟨_, _, rfl, .inl rfl⟩
  · exact ⟨_, _, rfl, .inr ⟨g, o, rfl, fun j hj => Own.cells ⟨h.1, .inr ⟨g, o, cap, cur, rfl, hg, hr⟩⟩ j hj⟩⟩
theorem Rd.chg {F : List Nat} (h : Rd w size v n xs) (k : Chg F w w1) (hn : ∀ b ∈ blkOf v, b ∉ F) : Rd w1 size v n xs := by
  obtain ⟨h1, ao, cap, rfl, h2⟩ := h
  refine ⟨h1, ao, cap, rfl, ?_⟩
  rcases h2 with h2 | ⟨b, o, rfl, hc⟩
  · exact .inl h2
  · refine .inr ⟨b, o, rfl, fun j hj => ?_⟩
    have hs : xs[j]? = some (xs[j]'(by omega)) := List.getElem?_eq_getElem _
    rw [hs]
    exact k.cell ((hc j hj).trans hs) (hn b (by simp))
theorem Rd.alloc (h : Rd w size v n xs) (o : Obj) : Rd (w.alloc o) size v n xs := by
  obtain ⟨h1, ao, cap, rfl, h2⟩ := h
  refine ⟨h1, ao, cap, rfl, ?_⟩
  rcases h2 with h2 | ⟨b, o', rfl, hc⟩
  · exact .inl h2
  · refine .inr ⟨b, o', rfl, fun j hj => ?_⟩
    have hs : xs[j]? = some (xs[j]'(by omega)) := List.getElem?_eq_getElem _
    rw [hs]
    exact ((Chg.refl [] w).alloc o).cell ((hc j hj).trans hs) (by simp)
/-- The shape of what is read: an address as soon as there is an element. -/
theorem Rd.addr {ao : Option Addr} {m c : Nat} (h : Rd w size (.slice ao m c) n xs) (hn : 0 < n) : ∃ b o, ao = some ⟨b, o, none⟩ ∧ ∀ j, j < n * size → w.cell? ⟨b, o + j, none⟩ = xs[j]? := by
  obtain ⟨h1, ao', cap, hv, h2⟩ := h
  simp only [Value.slice.injEq] at hv
  obtain ⟨rfl, rfl, rfl⟩ := hv
  rcases h2 with h2 | h2
  · omega
  · exact h2
theorem Rd.shape (h : Rd w size v n xs) : ∃ ao cap, v = .slice ao n cap := by
  obtain ⟨h1, ao, cap, rfl, h2⟩ := h
  exact ⟨ao, cap, rfl⟩
end

/-- What append takes its elements from: a slice that reads so, or a string. -/
def Src (P : Program) (w : World) (u : TypeId) (size : Nat) (x : Value) (m : Nat) (news : List Value) : Prop :=
  ((∃ e', P.underlying u = some (.slice e')) ∨ P.underlying u = some .string) ∧ (Builtin.lenOf x).run P w = .ok m w ∧ news.length = m * size ∧
  (Builtin.firstCells size m x).run P w = .ok news.toArray w ∧ (Builtin.firstCells size m x).run P w.drew = .ok news.toArray w.drew

theorem Src.of_rd {P : Program} {w : World} {u e : TypeId} (hu : P.underlying u = some (.slice e)) {size : Nat} {x : Value} {m : Nat} {news : List Value} (h : Rd w size x m news) : Src P w u size x m news := by
  obtain ⟨h1, ao, cap, rfl, h2⟩ := h
  refine ⟨.inl ⟨_, hu⟩, by simp [Builtin.lenOf], h1, ?_⟩
  have gen : ∀ w' : World, (∀ a, w'.cell? a = w.cell? a) → (Builtin.firstCells size m (.slice ao m cap)).run P w' = .ok news.toArray w' := by
    intro w' hw
    rcases h2 with rfl | ⟨b, o, rfl, hc⟩
    · have : news = [] := List.eq_nil_of_length_eq_zero (by simpa using h1)
      subst this
      cases ao with
      | none => exact run_firstCells_none (P := P) w' size 0 0 cap
      | some a => exact run_firstCells_some (P := P) w' size 0 a 0 cap [] (by simp) (by simp)
    · refine run_firstCells_some (P := P) w' size m ⟨b, o, none⟩ m cap news h1 (fun j v hv => ?_)
      have hj : j < m * size := by have := (List.getElem?_eq_some_iff.1 hv).1; omega
      rw [hw, ← hv, ← hc j hj]
      by_cases hj0 : j = 0
      · subst hj0; simp [Addr.add]
      · simp [Addr.add, hj0]
  exact ⟨gen w fun _ => rfl, gen w.drew fun _ => rfl⟩

/-- The cells of a string's bytes. -/
def u8s (l : List UInt8) : List Value := l.map fun b => Value.int .u8 b.toNat
@[simp] theorem u8s_length (l : List UInt8) : (u8s l).length = l.length := by simp [u8s]
@[simp] theorem u8s_append (a b : List UInt8) : u8s (a ++ b) = u8s a ++ u8s b := by simp [u8s]
@[simp] theorem u8s_nil : u8s [] = [] := rfl

theorem Src.of_string {P : Program} {w : World} {u : TypeId} (hu : P.underlying u = some .string) (l : List UInt8) : Src P w u 1 (.string ⟨l.toArray⟩) l.length (u8s l) := by
  have hs : (ByteArray.mk l.toArray).size = l.length := by simp [ByteArray.size]
  have gen : ∀ w' : World, (Builtin.firstCells 1 l.length (.string ⟨l.toArray⟩)).run P w' = .ok (u8s l).toArray w' := by
    intro w'
    simp only [Builtin.firstCells, ByteArray.extract_mk, List.drop_zero, Nat.sub_zero, List.take_length]
    simp [u8s]
  exact ⟨.inr hu, by simp [Builtin.lenOf, hs], by simp, gen w, gen w.drew⟩

/-- append: elements onto a slice of the program's own. What comes is its own, in the row that it was, or in a new one. -/
theorem run_append_src {P : Program} (w : World) (t u ty e : TypeId) (i : TypeInfo) (z : Value) (size bytes : Nat) (ht : P.underlying t = some (.slice e)) (hi : P.info? e = some i) (hz : i.zero = some z)
    (hsize : i.size = size) (hby : i.bytes = bytes) (hzs : z.cells.size = size) (hsz : 0 < size)
    (v : Value) (n : Nat) (xs : List Value) (hown : Own w e size v n xs)
    (x : Value) (m : Nat) (news : List Value) (hsrc : Src P w u size x m news) (h1 : ∀ y ∈ news, y.oneCell' = true)
    (h63 : n + m ≤ maxLen) (hbytes : (n + m) * bytes ≤ 140737488355328) :
    ∃ v' w', (Builtin.append_ #[t, u] ty #[v, x]).run P w = .ok v' w' ∧ Own w' e size v' (n + m) (xs ++ news) ∧ Chg (blkOf v) w w' ∧
      (blkOf v' = blkOf v ∨ blkOf v' = [w.heap.size]) := by
  subst hsize
  subst hby
  obtain ⟨hu, hlen, hl, hf, hfd⟩ := hsrc
  have hsmall : n + m ≤ 9223372036854775807 := by simp only [maxLen] at h63; omega
  have hxl : (xs ++ news).length = (n + m) * i.size := by rw [List.length_append, hown.1, hl, Nat.add_mul]
  rcases hown.2 with ⟨rfl, rfl⟩ | ⟨g, o, cap, cur, rfl, hg, hnc, hcm, hroom, htake⟩
  · have hx : xs = [] := List.eq_nil_of_length_eq_zero (by simpa using hown.1)
    subst hx
    by_cases hm : m = 0
    · subst hm
      have hn : news = [] := List.eq_nil_of_length_eq_zero (by simpa using hl)
      subst hn
      refine ⟨.slice none 0 0, w, ?_, Own.nil w e i.size, Chg.refl _ _, .inl rfl⟩
      rcases hu with ⟨e', hu⟩ | hu <;> simp [Builtin.append_, run_underlying ht, run_underlying hu, sizeOf, typeInfo, hi, hlen, hf]
    · have h48 : ¬ (281474976710656 < Builtin.nextslicecap m 0 * i.bytes) := by rw [nextslicecap_zero (by omega)]; simp only [Nat.zero_add] at hbytes; omega
      have h63' : ¬ (9223372036854775807 < (m : Int)) := by omega
      refine ⟨.slice (some ⟨w.heap.size, 0, none⟩) m (grownCap w m 0 e), w.drew.alloc (.cells (news.toArray ++ Builtin.zeroCells z.cells (grownCap w m 0 e - m)) e), ?_, ?_, ((Chg.refl _ w).drew.alloc _), .inr rfl⟩
      · rcases hu with ⟨e', hu⟩ | hu <;> simp [Builtin.append_, run_underlying ht, run_underlying hu, sizeOf, typeInfo, zeroValue, hi, hz, hlen, hm, h63', h48, Question.forced, run_firstCells_none, hfd, newRow, grownCap]
      · have hge := grownCap_ge w m 0 e
        refine ⟨by simpa using hl, .inr ⟨w.heap.size, 0, _, _, by simp, heap_alloc_new w.drew _, by omega, grownCap_le_maxLen w m 0 e (by omega), ?_, ?_⟩⟩
        · simp only [Array.size_append, List.size_toArray, size_zeroCells, hzs, hl, ← Nat.add_mul, Nat.zero_add]
          exact Nat.mul_le_mul_right _ (by omega)
        · simp only [Array.toList_append, List.drop_zero, List.nil_append, Nat.zero_add, ← hl]
          exact List.take_left
  · by_cases hfit : n + m ≤ cap
    · have hfit' : o + n * i.size + 0 + news.length ≤ cur.size := by
        have := Nat.mul_le_mul_right i.size hfit
        rw [Nat.add_mul] at this
        omega
      have hst := run_storeCells_at P g (o + n * i.size) e news 0 cur w hg hfit' h1
      simp only [Nat.add_zero] at hst
      refine ⟨.slice (some ⟨g, o, none⟩) (n + m) cap, w.setRow g (cur.toList.take (o + n * i.size) ++ news ++ cur.toList.drop (o + n * i.size + news.length)).toArray, ?_, ?_, (Chg.refl _ w).setRow (g := g) (.inl (by simp)) _, .inl rfl⟩
      · have hadd : (⟨g, o, none⟩ : Addr).add (n * i.size) = ⟨g, o + n * i.size, none⟩ := by
          unfold Addr.add; split
          · simp_all
          · rfl
        rcases hu with ⟨e', hu⟩ | hu <;> simp [Builtin.append_, run_underlying ht, run_underlying hu, sizeOf, typeInfo, hi, hlen, hfit, hf, hadd, hst]
      · refine ⟨hxl, .inr ⟨g, o, cap, _, rfl, setRow_heap w g cur _ e _ hg, hfit, hcm, ?_, ?_⟩⟩
        · simp only [List.size_toArray, List.length_append, List.length_take, List.length_drop, Array.length_toList]
          omega
        · have ho : o + n * i.size ≤ cur.toList.length := by simp; omega
          have hdrop : (cur.toList.take (o + n * i.size)).drop o = xs := by
            rw [← htake, List.drop_take]
            congr 1
            omega
          have hlo : o ≤ (cur.toList.take (o + n * i.size)).length := by simp; omega
          simp only [List.append_assoc]
          rw [List.drop_append_of_le_length hlo, hdrop, ← List.append_assoc, ← hxl]
          exact List.take_left
    · have hn' : ¬ (n + m ≤ cap) := hfit
      have h63' : ¬ (9223372036854775807 < ((n : Int) + (m : Int))) := by omega
      have h48 : ¬ (281474976710656 < Builtin.nextslicecap (n + m) cap * i.bytes) := by
        have := growslice_fits (need := n + m) (old := cap) (by omega) hbytes
        omega
      have hfo : (Builtin.firstCells i.size n (.slice (some ⟨g, o, none⟩) n cap)).run P w.drew = .ok xs.toArray w.drew := by
        refine run_firstCells_some (P := P) w.drew i.size n ⟨g, o, none⟩ n cap xs hown.1 (fun j y hy => ?_)
        have hj : j < n * i.size := by have := (List.getElem?_eq_some_iff.1 hy).1; have := hown.1; omega
        rw [World.cell?_drew, ← hy, ← Own.cells (h := hown) j hj]
        by_cases hj0 : j = 0
        · subst hj0; simp [Addr.add]
        · simp [Addr.add, hj0]
      refine ⟨.slice (some ⟨w.heap.size, 0, none⟩) (n + m) (grownCap w (n + m) cap e), w.drew.alloc (.cells (xs.toArray ++ news.toArray ++ Builtin.zeroCells z.cells (grownCap w (n + m) cap e - (n + m))) e), ?_, ?_, ((Chg.refl _ w).drew.alloc _), .inr rfl⟩
      · rcases hu with ⟨e', hu⟩ | hu
        all_goals
          simp [Builtin.append_, run_underlying ht, run_underlying hu, sizeOf, typeInfo, zeroValue, hi, hz, hlen, hn', h63', h48, Question.forced, hfo, hfd, newRow, grownCap]
          congr 2
          apply Array.ext'
          simp [List.append_assoc]
      · have hge := grownCap_ge w (n + m) cap e
        refine ⟨hxl, .inr ⟨w.heap.size, 0, _, _, rfl, heap_alloc_new w.drew _, hge, grownCap_le_maxLen w (n + m) cap e h63, ?_, ?_⟩⟩
        · simp only [Array.size_append, List.size_toArray, size_zeroCells, hzs, hown.1, hl, ← Nat.add_mul, Nat.zero_add]
          exact Nat.mul_le_mul_right _ (by omega)
        · simp only [Array.toList_append, List.append_assoc, List.drop_zero]
          rw [← List.append_assoc, ← hxl]
          exact List.take_left

theorem Own.shape {w : World} {e : TypeId} {size : Nat} {v : Value} {n : Nat} {xs : List Value} (h : Own w e size v n xs) : ∃ ao cap, v = .slice ao n cap := by
  rcases h.2 with ⟨rfl, rfl⟩ | ⟨g, o, cap, cur, rfl, _⟩
  · exact ⟨_, _, rfl⟩
  · exact ⟨_, _, rfl⟩

/-- The block of an address, if there is one. -/
def abl (ao : Option Addr) : List Nat := match ao with | some a => [a.block] | none => []
@[simp] theorem abl_some (a : Addr) : abl (some a) = [a.block] := rfl
@[simp] theorem abl_none : abl none = [] := rfl
@[simp] theorem blkOf_slice (ao : Option Addr) (n c : Nat) : blkOf (.slice ao n c) = abl ao := by cases ao <;> rfl

/-- The same at the operation, for a walk. -/
theorem wpList_append_src {P : Program} (w : World) {ops : Array Oper} {rest : List Oper} {o : Oper} {a : Act} {Q : Exit → Act → World → Prop} (hgd : o.guard = none) (s x : Operand) (t u : TypeId)
    (ho : o.op = .call { callee := .builtin .append, args := #[s, x], argTypes := #[t, u] })
    (e : TypeId) (z : Value) (size bytes : Nat) (ht : P.underlying t = some (.slice e)) (hinfo : (P.info? e).map (fun i => (i.zero, i.size, i.bytes)) = some (some z, size, bytes))
    (hzs : z.cells.size = size) (hsz : 0 < size)
    (v : Value) (n : Nat) (xs : List Value) (hs : a.eval s = v) (hown : Own w e size v n xs)
    (xv : Value) (m : Nat) (news : List Value) (hx : a.eval x = xv) (hsrc : Src P w u size xv m news) (h1 : ∀ y ∈ news, y.oneCell' = true)
    (h63 : n + m ≤ maxLen) (hbytes : (n + m) * bytes ≤ 140737488355328)
    (h : ∀ ao cap w', Own w' e size (.slice ao (n + m) cap) (n + m) (xs ++ news) → Chg (blkOf v) w w' → (∀ b ∈ abl ao, b ∈ blkOf v ∨ w.heap.size ≤ b) → wpList P ops Q rest (a.put o.dst (.slice ao (n + m) cap)) w') : wpList P ops Q (o :: rest) a w := by
  obtain ⟨i, hi, hz0, hz1, hz2⟩ := info_parts hinfo
  obtain ⟨v', w', hr, h2, h3, h4⟩ := run_append_src (P := P) w t u o.type e i z size bytes ht hi hz0 hz1 hz2 hzs hsz v n xs hown xv m news hsrc h1 h63 hbytes
  obtain ⟨ao, cap, rfl⟩ := h2.shape
  refine wpList_plain hgd fun _ hK => ?_
  unfold Oper.wp execOp
  simp only [ho, resolve, invoke, builtin, Sem.run_bind, Sem.run_pure, Result.andThen_ok, List.map_toArray, List.map_cons, List.map_nil, hs, hx, hr]
  refine hK _ _ (h ao cap w' h2 h3 (fun b hb => ?_))
  rcases h4 with h4 | h4
  · left; rw [← h4]; simpa using hb
  · right
    rw [blkOf_slice] at h4
    rw [h4] at hb
    simp at hb
    omega

/-- A literal's row is the program's own. -/
theorem Own.lit (w : World) (e : TypeId) (size n : Nat) (cs : Array Value) (h : cs.size = n * size) (hm : n ≤ maxLen) : Own (w.alloc (.cells cs e)) e size (.slice (some ⟨w.heap.size, 0, none⟩) n n) n cs.toList :=
  ⟨by simpa using h, .inr ⟨w.heap.size, 0, n, cs, rfl, heap_alloc_new w _, Nat.le_refl _, hm, by omega, by rw [List.drop_zero, ← h]; exact List.take_of_length_le (by simp)⟩⟩

/-- From w to w' nothing old has turned but F, and what was F is now F', as far as it is not new. -/
structure Mv (F : List Nat) (w : World) (F' : List Nat) (w' : World) : Prop where
  chg : Chg F w w'
  fr : ∀ b ∈ F', b ∈ F ∨ w.heap.size ≤ b

namespace Mv
variable {F F1 F2 G : List Nat} {w w1 w2 : World}
theorem refl (F : List Nat) (w : World) : Mv F w F w := ⟨Chg.refl F w, fun _ h => .inl h⟩
theorem trans (h : Mv F w F1 w1) (k : Mv F1 w1 F2 w2) : Mv F w F2 w2 :=
  ⟨h.chg.trans' k.chg h.fr, fun b hb => by
    rcases k.fr b hb with h1 | h1
    · exact h.fr b h1
    · right; exact Nat.le_trans h.chg.size h1⟩
theorem apart (h : Mv F w F1 w1) (hg : ∀ b ∈ G, b ∉ F) (hl : ∀ b ∈ G, b < w.heap.size) : ∀ b ∈ G, b ∉ F1 := fun b hb hb1 => by
  rcases h.fr b hb1 with h1 | h1
  · exact hg b hb h1
  · have := hl b hb; omega
/-- An object of the call's own has moved on: nothing old has turned. -/
theorem chg_own {w0 : World} (h : Mv F w F1 w1) (h0 : Chg [] w0 w) (hf : ∀ b ∈ F, w0.heap.size ≤ b) : Chg [] w0 w1 := h0.trans' h.chg (fun b hb => .inr (hf b hb))
theorem own {w0 : World} (h : Mv F w F1 w1) (h0 : Chg [] w0 w) (hf : ∀ b ∈ F, w0.heap.size ≤ b) : ∀ b ∈ F1, w0.heap.size ≤ b := fun b hb => by
  rcases h.fr b hb with h1 | h1
  · exact hf b h1
  · exact Nat.le_trans h0.size h1
theorem of_chg (h : Chg F w w1) : Mv F w F w1 := ⟨h, fun _ hb => .inl hb⟩
theorem alloc (F : List Nat) (w : World) (o : Obj) : Mv F w F (w.alloc o) := of_chg ((Chg.refl F w).alloc o)
end Mv

/-- The cells of numbers of 64 bits. -/
def u64s (us : List Nat) : List Value := us.map fun u : Nat => Value.int .u64 (u : Int)
@[simp] theorem u64s_length (us : List Nat) : (u64s us).length = us.length := by simp [u64s]

@[go_sem] theorem bytes_getElem (l : List UInt8) (i : Nat) (h : i < (ByteArray.mk l.toArray).size) : (ByteArray.mk l.toArray)[i]'h = l[i]'(by simpa [ByteArray.size] using h) := rfl

/-- 'string(b)' of bytes that read so. -/
theorem run_string_rd {P : Program} {w : World} {src dst e : TypeId} (hs : P.underlying src = some (.slice e)) (he : P.underlying e = some (.int .u8)) (hd : P.underlying dst = some .string)
    {v : Value} {n : Nat} {l : List UInt8} (h : Rd w 1 v n (u8s l)) : (convert src dst v).run P w = .ok (.string ⟨l.toArray⟩) w := by
  obtain ⟨h1, ao, cap, rfl, h2⟩ := h
  have hn : l.length = n := by simpa using h1
  rcases h2 with rfl | ⟨b, o, rfl, hc⟩
  · obtain rfl : l = [] := List.eq_nil_of_length_eq_zero hn
    cases ao with
    | none => exact run_convert_bytes_nil w src e hs he _ _ dst hd
    | some a =>
      rw [run_convert_bytes_string w src dst e _ 0 cap hs he hd, run_bytesToString w _ 0 cap [] (run_loadCells_list (P := P) w a [] (by simp))]
      rfl
  · rw [run_convert_bytes_arg w src e hs he b o n cap (l.map fun c => (c.toNat : Int)) (by simpa using hn) (fun i hi => ?_) dst hd]
    · congr 2
      simp only [strOfNums, List.map_map]
      congr 2
      conv => rhs; rw [← List.map_id l]
      apply List.map_congr_left
      intro c _
      simp
    · rw [hc i (by omega)]
      have hil : i < l.length := by omega
      simp [u8s, List.getElem?_eq_getElem hil, List.getD]

/-- A new block of one cell, read as a slice of one element. -/
theorem Rd.lit1 (w : World) (x : Value) (t : TypeId) (c : Nat) : Rd (w.alloc (.cells #[x] t)) 1 (.slice (some ⟨w.heap.size, 0, none⟩) 1 c) 1 [x] := by
  refine ⟨rfl, _, _, rfl, .inr ⟨_, _, rfl, fun j hj => ?_⟩⟩
  obtain rfl : j = 0 := by omega
  rw [Nat.zero_add, (Blk.alloc_new w #[x] t).cell 0]
  rfl
/-- A new block of cells, read as a slice. -/
theorem Rd.lit (w : World) (cs : Array Value) (t : TypeId) (size n c : Nat) (h : cs.size = n * size) : Rd (w.alloc (.cells cs t)) size (.slice (some ⟨w.heap.size, 0, none⟩) n c) n cs.toList := by
  refine ⟨by simpa using h, _, _, rfl, .inr ⟨_, _, rfl, fun j hj => ?_⟩⟩
  rw [Nat.zero_add, (Blk.alloc_new w cs t).cell j]
  simp

theorem u8s_oneCell (l : List UInt8) : ∀ y ∈ u8s l, y.oneCell' = true := by
  intro y hy
  simp only [u8s, List.mem_map] at hy
  obtain ⟨b, _, rfl⟩ := hy
  rfl

end Go.Proofs.YtmehcfocfljoeaaGreatDoor

namespace Go.Proofs.YtmehcfocfljoeaaGreatDoor
open Go.RowKit

/-- A slice that came in: its block is an old one, or it has no elements. -/
def Old (B : Nat) (v : Value) (n : Nat) : Prop := ∀ x ∈ blkOf v, x < B ∨ n = 0
theorem Rd.chg_old {w w1 : World} {F : List Nat} {size n : Nat} {v : Value} {xs : List Value} {B : Nat} (h : Rd w size v n xs) (k : Chg F w w1) (ho : Old B v n) (hF : ∀ b ∈ F, B ≤ b) : Rd w1 size v n xs := by
  by_cases h0 : n = 0
  · obtain ⟨h1, ao, cap, rfl, _⟩ := h
    exact ⟨h1, ao, cap, rfl, .inl h0⟩
  · exact h.chg k (fun b hb hbF => by
      rcases ho b hb with h1 | h1
      · have := hF b hbF; omega
      · exact h0 h1)
theorem Old.mono {B B' : Nat} {v : Value} {n : Nat} (h : Old B v n) (hB : B ≤ B') : Old B' v n := fun x hx => (h x hx).imp (fun h => Nat.lt_of_lt_of_le h hB) id
end Go.Proofs.YtmehcfocfljoeaaGreatDoor
