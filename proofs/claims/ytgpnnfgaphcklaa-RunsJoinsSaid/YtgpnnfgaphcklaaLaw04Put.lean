/-
  The walks of what the laws of layer 4 share: alive, great, put. Conditions: the form's own reach.
-/
import Derived.Test.YtgpnnfgaphcklaaRefQuill
import Derived.Test.YtgpnnfgaphcklaaLawBase
namespace Go.Proofs.Ytgpnnfgaphcklaa
open Go.RowKit

/-- An item that is written: its kind, a number, a value, a text. -/
structure Itm where
  k : Int
  u : Nat
  x : Int
  s : List UInt8
def Itm.cells (i : Itm) : List Value := [.int .i64 i.k, .int .u64 i.u, .int .i64 i.x, .string ⟨i.s.toArray⟩]
def Itm.ok (i : Itm) : Prop := -9223372036854775808 ≤ i.k ∧ i.k < 9223372036854775808 ∧ i.u < 18446744073709551616 ∧ -9223372036854775808 ≤ i.x ∧ i.x < 9223372036854775808 ∧ i.s.length ≤ 140737488351232
/-- An item's bytes. -/
def Itm.enc (i : Itm) : List UInt8 := if i.k = 0 then natB i.u else if i.k = 1 then natB (zig i.x) else if i.k = 2 then i.s else []
def itmCells (l : List Itm) : List Value := (l.map Itm.cells).flatten
def itmTot (l : List Itm) : Nat := (l.map fun i => i.s.length).sum
def itmEnc (l : List Itm) : List UInt8 := (l.map Itm.enc).flatten

theorem itmCells_len (l : List Itm) : (itmCells l).length = l.length * 4 := by
  induction l with
  | nil => rfl
  | cons a r ih => simp only [itmCells, List.map_cons, List.flatten_cons, List.length_append, List.length_cons] at *; rw [ih]; simp [Itm.cells]; omega
theorem itmCells_get (l : List Itm) (k j : Nat) (hk : k < l.length) (hj : j < 4) : (itmCells l)[k * 4 + j]? = (l[k].cells)[j]? := by
  induction l generalizing k with
  | nil => simp at hk
  | cons a r ih =>
    cases k with
    | zero =>
      simp only [itmCells, List.map_cons, List.flatten_cons, Nat.zero_mul, Nat.zero_add, List.getElem_cons_zero]
      rw [List.getElem?_append_left (by simpa [Itm.cells] using hj)]
    | succ k =>
      have := ih k (by simpa using hk)
      simp only [itmCells, List.map_cons, List.flatten_cons, List.getElem_cons_succ] at *
      rw [List.getElem?_append_right (by simp [Itm.cells]; omega), ← this]
      congr 1
      simp [Itm.cells]
      omega

theorem itmTot_take (l : List Itm) (k : Nat) (h : k < l.length) : itmTot (l.take (k + 1)) = itmTot (l.take k) + (l[k]).s.length := by
  rw [List.take_succ_eq_append_getElem h]
  simp only [itmTot, List.map_append, List.sum_append, List.map_cons, List.map_nil, List.sum_cons, List.sum_nil, Nat.add_zero]
theorem itmTot_mono (l : List Itm) (k : Nat) : itmTot (l.take k) ≤ itmTot l := by
  have : itmTot l = itmTot (l.take k) + itmTot (l.drop k) := by
    conv => lhs; rw [← List.take_append_drop k l]
    simp only [itmTot, List.map_append, List.sum_append]
  omega

theorem itm_at {w : World} {b o k : Nat} {l : List Itm} (hc : ∀ j, j < l.length * 4 → w.cell? ⟨b, o + j, none⟩ = (itmCells l)[j]?) (h : k < l.length) :
    w.cell? ⟨b, o + k * 4, none⟩ = some (.int .i64 l[k].k) ∧ w.cell? ⟨b, o + k * 4 + 1, none⟩ = some (.int .u64 l[k].u) ∧
    w.cell? ⟨b, o + k * 4 + 2, none⟩ = some (.int .i64 l[k].x) ∧ w.cell? ⟨b, o + k * 4 + 3, none⟩ = some (.string ⟨l[k].s.toArray⟩) := by
  have g : ∀ j, j < 4 → w.cell? ⟨b, o + k * 4 + j, none⟩ = (l[k].cells)[j]? := fun j hj => by
    rw [← itmCells_get l k j h hj, ← hc (k * 4 + j) (by omega), Nat.add_assoc]
  exact ⟨g 0 (by omega), g 1 (by omega), g 2 (by omega), g 3 (by omega)⟩

theorem itmCells_oneCell (l : List Itm) : ∀ y ∈ itmCells l, y.oneCell' = true := by
  intro y hy
  simp only [itmCells, List.mem_flatten, List.mem_map] at hy
  obtain ⟨x, ⟨i, _, rfl⟩, hy⟩ := hy
  simp only [Itm.cells, List.mem_cons, List.not_mem_nil, or_false] at hy
  rcases hy with rfl | rfl | rfl | rfl <;> rfl
theorem itmCells_append (a b : List Itm) : itmCells (a ++ b) = itmCells a ++ itmCells b := by simp [itmCells]
theorem itmEnc_append (a b : List Itm) : itmEnc (a ++ b) = itmEnc a ++ itmEnc b := by simp [itmEnc]
theorem itmTot_append (a b : List Itm) : itmTot (a ++ b) = itmTot a + itmTot b := by simp [itmTot]

set_option maxRecDepth 100000 in
set_option maxHeartbeats 400000 in
theorem law_great (w : World) (ao : Option Addr) (cap : Nat) (l : List Itm) (hok : ∀ i ∈ l, i.ok) (hr : Rd w 4 (.slice ao l.length cap) l.length (itmCells l)) (hl : l.length * 40 ≤ 140737488351232) :
    Calls Try.prog 20 #[.slice ao l.length cap] w fun e w' => e = .returned (.bool (decide (4096 < itmTot l ∨ 60 < l.length))) ∧ Chg [] w w' := by
  go_enter Try.func20, Try.ntmps20
  go_wp2
  go_loopw [3, 8] (fun n i wr => ∃ k : Nat, k ≤ l.length ∧ i = .int .i64 (k : Nat) ∧ n = .int .i64 (itmTot (l.take k) : Nat) ∧ itmTot (l.take k) ≤ 4096 ∧ Chg [] w wr) (fun _ i _ => l.length - (intOf i).toNat)
  case atStart => exact ⟨0, Nat.zero_le _, rfl, rfl, by simp [itmTot], Chg.refl _ _⟩
  case round =>
    obtain ⟨k, hk, rfl, rfl, ht, hch⟩ := hrel
    by_cases hlt : k < l.length
    · have hr1 := hr.chg hch (by simp)
      obtain ⟨b, o, rfl, hc⟩ := hr1.addr (by omega)
      obtain ⟨c0, c1, c2, c3⟩ := itm_at hc hlt
      have htk := itmTot_take l k hlt
      have hi := (hok l[k] (List.getElem_mem _)).2.2.2.2.2
      have htm := itmTot_mono l (k + 1)
      generalize l[k] = it at *
      have HT := Lib.hid htk
      have HM := Lib.hid htm
      clear htk htm hr1 hr hc hok
      by_cases hgt : itmTot (l.take k) + it.s.length ≤ 4096
      · go_wp2
        exact ⟨⟨k + 1, by omega, by go_num, by rw [HT.out]; go_num, by rw [HT.out]; exact hgt, hch.alloc _⟩, by simp [intOf]; omega⟩
      · have hg2 : decide (4096 < itmTot l ∨ 60 < l.length) = true := by
          have h1 := HT.out; have h2 := HM.out
          simp; omega
        have HG := Lib.hid hg2
        clear hg2
        go_wp2
        go_ret
        rw [HG.out]
        exact ⟨rfl, hch.alloc _⟩
    · obtain rfl : k = l.length := by omega
      rw [List.take_length] at *
      have HG := Lib.hid (show decide (4096 < itmTot l ∨ 60 < l.length) = decide (60 < l.length) from by rw [decide_eq_decide]; omega)
      go_wp2
      go_ret
      rw [HG.out]
      exact ⟨by simp; omega, hch⟩

theorem enc_len (i : Itm) (h : i.ok) : i.enc.length ≤ 10 + i.s.length := by
  unfold Itm.enc
  split
  · have := natB_len10 (n := i.u) h.2.2.1; omega
  · split
    · have := natB_len10 (zig_lt h.2.2.2.1 h.2.2.2.2.1); omega
    · split
      · omega
      · simp
theorem itmEnc_len (l : List Itm) (h : ∀ i ∈ l, i.ok) : (itmEnc l).length ≤ 10 * l.length + itmTot l := by
  induction l with
  | nil => simp [itmEnc]
  | cons a r ih =>
    have h1 := enc_len a (h a (by simp))
    have h2 := ih (fun i hi => h i (by simp [hi]))
    simp only [itmEnc, itmTot, List.map_cons, List.flatten_cons, List.length_append, List.length_cons, List.sum_cons] at *
    omega
theorem itmEnc_take (l : List Itm) (k : Nat) (h : k < l.length) : itmEnc (l.take (k + 1)) = itmEnc (l.take k) ++ (l[k]).enc := by
  rw [List.take_succ_eq_append_getElem h]
  simp only [itmEnc, List.map_append, List.flatten_append, List.map_cons, List.map_nil, List.flatten_cons, List.flatten_nil, List.append_nil]

set_option maxRecDepth 100000 in
set_option maxHeartbeats 1000000 in
theorem law_put (w : World) (ao : Option Addr) (cap : Nat) (l : List Itm) (hok : ∀ i ∈ l, i.ok) (hr : Rd w 4 (.slice ao l.length cap) l.length (itmCells l)) (hl : l.length ≤ 120) (ht : itmTot l ≤ 8192) :
    Calls Try.prog 21 #[.slice ao l.length cap] w fun e w' => e = .returned (.tuple #[.string ⟨(itmEnc l).toArray⟩, .string ⟨(itmEnc l).toArray⟩]) ∧ Chg [] w w' := by
  go_enter Try.func21, Try.ntmps21
  go_wp2
  go_loopw [5, 12] (fun want i wr => ∃ (k : Nat) (F : List Nat), k ≤ l.length ∧ i = .int .i64 (k : Nat) ∧ want = .string ⟨(itmEnc (l.take k)).toArray⟩ ∧ Qul wr w.heap.size F (itmEnc (l.take k)) ∧ Chg [] w wr ∧ ∀ b ∈ F, w.heap.size ≤ b) (fun _ i _ => l.length - (intOf i).toNat)
  case atStart =>
    exact ⟨0, [w.heap.size], Nat.zero_le _, rfl, rfl, ⟨none, 0, rfl, Blk.alloc_new _ _ _, Own.nil _ _ _⟩, (Chg.refl _ _).alloc _, by simp⟩
  case round =>
    obtain ⟨k, F, hk, rfl, rfl, hq, hch, hF⟩ := hrel
    by_cases hlt : k < l.length
    · have hr1 := hr.chg hch (by simp)
      obtain ⟨b, o, rfl, hc⟩ := hr1.addr (by omega)
      obtain ⟨c0, c1, c2, c3⟩ := itm_at hc hlt
      have htk := itmEnc_take l k hlt
      have hi := hok l[k] (List.getElem_mem _)
      have hlen : (itmEnc (l.take k)).length ≤ 9392 := by
        have h1 := itmEnc_len (l.take k) (fun i hi => hok i (List.mem_of_mem_take hi))
        have h2 := itmTot_mono l k
        have h3 : (l.take k).length ≤ k := List.length_take_le _ _
        omega
      have hlens : (l[k]).s.length ≤ 8192 := by
        have h1 := itmTot_take l k hlt
        have h2 := itmTot_mono l (k + 1)
        omega
      generalize l[k] = it at *
      have HT := Lib.hid htk
      clear htk hr1 hr hc hok
      obtain ⟨i0, i1, i2, i3, i4, i5⟩ := hi
      generalize itmEnc (l.take k) = pre at *
      have hFlt := hq.lt
      have hch1 := hch.alloc (.cells #[.int .i64 it.k, .int .u64 it.u, .int .i64 it.x, .string ⟨it.s.toArray⟩] 58)
      have hqa := hq.alloc (.cells #[.int .i64 it.k, .int .u64 it.u, .int .i64 it.x, .string ⟨it.s.toArray⟩] 58)
      have hba := Blk.alloc_new wr #[.int .i64 it.k, .int .u64 it.u, .int .i64 it.x, .string ⟨it.s.toArray⟩] 58
      have hbF : wr.heap.size ∉ F := fun h => by have := hFlt _ h; omega
      have hF1 : ∀ (F1 : List Nat) (w1 : World), Mv F (wr.alloc (.cells #[.int .i64 it.k, .int .u64 it.u, .int .i64 it.x, .string ⟨it.s.toArray⟩] 58)) F1 w1 → Chg [] w w1 ∧ (∀ b ∈ F1, w.heap.size ≤ b) ∧ Blk w1 wr.heap.size #[.int .i64 it.k, .int .u64 it.u, .int .i64 it.x, .string ⟨it.s.toArray⟩] 58 := fun F1 w1 hm => ⟨hm.chg_own hch1 hF, hm.own hch1 hF, hba.chg hm.chg hbF⟩
      have HF1 := Lib.hid hF1
      have HQ := Lib.hid hqa
      clear hF1 hqa hba hch1 hq hch hF hFlt hbF
      by_cases h0 : it.k = 0
      · have HE := Lib.hid (show it.enc = natB it.u from by unfold Itm.enc; rw [if_pos h0])
        have t0 : (it.k == 0) = true := by simp [h0]
        clear h0
        go_wp2_with fail
        refine (quill_nat1 _ w.heap.size F pre it.u i2 HQ.out _ (by simp) (by omega)).mono ?_
        rintro e w1 ⟨rfl, F1, hq1, hm1⟩
        obtain ⟨hch2, hF2, hb2⟩ := HF1.out F1 w1 hm1
        have d0 := hb2.cell 0
        have d1 := hb2.cell 1
        have d2 := hb2.cell 2
        have d3 := hb2.cell 3
        go_wp2_with fail
        refine (ref_nat w1 it.u i2).mono ?_
        rintro e w2 ⟨rfl, hc2⟩
        have hpl := natB_len10 (n := it.u) (by omega)
        go_wp2
        exact ⟨⟨k + 1, F1, by omega, by go_num, by rw [HT.out, HE.out]; simp [ByteArray.mk_append_mk], by rw [HT.out, HE.out]; exact ⟨hq1.chg hc2 (by simp), hch2.trans hc2, hF2⟩⟩, by simp [intOf]; omega⟩
      · have t0 : (it.k == 0) = false := by simp [h0]
        by_cases h1 : it.k = 1
        · have HE := Lib.hid (show it.enc = natB (zig it.x) from by unfold Itm.enc; rw [if_neg h0, if_pos h1])
          have t1 : (it.k == 1) = true := by simp [h1]
          clear h0 h1
          go_wp2_with fail
          refine (quill_int1 _ w.heap.size F pre it.x i3 i4 HQ.out _ (by simp) (by omega)).mono ?_
          rintro e w1 ⟨rfl, F1, hq1, hm1⟩
          obtain ⟨hch2, hF2, hb2⟩ := HF1.out F1 w1 hm1
          have d0 := hb2.cell 0
          have d1 := hb2.cell 1
          have d2 := hb2.cell 2
          have d3 := hb2.cell 3
          go_wp2_with fail
          refine (ref_int w1 it.x i3 i4).mono ?_
          rintro e w2 ⟨rfl, hc2⟩
          have hpl := natB_len10 (zig_lt i3 i4)
          go_wp2
          exact ⟨⟨k + 1, F1, by omega, by go_num, by rw [HT.out, HE.out]; simp [ByteArray.mk_append_mk], by rw [HT.out, HE.out]; exact ⟨hq1.chg hc2 (by simp), hch2.trans hc2, hF2⟩⟩, by simp [intOf]; omega⟩
        · have t1 : (it.k == 1) = false := by simp [h1]
          by_cases h2 : it.k = 2
          · have HE := Lib.hid (show it.enc = it.s from by unfold Itm.enc; rw [if_neg h0, if_neg h1, if_pos h2])
            have t2 : (it.k == 2) = true := by simp [h2]
            clear h0 h1 h2
            go_wp2_with fail
            refine (quill_raw _ w.heap.size F pre it.s HQ.out (by omega)).mono ?_
            rintro e w1 ⟨rfl, F1, hq1, hm1⟩
            obtain ⟨hch2, hF2, hb2⟩ := HF1.out F1 w1 hm1
            have d0 := hb2.cell 0
            have d1 := hb2.cell 1
            have d2 := hb2.cell 2
            have d3 := hb2.cell 3
            go_wp2
            exact ⟨⟨k + 1, F1, by omega, by go_num, by rw [HT.out, HE.out]; simp [ByteArray.mk_append_mk], by rw [HT.out, HE.out]; exact ⟨hq1, hch2, hF2⟩⟩, by simp [intOf]; omega⟩
          · have HE := Lib.hid (show it.enc = [] from by unfold Itm.enc; rw [if_neg h0, if_neg h1, if_neg h2])
            have t2 : (it.k == 2) = false := by simp [h2]
            clear h0 h1 h2
            go_wp2
            obtain ⟨hch2, hF2, _⟩ := HF1.out F _ (Mv.refl _ _)
            exact ⟨⟨k + 1, F, by omega, by go_num, by rw [HT.out, HE.out]; simp, by rw [HT.out, HE.out, List.append_nil]; exact ⟨HQ.out, hch2, hF2⟩⟩, by simp [intOf]; omega⟩
    · obtain rfl : k = l.length := by omega
      rw [List.take_length] at *
      go_wp2_with fail
      refine (quill_text wr w.heap.size F _ hq).mono ?_
      rintro e w1 ⟨rfl, rfl⟩
      go_wp2
      go_ret2
      exact ⟨rfl, hch⟩
theorem natB_300 : natB 300 = [172, 2] := by rw [natB_ge (by omega), natB_lt (by omega)]; rfl

set_option maxRecDepth 100000 in
set_option maxHeartbeats 1000000 in
theorem law_alive (w : World) : Calls Try.prog 19 #[] w fun e w' => e = .returned (.bool true) ∧ Chg [] w w' := by
  have hq : Qul (w.alloc (.cells #[.slice none 0 0] 41)) w.heap.size [w.heap.size] [] := ⟨none, 0, rfl, Blk.alloc_new _ _ _, Own.nil _ _ _⟩
  have HQ := Lib.hid hq
  clear hq
  go_enter Try.func19, Try.ntmps19
  go_wp2_with fail
  refine (quill_nat1 _ w.heap.size [w.heap.size] [] 300 (by omega) HQ.out _ (by simp) (by simp)).mono ?_
  rintro e w1 ⟨rfl, F1, hq1, hm1⟩
  rw [List.nil_append, natB_300] at hq1
  have hc1 := hm1.chg_own ((Chg.refl [] w).alloc _) (by simp)
  clear hm1 HQ
  go_wp2_with fail
  refine (quill_text w1 w.heap.size F1 _ hq1).mono ?_
  rintro e w2 ⟨rfl, rfl⟩
  go_wp2_with fail
  refine (eye_on w1 []).mono ?_
  rintro e w2 ⟨rfl, he2, hc2⟩
  go_wp2_with fail
  refine (eye_over w2 w1.heap.size _ he2).mono ?_
  rintro e w3 ⟨rfl, rfl⟩
  go_wp2_with fail
  refine (eye_on w2 [97]).mono ?_
  rintro e w3 ⟨rfl, he3, hc3⟩
  go_wp2_with fail
  refine (eye_over w3 w2.heap.size _ he3).mono ?_
  rintro e w4 ⟨rfl, rfl⟩
  go_wp2
  go_ret
  exact ⟨rfl, (hc1.trans hc2).trans hc3⟩
end Go.Proofs.Ytgpnnfgaphcklaa
