/-
  The walk of tuples.Merge. Conditions: the form's own reach.
-/
import Derived.Test.YtmbalpkeaobfgaaTupPart
import Derived.Test.YtmbalpkeaobfgaaTupGe
import Derived.Test.YtmbalpkeaobfgaaStepApp
import Derived.Test.YtmbalpkeaobfgaaPlainMerge
import Derived.Shelf.Abstract
namespace Go.Proofs.Ytmbalpkeaobfgaa
open Go.RowKit

theorem nxt_cons (q : Tp) (b : List Tp) (k : Nat) : nxt (q :: b) (k + 1) = nxt b k := by
  simp [nxt]
theorem unT_zero {b : List Tp} {x : Int} (h : ∀ p ∈ b, x ≤ p.x) : unT b x = 0 := by
  rw [unT, List.countP_eq_zero]
  intro p hp
  have := h p hp
  simp; omega
theorem upT_zero {b : List Tp} {x : Int} (h : ∀ p ∈ b, x < p.x) : upT b x = 0 := by
  rw [upT, List.countP_eq_zero]
  intro p hp
  have := h p hp
  simp; omega
theorem nxt_unT (x : Int) : ∀ (b : List Tp), (b.Pairwise fun p q => p.x ≤ q.x) → nxt b (unT b x) = nextGe b x := by
  intro b
  induction b with
  | nil => intro _; rfl
  | cons q b ih =>
    intro h
    obtain ⟨h1, h2⟩ := List.pairwise_cons.1 h
    by_cases hq : q.x < x
    · rw [unT_cons, if_pos hq, nxt_cons, ih h2, nextGe_skip q b x hq]
    · rw [unT_zero (b := q :: b) (x := x) (fun p hp => by
        rcases List.mem_cons.1 hp with rfl | hp
        · omega
        · have := h1 p hp; omega), nextGe_hit q b x (by omega)]
      simp [nxt]
theorem nxt_upT (x : Int) : ∀ (b : List Tp), (b.Pairwise fun p q => p.x ≤ q.x) → nxt b (upT b x) = nextGt b x := by
  intro b
  induction b with
  | nil => intro _; rfl
  | cons q b ih =>
    intro h
    obtain ⟨h1, h2⟩ := List.pairwise_cons.1 h
    by_cases hq : q.x ≤ x
    · rw [upT_cons, if_pos hq, nxt_cons, ih h2, nextGt_skip q b x hq]
    · rw [upT_zero (b := q :: b) (x := x) (fun p hp => by
        rcases List.mem_cons.1 hp with rfl | hp
        · omega
        · have := h1 p hp; omega), nextGt_hit q b x (by omega)]
      simp [nxt]
theorem partG_A (a b : List Tp) (hb : b.Pairwise fun p q => p.x ≤ q.x) : partG a b (unT b) = partA a b := by
  rw [partG, partA]
  apply List.map_congr_left
  intro p _
  rw [nxt_unT p.x b hb]
theorem partG_B (a b : List Tp) (ha : a.Pairwise fun p q => p.x ≤ q.x) : partG b a (upT a) = partB b a := by
  rw [partG, partB]
  apply List.map_congr_left
  intro p _
  rw [nxt_upT p.x a ha]
theorem pw_get {l : List Tp} (h : l.Pairwise fun p q => p.x ≤ q.x) : ∀ j k, (hjk : j ≤ k) → (h : k < l.length) → (l[j]'(by omega)).x ≤ l[k].x := by
  intro j k hjk hk
  rcases Nat.lt_or_ge j k with h1 | h1
  · exact List.pairwise_iff_getElem.1 h j k (by omega) hk h1
  · obtain rfl : j = k := by omega
    exact Int.le_refl _
theorem mrgX_left (p : Tp) (a : List Tp) : mrgX (p :: a) [] = p :: a := by unfold mrgX; rfl
theorem mrgX_nil (b : List Tp) : mrgX [] b = b := by unfold mrgX; rfl
theorem mrgX_right (a : List Tp) : mrgX a [] = a := by
  cases a with
  | nil => exact mrgX_nil []
  | cons p a => exact mrgX_left p a
theorem mrgX_le {p q : Tp} (a b : List Tp) (h : p.x ≤ q.x) : mrgX (p :: a) (q :: b) = p :: mrgX a (q :: b) := by rw [mrgX, if_pos h]
theorem mrgX_gt {p q : Tp} (a b : List Tp) (h : ¬ p.x ≤ q.x) : mrgX (p :: a) (q :: b) = q :: mrgX (p :: a) b := by rw [mrgX, if_neg h]
theorem mrgX_len : ∀ (a b : List Tp), (mrgX a b).length = a.length + b.length
  | [], b => by rw [mrgX_nil]; simp
  | p :: a, [] => by rw [mrgX_left]; rfl
  | p :: a, q :: b => by
    by_cases h : p.x ≤ q.x
    · rw [mrgX_le a b h, List.length_cons, mrgX_len a (q :: b)]; simp; omega
    · rw [mrgX_gt a b h, List.length_cons, mrgX_len (p :: a) b]; simp; omega
termination_by a b => a.length + b.length
theorem Own.le_cap {w : World} {e : TypeId} {size n c : Nat} {ao : Option Addr} {xs : List Value} (h : Own w e size (.slice ao n c) n xs) : n ≤ c := by
  obtain ⟨_, ⟨h1, h2⟩ | ⟨g, o, cp, cur, h1, _, h2, _⟩⟩ := h
  · omega
  · simp only [Value.slice.injEq, true_and] at h1
    omega
def slen : Value → Nat | .slice _ n _ => n | _ => 0

/-- What is read of a row behind its first tuple. -/
theorem Rd.tail3 {w : World} {g o n c : Nat} {p : Tp} {l : List Tp} (h : Rd w 3 (.slice (some ⟨g, o, none⟩) n c) n (tpCells (p :: l))) : Rd w 3 (.slice (some ⟨g, o + 3, none⟩) (n - 1) (c - 1)) (n - 1) (tpCells l) := by
  obtain ⟨h1, ao, cap, hv, h2⟩ := h
  simp only [Value.slice.injEq, true_and] at hv
  obtain ⟨rfl, rfl⟩ := hv
  have h3 := tpCells_len l
  have h4 : (tpCells (p :: l)).length = (l.length + 1) * 3 := tpCells_len _
  refine ⟨by omega, _, _, rfl, .inr ⟨g, o + 3, rfl, fun j hj => ?_⟩⟩
  rcases h2 with h2 | ⟨b', o', hb, hc⟩
  · omega
  · simp only [Option.some.injEq, Addr.mk.injEq, and_true] at hb
    obtain ⟨rfl, rfl⟩ := hb
    rw [Nat.add_assoc, hc (3 + j) (by omega)]
    show (p.cells ++ tpCells l)[3 + j]? = _
    rw [List.getElem?_append_right (by simp [Tp.cells])]
    simp [Tp.cells]
theorem Rd.tail3' {w : World} {g o n c : Nat} {p : Tp} {l : List Tp} (h : Rd w 3 (.slice (some ⟨g, o, none⟩) n c) n (tpCells (p :: l))) (hn : n = 1) (a : Option Addr) (c' : Nat) : Rd w 3 (.slice a 0 c') 0 (tpCells l) := by
  have h3 := tpCells_len l
  have h4 : (tpCells (p :: l)).length = (l.length + 1) * 3 := tpCells_len _
  have h5 := h.1
  exact ⟨by omega, _, _, rfl, .inl rfl⟩
theorem tp_head {w : World} {g o n c : Nat} {p : Tp} {l : List Tp} (h : Rd w 3 (.slice (some ⟨g, o, none⟩) n c) n (tpCells (p :: l))) :
    w.cell? ⟨g, o, none⟩ = some (.int .i64 p.x) ∧ w.cell? ⟨g, o + 1, none⟩ = some (.int .u64 p.st) ∧ w.cell? ⟨g, o + 2, none⟩ = some (.int .u64 p.sl) := by
  have h4 : (tpCells (p :: l)).length = (l.length + 1) * 3 := tpCells_len _
  have h5 := h.1
  obtain ⟨b, o', hv, hc⟩ := h.addr (by omega)
  simp only [Option.some.injEq, Addr.mk.injEq, and_true] at hv
  obtain ⟨rfl, rfl⟩ := hv
  have e0 := hc 0 (by omega)
  have e1 := hc 1 (by omega)
  have e2 := hc 2 (by omega)
  exact ⟨e0, e1, e2⟩

set_option maxRecDepth 100000 in
set_option maxHeartbeats 4000000 in
theorem tup_merge (w : World) (ao : Option Addr) (cap : Nat) (a : List Tp) (bo : Option Addr) (bcap : Nat) (b : List Tp) (ha : a.Pairwise fun p q => p.x ≤ q.x) (hb : b.Pairwise fun p q => p.x ≤ q.x)
    (hra : Rd w 3 (.slice ao a.length cap) a.length (tpCells a)) (hrb : Rd w 3 (.slice bo b.length bcap) b.length (tpCells b)) (hla : a.length ≤ 40000) (hlb : b.length ≤ 40000)
    (hab : ∀ p ∈ a, ∀ q ∈ b, 1 ≤ q.st ∧ p.sl + q.st + q.sl ≤ 9223372036854775807) (hba : ∀ p ∈ b, ∀ q ∈ a, 1 ≤ q.st ∧ p.sl + q.st + q.sl ≤ 9223372036854775807) :
    Calls Try.prog 20 #[.slice ao a.length cap, .slice bo b.length bcap] w fun e w' => ∃ a3 c3, e = .returned (.slice a3 (mrgT a b).length c3) ∧
      Own w' 54 3 (.slice a3 (mrgT a b).length c3) (mrgT a b).length (tpCells (mrgT a b)) ∧ Chg [] w w' ∧ ∀ b ∈ abl a3, w.heap.size ≤ b := by
  have HA := Lib.hid ha
  have HB := Lib.hid hb
  have HAB := Lib.hid hab
  have HBA := Lib.hid hba
  have HX := Lib.hid (part_merge a b ha hb)
  obtain ⟨W1, hW1⟩ : ∃ W1, W1 = (w.alloc (.cells #[.slice ao a.length cap] 24)).alloc (.cells #[.slice bo b.length bcap] 24) := ⟨_, rfl⟩
  have hb0 := (Blk.alloc_new w #[.slice ao a.length cap] 24).alloc (.cells #[.slice bo b.length bcap] 24)
  have hb1 := Blk.alloc_new (w.alloc (.cells #[.slice ao a.length cap] 24)) #[.slice bo b.length bcap] 24
  have hcW := (Chg.refl [] w).alloc (.cells #[.slice ao a.length cap] 24) |>.alloc (.cells #[.slice bo b.length bcap] 24)
  rw [World.size_alloc, ← hW1] at hb1
  rw [← hW1] at hb0 hcW
  have hra1 := hra.chg hcW (by simp)
  have hrb1 := hrb.chg hcW (by simp)
  have H1 := Lib.hid (tup_part W1 ao cap a bo bcap b 34 (w.heap.size + 1) (unT b) (enters_of Try.func34 (by kernel_rfl) rfl)
    (fun w' x hc => merge_one w' (w.heap.size + 1) bo bcap b x ((hb1.chg hc (by simp)).cell 0) (pw_get hb) (hrb1.chg hc (by simp)) (by omega)) hra1 hrb1 (by omega) (by omega) hab)
  have H2 := Lib.hid (fun w2 (hc : Chg [] W1 w2) => tup_part w2 bo bcap b ao cap a 37 w.heap.size (upT a) (enters_of Try.func37 (by kernel_rfl) rfl)
    (fun w' x hc' => merge_two w' w.heap.size ao cap a x ((hb0.chg (hc.trans hc') (by simp)).cell 0) (pw_get ha) ((hra1.chg hc (by simp)).chg hc' (by simp)) (by omega)) (hrb1.chg hc (by simp)) (hra1.chg hc (by simp)) (by omega) (by omega) hba)
  rw [partG_A a b hb] at H1
  rw [partG_B a b ha] at H2
  have e0 := hb0.cell 0
  have e1 := hb1.cell 0
  have HB0 := Lib.hid hb0
  have HB1 := Lib.hid hb1
  have HW := Lib.hid hW1
  have hlt : (mrgT a b).length = a.length + b.length := by
    rw [← HX.out, mrgX_len]
    simp [partA, partB]
  rw [hlt]
  have HPA := Lib.hid (show (partA a b).length = a.length by simp [partA])
  have HPB := Lib.hid (show (partB b a).length = b.length by simp [partB])
  clear ha hb hab hba hra hrb hra1 hrb1 hb0 hb1 hlt HA HB HAB HBA
  generalize mrgT a b = R at *
  generalize partA a b = A0 at *
  generalize partB b a = B0 at *
  generalize a.length = na at *
  generalize b.length = nb at *
  go_enter Try.func20, Try.ntmps20
  go_wp2_with fail
  rw [← HW.out]
  refine H1.out.mono ?_
  rintro e w2 ⟨a3, c3, rfl, ho3, hc3, hf3⟩
  have e0' := hc3.cell e0 (by simp)
  have e1' := hc3.cell e1 (by simp)
  clear e0 e1 hW1 H1
  go_wp2_with fail
  refine (H2.out w2 hc3).mono ?_
  rintro e w3 ⟨a4, c4, rfl, ho4, hc4, hf4⟩
  clear e0' e1' H2
  have HS3 := Lib.hid (hcW.trans (hc3.trans hc4))
  have hsz : w.heap.size ≤ w3.heap.size := (hcW.trans (hc3.trans hc4)).size
  have ho3' := ho3.chg hc4 (by simp)
  have hl3 := ho3'.lt
  have hl4 := ho4.lt
  have hk3 := ho3'.le_cap
  have hk4 := ho4.le_cap
  have HR3 := Lib.hid ho3'.rd
  have HR4 := Lib.hid ho4.rd
  have HL3 := Lib.hid hl3
  have HL4 := Lib.hid hl4
  clear HB0 HB1 HW hc3 hc4 hf3 hf4 ho3 ho4 ho3' hl3 hl4 hcW
  go_wp2
  go_loopw [5, 6, 7] (fun f s o wx => ∃ (F S O : List Tp) (n m k : Nat) (fo : Option Addr) (fc : Nat) (so : Option Addr) (sc : Nat) (a3 : Option Addr) (c3 : Nat), f = .slice fo n fc ∧ s = .slice so m sc ∧ o = .slice a3 k c3 ∧
    Rd wx 3 (.slice fo n fc) n (tpCells F) ∧ Rd wx 3 (.slice so m sc) m (tpCells S) ∧ n ≤ fc ∧ m ≤ sc ∧ (∀ b ∈ abl fo, b < w3.heap.size) ∧ (∀ b ∈ abl so, b < w3.heap.size) ∧
    Own wx 54 3 (.slice a3 k c3) k (tpCells O) ∧ Chg [] w3 wx ∧ (∀ b ∈ abl a3, w3.heap.size ≤ b) ∧ Hid (O ++ mrgX F S = R) ∧ Hid (k + n + m = na + nb)) (fun f s _ _ => slen f + slen s)
  case atStart => exact ⟨A0, B0, [], na, nb, 0, _, _, _, _, none, 0, rfl, rfl, rfl, HR3.out, HR4.out, hk3, hk4, by simpa using HL3.out, by simpa using HL4.out, Own.nil _ _ _, Chg.refl _ _, by simp [abl], Lib.hid (by simpa using HX.out), Lib.hid (by omega)⟩
  case round =>
    obtain ⟨F, S, O, n, m, k, fo, fc, so, sc, a5, c5, rfl, rfl, rfl, hF, hS, hnf, hms, hbf, hbs, ho, hch, hba, HX, HT⟩ := hrel
    have hFl : F.length = n := by have := hF.1; rw [tpCells_len] at this; omega
    have hSl : S.length = m := by have := hS.1; rw [tpCells_len] at this; omega
    clear HR3 HR4 HL3 HL4 hk3 hk4
    cases F with
    | nil =>
      simp only [List.length_nil] at hFl
      subst hFl
      cases S with
      | nil =>
        simp only [List.length_nil] at hSl
        subst hSl
        have HE := Lib.hid (show O = R from by have := HX.out; rw [mrgX_nil, List.append_nil] at this; exact this)
        have hk : k = na + nb := by have := HT.out; omega
        subst hk
        go_wp2
        go_ret
        exact ⟨a5, c5, rfl, by rw [← HE.out]; exact ho, HS3.out.trans hch, fun b hb => by have := hba b hb; omega⟩
      | cons q S =>
        have hm1 : 0 < m := by simp only [List.length_cons] at hSl; omega
        have HSl := Lib.hid hSl
        clear hSl
        obtain ⟨g, o, rfl, _⟩ := hS.addr hm1
        obtain ⟨c0, c1, c2⟩ := tp_head hS
        rw [mrgX_nil] at HX
        have HX2 : Hid ((O ++ [q]) ++ mrgX [] S = R) := Lib.hid (by rw [mrgX_nil, List.append_assoc]; exact HX.out)
        have hgt : decide (0 < m) = true := decide_eq_true hm1
        have heq : ((m : Int) == 0) = false := by rw [beq_eq_false_iff_ne]; omega
        have hmi : (0 : Int) < (m : Int) := by omega
        have hm2 : 1 ≤ m := hm1
        have HTL := Lib.hid hS.tail3
        clear HX
        go_wp2
        go_quiet (fail)
        have hD := (Chg.refl [] wr).drewN nq
        have HFW := Lib.hid (hF.chg hD (by simp))
        have HTW := Lib.hid (fun a c' (h : m = 1) => ((hS.tail3' h a c').chg hD (by simp)))
        have HTL2 := Lib.hid (HTL.out.chg hD (by simp))
        have hoW := ho.chg hD (by simp)
        have HCW := Lib.hid (hch.trans hD)
        have c0' := hD.cell c0 (by simp)
        have c1' := hD.cell c1 (by simp)
        have c2' := hD.cell c2 (by simp)
        have HSZ := Lib.hid (hch.trans hD).size
        generalize wr.drewN nq = W at *
        clear c0 c1 c2 hD ho hch HTL
        have hrd0 := Rd.lit W #[.int .i64 q.x, .int .u64 q.st, .int .u64 q.sl] 54 3 1 1 rfl
        have hrd : Rd ((W.alloc (.cells #[.int .i64 q.x, .int .u64 q.st, .int .u64 q.sl] 54)).drew) 3 (.slice (some ⟨W.heap.size, 0, none⟩) 1 1) 1 (tpCells [q]) := hrd0
        have hox : Own ((W.alloc (.cells #[.int .i64 q.x, .int .u64 q.st, .int .u64 q.sl] 54)).drew) 54 3 (.slice a5 k c5) k (tpCells O) := (hoW.alloc _).drew
        have HCX := Lib.hid ((HCW.out.alloc (.cells #[.int .i64 q.x, .int .u64 q.st, .int .u64 q.sl] 54)).drew)
        have HKB := Lib.hid (show k + 1 ≤ 80000 from by have := HT.out; omega)
        clear hrd0
        by_cases hc1 : sc = 1
        · have hn1 : m = 1 := by omega
          subst hn1 hc1
          have HT1 := Lib.hid (fun a c' => HTW.out a c' rfl)
          clear HTW
          go_wp2
          go_region_law (refine step_append_src rfl (.tmp 51) (.tmp 55) 24 24 rfl 54 _ 3 24 under_tuples info_tuple rfl (by decide) (.slice a5 k c5) k (tpCells O) rfl hox (.slice (some ⟨W.heap.size, 0, none⟩) 1 1) 1 (tpCells [q]) rfl (Src.of_rd under_tuples hrd) (tpCells_oneCell _) (by have := HKB.out; unfold maxLen; omega) (by have := HKB.out; omega) ?_; intro a7 c7 w7 ho7 hg7 hf7)
          all_goals
            simp only [Act.put, List.setIfInBounds_toArray, List.set_cons_succ, List.set_cons_zero, List.getElem_toArray, List.getElem_cons_succ, List.getElem_cons_zero]
            go_wp2
            refine ⟨⟨_, _, O ++ [q], _, _, k + 1, _, _, _, _, a7, c7, rfl, rfl, rfl, (HFW.out.chg ((((Chg.refl [] W).alloc (.cells #[.int .i64 q.x, .int .u64 q.st, .int .u64 q.sl] 54)).drew).nil.trans hg7) (fun b hb hb7 => by have h1 := hba b (by simpa using hb7); have h2 := hbf b (by simpa using hb); omega)), ((HT1.out _ _).chg ((((Chg.refl [] W).alloc (.cells #[.int .i64 q.x, .int .u64 q.st, .int .u64 q.sl] 54)).drew).nil.trans hg7) (fun b hb hb7 => by have h1 := hba b (by simpa using hb7); have h2 := hbs b (by simpa using hb); omega)), by omega, by omega, fun b hb => hbf b (by simpa using hb), fun b hb => hbs b (by simpa using hb), by rw [tpCells_append]; exact ho7, HCX.out.trans' hg7 (fun b hb => .inr (hba b (by simpa using hb))), fun b hb => ?_, HX2, Lib.hid (by have := HT.out; omega)⟩, by first | (simp [slen]; done) | (simp [slen]; omega)⟩
            rcases hf7 b hb with h | h
            · exact hba b (by simpa using h)
            · have := HSZ.out; simp at h; omega
        · have hn1 : True := trivial
          have hc2 : 1 ≤ sc := by omega
          have hc3 : (1 : Int) ≤ (m : Int) := by omega
          go_wp2
          go_region_law (refine step_append_src rfl (.tmp 51) (.tmp 55) 24 24 rfl 54 _ 3 24 under_tuples info_tuple rfl (by decide) (.slice a5 k c5) k (tpCells O) rfl hox (.slice (some ⟨W.heap.size, 0, none⟩) 1 1) 1 (tpCells [q]) rfl (Src.of_rd under_tuples hrd) (tpCells_oneCell _) (by have := HKB.out; unfold maxLen; omega) (by have := HKB.out; omega) ?_; intro a7 c7 w7 ho7 hg7 hf7)
          all_goals
            simp only [Act.put, List.setIfInBounds_toArray, List.set_cons_succ, List.set_cons_zero, List.getElem_toArray, List.getElem_cons_succ, List.getElem_cons_zero]
            go_wp2
            refine ⟨⟨_, _, O ++ [q], _, _, k + 1, _, _, _, _, a7, c7, rfl, rfl, rfl, (HFW.out.chg ((((Chg.refl [] W).alloc (.cells #[.int .i64 q.x, .int .u64 q.st, .int .u64 q.sl] 54)).drew).nil.trans hg7) (fun b hb hb7 => by have h1 := hba b (by simpa using hb7); have h2 := hbf b (by simpa using hb); omega)), ((HTL2.out).chg ((((Chg.refl [] W).alloc (.cells #[.int .i64 q.x, .int .u64 q.st, .int .u64 q.sl] 54)).drew).nil.trans hg7) (fun b hb hb7 => by have h1 := hba b (by simpa using hb7); have h2 := hbs b (by simpa using hb); omega)), by omega, by omega, fun b hb => hbf b (by simpa using hb), fun b hb => hbs b (by simpa using hb), by rw [tpCells_append]; exact ho7, HCX.out.trans' hg7 (fun b hb => .inr (hba b (by simpa using hb))), fun b hb => ?_, HX2, Lib.hid (by have := HT.out; omega)⟩, by first | (simp [slen]; done) | (simp [slen]; omega)⟩
            rcases hf7 b hb with h | h
            · exact hba b (by simpa using h)
            · have := HSZ.out; simp at h; omega
    | cons p F =>
      have hn1 : 0 < n := by simp only [List.length_cons] at hFl; omega
      have HFl := Lib.hid hFl
      clear hFl
      obtain ⟨g, o, rfl, _⟩ := hF.addr hn1
      obtain ⟨c0, c1, c2⟩ := tp_head hF
      have hgt : decide (0 < n) = true := decide_eq_true hn1
      have heq : ((n : Int) == 0) = false := by rw [beq_eq_false_iff_ne]; omega
      have hni : (0 : Int) < (n : Int) := by omega
      have hn2 : 1 ≤ n := hn1
      cases S with
      | nil =>
        simp only [List.length_nil] at hSl
        subst hSl
        rw [mrgX_left] at HX
        have HX2 : Hid ((O ++ [p]) ++ mrgX F [] = R) := Lib.hid (by rw [mrgX_right, List.append_assoc]; exact HX.out)
        have HTL := Lib.hid hF.tail3
        clear HX
        go_wp2
        go_quiet (fail)
        have hD := (Chg.refl [] wr).drewN nq
        have HFW := Lib.hid (hS.chg hD (by simp))
        have HTW := Lib.hid (fun a c' (h : n = 1) => ((hF.tail3' h a c').chg hD (by simp)))
        have HTL2 := Lib.hid (HTL.out.chg hD (by simp))
        have hoW := ho.chg hD (by simp)
        have HCW := Lib.hid (hch.trans hD)
        have c0' := hD.cell c0 (by simp)
        have c1' := hD.cell c1 (by simp)
        have c2' := hD.cell c2 (by simp)
        have HSZ := Lib.hid (hch.trans hD).size
        generalize wr.drewN nq = W at *
        clear c0 c1 c2 hD ho hch HTL
        have hrd0 := Rd.lit W #[.int .i64 p.x, .int .u64 p.st, .int .u64 p.sl] 54 3 1 1 rfl
        have hrd : Rd ((W.alloc (.cells #[.int .i64 p.x, .int .u64 p.st, .int .u64 p.sl] 54)).drew) 3 (.slice (some ⟨W.heap.size, 0, none⟩) 1 1) 1 (tpCells [p]) := hrd0
        have hox : Own ((W.alloc (.cells #[.int .i64 p.x, .int .u64 p.st, .int .u64 p.sl] 54)).drew) 54 3 (.slice a5 k c5) k (tpCells O) := (hoW.alloc _).drew
        have HCX := Lib.hid ((HCW.out.alloc (.cells #[.int .i64 p.x, .int .u64 p.st, .int .u64 p.sl] 54)).drew)
        have HKB := Lib.hid (show k + 1 ≤ 80000 from by have := HT.out; omega)
        clear hrd0
        by_cases hc1 : fc = 1
        · have hn1 : n = 1 := by omega
          subst hn1 hc1
          have HT1 := Lib.hid (fun a c' => HTW.out a c' rfl)
          clear HTW
          go_wp2
          go_region_law (refine step_append_src rfl (.tmp 43) (.tmp 47) 24 24 rfl 54 _ 3 24 under_tuples info_tuple rfl (by decide) (.slice a5 k c5) k (tpCells O) rfl hox (.slice (some ⟨W.heap.size, 0, none⟩) 1 1) 1 (tpCells [p]) rfl (Src.of_rd under_tuples hrd) (tpCells_oneCell _) (by have := HKB.out; unfold maxLen; omega) (by have := HKB.out; omega) ?_; intro a7 c7 w7 ho7 hg7 hf7)
          all_goals
            simp only [Act.put, List.setIfInBounds_toArray, List.set_cons_succ, List.set_cons_zero, List.getElem_toArray, List.getElem_cons_succ, List.getElem_cons_zero]
            go_wp2
            refine ⟨⟨_, _, O ++ [p], _, _, k + 1, _, _, _, _, a7, c7, rfl, rfl, rfl, ((HT1.out _ _).chg ((((Chg.refl [] W).alloc (.cells #[.int .i64 p.x, .int .u64 p.st, .int .u64 p.sl] 54)).drew).nil.trans hg7) (fun b hb hb7 => by have h1 := hba b (by simpa using hb7); have h2 := hbf b (by simpa using hb); omega)), (HFW.out.chg ((((Chg.refl [] W).alloc (.cells #[.int .i64 p.x, .int .u64 p.st, .int .u64 p.sl] 54)).drew).nil.trans hg7) (fun b hb hb7 => by have h1 := hba b (by simpa using hb7); have h2 := hbs b (by simpa using hb); omega)), by omega, by omega, fun b hb => hbf b (by simpa using hb), fun b hb => hbs b (by simpa using hb), by rw [tpCells_append]; exact ho7, HCX.out.trans' hg7 (fun b hb => .inr (hba b (by simpa using hb))), fun b hb => ?_, HX2, Lib.hid (by have := HT.out; omega)⟩, by first | (simp [slen]; done) | (simp [slen]; omega)⟩
            rcases hf7 b hb with h | h
            · exact hba b (by simpa using h)
            · have := HSZ.out; simp at h; omega
        · have hn1 : True := trivial
          have hc2 : 1 ≤ fc := by omega
          have hc3 : (1 : Int) ≤ (n : Int) := by omega
          go_wp2
          go_region_law (refine step_append_src rfl (.tmp 43) (.tmp 47) 24 24 rfl 54 _ 3 24 under_tuples info_tuple rfl (by decide) (.slice a5 k c5) k (tpCells O) rfl hox (.slice (some ⟨W.heap.size, 0, none⟩) 1 1) 1 (tpCells [p]) rfl (Src.of_rd under_tuples hrd) (tpCells_oneCell _) (by have := HKB.out; unfold maxLen; omega) (by have := HKB.out; omega) ?_; intro a7 c7 w7 ho7 hg7 hf7)
          all_goals
            simp only [Act.put, List.setIfInBounds_toArray, List.set_cons_succ, List.set_cons_zero, List.getElem_toArray, List.getElem_cons_succ, List.getElem_cons_zero]
            go_wp2
            refine ⟨⟨_, _, O ++ [p], _, _, k + 1, _, _, _, _, a7, c7, rfl, rfl, rfl, ((HTL2.out).chg ((((Chg.refl [] W).alloc (.cells #[.int .i64 p.x, .int .u64 p.st, .int .u64 p.sl] 54)).drew).nil.trans hg7) (fun b hb hb7 => by have h1 := hba b (by simpa using hb7); have h2 := hbf b (by simpa using hb); omega)), (HFW.out.chg ((((Chg.refl [] W).alloc (.cells #[.int .i64 p.x, .int .u64 p.st, .int .u64 p.sl] 54)).drew).nil.trans hg7) (fun b hb hb7 => by have h1 := hba b (by simpa using hb7); have h2 := hbs b (by simpa using hb); omega)), by omega, by omega, fun b hb => hbf b (by simpa using hb), fun b hb => hbs b (by simpa using hb), by rw [tpCells_append]; exact ho7, HCX.out.trans' hg7 (fun b hb => .inr (hba b (by simpa using hb))), fun b hb => ?_, HX2, Lib.hid (by have := HT.out; omega)⟩, by first | (simp [slen]; done) | (simp [slen]; omega)⟩
            rcases hf7 b hb with h | h
            · exact hba b (by simpa using h)
            · have := HSZ.out; simp at h; omega
      | cons q S =>
        have hm1 : 0 < m := by simp only [List.length_cons] at hSl; omega
        have HSl := Lib.hid hSl
        clear hSl
        obtain ⟨g', o', rfl, _⟩ := hS.addr hm1
        obtain ⟨d0, d1, d2⟩ := tp_head hS
        have hgt' : decide (0 < m) = true := decide_eq_true hm1
        have heq' : ((m : Int) == 0) = false := by rw [beq_eq_false_iff_ne]; omega
        have hmi : (0 : Int) < (m : Int) := by omega
        have hm2 : 1 ≤ m := hm1
        by_cases hle : p.x ≤ q.x
        · rw [mrgX_le F S hle] at HX
          have hdl : decide (p.x ≤ q.x) = true := decide_eq_true hle
          have HX2 : Hid ((O ++ [p]) ++ mrgX F (q :: S) = R) := Lib.hid (by rw [List.append_assoc]; exact HX.out)
          have HTL := Lib.hid hF.tail3
          clear HX hle
          go_wp2
          go_quiet (fail)
          clear d0 d1 d2
          have hD := (Chg.refl [] wr).drewN nq
          have HFW := Lib.hid (hS.chg hD (by simp))
          have HTW := Lib.hid (fun a c' (h : n = 1) => ((hF.tail3' h a c').chg hD (by simp)))
          have HTL2 := Lib.hid (HTL.out.chg hD (by simp))
          have hoW := ho.chg hD (by simp)
          have HCW := Lib.hid (hch.trans hD)
          have c0' := hD.cell c0 (by simp)
          have c1' := hD.cell c1 (by simp)
          have c2' := hD.cell c2 (by simp)
          have HSZ := Lib.hid (hch.trans hD).size
          generalize wr.drewN nq = W at *
          clear c0 c1 c2 hD ho hch HTL
          have hrd0 := Rd.lit W #[.int .i64 p.x, .int .u64 p.st, .int .u64 p.sl] 54 3 1 1 rfl
          have hrd : Rd ((W.alloc (.cells #[.int .i64 p.x, .int .u64 p.st, .int .u64 p.sl] 54)).drew) 3 (.slice (some ⟨W.heap.size, 0, none⟩) 1 1) 1 (tpCells [p]) := hrd0
          have hox : Own ((W.alloc (.cells #[.int .i64 p.x, .int .u64 p.st, .int .u64 p.sl] 54)).drew) 54 3 (.slice a5 k c5) k (tpCells O) := (hoW.alloc _).drew
          have HCX := Lib.hid ((HCW.out.alloc (.cells #[.int .i64 p.x, .int .u64 p.st, .int .u64 p.sl] 54)).drew)
          have HKB := Lib.hid (show k + 1 ≤ 80000 from by have := HT.out; omega)
          clear hrd0
          by_cases hc1 : fc = 1
          · have hn1 : n = 1 := by omega
            subst hn1 hc1
            have HT1 := Lib.hid (fun a c' => HTW.out a c' rfl)
            clear HTW
            go_wp2
            go_region_law (refine step_append_src rfl (.tmp 43) (.tmp 47) 24 24 rfl 54 _ 3 24 under_tuples info_tuple rfl (by decide) (.slice a5 k c5) k (tpCells O) rfl hox (.slice (some ⟨W.heap.size, 0, none⟩) 1 1) 1 (tpCells [p]) rfl (Src.of_rd under_tuples hrd) (tpCells_oneCell _) (by have := HKB.out; unfold maxLen; omega) (by have := HKB.out; omega) ?_; intro a7 c7 w7 ho7 hg7 hf7)
            all_goals
              simp only [Act.put, List.setIfInBounds_toArray, List.set_cons_succ, List.set_cons_zero, List.getElem_toArray, List.getElem_cons_succ, List.getElem_cons_zero]
              go_wp2
              refine ⟨⟨_, _, O ++ [p], _, _, k + 1, _, _, _, _, a7, c7, rfl, rfl, rfl, ((HT1.out _ _).chg ((((Chg.refl [] W).alloc (.cells #[.int .i64 p.x, .int .u64 p.st, .int .u64 p.sl] 54)).drew).nil.trans hg7) (fun b hb hb7 => by have h1 := hba b (by simpa using hb7); have h2 := hbf b (by simpa using hb); omega)), (HFW.out.chg ((((Chg.refl [] W).alloc (.cells #[.int .i64 p.x, .int .u64 p.st, .int .u64 p.sl] 54)).drew).nil.trans hg7) (fun b hb hb7 => by have h1 := hba b (by simpa using hb7); have h2 := hbs b (by simpa using hb); omega)), by omega, by omega, fun b hb => hbf b (by simpa using hb), fun b hb => hbs b (by simpa using hb), by rw [tpCells_append]; exact ho7, HCX.out.trans' hg7 (fun b hb => .inr (hba b (by simpa using hb))), fun b hb => ?_, HX2, Lib.hid (by have := HT.out; omega)⟩, by first | (simp [slen]; done) | (simp [slen]; omega)⟩
              rcases hf7 b hb with h | h
              · exact hba b (by simpa using h)
              · have := HSZ.out; simp at h; omega
          · have hn1 : True := trivial
            have hc2 : 1 ≤ fc := by omega
            have hc3 : (1 : Int) ≤ (n : Int) := by omega
            go_wp2
            go_region_law (refine step_append_src rfl (.tmp 43) (.tmp 47) 24 24 rfl 54 _ 3 24 under_tuples info_tuple rfl (by decide) (.slice a5 k c5) k (tpCells O) rfl hox (.slice (some ⟨W.heap.size, 0, none⟩) 1 1) 1 (tpCells [p]) rfl (Src.of_rd under_tuples hrd) (tpCells_oneCell _) (by have := HKB.out; unfold maxLen; omega) (by have := HKB.out; omega) ?_; intro a7 c7 w7 ho7 hg7 hf7)
            all_goals
              simp only [Act.put, List.setIfInBounds_toArray, List.set_cons_succ, List.set_cons_zero, List.getElem_toArray, List.getElem_cons_succ, List.getElem_cons_zero]
              go_wp2
              refine ⟨⟨_, _, O ++ [p], _, _, k + 1, _, _, _, _, a7, c7, rfl, rfl, rfl, ((HTL2.out).chg ((((Chg.refl [] W).alloc (.cells #[.int .i64 p.x, .int .u64 p.st, .int .u64 p.sl] 54)).drew).nil.trans hg7) (fun b hb hb7 => by have h1 := hba b (by simpa using hb7); have h2 := hbf b (by simpa using hb); omega)), (HFW.out.chg ((((Chg.refl [] W).alloc (.cells #[.int .i64 p.x, .int .u64 p.st, .int .u64 p.sl] 54)).drew).nil.trans hg7) (fun b hb hb7 => by have h1 := hba b (by simpa using hb7); have h2 := hbs b (by simpa using hb); omega)), by omega, by omega, fun b hb => hbf b (by simpa using hb), fun b hb => hbs b (by simpa using hb), by rw [tpCells_append]; exact ho7, HCX.out.trans' hg7 (fun b hb => .inr (hba b (by simpa using hb))), fun b hb => ?_, HX2, Lib.hid (by have := HT.out; omega)⟩, by first | (simp [slen]; done) | (simp [slen]; omega)⟩
              rcases hf7 b hb with h | h
              · exact hba b (by simpa using h)
              · have := HSZ.out; simp at h; omega
        · rw [mrgX_gt F S hle] at HX
          have hdl : decide (p.x ≤ q.x) = false := decide_eq_false hle
          have HX2 : Hid ((O ++ [q]) ++ mrgX (p :: F) S = R) := Lib.hid (by rw [List.append_assoc]; exact HX.out)
          have HTL := Lib.hid hS.tail3
          clear HX hle
          go_wp2
          go_quiet (fail)
          clear c0 c1 c2
          have c0 := d0
          have c1 := d1
          have c2 := d2
          clear d0 d1 d2
          have hD := (Chg.refl [] wr).drewN nq
          have HFW := Lib.hid (hF.chg hD (by simp))
          have HTW := Lib.hid (fun a c' (h : m = 1) => ((hS.tail3' h a c').chg hD (by simp)))
          have HTL2 := Lib.hid (HTL.out.chg hD (by simp))
          have hoW := ho.chg hD (by simp)
          have HCW := Lib.hid (hch.trans hD)
          have c0' := hD.cell c0 (by simp)
          have c1' := hD.cell c1 (by simp)
          have c2' := hD.cell c2 (by simp)
          have HSZ := Lib.hid (hch.trans hD).size
          generalize wr.drewN nq = W at *
          clear c0 c1 c2 hD ho hch HTL
          have hrd0 := Rd.lit W #[.int .i64 q.x, .int .u64 q.st, .int .u64 q.sl] 54 3 1 1 rfl
          have hrd : Rd ((W.alloc (.cells #[.int .i64 q.x, .int .u64 q.st, .int .u64 q.sl] 54)).drew) 3 (.slice (some ⟨W.heap.size, 0, none⟩) 1 1) 1 (tpCells [q]) := hrd0
          have hox : Own ((W.alloc (.cells #[.int .i64 q.x, .int .u64 q.st, .int .u64 q.sl] 54)).drew) 54 3 (.slice a5 k c5) k (tpCells O) := (hoW.alloc _).drew
          have HCX := Lib.hid ((HCW.out.alloc (.cells #[.int .i64 q.x, .int .u64 q.st, .int .u64 q.sl] 54)).drew)
          have HKB := Lib.hid (show k + 1 ≤ 80000 from by have := HT.out; omega)
          clear hrd0
          by_cases hc1 : sc = 1
          · have hn1 : m = 1 := by omega
            subst hn1 hc1
            have HT1 := Lib.hid (fun a c' => HTW.out a c' rfl)
            clear HTW
            go_wp2
            go_region_law (refine step_append_src rfl (.tmp 51) (.tmp 55) 24 24 rfl 54 _ 3 24 under_tuples info_tuple rfl (by decide) (.slice a5 k c5) k (tpCells O) rfl hox (.slice (some ⟨W.heap.size, 0, none⟩) 1 1) 1 (tpCells [q]) rfl (Src.of_rd under_tuples hrd) (tpCells_oneCell _) (by have := HKB.out; unfold maxLen; omega) (by have := HKB.out; omega) ?_; intro a7 c7 w7 ho7 hg7 hf7)
            all_goals
              simp only [Act.put, List.setIfInBounds_toArray, List.set_cons_succ, List.set_cons_zero, List.getElem_toArray, List.getElem_cons_succ, List.getElem_cons_zero]
              go_wp2
              refine ⟨⟨_, _, O ++ [q], _, _, k + 1, _, _, _, _, a7, c7, rfl, rfl, rfl, (HFW.out.chg ((((Chg.refl [] W).alloc (.cells #[.int .i64 q.x, .int .u64 q.st, .int .u64 q.sl] 54)).drew).nil.trans hg7) (fun b hb hb7 => by have h1 := hba b (by simpa using hb7); have h2 := hbf b (by simpa using hb); omega)), ((HT1.out _ _).chg ((((Chg.refl [] W).alloc (.cells #[.int .i64 q.x, .int .u64 q.st, .int .u64 q.sl] 54)).drew).nil.trans hg7) (fun b hb hb7 => by have h1 := hba b (by simpa using hb7); have h2 := hbs b (by simpa using hb); omega)), by omega, by omega, fun b hb => hbf b (by simpa using hb), fun b hb => hbs b (by simpa using hb), by rw [tpCells_append]; exact ho7, HCX.out.trans' hg7 (fun b hb => .inr (hba b (by simpa using hb))), fun b hb => ?_, HX2, Lib.hid (by have := HT.out; omega)⟩, by first | (simp [slen]; done) | (simp [slen]; omega)⟩
              rcases hf7 b hb with h | h
              · exact hba b (by simpa using h)
              · have := HSZ.out; simp at h; omega
          · have hn1 : True := trivial
            have hc2 : 1 ≤ sc := by omega
            have hc3 : (1 : Int) ≤ (m : Int) := by omega
            go_wp2
            go_region_law (refine step_append_src rfl (.tmp 51) (.tmp 55) 24 24 rfl 54 _ 3 24 under_tuples info_tuple rfl (by decide) (.slice a5 k c5) k (tpCells O) rfl hox (.slice (some ⟨W.heap.size, 0, none⟩) 1 1) 1 (tpCells [q]) rfl (Src.of_rd under_tuples hrd) (tpCells_oneCell _) (by have := HKB.out; unfold maxLen; omega) (by have := HKB.out; omega) ?_; intro a7 c7 w7 ho7 hg7 hf7)
            all_goals
              simp only [Act.put, List.setIfInBounds_toArray, List.set_cons_succ, List.set_cons_zero, List.getElem_toArray, List.getElem_cons_succ, List.getElem_cons_zero]
              go_wp2
              refine ⟨⟨_, _, O ++ [q], _, _, k + 1, _, _, _, _, a7, c7, rfl, rfl, rfl, (HFW.out.chg ((((Chg.refl [] W).alloc (.cells #[.int .i64 q.x, .int .u64 q.st, .int .u64 q.sl] 54)).drew).nil.trans hg7) (fun b hb hb7 => by have h1 := hba b (by simpa using hb7); have h2 := hbf b (by simpa using hb); omega)), ((HTL2.out).chg ((((Chg.refl [] W).alloc (.cells #[.int .i64 q.x, .int .u64 q.st, .int .u64 q.sl] 54)).drew).nil.trans hg7) (fun b hb hb7 => by have h1 := hba b (by simpa using hb7); have h2 := hbs b (by simpa using hb); omega)), by omega, by omega, fun b hb => hbf b (by simpa using hb), fun b hb => hbs b (by simpa using hb), by rw [tpCells_append]; exact ho7, HCX.out.trans' hg7 (fun b hb => .inr (hba b (by simpa using hb))), fun b hb => ?_, HX2, Lib.hid (by have := HT.out; omega)⟩, by first | (simp [slen]; done) | (simp [slen]; omega)⟩
              rcases hf7 b hb with h | h
              · exact hba b (by simpa using h)
              · have := HSZ.out; simp at h; omega
end Go.Proofs.Ytmbalpkeaobfgaa
