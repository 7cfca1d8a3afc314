/-
  Literal slices of numbers at an operation of a drawn region. Conditions: none.
  The walk of the document's New of towers. Conditions: the form's own reach.
  The walk of the document's Put of towers. Conditions: the form's own reach.
-/
import Derived.Test.YtbaobiniianamaaCoins
import Derived.Test.YtbaobiniianamaaSteps
import Derived.Test.YtbaobiniianamaaRefTower
import Derived.Test.YtbaobiniianamaaReqOk
import Derived.Test.YtbaobiniianamaaRefSettle
namespace Go.Proofs.Ytbaobiniianamaa
open Go.RowKit

set_option maxRecDepth 100000 in
theorem step_build0 {ops : Array Oper} {w : World} {o : Oper} {a : Act} {K : Act → World → Prop} {Q : Exit → Act → World → Prop} {E : Prop} (hg : o.guard = none)
    (ho : o.op = .buildSlice 22 0 #[])
    (h : ∀ g w', Own w' 2 1 (.slice (some ⟨g, 0, none⟩) 0 0) 0 (ints []) → Chg [] w w' → w.heap.size ≤ g → K (a.put o.dst (.slice (some ⟨g, 0, none⟩) 0 0)) w') :
    if Region.wanted o (yielded ops a.tmps) = true then Oper.wp Try.prog o a w K Q else E := by
  obtain ⟨dst, op, ty, pos, af, gd⟩ := o
  simp only at hg ho h
  subst hg ho
  have H := h w.heap.size (w.alloc (.cells #[] 2)) (Own.lit w 2 1 0 #[] rfl (by decide)) ((Chg.refl [] w).alloc _) (Nat.le_refl _)
  clear h
  go_simp
  exact H
set_option maxRecDepth 100000 in
theorem step_build1 {ops : Array Oper} {w : World} {o : Oper} {a : Act} {K : Act → World → Prop} {Q : Exit → Act → World → Prop} {E : Prop} (hg : o.guard = none) (t : Tmp)
    (ho : o.op = .buildSlice 22 1 #[(0, .tmp t)]) (x : Int) (hx : a.eval (.tmp t) = .int .i64 x)
    (h : ∀ g w', Own w' 2 1 (.slice (some ⟨g, 0, none⟩) 1 1) 1 (ints [x]) → Chg [] w w' → w.heap.size ≤ g → K (a.put o.dst (.slice (some ⟨g, 0, none⟩) 1 1)) w') :
    if Region.wanted o (yielded ops a.tmps) = true then Oper.wp Try.prog o a w K Q else E := by
  obtain ⟨dst, op, ty, pos, af, gd⟩ := o
  simp only at hg ho h
  subst hg ho
  have H := h w.heap.size (w.alloc (.cells #[.int .i64 x] 2)) (Own.lit w 2 1 1 #[.int .i64 x] rfl (by decide)) ((Chg.refl [] w).alloc _) (Nat.le_refl _)
  clear h
  have hx' : a.tmps[t]?.getD undef = .int .i64 x := by simpa [Act.eval] using hx
  clear hx
  go_simp
  exact H
end Go.Proofs.Ytbaobiniianamaa

namespace Go.Proofs.Ytbaobiniianamaa
open Go.RowKit

set_option maxRecDepth 100000 in
set_option maxHeartbeats 1000000 in
theorem ref21_new (w : World) (W word : Nat) :
    Calls Try.prog 50 #[.int .i64 W, .int .u64 word] w fun e w' => ∃ p rv, e = .returned (.pointer (some ⟨p, 0, none⟩)) ∧
      RT w' p rv [.slice none 0 0] W word 0 [[]] ∧ Chg [] w w' ∧ ∀ b ∈ fpR p rv [.slice none 0 0], w.heap.size ≤ b := by
  go_enter Try.func50, Try.ntmps50
  go_wp2
  go_ret
  refine ⟨w.heap.size + 1, .slice (some ⟨w.heap.size, 0, none⟩) 1 1, rfl, ⟨?_, ?_, rfl, ?_, ?_⟩, ((Chg.refl [] w).alloc _).alloc _, ?_⟩
  · have := Blk.alloc_new (w.alloc (.cells #[.slice none 0 0] 22)) #[.int .i64 (W : Nat), .int .u64 (word : Nat), .int .i64 ((0 : Nat) : Int), .slice (some ⟨w.heap.size, 0, none⟩) 1 1] 89
    rw [World.size_alloc] at this
    exact this
  · exact (Own.lit w 22 1 1 #[.slice none 0 0] rfl (by unfold maxLen; omega)).alloc _
  · intro j hj hj'
    obtain rfl : j = 0 := by simp at hj; omega
    exact (Own.nil _ 2 _).rd
  · intro v hv b hb
    simp at hv
    subst hv
    simp at hb
  · intro b hb
    simp [fpR] at hb
    omega
end Go.Proofs.Ytbaobiniianamaa

namespace Go.Proofs.Ytbaobiniianamaa
open Go.RowKit

theorem refP_mv {w w8 : World} {p g o n c n9 c9 W word used : Nat} {a9 : Option Addr} {vs : List Value} {rows : List (List Int)} (h : RT w p (.slice (some ⟨g, o, none⟩) n c) vs W word used rows)
    (h58 : Chg [g] w w8) (hf9 : ∀ b ∈ abl a9, w.heap.size ≤ b) :
    Mv (fpR p (.slice (some ⟨g, o, none⟩) n c) vs) w (fpR p (.slice (some ⟨g, o, none⟩) n c) (vs.set 0 (.slice a9 n9 c9))) w8 := by
  refine ⟨h58.mono (fun b hb => .inl (by simp at hb; subst hb; simp [fpR])), fun b hb => ?_⟩
  simp only [fpR, List.mem_cons, List.mem_append, List.mem_flatMap] at hb ⊢
  rcases hb with rfl | hb | ⟨v, hv, hb⟩
  · simp
  · exact .inl (.inr (.inl hb))
  · rcases List.mem_or_eq_of_mem_set hv with hv | rfl
    · exact .inl (.inr (.inr ⟨v, hv, hb⟩))
    · exact .inr (hf9 b (by simpa using hb))

set_option maxRecDepth 100000 in
set_option maxHeartbeats 4000000 in
set_option linter.unusedSimpArgs false in
theorem ref21_put (w : World) (p : Nat) (rv : Value) (vs : List Value) (D : TwD) (ht : RT w p rv vs D.W D.word D.used D.rows) (hW : 4 ≤ D.W) (hW2 : D.W ≤ 64) (hword : D.word < 18446744073709551616) (M : Nat) (hf : D.fits M) (hM : M < 1000) (x : Int) :
    Calls Try.prog 35 #[.pointer (some ⟨p, 0, none⟩), .int .i64 x] w fun e w' => e = .returned (.tuple #[]) ∧ ∃ rv' vs', RT w' p rv' vs' D.W D.word (D.put1 x).used (D.put1 x).rows ∧ Mv (fpR p rv vs) w (fpR p rv' vs') w' := by
  obtain ⟨hf1, hf2, hf3⟩ := hf
  obtain ⟨c0, c1, c2, c3⟩ := ht.cells
  have hvl : vs.length = D.rows.length := ht.len
  obtain ⟨ro, rc, hrv⟩ : ∃ ro rc, rv = .slice ro D.rows.length rc := ht.own.shape
  subst hrv
  obtain ⟨g, o, cp, hsl, d0, f0, hcp⟩ : ∃ g o cap, Value.slice ro D.rows.length rc = .slice (some ⟨g, o, none⟩) D.rows.length cap ∧ w.cell? ⟨g, o, none⟩ = some vs[0] ∧ w.frozen? ⟨g, o, none⟩ = false ∧ D.rows.length ≤ cap := ht.own.at1 (j := 0) (by omega) (by omega)
  simp only [Value.slice.injEq, true_and] at hsl
  obtain ⟨rfl, rfl⟩ := hsl
  have hrow : Rd w 1 vs[0] D.rows[0].length (ints D.rows[0]) := ht.rd 0 (by omega) (by omega)
  obtain ⟨so, sc, hsv⟩ := hrow.shape
  rw [hsv] at d0 hrow
  have hJ := Lib.hid (show 0 < vs.length from by omega)
  have hflat : D.rows[0].length ≤ D.rows.flatten.length := flat_le (by omega)
  have hHD := Lib.hid (show D.rows.getD 0 [] = D.rows[0] from getD_at (by omega))
  obtain ⟨r, hr⟩ : ∃ z, z = D.rows[0] := ⟨_, rfl⟩
  rw [← hr] at d0 hrow hflat hHD hsv
  obtain ⟨l1, hl1⟩ : ∃ z, z = r.length := ⟨_, rfl⟩
  rw [← hl1] at d0 hrow hflat hsv
  obtain ⟨rows, hrows⟩ : ∃ z, z = D.rows := ⟨_, rfl⟩
  obtain ⟨n, hn⟩ : ∃ z, z = D.rows.length := ⟨_, rfl⟩
  have HSET := Lib.hid (fun (u : World) (rv' : Value) (vs' : List Value) (h : RT u p rv' vs' D.W D.word D.used (D.rows.set 0 (r ++ [x]))) => ref21_settle u p rv' vs' D.W D.word D.used _ h hW hW2 hword (by omega) (by
    have h1 := (TwD.add_size (D := D) x hf1).1
    simp only [TwD.add] at h1
    rw [hHD.out] at h1
    omega) (by rw [List.length_set]; omega) ((D.put1 x).used, (D.put1 x).rows) (by
      unfold TwD.put1 TwD.settled TwD.at TwD.add
      simp only
      rw [hHD.out]))
  have HRD := Lib.hid hrow
  have HSV := Lib.hid hsv
  have HL1 := Lib.hid hl1
  have HT := Lib.hid ht
  have hlk1 : 0 + l1 ≤ maxLen := by unfold maxLen; omega
  have hlk : 0 + l1 + 1 ≤ maxLen := by unfold maxLen; omega
  have hlk18 : (0 + l1) * 8 ≤ 140737488355328 := by omega
  have hlk8 : (0 + l1 + 1) * 8 ≤ 140737488355328 := by omega
  have hn0 : 0 < n := by omega
  have hcc : n ≤ rc := by omega
  clear hf2 hf3 hflat hr hl1 hrow hsv ht hcp hrows
  rw [← hn] at c3 HT
  have HN := Lib.hid hn
  clear hn
  go_enter Try.func35, Try.ntmps35
  go_wp2_with fail
  refine startG (S := fun wx => wx.cell? ⟨p, 3, none⟩ = some (.slice (some ⟨g, o, none⟩) n rc) ∧ wx.cell? ⟨g, o, none⟩ = some (.slice so l1 sc)) (st := 16) (by kernel_rfl) ⟨c3, d0⟩ (fun hHeld => ?_)
  refine takeP (i := 0) (v := ?v0) rfl (by kernel_rfl) (by kernel_rfl) (by kernel_rfl) (by decide) (fun _ _ _ h => h) (Or.inl ⟨by rfl, ?y0⟩) (by assumption) ?r0
  case y0 => (intro w _; go_simp; first | done | with_reducible rfl)
  try simp only [Act.put, List.setIfInBounds_toArray, List.set_cons_zero, List.set_cons_succ]
  refine takeP (i := 1) (v := ?v1) rfl (by kernel_rfl) (by kernel_rfl) (by kernel_rfl) (by decide) (fun _ _ _ h => h) (Or.inl ⟨by rfl, ?y1⟩) (by assumption) ?r1
  case y1 => (intro w _; go_simp; first | done | with_reducible rfl)
  try simp only [Act.put, List.setIfInBounds_toArray, List.set_cons_zero, List.set_cons_succ]
  refine takeP (i := 2) (v := ?v2) rfl (by kernel_rfl) (by kernel_rfl) (by kernel_rfl) (by decide) (fun _ _ _ h => h) (Or.inl ⟨by rfl, ?y2⟩) (by assumption) ?r2
  case y2 => (intro w _; go_simp; first | done | with_reducible rfl)
  try simp only [Act.put, List.setIfInBounds_toArray, List.set_cons_zero, List.set_cons_succ]
  refine takeG (i := 3) (v := ?v3) rfl (by kernel_rfl) (by kernel_rfl) (by kernel_rfl) (by decide) (by kernel_rfl) (by kernel_rfl) (fun _ _ _ h => h) (Or.inl ⟨by rfl, ?y3⟩) (by assumption) ?r3
  case y3 => (intro w hSw; (try dsimp only at hSw); go_simp; first | done | with_reducible rfl)
  try simp only [Act.put, List.setIfInBounds_toArray, List.set_cons_zero, List.set_cons_succ]
  refine takeP (i := 5) (v := ?v5) rfl (by kernel_rfl) (by kernel_rfl) (by kernel_rfl) (by decide) (fun _ _ _ h => h) (Or.inl ⟨by rfl, ?y5⟩) (by assumption) ?r5
  case y5 => (intro w _; go_simp; first | done | with_reducible rfl)
  try simp only [Act.put, List.setIfInBounds_toArray, List.set_cons_zero, List.set_cons_succ]
  refine takeP (i := 6) (v := ?v6) rfl (by kernel_rfl) (by kernel_rfl) (by kernel_rfl) (by decide) (fun _ _ _ h => h) (Or.inl ⟨by rfl, ?y6⟩) (by assumption) ?r6
  case y6 => (intro w _; go_simp; first | done | with_reducible rfl)
  try simp only [Act.put, List.setIfInBounds_toArray, List.set_cons_zero, List.set_cons_succ]
  refine takeP (i := 7) (v := ?v7) rfl (by kernel_rfl) (by kernel_rfl) (by kernel_rfl) (by decide) (fun _ _ _ h => h) (Or.inl ⟨by rfl, ?y7⟩) (by assumption) ?r7
  case y7 => (intro w _; go_simp; first | done | with_reducible rfl)
  try simp only [Act.put, List.setIfInBounds_toArray, List.set_cons_zero, List.set_cons_succ]
  refine takeG (i := 8) (v := ?v8) rfl (by kernel_rfl) (by kernel_rfl) (by kernel_rfl) (by decide) (by kernel_rfl) (by kernel_rfl) (fun _ _ _ h => h) (Or.inl ⟨by rfl, ?y8⟩) (by assumption) ?r8
  case y8 => (intro w hSw; (try dsimp only at hSw); go_simp; first | done | with_reducible rfl)
  try simp only [Act.put, List.setIfInBounds_toArray, List.set_cons_zero, List.set_cons_succ]
  refine takeP (i := 9) (v := ?v9) rfl (by kernel_rfl) (by kernel_rfl) (by kernel_rfl) (by decide) (fun _ _ _ h => h) (Or.inl ⟨by rfl, ?y9⟩) (by assumption) ?r9
  case y9 => (intro w _; go_simp; first | done | with_reducible rfl)
  try simp only [Act.put, List.setIfInBounds_toArray, List.set_cons_zero, List.set_cons_succ]
  refine takeG (i := 10) (v := ?v10) rfl (by kernel_rfl) (by kernel_rfl) (by kernel_rfl) (by decide) (by kernel_rfl) (by kernel_rfl) (fun _ _ _ h => h) (Or.inl ⟨by rfl, ?y10⟩) (by assumption) ?r10
  case y10 => (intro w hSw; (try dsimp only at hSw); go_simp; first | done | with_reducible rfl)
  try simp only [Act.put, List.setIfInBounds_toArray, List.set_cons_zero, List.set_cons_succ]
  refine takeP (i := 12) (v := ?v12) rfl (by kernel_rfl) (by kernel_rfl) (by kernel_rfl) (by decide) (fun _ _ _ h => h) (Or.inl ⟨by rfl, ?y12⟩) (by assumption) ?r12
  case y12 => (intro w _; go_simp; first | done | with_reducible rfl)
  try simp only [Act.put, List.setIfInBounds_toArray, List.set_cons_zero, List.set_cons_succ]
  refine readyG (rs := [4, 13]) (by kernel_rfl) (by simp) (consG rfl (fun K hK => ?_) (consG rfl (fun K hK => ?_) nilG))
  · skip
    refine step_build0 rfl rfl ?_; intro ga w1 ha hg1 hga
    have HX1 := Lib.hid (show Chg [] w w1 from ((Chg.refl [] w).drew).trans' hg1 (by simp))
    have HT1 := Lib.hid (HT.out.chg HX1.out (by simp))
    obtain ⟨s1, f1, q1⟩ : w1.cell? ⟨g, o, none⟩ = some (.slice so l1 sc) ∧ w1.frozen? ⟨g, o, none⟩ = false ∧ w1.cell? ⟨p, 3, none⟩ = some (.slice (some ⟨g, o, none⟩) n rc) := HT1.out.at2v (j := 0) hJ.out HSV.out
    have HA := Lib.hid ha
    have HGA := Lib.hid (show w.heap.size ≤ ga from Nat.le_trans (Chg.size ((Chg.refl [] w).drew)) hga)
    clear ha hg1 hga
    refine hK.out _ _ (fun _ _ => ⟨q1, s1⟩) (fun hHeld => ?_)
    clear hK K hHeld
    try simp only [Act.put, List.setIfInBounds_toArray, List.set_cons_zero, List.set_cons_succ]
    refine readyG (rs := [11, 13]) (by kernel_rfl) (by simp) (consG rfl (fun K hK => ?_) (consG rfl (fun K hK => ?_) nilG))
    · skip
      have hrd2 := HRD.out.chg HX1.out (by simp)
      refine step_append_src rfl (.tmp 8) (.tmp 14) 22 22 rfl 2 _ 1 8 under_ints info_i64 rfl (by decide) (.slice (some ⟨ga, 0, none⟩) 0 0) 0 (ints []) rfl HA.out (.slice so l1 sc) l1 (ints r) rfl (Src.of_rd under_ints hrd2) (ints_oneCell _) hlk1 hlk18 ?_; intro a7 c7 w2 ho7 hg7 hf7
      have HX2 := Lib.hid (show Chg [] w w2 from HX1.out.trans' hg7 (fun b hb => .inr (by simp at hb; subst hb; exact HGA.out)))
      have HT2 := Lib.hid (HT.out.chg HX2.out (by simp))
      obtain ⟨s2, f2, q2⟩ : w2.cell? ⟨g, o, none⟩ = some (.slice so l1 sc) ∧ w2.frozen? ⟨g, o, none⟩ = false ∧ w2.cell? ⟨p, 3, none⟩ = some (.slice (some ⟨g, o, none⟩) n rc) := HT2.out.at2v (j := 0) hJ.out HSV.out
      have HF7 := Lib.hid (show ∀ b ∈ abl a7, w.heap.size ≤ b from fun b hb => (hf7 b hb).elim (fun h => by simp at h; subst h; exact HGA.out) (fun h => Nat.le_trans (Chg.size HX1.out) h))
      have HC := Lib.hid ho7
      clear ho7 hg7 hf7 hrd2
      refine hK.out _ _ (fun _ _ => ⟨q2, s2⟩) (fun hHeld => ?_)
      clear hK K hHeld
      try simp only [Act.put, List.setIfInBounds_toArray, List.set_cons_zero, List.set_cons_succ]
      refine readyG (rs := [13]) (by kernel_rfl) (by simp) (consG rfl (fun K hK => ?_) nilG)
      refine step_build1 rfl 16 rfl x (by simp [Act.eval]) ?_; intro gb w3 hb hg3 hgb
      have HX3 := Lib.hid (show Chg [] w w3 from HX2.out.trans' hg3 (by simp))
      have HT3 := Lib.hid (HT.out.chg HX3.out (by simp))
      obtain ⟨s3, f3, q3⟩ : w3.cell? ⟨g, o, none⟩ = some (.slice so l1 sc) ∧ w3.frozen? ⟨g, o, none⟩ = false ∧ w3.cell? ⟨p, 3, none⟩ = some (.slice (some ⟨g, o, none⟩) n rc) := HT3.out.at2v (j := 0) hJ.out HSV.out
      have HB := Lib.hid hb
      have HC := Lib.hid (HC.out.chg hg3 (by simp))
      clear hb hg3 hgb
      refine hK.out _ _ (fun _ _ => ⟨q3, s3⟩) (fun hHeld => ?_)
      clear hK K hHeld
      try simp only [Act.put, List.setIfInBounds_toArray, List.set_cons_zero, List.set_cons_succ]
      refine readyG (rs := [14]) (by kernel_rfl) (by simp) (consG rfl (fun K hK => ?_) nilG)
      refine step_append_src rfl (.tmp 15) (.tmp 17) 22 22 rfl 2 _ 1 8 under_ints info_i64 rfl (by decide) (.slice a7 (0 + l1) c7) (0 + l1) (ints [] ++ ints r) rfl HC.out (.slice (some ⟨gb, 0, none⟩) 1 1) 1 (ints [x]) rfl (Src.of_rd under_ints HB.out.rd) (ints_oneCell _) hlk hlk8 ?_; intro a9 c9 w4 ho9 hg9 hf9
      have HX6 := Lib.hid (show Chg [] w w3 from HX3.out)
      have HX4 := Lib.hid (show Chg [] w w4 from HX3.out.trans' hg9 (fun b hb => .inr (HF7.out b (by simpa using hb))))
      have HT4 := Lib.hid (HT.out.chg HX4.out (by simp))
      obtain ⟨s4, f4, q4⟩ : w4.cell? ⟨g, o, none⟩ = some (.slice so l1 sc) ∧ w4.frozen? ⟨g, o, none⟩ = false ∧ w4.cell? ⟨p, 3, none⟩ = some (.slice (some ⟨g, o, none⟩) n rc) := HT4.out.at2v (j := 0) hJ.out HSV.out
      refine hK.out _ _ (fun _ _ => ⟨q4, s4⟩) (fun hHeld => ?_)
      clear hK K hHeld
      try simp only [Act.put, List.setIfInBounds_toArray, List.set_cons_zero, List.set_cons_succ]
      refine readyG (rs := [15]) (by kernel_rfl) (by simp) (consG rfl (fun K hK => ?_) nilG)
      go_simp
      refine hK.out _ _ (fun _ _ => ⟨q4, s4⟩) (fun hHeld => ?_)
      clear hK K hHeld
      try simp only [Act.put, List.setIfInBounds_toArray, List.set_cons_zero, List.set_cons_succ]
      refine readyG (rs := [16]) (by kernel_rfl) (by simp) (consG rfl (fun K hK => ?_) nilG)
      go_simp
      obtain ⟨hT, hC, hF9⟩ := refS_tow (R := r ++ [x]) (j := 0) (n9 := l1 + 1) (c9 := c9) (a9 := a9) HT.out hJ.out HX6.out hg9 HF7.out (by rw [List.length_append, ← HL1.out]; rfl) (by have h := ho9; rw [Nat.zero_add] at h; rw [ints_append]; exact h) hf9
      have HTT := Lib.hid hT
      have HCC := Lib.hid hC
      have HF9 := Lib.hid hF9
      clear hT hC hF9 ho9 hg9 hf9 s4 q4 f4
      refine hK.out _ _ (fun h => absurd rfl h) (fun hHeld => ?_)
      clear hK K hHeld
      try simp only [Act.put, List.setIfInBounds_toArray, List.set_cons_zero, List.set_cons_succ]
      refine doneG (by kernel_rfl) ?_ _
      go_wp2_with fail
      refine (HSET.out _ _ _ HTT.out).mono ?_
      rintro e w20 ⟨rfl, rv2, vs2, ht2, hm2⟩
      go_wp2
      go_end0
      exact ⟨rfl, rv2, vs2, ht2, (refP_mv HT.out HCC.out HF9.out).trans hm2⟩
    · skip
      refine step_build1 rfl 16 rfl x (by simp [Act.eval]) ?_; intro gb w5 hb hg5 hgb
      have HX5 := Lib.hid (show Chg [] w w5 from HX1.out.trans' hg5 (by simp))
      have HT5 := Lib.hid (HT.out.chg HX5.out (by simp))
      obtain ⟨s5, f5, q5⟩ : w5.cell? ⟨g, o, none⟩ = some (.slice so l1 sc) ∧ w5.frozen? ⟨g, o, none⟩ = false ∧ w5.cell? ⟨p, 3, none⟩ = some (.slice (some ⟨g, o, none⟩) n rc) := HT5.out.at2v (j := 0) hJ.out HSV.out
      have HB := Lib.hid hb
      have HNE := Lib.hid (show gb ≠ ga from fun e => by have h1 := HA.out.lt ga (by simp); omega)
      have HA := Lib.hid (HA.out.chg hg5 (by simp))
      clear hb hg5 hgb
      refine hK.out _ _ (fun _ _ => ⟨q5, s5⟩) (fun hHeld => ?_)
      clear hK K hHeld
      try simp only [Act.put, List.setIfInBounds_toArray, List.set_cons_zero, List.set_cons_succ]
      refine readyG (rs := [11]) (by kernel_rfl) (by simp) (consG rfl (fun K hK => ?_) nilG)
      have hrd6 := HRD.out.chg HX5.out (by simp)
      refine step_append_src rfl (.tmp 8) (.tmp 14) 22 22 rfl 2 _ 1 8 under_ints info_i64 rfl (by decide) (.slice (some ⟨ga, 0, none⟩) 0 0) 0 (ints []) rfl HA.out (.slice so l1 sc) l1 (ints r) rfl (Src.of_rd under_ints hrd6) (ints_oneCell _) hlk1 hlk18 ?_; intro a7 c7 w6 ho7 hg7 hf7
      have HX6 := Lib.hid (show Chg [] w w6 from HX5.out.trans' hg7 (fun b hb => .inr (by simp at hb; subst hb; exact HGA.out)))
      have HT6 := Lib.hid (HT.out.chg HX6.out (by simp))
      obtain ⟨s6, f6, q6⟩ : w6.cell? ⟨g, o, none⟩ = some (.slice so l1 sc) ∧ w6.frozen? ⟨g, o, none⟩ = false ∧ w6.cell? ⟨p, 3, none⟩ = some (.slice (some ⟨g, o, none⟩) n rc) := HT6.out.at2v (j := 0) hJ.out HSV.out
      have HF7 := Lib.hid (show ∀ b ∈ abl a7, w.heap.size ≤ b from fun b hb => (hf7 b hb).elim (fun h => by simp at h; subst h; exact HGA.out) (fun h => Nat.le_trans (Chg.size HX5.out) h))
      have HC := Lib.hid ho7
      have HB := Lib.hid (HB.out.chg hg7 (fun b hb e => by simp at hb e; exact HNE.out (hb.symm.trans e)))
      clear ho7 hg7 hf7 hrd6
      refine hK.out _ _ (fun _ _ => ⟨q6, s6⟩) (fun hHeld => ?_)
      clear hK K hHeld
      try simp only [Act.put, List.setIfInBounds_toArray, List.set_cons_zero, List.set_cons_succ]
      refine readyG (rs := [14]) (by kernel_rfl) (by simp) (consG rfl (fun K hK => ?_) nilG)
      refine step_append_src rfl (.tmp 15) (.tmp 17) 22 22 rfl 2 _ 1 8 under_ints info_i64 rfl (by decide) (.slice a7 (0 + l1) c7) (0 + l1) (ints [] ++ ints r) rfl HC.out (.slice (some ⟨gb, 0, none⟩) 1 1) 1 (ints [x]) rfl (Src.of_rd under_ints HB.out.rd) (ints_oneCell _) hlk hlk8 ?_; intro a9 c9 w7 ho9 hg9 hf9
      have HX6 := Lib.hid (show Chg [] w w6 from HX6.out)
      have HX7 := Lib.hid (show Chg [] w w7 from HX6.out.trans' hg9 (fun b hb => .inr (HF7.out b (by simpa using hb))))
      have HT7 := Lib.hid (HT.out.chg HX7.out (by simp))
      obtain ⟨s7, f7, q7⟩ : w7.cell? ⟨g, o, none⟩ = some (.slice so l1 sc) ∧ w7.frozen? ⟨g, o, none⟩ = false ∧ w7.cell? ⟨p, 3, none⟩ = some (.slice (some ⟨g, o, none⟩) n rc) := HT7.out.at2v (j := 0) hJ.out HSV.out
      refine hK.out _ _ (fun _ _ => ⟨q7, s7⟩) (fun hHeld => ?_)
      clear hK K hHeld
      try simp only [Act.put, List.setIfInBounds_toArray, List.set_cons_zero, List.set_cons_succ]
      refine readyG (rs := [15]) (by kernel_rfl) (by simp) (consG rfl (fun K hK => ?_) nilG)
      go_simp
      refine hK.out _ _ (fun _ _ => ⟨q7, s7⟩) (fun hHeld => ?_)
      clear hK K hHeld
      try simp only [Act.put, List.setIfInBounds_toArray, List.set_cons_zero, List.set_cons_succ]
      refine readyG (rs := [16]) (by kernel_rfl) (by simp) (consG rfl (fun K hK => ?_) nilG)
      go_simp
      obtain ⟨hT, hC, hF9⟩ := refS_tow (R := r ++ [x]) (j := 0) (n9 := l1 + 1) (c9 := c9) (a9 := a9) HT.out hJ.out HX6.out hg9 HF7.out (by rw [List.length_append, ← HL1.out]; rfl) (by have h := ho9; rw [Nat.zero_add] at h; rw [ints_append]; exact h) hf9
      have HTT := Lib.hid hT
      have HCC := Lib.hid hC
      have HF9 := Lib.hid hF9
      clear hT hC hF9 ho9 hg9 hf9 s7 q7 f7
      refine hK.out _ _ (fun h => absurd rfl h) (fun hHeld => ?_)
      clear hK K hHeld
      try simp only [Act.put, List.setIfInBounds_toArray, List.set_cons_zero, List.set_cons_succ]
      refine doneG (by kernel_rfl) ?_ _
      go_wp2_with fail
      refine (HSET.out _ _ _ HTT.out).mono ?_
      rintro e w20 ⟨rfl, rv2, vs2, ht2, hm2⟩
      go_wp2
      go_end0
      exact ⟨rfl, rv2, vs2, ht2, (refP_mv HT.out HCC.out HF9.out).trans hm2⟩
  · skip
    refine step_build1 rfl 16 rfl x (by simp [Act.eval]) ?_; intro gb w8 hb hg8 hgb
    have HX8 := Lib.hid (show Chg [] w w8 from ((Chg.refl [] w).drew).trans' hg8 (by simp))
    have HT8 := Lib.hid (HT.out.chg HX8.out (by simp))
    obtain ⟨s8, f8, q8⟩ : w8.cell? ⟨g, o, none⟩ = some (.slice so l1 sc) ∧ w8.frozen? ⟨g, o, none⟩ = false ∧ w8.cell? ⟨p, 3, none⟩ = some (.slice (some ⟨g, o, none⟩) n rc) := HT8.out.at2v (j := 0) hJ.out HSV.out
    have HB := Lib.hid hb
    clear hb hg8 hgb
    refine hK.out _ _ (fun _ _ => ⟨q8, s8⟩) (fun hHeld => ?_)
    clear hK K hHeld
    try simp only [Act.put, List.setIfInBounds_toArray, List.set_cons_zero, List.set_cons_succ]
    refine readyG (rs := [4]) (by kernel_rfl) (by simp) (consG rfl (fun K hK => ?_) nilG)
    refine step_build0 rfl rfl ?_; intro ga w9 ha hg9 hga
    have HX9 := Lib.hid (show Chg [] w w9 from HX8.out.trans' hg9 (by simp))
    have HT9 := Lib.hid (HT.out.chg HX9.out (by simp))
    obtain ⟨s9, f9, q9⟩ : w9.cell? ⟨g, o, none⟩ = some (.slice so l1 sc) ∧ w9.frozen? ⟨g, o, none⟩ = false ∧ w9.cell? ⟨p, 3, none⟩ = some (.slice (some ⟨g, o, none⟩) n rc) := HT9.out.at2v (j := 0) hJ.out HSV.out
    have HA := Lib.hid ha
    have HNE := Lib.hid (show gb ≠ ga from fun e => by have h1 := HB.out.lt gb (by simp); omega)
    have HB := Lib.hid (HB.out.chg hg9 (by simp))
    have HGA := Lib.hid (show w.heap.size ≤ ga from Nat.le_trans (Chg.size HX8.out) hga)
    clear ha hg9 hga
    refine hK.out _ _ (fun _ _ => ⟨q9, s9⟩) (fun hHeld => ?_)
    clear hK K hHeld
    try simp only [Act.put, List.setIfInBounds_toArray, List.set_cons_zero, List.set_cons_succ]
    refine readyG (rs := [11]) (by kernel_rfl) (by simp) (consG rfl (fun K hK => ?_) nilG)
    have hrd10 := HRD.out.chg HX9.out (by simp)
    refine step_append_src rfl (.tmp 8) (.tmp 14) 22 22 rfl 2 _ 1 8 under_ints info_i64 rfl (by decide) (.slice (some ⟨ga, 0, none⟩) 0 0) 0 (ints []) rfl HA.out (.slice so l1 sc) l1 (ints r) rfl (Src.of_rd under_ints hrd10) (ints_oneCell _) hlk1 hlk18 ?_; intro a7 c7 w10 ho7 hg7 hf7
    have HX10 := Lib.hid (show Chg [] w w10 from HX9.out.trans' hg7 (fun b hb => .inr (by simp at hb; subst hb; exact HGA.out)))
    have HT10 := Lib.hid (HT.out.chg HX10.out (by simp))
    obtain ⟨s10, f10, q10⟩ : w10.cell? ⟨g, o, none⟩ = some (.slice so l1 sc) ∧ w10.frozen? ⟨g, o, none⟩ = false ∧ w10.cell? ⟨p, 3, none⟩ = some (.slice (some ⟨g, o, none⟩) n rc) := HT10.out.at2v (j := 0) hJ.out HSV.out
    have HF7 := Lib.hid (show ∀ b ∈ abl a7, w.heap.size ≤ b from fun b hb => (hf7 b hb).elim (fun h => by simp at h; subst h; exact HGA.out) (fun h => Nat.le_trans (Chg.size HX9.out) h))
    have HC := Lib.hid ho7
    have HB := Lib.hid (HB.out.chg hg7 (fun b hb e => by simp at hb e; exact HNE.out (hb.symm.trans e)))
    clear ho7 hg7 hf7 hrd10
    refine hK.out _ _ (fun _ _ => ⟨q10, s10⟩) (fun hHeld => ?_)
    clear hK K hHeld
    try simp only [Act.put, List.setIfInBounds_toArray, List.set_cons_zero, List.set_cons_succ]
    refine readyG (rs := [14]) (by kernel_rfl) (by simp) (consG rfl (fun K hK => ?_) nilG)
    refine step_append_src rfl (.tmp 15) (.tmp 17) 22 22 rfl 2 _ 1 8 under_ints info_i64 rfl (by decide) (.slice a7 (0 + l1) c7) (0 + l1) (ints [] ++ ints r) rfl HC.out (.slice (some ⟨gb, 0, none⟩) 1 1) 1 (ints [x]) rfl (Src.of_rd under_ints HB.out.rd) (ints_oneCell _) hlk hlk8 ?_; intro a9 c9 w11 ho9 hg9 hf9
    have HX6 := Lib.hid (show Chg [] w w10 from HX10.out)
    have HX11 := Lib.hid (show Chg [] w w11 from HX10.out.trans' hg9 (fun b hb => .inr (HF7.out b (by simpa using hb))))
    have HT11 := Lib.hid (HT.out.chg HX11.out (by simp))
    obtain ⟨s11, f11, q11⟩ : w11.cell? ⟨g, o, none⟩ = some (.slice so l1 sc) ∧ w11.frozen? ⟨g, o, none⟩ = false ∧ w11.cell? ⟨p, 3, none⟩ = some (.slice (some ⟨g, o, none⟩) n rc) := HT11.out.at2v (j := 0) hJ.out HSV.out
    refine hK.out _ _ (fun _ _ => ⟨q11, s11⟩) (fun hHeld => ?_)
    clear hK K hHeld
    try simp only [Act.put, List.setIfInBounds_toArray, List.set_cons_zero, List.set_cons_succ]
    refine readyG (rs := [15]) (by kernel_rfl) (by simp) (consG rfl (fun K hK => ?_) nilG)
    go_simp
    refine hK.out _ _ (fun _ _ => ⟨q11, s11⟩) (fun hHeld => ?_)
    clear hK K hHeld
    try simp only [Act.put, List.setIfInBounds_toArray, List.set_cons_zero, List.set_cons_succ]
    refine readyG (rs := [16]) (by kernel_rfl) (by simp) (consG rfl (fun K hK => ?_) nilG)
    go_simp
    obtain ⟨hT, hC, hF9⟩ := refS_tow (R := r ++ [x]) (j := 0) (n9 := l1 + 1) (c9 := c9) (a9 := a9) HT.out hJ.out HX6.out hg9 HF7.out (by rw [List.length_append, ← HL1.out]; rfl) (by have h := ho9; rw [Nat.zero_add] at h; rw [ints_append]; exact h) hf9
    have HTT := Lib.hid hT
    have HCC := Lib.hid hC
    have HF9 := Lib.hid hF9
    clear hT hC hF9 ho9 hg9 hf9 s11 q11 f11
    refine hK.out _ _ (fun h => absurd rfl h) (fun hHeld => ?_)
    clear hK K hHeld
    try simp only [Act.put, List.setIfInBounds_toArray, List.set_cons_zero, List.set_cons_succ]
    refine doneG (by kernel_rfl) ?_ _
    go_wp2_with fail
    refine (HSET.out _ _ _ HTT.out).mono ?_
    rintro e w20 ⟨rfl, rv2, vs2, ht2, hm2⟩
    go_wp2
    go_end0
    exact ⟨rfl, rv2, vs2, ht2, (refP_mv HT.out HCC.out HF9.out).trans hm2⟩
end Go.Proofs.Ytbaobiniianamaa
