/-
  The walk of the document's Settle of towers. Conditions: the form's own reach.
  Literal slices of numbers at an operation of a drawn region. Conditions: none. The walk of the document's New of towers. Conditions: the form's own reach. The walk of the document's Put of towers. Conditions: the form's own reach.
  The walk of (*Tower).Put. Conditions: the form's own reach.
  The walk of the statements' build of towers. Conditions: the form's own reach.
  The walks of a nil tower, of New with any width, of what is refused, and of Config. Conditions: the form's own reach.
-/
import Derived.Test.YtmehcfocfljoeaaGreatDoorSlotsErrorsB26
import Derived.Test.YtmehcfocfljoeaaGreatDoorSlotsErrorsB27
import Derived.Test.YtmehcfocfljoeaaGreatDoorSlotsErrorsB24
import Derived.Test.YtmehcfocfljoeaaGreatDoorSlotsErrorsB3
import Derived.Laws.StructEq
namespace Go.Proofs.YtmehcfocfljoeaaGreatDoor
open Go.RowKit

theorem keepI_nat (n k : Nat) : keepI n (k : Int) = keepN n k := by simp [keepI]
theorem refS_mv {w0 w4 w5 w8 : World} {p g2 o2 n2 cc ix m n9 c3 c9 : Nat} {F0 : List Nat} {vsP : List Value} {a3 a9 : Option Addr}
    (hm : Mv F0 w0 (fpR p (.slice (some ⟨g2, o2, none⟩) n2 cc) vsP) w4) (h45 : Chg (fpR p (.slice (some ⟨g2, o2, none⟩) n2 cc) vsP) w4 w5) (h58 : Chg [g2] w5 w8) (hfa : ∀ b ∈ abl a3, w0.heap.size ≤ b) (hs : w0.heap.size ≤ w5.heap.size) (hf9 : ∀ b ∈ abl a9, w5.heap.size ≤ b) :
    Mv F0 w0 (fpR p (.slice (some ⟨g2, o2, none⟩) n2 cc) ((vsP.set ix (.slice a3 m c3)).set (ix + 1) (.slice a9 n9 c9))) w8 := by
  have hk := h45.trans' h58 (fun b hb => .inl (by simp at hb; subst hb; simp [fpR]))
  refine ⟨hm.chg.trans' hk hm.fr, fun b hb => ?_⟩
  simp only [fpR, List.mem_cons, List.mem_append, List.mem_flatMap] at hb
  rcases hb with rfl | hb | ⟨v, hv, hb⟩
  · exact hm.fr b (by simp [fpR])
  · exact hm.fr b (by simp only [fpR, List.mem_cons, List.mem_append]; exact .inr (.inl hb))
  · rcases List.mem_or_eq_of_mem_set hv with hv | rfl
    · rcases List.mem_or_eq_of_mem_set hv with hv | rfl
      · exact hm.fr b (by simp only [fpR, List.mem_cons, List.mem_append, List.mem_flatMap]; exact .inr (.inr ⟨v, hv, hb⟩))
      · exact .inr (hfa b (by simpa using hb))
    · exact .inr (by have := hf9 b (by simpa using hb); omega)

end Go.Proofs.YtmehcfocfljoeaaGreatDoor

namespace Go.Proofs.YtmehcfocfljoeaaGreatDoor
open Go.RowKit

set_option maxRecDepth 100000 in
theorem step_build0 {ops : Array Oper} {w : World} {o : Oper} {a : Act} {K : Act → World → Prop} {Q : Exit → Act → World → Prop} {E : Prop} (hg : o.guard = none)
    (ho : o.op = .buildSlice 73 0 #[])
    (h : ∀ g w', Own w' 2 1 (.slice (some ⟨g, 0, none⟩) 0 0) 0 (ints []) → Chg [] w w' → w.heap.size ≤ g → K (a.put o.dst (.slice (some ⟨g, 0, none⟩) 0 0)) w') :
    if Region.wanted o (yielded ops a.tmps) = true then Oper.wp Tryz.prog o a w K Q else E := by
  obtain ⟨dst, op, ty, pos, af, gd⟩ := o
  simp only at hg ho h
  subst hg ho
  have H := h w.heap.size (w.alloc (.cells #[] 2)) (Own.lit w 2 1 0 #[] rfl (by decide)) ((Chg.refl [] w).alloc _) (Nat.le_refl _)
  clear h
  go_simp
  exact H
set_option maxRecDepth 100000 in
theorem step_build1 {ops : Array Oper} {w : World} {o : Oper} {a : Act} {K : Act → World → Prop} {Q : Exit → Act → World → Prop} {E : Prop} (hg : o.guard = none) (t : Tmp)
    (ho : o.op = .buildSlice 73 1 #[(0, .tmp t)]) (x : Int) (hx : a.eval (.tmp t) = .int .i64 x)
    (h : ∀ g w', Own w' 2 1 (.slice (some ⟨g, 0, none⟩) 1 1) 1 (ints [x]) → Chg [] w w' → w.heap.size ≤ g → K (a.put o.dst (.slice (some ⟨g, 0, none⟩) 1 1)) w') :
    if Region.wanted o (yielded ops a.tmps) = true then Oper.wp Tryz.prog o a w K Q else E := by
  obtain ⟨dst, op, ty, pos, af, gd⟩ := o
  simp only at hg ho h
  subst hg ho
  have H := h w.heap.size (w.alloc (.cells #[.int .i64 x] 2)) (Own.lit w 2 1 1 #[.int .i64 x] rfl (by decide)) ((Chg.refl [] w).alloc _) (Nat.le_refl _)
  clear h
  have hx' : a.tmps[t]?.getD undef = .int .i64 x := by simpa [Act.eval] using hx
  clear hx
  go_simp
  exact H
end Go.Proofs.YtmehcfocfljoeaaGreatDoor

namespace Go.Proofs.YtmehcfocfljoeaaGreatDoor
open Go.RowKit

end Go.Proofs.YtmehcfocfljoeaaGreatDoor

namespace Go.Proofs.YtmehcfocfljoeaaGreatDoor
open Go.RowKit

end Go.Proofs.YtmehcfocfljoeaaGreatDoor

namespace Go.Proofs.YtmehcfocfljoeaaGreatDoor
open Go.RowKit

theorem flat_le0 {l : List (List Int)} (h : 0 < l.length) : l[0].length ≤ l.flatten.length := by
  cases l with
  | nil => simp at h
  | cons r l => simp
theorem Tow.setTotal {w : World} {p tp : Nat} {rv : Value} {vs : List Value} {D : TwD} (ht : Tow w p tp rv vs D) (t : Nat) : Tow (w.setCell ⟨p, 4, none⟩ (.int .u64 (t : Nat))) p tp rv vs { D with total := t } ∧ Chg [p] w (w.setCell ⟨p, 4, none⟩ (.int .u64 (t : Nat))) := by
  have k : Chg [p] w (w.setCell ⟨p, 4, none⟩ (.int .u64 (t : Nat))) := (Chg.refl _ w).setCell (a := ⟨p, 4, none⟩) (.inl (by simp)) _
  exact ⟨⟨ht.blk.setCell 4 _, ht.tape.chg k (by simpa using ht.ne_tape.symm), ht.own.chg k (fun b hb e => by simp at e; subst e; exact ht.p_rv hb),
      ht.rows.chg k (fun v hv b hb e => by simp at e; subst e; obtain ⟨i, hi, rfl⟩ := List.getElem_of_mem hv; exact ht.p_row i hi hb)⟩, k⟩

set_option maxRecDepth 100000 in
set_option maxHeartbeats 4000000 in
theorem req_put (w : World) (p tp : Nat) (rv : Value) (vs : List Value) (D : TwD) (ht : Tow w p tp rv vs D) (hW : 4 ≤ D.W) (hW2 : D.W ≤ 64) (hword : D.word < 18446744073709551616) (M : Nat) (hf : D.fits M) (hM : M ≤ 12000) (x : Int) (n : Nat) (h1 : 1 ≤ n) (h2 : n ≤ 1024) (hroom : D.total + n ≤ D.W * 1024) :
    Calls Tryz.prog 394 #[.pointer (some ⟨p, 0, none⟩), .int .i64 x, .int .u64 n] w fun e w' => e = .returned (.int .i64 0) ∧ ∃ rv' vs', Tow w' p tp rv' vs' ((D.ends x x).putN x n) ∧ Mv (fp p tp rv vs) w (fp p tp rv' vs') w' := by
  have HMO := Lib.hid (fun W hc => req_most W p tp rv vs D (ht.chg (F := []) hc (by simp)) hW2)
  have HEN := Lib.hid (fun W hc => req_ends W p tp rv vs D (ht.chg (F := []) hc (by simp)) x x)
  obtain ⟨c0, c1, c2, c3, c4, c5, c6⟩ := ht.cells
  have e1 : ((n : Int) == 0) = false := by rw [beq_eq_false_iff_ne]; omega
  have e2 : decide ((1024 : Int) < (n : Int)) = false := decide_eq_false (by omega)
  go_enter Tryz.func394, Tryz.ntmps394
  go_wp2_with fail
  have e3 : decide (IntKind.u64.wrap (((D.W * 1024 : Nat) : Int) - (D.total : Int)) < (n : Int)) = false := decide_eq_false (by rw [IntKind.wrap_u64]; omega)
  have e4 : IntKind.u64.wrap (((D.W * 1024 : Nat) : Int) - (D.total : Int)) = ((D.W * 1024 - D.total : Nat) : Int) := by rw [IntKind.wrap_u64]; omega
  have e5 : decide (D.W * 1024 - D.total < n) = false := decide_eq_false (by omega)
  have HWT := Lib.hid (show D.W * 1024 ≤ 65536 by omega)
  generalize D.W * 1024 = Wm at *
  go_quiet (first | (go_at_call 158; exact (HMO.out _ (by with_reducible (repeat (first | exact Chg.refl _ _ | apply Chg.drew | apply Chg.drewN)))).mono fun e w' ⟨he, hw⟩ => ⟨he, _, hw.symm⟩))
  go_wp2_with fail
  refine (HEN.out _ ((Chg.refl [] w).drewN nq)).mono ?_
  rintro e w1 ⟨rfl, ht1, hc1⟩
  have HM1 := Lib.hid (Mv.of_chg (((Chg.refl (fp p tp rv vs) w).drewN nq).trans' hc1 (fun b hb => .inl (by simp at hb; subst hb; simp [fp]))) : Mv (fp p tp rv vs) w (fp p tp rv vs) w1)
  have HD := Lib.hid (show (D.ends x x).W = D.W ∧ (D.ends x x).word = D.word ∧ (D.ends x x).total = D.total ∧ (D.ends x x).rows = D.rows ∧ (D.ends x x).used = D.used from by unfold TwD.ends; split <;> exact ⟨rfl, rfl, rfl, rfl, rfl⟩)
  have hfE : (D.ends x x).fits M := by obtain ⟨q1, q2, q3, q4, q5⟩ := HD.out; unfold TwD.fits; rw [q4, q5]; exact hf
  have HE0 : ∃ E, Hid (D.ends x x = E) := ⟨_, Lib.hid rfl⟩
  obtain ⟨E, HEQ⟩ := HE0
  rw [HEQ.out] at ht1 HD hfE
  have HF := Lib.hid hfE
  have HT1 := Lib.hid ht1
  clear ht hf hfE HMO HEN c0 c1 c2 c3 c4 c5 c6 e1 e2 e3 e4 e5 hc1 ht1
  go_wp2
  go_loopw [31] (fun i wx => ∃ (k : Nat) (rv' : Value) (vs' : List Value), k ≤ n ∧ i = .int .u64 (k : Nat) ∧ Tow wx p tp rv' vs' (E.putN x k) ∧ Mv (fp p tp rv vs) w (fp p tp rv' vs') wx) (fun i _ => n - (intOf i).toNat)
  case atStart => exact ⟨0, rv, vs, Nat.zero_le _, rfl, HT1.out, HM1.out⟩
  case round =>
    obtain ⟨k, rv', vs', hk, rfl, ht', hm'⟩ := hrel
    by_cases hlt : k < n
    · obtain ⟨w1', w2', w3'⟩ := E.putN_W x k
      have hfit := TwD.putN_fits x (by rw [HD.out.1]; exact hW) HF.out k
      have HS0 : ∃ G, Hid (E.putN x (k + 1) = G.put1 x) ∧ E.putN x k = G := ⟨_, Lib.hid rfl, rfl⟩
      obtain ⟨G, HS1, hG⟩ := HS0
      rw [hG] at hfit ht' w1' w2' w3'
      clear hG
      have hGW : G.W = D.W := w1'.trans HD.out.1
      have hGw : G.word = D.word := w2'.trans HD.out.2.1
      have hGt : G.total = D.total + k := w3'.trans (by rw [HD.out.2.2.1])
      obtain ⟨f1, f2, f3⟩ := hfit
      have hv0 : 0 < vs'.length := by rw [ht'.rows.1]; exact f1
      obtain ⟨ro, rc, hrv⟩ := ht'.own.shape
      subst hrv
      obtain ⟨g, o, cp, hsl, -, -, -⟩ := ht'.own.at1 (j := 0) f1 hv0
      simp only [Value.slice.injEq, true_and] at hsl
      obtain ⟨rfl, rfl⟩ := hsl
      obtain ⟨x0, x1, x3, -⟩ := ht'.at2 (j := 0) hv0
      have hrow := ht'.rows.2.1 0 hv0 f1
      obtain ⟨so, sc, hsv⟩ := hrow.shape
      rw [hsv] at x0 hrow
      have hrl : (G.rows[0]'f1).length ≤ 20000 := by have := flat_le0 f1; omega
      have HGET := Lib.hid (show G.rows.getD 0 [] = G.rows[0]'f1 from by rw [List.getD, List.getElem?_eq_getElem f1]; rfl)
      have HT := Lib.hid ht'
      have HSV := Lib.hid hsv
      have HROW := Lib.hid hrow
      have HHV := Lib.hid hv0
      obtain ⟨r0, hr0⟩ : ∃ r0, r0 = G.rows[0]'f1 := ⟨_, rfl⟩
      rw [← hr0] at HGET HROW hrl x0
      rw [← hr0] at HSV
      obtain ⟨l0, hl0⟩ : ∃ l0, l0 = r0.length := ⟨_, rfl⟩
      rw [← hl0] at HROW hrl x0 HSV
      have HL0 := Lib.hid hl0
      have hpos : 0 < G.rows.length := by omega
      have hpos' : (0 : Int) < (G.rows.length : Int) := by omega
      have HB := Lib.hid (show G.rows.length ≤ 20000 ∧ G.used + G.rows.flatten.length ≤ M + k ∧ 1 ≤ G.rows.length from by omega)
      simp only [Nat.add_zero] at x0 x1
      obtain ⟨z0, z1, z3, -⟩ := (HT.out.chg (F := []) (w1 := wr.alloc (.cells #[.int .i64 x] 2)) ((Chg.refl [] _).alloc _) (by simp)).at2 (j := 0) HHV.out
      rw [HSV.out] at z0
      simp only [Nat.add_zero] at z0 z1
      clear hsv hrow hr0 hl0 ht' w1' w2' w3' f2 f3
      go_wp2_with fail
      go_region_law (refine step_append_src rfl (.tmp 42) (.tmp 44) 73 73 rfl 2 _ 1 8 under_ints info_i64 rfl (by decide) (.slice so l0 sc) l0 (ints r0) rfl (HROW.out.chg (F := []) (by with_reducible (repeat (first | exact Chg.refl _ _ | apply Chg.drew | apply Chg.alloc))) (by simp)) (.slice (some ⟨wr.heap.size, 0, none⟩) 1 1) 1 (ints [x]) rfl (Src.of_rd under_ints (by first | exact Rd.lit1 wr (.int .i64 x) 2 1 | exact (Rd.lit1 wr (.int .i64 x) 2 1).chg (F := []) ((Chg.refl [] _).drew) (by simp))) (ints_oneCell _) (by unfold maxLen; omega) (by omega) ?_; intro a9 c9 w7 ho7 hg7 hf7
                     have HTA := Lib.hid (HT.out.chg (F := []) (w1 := (wr.alloc (.cells #[.int .i64 x] 2)).drew) (by with_reducible (repeat (first | exact Chg.refl _ _ | apply Chg.drew | apply Chg.alloc))) (by simp))
                     obtain ⟨y0, y1, y3⟩ := HTA.out.at3 (j := 0) HHV.out HSV.out hg7
                     simp only [Nat.add_zero] at y0 y1)
      all_goals
        have hvb : blkOf (.slice so l0 sc) = blkOf (vs'[0]'HHV.out) := by rw [HSV.out]
        have hlen9 : l0 + 1 = (r0 ++ [x]).length := by rw [List.length_append, ← HL0.out]; rfl
        have ho9 : Own w7 2 1 (.slice a9 (l0 + 1) c9) (r0 ++ [x]).length (ints (r0 ++ [x])) := by
          rw [← hlen9, ints_append]; exact ho7
        have HT8 := HTA.out.turn (j := 0) HHV.out hg7 (fun b hb => .inl (by rw [← hvb]; exact hb)) ho9 (fun i hi hne b hb e => by
          rcases hf7 b (by simpa using hb) with h1 | h1
          · rw [hvb] at h1
            exact HTA.out.rows.2.2 0 i HHV.out hi (by omega) b h1 e
          · have := HTA.out.rows.lt i hi b e; omega)
        have HADD := Lib.hid (show { G with rows := G.rows.set 0 (r0 ++ [x]), total := G.total + 1 } = G.add x from by unfold TwD.add; rw [HGET.out])
        have hk78 : Chg (fp p tp (.slice (some ⟨g, o, none⟩) G.rows.length rc) vs') wr (w7.setCell ⟨g, o, none⟩ (.slice a9 (l0 + 1) c9)) := ((((Chg.refl _ wr).alloc _).drew).trans' hg7 (fun b hb => .inl (HT.out.mem_row 0 HHV.out b (by rw [← hvb]; exact hb)))).setCell (.inl (HT.out.mem_rv g (by simp))) _
        have HFR := Lib.hid (show ∀ b ∈ abl a9, b ∈ fp p tp (.slice (some ⟨g, o, none⟩) G.rows.length rc) vs' ∨ wr.heap.size ≤ b from fun b hb => by
          rcases hf7 b (by simpa using hb) with h1 | h1
          · exact .inl (HT.out.mem_row 0 HHV.out b (by rw [← hvb]; exact h1))
          · exact .inr (by simp only [World.size_drew, World.size_alloc] at h1; omega))
        have HK := Lib.hid hk78
        simp only [Nat.add_zero] at HT8
        clear z0 z1 z3 x0 x1 x3 y0 y1 y3 HTA hk78 ho9 ho7 hg7 hf7 hvb HROW
        generalize w7.setCell ⟨g, o, none⟩ (.slice a9 (l0 + 1) c9) = w8 at *
        obtain ⟨-, -, -, -, t4, -, -⟩ := HT8.cells
        have f4 := HT8.blk.free 4
        obtain ⟨HT9, hk9⟩ := HT8.setTotal (G.total + 1)
        simp only at t4 HT9
        rw [HADD.out] at HT9
        have hcast : ((G.total + 1 : Nat) : Int) = (G.total : Int) + 1 := by push_cast; rfl
        rw [hcast] at HT9 hk9
        have HT9 := Lib.hid HT9
        have HK9 := Lib.hid hk9
        clear HT8 hk9 hcast
        have hgb : (G.total : Int) + 1 < 70000 := by have := HWT.out; omega
        have HGT := Lib.hid hGt
        clear hGt
        try simp only [Act.put, List.setIfInBounds_toArray, List.set_cons_succ, List.set_cons_zero, List.getElem_toArray, List.getElem_cons_succ, List.getElem_cons_zero]
        go_wp2_with fail
        have HSZ := TwD.add_size (D := G) x f1
        have hB := HB.out
        refine (req_settle _ p tp _ _ (G.add x) HT9.out (by show 4 ≤ G.W; omega) (by show G.W ≤ 64; omega) (by show G.word < _; rw [hGw]; exact hword) (by show G.used ≤ 1000000; omega) (by rw [HSZ.1]; omega) (by rw [HSZ.2]; omega)).mono ?_
        rintro e w9 ⟨rfl, rv2, vs2, ht2, hm2⟩
        have HMS : Mv (fp p tp (.slice (some ⟨g, o, none⟩) G.rows.length rc) vs') wr (fp p tp (.slice (some ⟨g, o, none⟩) G.rows.length rc) (vs'.set 0 (.slice a9 (l0 + 1) c9))) _ := ⟨HK.out.trans' HK9.out (fun b hb => .inl (by simp at hb; subst hb; simp [fp])), fun b hb => by
          simp only [fp, List.mem_cons, List.mem_append, List.mem_flatMap] at hb
          rcases hb with rfl | rfl | hb | ⟨v, hv, hb⟩
          · exact .inl (by simp [fp])
          · exact .inl (by simp [fp])
          · exact .inl (HT.out.mem_rv b hb)
          · rcases List.mem_or_eq_of_mem_set hv with hv | rfl
            · exact .inl (by simp only [fp, List.mem_cons, List.mem_append, List.mem_flatMap]; exact .inr (.inr (.inr ⟨v, hv, hb⟩)))
            · exact HFR.out b (by simpa using hb)⟩
        have HMZ := Lib.hid (hm'.trans (HMS.trans hm2))
        have HT2 := Lib.hid ht2
        clear HMS hm2 ht2 t4 f4 hm' hB
        go_wp2
        exact ⟨⟨k + 1, rv2, vs2, hlt, by go_num, by rw [HS1.out]; exact HT2.out, HMZ.out⟩, by simp [intOf]; omega⟩
    · obtain rfl : k = n := by omega
      go_wp2
      go_ret
      rw [HEQ.out]
      exact ⟨rfl, rv', vs', ht', hm'⟩
end Go.Proofs.YtmehcfocfljoeaaGreatDoor

namespace Go.Proofs.YtmehcfocfljoeaaGreatDoor
open Go.RowKit

def goodW (W : Int) : Bool := decide (4 ≤ W ∧ W ≤ 64 ∧ W % 4 = 0)
/-- A tower with all values. -/
def TwD.vals (D : TwD) (l : List Vl) : TwD := l.foldl (fun D v => (D.ends v.x v.x).putN v.x v.n) D
theorem TwD.vals_take (D : TwD) (l : List Vl) (k : Nat) (h : k < l.length) : D.vals (l.take (k + 1)) = ((D.vals (l.take k)).ends l[k].x l[k].x).putN l[k].x l[k].n := by
  rw [List.take_succ_eq_append_getElem h]
  unfold TwD.vals
  rw [List.foldl_append]
  rfl
theorem TwD.vals_ok {W word n : Nat} (hW : 4 ≤ W) : ∀ (l : List Vl) {D : TwD}, D.ok W word n → (∀ v ∈ l, v.x ≤ 9223372036854775807) → (D.vals l).ok W word (n + sumS l)
  | [], D, h, _ => h
  | v :: l, D, h, hx => by
    have h1 := TwD.vals_ok hW l (TwD.putN_ok hW (TwD.ends_ok h v.x v.x) (hx v (by simp)) v.n) (fun u hu => hx u (by simp [hu]))
    rw [Nat.add_assoc] at h1
    exact h1
theorem TwD.ends_same (D : TwD) (x y : Int) : (D.ends x y).W = D.W ∧ (D.ends x y).word = D.word ∧ (D.ends x y).total = D.total ∧ (D.ends x y).rows = D.rows ∧ (D.ends x y).used = D.used := by
  unfold TwD.ends; split <;> exact ⟨rfl, rfl, rfl, rfl, rfl⟩
def valsD (W word : Nat) (l : List Vl) : TwD := (TwD.new W word).vals l
/-- Is that played? -/
def okV (l : List Vl) (W : Int) : Prop := (∀ v ∈ l, 1 ≤ v.n ∧ v.n ≤ 200) ∧ l.length ≤ 60 ∧ sumS l ≤ 200 ∧ goodW W = true
end Go.Proofs.YtmehcfocfljoeaaGreatDoor

namespace Go.Proofs.YtmehcfocfljoeaaGreatDoor
open Go.RowKit

def cfgV (W : Int) (word : Nat) : Value := .agg #[.int .i64 W, .int .u64 (word : Nat)]
theorem cfg_under : Tryz.prog.underlying 167 = some (.struct (Tryz.prog.fieldsOf 167)) := by kernel_rfl
theorem cfg_stood : Tryz.prog.stoodInHeld 167 = false := by kernel_rfl
theorem cfg_eql (a b : Int) (m n : Int) (w : World) : (binOp .eql 167 (.agg #[.int .i64 a, .int .u64 m]) (.agg #[.int .i64 b, .int .u64 n])).run Tryz.prog w = .ok (.bool (a == b && m == n)) w := by
  have u3 := Tryz.underlying3
  have a3 := Tryz.isAgg3
  have z3 := Tryz.sizeOf3
  have u4 := Tryz.underlying23
  have a4 := Tryz.isAgg23
  have z4 := Tryz.sizeOf23
  rw [run_eql_struct, show (10000 : Nat) = 9999 + 1 from rfl, run_equalIn_agg w 9999 167 _ _ cfg_under cfg_stood]
  simp only [Program.fieldsOf, Tryz.underlying167]
  go_simp
  by_cases h1 : a = b <;> by_cases h2 : m = n <;> simp [h1, h2]
theorem cfg_neq (a b : Int) (m n : Int) (w : World) : (binOp .neq 167 (.agg #[.int .i64 a, .int .u64 m]) (.agg #[.int .i64 b, .int .u64 n])).run Tryz.prog w = .ok (.bool (!(a == b && m == n))) w := by
  have u3 := Tryz.underlying3
  have a3 := Tryz.isAgg3
  have z3 := Tryz.sizeOf3
  have u4 := Tryz.underlying23
  have a4 := Tryz.isAgg23
  have z4 := Tryz.sizeOf23
  rw [run_neq_struct, show (10000 : Nat) = 9999 + 1 from rfl, run_equalIn_agg w 9999 167 _ _ cfg_under cfg_stood]
  simp only [Program.fieldsOf, Tryz.underlying167]
  go_simp
  by_cases h1 : a = b <;> by_cases h2 : m = n <;> simp [h1, h2]

set_option maxRecDepth 100000 in
theorem req_nil_total (w : World) : Calls Tryz.prog 396 #[.pointer none] w fun e w' => e = .returned (.int .u64 0) ∧ w = w' := by
  go_enter Tryz.func396, Tryz.ntmps396
  go_wp2
  go_ret
  exact ⟨rfl, rfl⟩
set_option maxRecDepth 100000 in
theorem req_nil_most (w : World) : Calls Tryz.prog 158 #[.pointer none] w fun e w' => e = .returned (.int .u64 0) ∧ w = w' := by
  go_enter Tryz.func158, Tryz.ntmps158
  go_wp2
  go_ret
  exact ⟨rfl, rfl⟩
set_option maxRecDepth 100000 in
theorem req_nil_rank (w : World) (x : Int) : Calls Tryz.prog 427 #[.pointer none, .int .i64 x] w fun e w' => e = .returned (.int .u64 0) ∧ w = w' := by
  go_enter Tryz.func427, Tryz.ntmps427
  go_wp2
  go_ret
  exact ⟨rfl, rfl⟩
set_option maxRecDepth 100000 in
theorem req_nil_used (w : World) : Calls Tryz.prog 430 #[.pointer none] w fun e w' => e = .returned (.int .i64 0) ∧ w = w' := by
  go_enter Tryz.func430, Tryz.ntmps430
  go_wp2
  go_ret
  exact ⟨rfl, rfl⟩
set_option maxRecDepth 100000 in
theorem req_nil_rows (w : World) : Calls Tryz.prog 428 #[.pointer none] w fun e w' => e = .returned (.slice none 0 0) ∧ w = w' := by
  go_enter Tryz.func428, Tryz.ntmps428
  go_wp2
  go_ret
  exact ⟨rfl, rfl⟩
set_option maxRecDepth 100000 in
theorem req_nil_put (w : World) (x : Int) (n : Nat) : Calls Tryz.prog 394 #[.pointer none, .int .i64 x, .int .u64 n] w fun e w' => e = .returned (.int .i64 2) ∧ w = w' := by
  go_enter Tryz.func394, Tryz.ntmps394
  go_wp2
  go_ret
  exact ⟨rfl, rfl⟩
set_option maxRecDepth 100000 in
theorem req_nil_join (w : World) (v : Value) : Calls Tryz.prog 426 #[.pointer none, v] w fun e w' => e = .returned (.int .i64 2) ∧ w = w' := by
  go_enter Tryz.func426, Tryz.ntmps426
  go_wp2
  go_ret
  exact ⟨rfl, rfl⟩
set_option maxRecDepth 100000 in
theorem req_nil_ends (w : World) : Calls Tryz.prog 393 #[.pointer none] w fun e w' => e = .returned (.tuple #[.int .i64 0, .int .i64 0, .bool false]) ∧ w = w' := by
  go_enter Tryz.func393, Tryz.ntmps393
  go_wp2
  go_ret3
  exact ⟨rfl, rfl⟩
set_option maxRecDepth 100000 in
theorem req_nil_quantile (w : World) (num den : Nat) : Calls Tryz.prog 395 #[.pointer none, .agg #[.int .u64 (num : Nat), .int .u64 (den : Nat)]] w fun e w' => e = .returned (.tuple #[.int .i64 0, .int .i64 2]) ∧ Chg [] w w' := by
  go_enter Tryz.func395, Tryz.ntmps395
  go_wp2
  go_ret2
  exact ⟨rfl, (Chg.refl [] w).alloc _⟩
set_option maxRecDepth 100000 in
theorem req_nil_config (w : World) : Calls Tryz.prog 429 #[.pointer none] w fun e w' => e = .returned (.agg #[.int .i64 0, .int .u64 0]) ∧ Chg [] w w' := by
  have hb := Blk.alloc_new w #[.int .i64 0, .int .u64 0] 167
  have z0 := hb.cell 0
  have z1 := hb.cell 1
  have f0 := hb.free 0
  have f1 := hb.free 1
  go_enter Tryz.func429, Tryz.ntmps429
  go_wp2
  have hb2 := Blk.alloc_new w #[.int .i64 0, .int .u64 0] 167
  have y0 := hb2.cell 0
  have y1 := hb2.cell 1
  refine bodyPost_ret (v := .agg #[.int .i64 0, .int .u64 0]) (by simp [results, Tryz.results429, go_sem, y0, y1]) rfl ⟨rfl, ?_⟩
  with_reducible (repeat (first | exact Chg.refl _ _ | apply Chg.alloc))
set_option maxRecDepth 100000 in
theorem req_config (w : World) (p tp : Nat) (rv : Value) (vs : List Value) (D : TwD) (ht : Tow w p tp rv vs D) : Calls Tryz.prog 429 #[.pointer (some ⟨p, 0, none⟩)] w fun e w' => e = .returned (.agg #[.int .i64 (D.W : Nat), .int .u64 (D.word : Nat)]) ∧ Chg [] w w' := by
  obtain ⟨c0, c1, -, -, -, -, -⟩ := (ht.chg ((Chg.refl [] w).alloc (.cells #[.int .i64 0, .int .u64 0] 167)) (by simp)).cells
  have hb := Blk.alloc_new w #[.int .i64 0, .int .u64 0] 167
  have z0 := hb.cell 0
  have z1 := hb.cell 1
  have f0 := hb.free 0
  have f1 := hb.free 1
  go_enter Tryz.func429, Tryz.ntmps429
  go_wp2
  have hb2 := Blk.alloc_new w #[.int .i64 (D.W : Nat), .int .u64 (D.word : Nat)] 167
  have y0 := hb2.cell 0
  have y1 := hb2.cell 1
  refine bodyPost_ret (v := .agg #[.int .i64 (D.W : Nat), .int .u64 (D.word : Nat)]) (by simp [results, Tryz.results429, go_sem, y0, y1]) rfl ⟨rfl, ?_⟩
  with_reducible (repeat (first | exact Chg.refl _ _ | apply Chg.alloc))

/-- New with any width. -/
def NewR (w w' : World) (W : Int) (word : Nat) (e : Ending) : Prop :=
  (goodW W = false ∧ e = .returned (.tuple #[.pointer none, .int .i64 1]) ∧ Chg [] w w') ∨
  (goodW W = true ∧ ∃ p tp rv, e = .returned (.tuple #[.pointer (some ⟨p, 0, none⟩), .int .i64 0]) ∧ Tow w' p tp rv [.slice none 0 0] (TwD.new W.toNat word) ∧ Chg [] w w' ∧ ∀ b ∈ fp p tp rv [.slice none 0 0], w.heap.size ≤ b)
set_option maxRecDepth 100000 in
theorem req_newF (w : World) (W : Int) (word : Nat) : Calls Tryz.prog 71 #[.agg #[.int .i64 W, .int .u64 (word : Nat)]] w fun e w' => NewR w w' W word e := by
  by_cases h : goodW W = true
  · have hw : 4 ≤ W ∧ W ≤ 64 ∧ W % 4 = 0 := by simpa [goodW] using h
    obtain ⟨Wn, rfl⟩ := Int.eq_ofNat_of_zero_le (show 0 ≤ W by omega)
    refine (req_new w Wn word (by omega) (by omega) (by omega)).mono ?_
    rintro e w' ⟨p, tp, rv, rfl, h1, h2, h3⟩
    exact .inr ⟨h, p, tp, rv, rfl, h1, h2, h3⟩
  · have hf : goodW W = false := by simpa using h
    have hw : ¬ (4 ≤ W ∧ W ≤ 64 ∧ W % 4 = 0) := by simpa [goodW] using h
    have HF := Lib.hid hf
    have hc := (Chg.refl [] w).alloc (.cells #[.int .i64 W, .int .u64 (word : Nat)] 167)
    have hb := Blk.alloc_new w #[.int .i64 W, .int .u64 (word : Nat)] 167
    have b0 := hb.cell 0
    have b1 := hb.cell 1
    clear h hf
    by_cases h1 : W < 4
    · have d1 : decide (W < 4) = true := decide_eq_true h1
      go_enter Tryz.func71, Tryz.ntmps71
      go_wp2
      go_ret2
      exact .inl ⟨HF.out, rfl, hc⟩
    · have d1 : decide (W < 4) = false := decide_eq_false h1
      by_cases h2 : 64 < W
      · have d2 : decide (64 < W) = true := decide_eq_true h2
        go_enter Tryz.func71, Tryz.ntmps71
        go_wp2
        go_ret2
        exact .inl ⟨HF.out, rfl, hc⟩
      · have d2 : decide (64 < W) = false := decide_eq_false h2
        have d3 : W.tmod 4 = W % 4 := Int.tmod_eq_emod_of_nonneg (by omega)
        have d4 : (W % 4 != 0) = true := by rw [bne_iff_ne]; omega
        go_enter Tryz.func71, Tryz.ntmps71
        go_wp2
        go_ret2
        exact .inl ⟨HF.out, rfl, hc⟩
set_option maxRecDepth 100000 in
theorem req_join_none (w : World) (p : Nat) : Calls Tryz.prog 426 #[.pointer (some ⟨p, 0, none⟩), .pointer none] w fun e w' => e = .returned (.int .i64 2) ∧ w = w' := by
  go_enter Tryz.func426, Tryz.ntmps426
  go_wp2
  go_ret
  exact ⟨rfl, rfl⟩
set_option maxRecDepth 100000 in
theorem req_put_zero (w : World) (p : Nat) (x : Int) : Calls Tryz.prog 394 #[.pointer (some ⟨p, 0, none⟩), .int .i64 x, .int .u64 0] w fun e w' => e = .returned (.int .i64 1) ∧ w = w' := by
  go_enter Tryz.func394, Tryz.ntmps394
  go_wp2
  go_ret
  exact ⟨rfl, rfl⟩
set_option maxRecDepth 100000 in
theorem req_put_long (w : World) (p : Nat) (x : Int) : Calls Tryz.prog 394 #[.pointer (some ⟨p, 0, none⟩), .int .i64 x, .int .u64 1025] w fun e w' => e = .returned (.int .i64 3) ∧ w = w' := by
  go_enter Tryz.func394, Tryz.ntmps394
  go_wp2
  go_ret
  exact ⟨rfl, rfl⟩
set_option maxRecDepth 100000 in
set_option maxHeartbeats 1000000 in
theorem req_join_match (w : World) (p tp : Nat) (rv : Value) (vs : List Value) (D : TwD) (ht : Tow w p tp rv vs D) (q tq : Nat) (qv : Value) (us : List Value) (O : TwD) (ho : Tow w q tq qv us O) (hne : D.W ≠ O.W) :
    Calls Tryz.prog 426 #[.pointer (some ⟨p, 0, none⟩), .pointer (some ⟨q, 0, none⟩)] w fun e w' => e = .returned (.int .i64 8) ∧ Chg [] w w' := by
  obtain ⟨c0, -, -, -, -, -, -⟩ := ht.cells
  obtain ⟨d0, -, -, -, -, -, -⟩ := ho.cells
  have hn : ((D.W : Int) != (O.W : Int)) = true := by rw [bne_iff_ne]; omega
  go_enter Tryz.func426, Tryz.ntmps426
  go_wp2
  go_quiet (fail)
  go_wp2
  go_ret
  refine ⟨rfl, ?_⟩
  with_reducible (repeat (first | exact Chg.refl _ _ | apply Chg.drew | apply Chg.drewN))
end Go.Proofs.YtmehcfocfljoeaaGreatDoor
