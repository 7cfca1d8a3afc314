/-
  The walk of (*Tower).Put of a tower however it came; more that is refused; plain laws of towers by bytes and back. Conditions: the form's own reach.
  The walk of the law's alive. Conditions: the form's own reach.
  The walk of the law ReqLow. Conditions: the form's own reach.
  The walk of the law ReqBound. Conditions: the form's own reach.
-/
import Derived.Test.YtlcoibhbdgdfcaaGreatDoorCoreCoinsB15
import Derived.Test.YtlcoibhbdgdfcaaGreatDoorCoreCoinsB16
import Derived.Test.YtlcoibhbdgdfcaaGreatDoorCoreCoinsB19
import Derived.Test.YtlcoibhbdgdfcaaGreatDoorCoreCoinsB21
import Derived.Test.YtlcoibhbdgdfcaaGreatDoorCoreCoinsB14
import Derived.Test.YtlcoibhbdgdfcaaGreatDoorCoreCoinsB18
import Derived.Test.YtlcoibhbdgdfcaaGreatDoorCoreCoinsB3
namespace Go.Proofs.YtlcoibhbdgdfcaaGreatDoor
open Go.RowKit

set_option maxRecDepth 100000 in
set_option maxHeartbeats 4000000 in
theorem req_putK (w : World) (p tp : Nat) (rv : Value) (vs : List Value) (D : TwD) (ht : Tow w p tp rv vs D) (hW : 4 ≤ D.W) (hW2 : D.W ≤ 64) (hword : D.word < 18446744073709551616) (x : Int) (n : Nat) (h1 : 1 ≤ n) (h2 : n ≤ 1024) (hroom : D.total + n ≤ D.W * 1024)
    (hf : ∀ k, k ≤ n → 1 ≤ ((D.ends x x).putN x k).rows.length ∧ ((D.ends x x).putN x k).rows.length ≤ 19000 ∧ ((D.ends x x).putN x k).used + ((D.ends x x).putN x k).rows.flatten.length ≤ 19000) :
    Calls Tryz.prog 337 #[.pointer (some ⟨p, 0, none⟩), .int .i64 x, .int .u64 n] w fun e w' => e = .returned (.int .i64 0) ∧ ∃ rv' vs', Tow w' p tp rv' vs' ((D.ends x x).putN x n) ∧ Mv (fp p tp rv vs) w (fp p tp rv' vs') w' := by
  have HMO := Lib.hid (fun W hc => req_most W p tp rv vs D (ht.chg (F := []) hc (by simp)) hW2)
  have HEN := Lib.hid (fun W hc => req_ends W p tp rv vs D (ht.chg (F := []) hc (by simp)) x x)
  obtain ⟨c0, c1, c2, c3, c4, c5, c6⟩ := ht.cells
  have e1 : ((n : Int) == 0) = false := by rw [beq_eq_false_iff_ne]; omega
  have e2 : decide ((1024 : Int) < (n : Int)) = false := decide_eq_false (by omega)
  go_enter Tryz.func337, Tryz.ntmps337
  go_wp2_with fail
  have e3 : decide (IntKind.u64.wrap (((D.W * 1024 : Nat) : Int) - (D.total : Int)) < (n : Int)) = false := decide_eq_false (by rw [IntKind.wrap_u64]; omega)
  have e4 : IntKind.u64.wrap (((D.W * 1024 : Nat) : Int) - (D.total : Int)) = ((D.W * 1024 - D.total : Nat) : Int) := by rw [IntKind.wrap_u64]; omega
  have e5 : decide (D.W * 1024 - D.total < n) = false := decide_eq_false (by omega)
  have HWT := Lib.hid (show D.W * 1024 ≤ 65536 by omega)
  generalize D.W * 1024 = Wm at *
  go_quiet (first | (go_at_call 112; exact (HMO.out _ (by with_reducible (repeat (first | exact Chg.refl _ _ | apply Chg.drew | apply Chg.drewN)))).mono fun e w' ⟨he, hw⟩ => ⟨he, _, hw.symm⟩))
  go_wp2_with fail
  refine (HEN.out _ ((Chg.refl [] w).drewN nq)).mono ?_
  rintro e w1 ⟨rfl, ht1, hc1⟩
  have HM1 := Lib.hid (Mv.of_chg (((Chg.refl (fp p tp rv vs) w).drewN nq).trans' hc1 (fun b hb => .inl (by simp at hb; subst hb; simp [fp]))) : Mv (fp p tp rv vs) w (fp p tp rv vs) w1)
  have HD := Lib.hid (show (D.ends x x).W = D.W ∧ (D.ends x x).word = D.word ∧ (D.ends x x).total = D.total ∧ (D.ends x x).rows = D.rows ∧ (D.ends x x).used = D.used from by unfold TwD.ends; split <;> exact ⟨rfl, rfl, rfl, rfl, rfl⟩)
  have hfE := hf
  have HE0 : ∃ E, Hid (D.ends x x = E) := ⟨_, Lib.hid rfl⟩
  obtain ⟨E, HEQ⟩ := HE0
  rw [HEQ.out] at ht1 HD hfE
  have HF := Lib.hid hfE
  have HT1 := Lib.hid ht1
  clear ht hf hfE HMO HEN c0 c1 c2 c3 c4 c5 c6 e1 e2 e3 e4 e5 hc1 ht1
  go_wp2
  go_loopw [31] (fun i wx => ∃ (k : Nat) (rv' : Value) (vs' : List Value), k ≤ n ∧ i = .int .u64 (k : Nat) ∧ Tow wx p tp rv' vs' (E.putN x k) ∧ Mv (fp p tp rv vs) w (fp p tp rv' vs') wx) (fun i _ => n - (intOf i).toNat)
  case atStart => exact ⟨0, rv, vs, Nat.zero_le _, rfl, HT1.out, HM1.out⟩
  case round =>
    obtain ⟨k, rv', vs', hk, rfl, ht', hm'⟩ := hrel
    by_cases hlt : k < n
    · obtain ⟨w1', w2', w3'⟩ := E.putN_W x k
      have hfit := HF.out k (by omega)
      have HS0 : ∃ G, Hid (E.putN x (k + 1) = G.put1 x) ∧ E.putN x k = G := ⟨_, Lib.hid rfl, rfl⟩
      obtain ⟨G, HS1, hG⟩ := HS0
      rw [hG] at hfit ht' w1' w2' w3'
      clear hG
      have hGW : G.W = D.W := w1'.trans HD.out.1
      have hGw : G.word = D.word := w2'.trans HD.out.2.1
      have hGt : G.total = D.total + k := w3'.trans (by rw [HD.out.2.2.1])
      obtain ⟨f1, f2, f3⟩ := hfit
      have hv0 : 0 < vs'.length := by rw [ht'.rows.1]; exact f1
      obtain ⟨ro, rc, hrv⟩ := ht'.own.shape
      subst hrv
      obtain ⟨g, o, cp, hsl, -, -, -⟩ := ht'.own.at1 (j := 0) f1 hv0
      simp only [Value.slice.injEq, true_and] at hsl
      obtain ⟨rfl, rfl⟩ := hsl
      obtain ⟨x0, x1, x3, -⟩ := ht'.at2 (j := 0) hv0
      have hrow := ht'.rows.2.1 0 hv0 f1
      obtain ⟨so, sc, hsv⟩ := hrow.shape
      rw [hsv] at x0 hrow
      have hrl : (G.rows[0]'f1).length ≤ 20000 := by have := flat_le0 f1; omega
      have HGET := Lib.hid (show G.rows.getD 0 [] = G.rows[0]'f1 from by rw [List.getD, List.getElem?_eq_getElem f1]; rfl)
      have HT := Lib.hid ht'
      have HSV := Lib.hid hsv
      have HROW := Lib.hid hrow
      have HHV := Lib.hid hv0
      obtain ⟨r0, hr0⟩ : ∃ r0, r0 = G.rows[0]'f1 := ⟨_, rfl⟩
      rw [← hr0] at HGET HROW hrl x0
      rw [← hr0] at HSV
      obtain ⟨l0, hl0⟩ : ∃ l0, l0 = r0.length := ⟨_, rfl⟩
      rw [← hl0] at HROW hrl x0 HSV
      have HL0 := Lib.hid hl0
      have hpos : 0 < G.rows.length := by omega
      have hpos' : (0 : Int) < (G.rows.length : Int) := by omega
      have HB := Lib.hid (show G.rows.length ≤ 20000 ∧ G.used + G.rows.flatten.length ≤ 19000 ∧ 1 ≤ G.rows.length from by omega)
      simp only [Nat.add_zero] at x0 x1
      obtain ⟨z0, z1, z3, -⟩ := (HT.out.chg (F := []) (w1 := wr.alloc (.cells #[.int .i64 x] 2)) ((Chg.refl [] _).alloc _) (by simp)).at2 (j := 0) HHV.out
      rw [HSV.out] at z0
      simp only [Nat.add_zero] at z0 z1
      clear hsv hrow hr0 hl0 ht' w1' w2' w3' f2 f3
      go_wp2_with fail
      go_region_law (refine step_append_src rfl (.tmp 42) (.tmp 44) 121 121 rfl 2 _ 1 8 under_ints info_i64 rfl (by decide) (.slice so l0 sc) l0 (ints r0) rfl (HROW.out.chg (F := []) (by with_reducible (repeat (first | exact Chg.refl _ _ | apply Chg.drew | apply Chg.alloc))) (by simp)) (.slice (some ⟨wr.heap.size, 0, none⟩) 1 1) 1 (ints [x]) rfl (Src.of_rd under_ints (by first | exact Rd.lit1 wr (.int .i64 x) 2 1 | exact (Rd.lit1 wr (.int .i64 x) 2 1).chg (F := []) ((Chg.refl [] _).drew) (by simp))) (ints_oneCell _) (by unfold maxLen; omega) (by omega) ?_; intro a9 c9 w7 ho7 hg7 hf7
                     have HTA := Lib.hid (HT.out.chg (F := []) (w1 := (wr.alloc (.cells #[.int .i64 x] 2)).drew) (by with_reducible (repeat (first | exact Chg.refl _ _ | apply Chg.drew | apply Chg.alloc))) (by simp))
                     obtain ⟨y0, y1, y3⟩ := HTA.out.at3 (j := 0) HHV.out HSV.out hg7
                     simp only [Nat.add_zero] at y0 y1)
      all_goals
        have hvb : blkOf (.slice so l0 sc) = blkOf (vs'[0]'HHV.out) := by rw [HSV.out]
        have hlen9 : l0 + 1 = (r0 ++ [x]).length := by rw [List.length_append, ← HL0.out]; rfl
        have ho9 : Own w7 2 1 (.slice a9 (l0 + 1) c9) (r0 ++ [x]).length (ints (r0 ++ [x])) := by
          rw [← hlen9, ints_append]; exact ho7
        have HT8 := HTA.out.turn (j := 0) HHV.out hg7 (fun b hb => .inl (by rw [← hvb]; exact hb)) ho9 (fun i hi hne b hb e => by
          rcases hf7 b (by simpa using hb) with h1 | h1
          · rw [hvb] at h1
            exact HTA.out.rows.2.2 0 i HHV.out hi (by omega) b h1 e
          · have := HTA.out.rows.lt i hi b e; omega)
        have HADD := Lib.hid (show { G with rows := G.rows.set 0 (r0 ++ [x]), total := G.total + 1 } = G.add x from by unfold TwD.add; rw [HGET.out])
        have hk78 : Chg (fp p tp (.slice (some ⟨g, o, none⟩) G.rows.length rc) vs') wr (w7.setCell ⟨g, o, none⟩ (.slice a9 (l0 + 1) c9)) := ((((Chg.refl _ wr).alloc _).drew).trans' hg7 (fun b hb => .inl (HT.out.mem_row 0 HHV.out b (by rw [← hvb]; exact hb)))).setCell (.inl (HT.out.mem_rv g (by simp))) _
        have HFR := Lib.hid (show ∀ b ∈ abl a9, b ∈ fp p tp (.slice (some ⟨g, o, none⟩) G.rows.length rc) vs' ∨ wr.heap.size ≤ b from fun b hb => by
          rcases hf7 b (by simpa using hb) with h1 | h1
          · exact .inl (HT.out.mem_row 0 HHV.out b (by rw [← hvb]; exact h1))
          · exact .inr (by simp only [World.size_drew, World.size_alloc] at h1; omega))
        have HK := Lib.hid hk78
        simp only [Nat.add_zero] at HT8
        clear z0 z1 z3 x0 x1 x3 y0 y1 y3 HTA hk78 ho9 ho7 hg7 hf7 hvb HROW
        generalize w7.setCell ⟨g, o, none⟩ (.slice a9 (l0 + 1) c9) = w8 at *
        obtain ⟨-, -, -, -, t4, -, -⟩ := HT8.cells
        have f4 := HT8.blk.free 4
        obtain ⟨HT9, hk9⟩ := HT8.setTotal (G.total + 1)
        simp only at t4 HT9
        rw [HADD.out] at HT9
        have hcast : ((G.total + 1 : Nat) : Int) = (G.total : Int) + 1 := by push_cast; rfl
        rw [hcast] at HT9 hk9
        have HT9 := Lib.hid HT9
        have HK9 := Lib.hid hk9
        clear HT8 hk9 hcast
        have hgb : (G.total : Int) + 1 < 70000 := by have := HWT.out; omega
        have HGT := Lib.hid hGt
        clear hGt
        try simp only [Act.put, List.setIfInBounds_toArray, List.set_cons_succ, List.set_cons_zero, List.getElem_toArray, List.getElem_cons_succ, List.getElem_cons_zero]
        go_wp2_with fail
        have HSZ := TwD.add_size (D := G) x f1
        have hB := HB.out
        refine (req_settle _ p tp _ _ (G.add x) HT9.out (by show 4 ≤ G.W; omega) (by show G.W ≤ 64; omega) (by show G.word < _; rw [hGw]; exact hword) (by show G.used ≤ 1000000; omega) (by rw [HSZ.1]; omega) (by rw [HSZ.2]; omega)).mono ?_
        rintro e w9 ⟨rfl, rv2, vs2, ht2, hm2⟩
        have HMS : Mv (fp p tp (.slice (some ⟨g, o, none⟩) G.rows.length rc) vs') wr (fp p tp (.slice (some ⟨g, o, none⟩) G.rows.length rc) (vs'.set 0 (.slice a9 (l0 + 1) c9))) _ := ⟨HK.out.trans' HK9.out (fun b hb => .inl (by simp at hb; subst hb; simp [fp])), fun b hb => by
          simp only [fp, List.mem_cons, List.mem_append, List.mem_flatMap] at hb
          rcases hb with rfl | rfl | hb | ⟨v, hv, hb⟩
          · exact .inl (by simp [fp])
          · exact .inl (by simp [fp])
          · exact .inl (HT.out.mem_rv b hb)
          · rcases List.mem_or_eq_of_mem_set hv with hv | rfl
            · exact .inl (by simp only [fp, List.mem_cons, List.mem_append, List.mem_flatMap]; exact .inr (.inr (.inr ⟨v, hv, hb⟩)))
            · exact HFR.out b (by simpa using hb)⟩
        have HMZ := Lib.hid (hm'.trans (HMS.trans hm2))
        have HT2 := Lib.hid ht2
        clear HMS hm2 ht2 t4 f4 hm' hB
        go_wp2
        exact ⟨⟨k + 1, rv2, vs2, hlt, by go_num, by rw [HS1.out]; exact HT2.out, HMZ.out⟩, by simp [intOf]; omega⟩
    · obtain rfl : k = n := by omega
      go_wp2
      go_ret
      rw [HEQ.out]
      exact ⟨rfl, rv', vs', ht', hm'⟩
end Go.Proofs.YtlcoibhbdgdfcaaGreatDoor

namespace Go.Proofs.YtlcoibhbdgdfcaaGreatDoor
open Go.RowKit

theorem aliveD_rows : ∃ r0 r1, (aliveD 4).rows = [r0, r1] ∧ r0.length = 2 ∧ r1.length = 1 := by
  have h := aliveD_end.1
  rcases hl : (aliveD 4).rows with _ | ⟨a, _ | ⟨b, _ | ⟨c, l⟩⟩⟩ <;> rw [hl] at h <;> simp at h
  exact ⟨a, b, rfl, h.1, h.2⟩
end Go.Proofs.YtlcoibhbdgdfcaaGreatDoor

namespace Go.Proofs.YtlcoibhbdgdfcaaGreatDoor
open Go.RowKit

theorem valsD_ok {l : List Vl} {W : Int} {word : Nat} (h : okV l W) (hx : ∀ v ∈ l, v.ok) : ∃ Wn : Nat, W = (Wn : Int) ∧ 4 ≤ Wn ∧ Wn ≤ 64 ∧ Wn % 4 = 0 ∧ sumS l ≤ 200 ∧ valsD W.toNat word l = valsD Wn word l ∧ (valsD Wn word l).ok Wn word (sumS l) := by
  obtain ⟨-, -, h3, h4⟩ := h
  have hg : 4 ≤ W ∧ W ≤ 64 ∧ W % 4 = 0 := by simpa [goodW] using h4
  obtain ⟨Wn, rfl⟩ := Int.eq_ofNat_of_zero_le (show 0 ≤ W by omega)
  have h5 := TwD.vals_ok (show 4 ≤ Wn by omega) l (TwD.new_ok (W := Wn) (word := word) (by omega)) (fun v hv => by have := (hx v hv).2.1; omega)
  rw [Nat.zero_add] at h5
  exact ⟨Wn, rfl, by omega, by omega, by omega, h3, rfl, h5⟩
theorem valsD_ok2 {l : List Vl} {Wn word : Nat} (h : okV l (Wn : Int)) (hW : 4 ≤ Wn) (hx : ∀ v ∈ l, v.ok) : sumS l ≤ 200 ∧ (valsD Wn word l).ok Wn word (sumS l) := by
  have h5 := TwD.vals_ok hW l (TwD.new_ok (W := Wn) (word := word) (by omega)) (fun v hv => by have := (hx v hv).2.1; omega)
  rw [Nat.zero_add] at h5
  exact ⟨h.2.2.1, h5⟩
theorem valsD_tells {l : List Vl} {Wn word : Nat} (x : Int) (hW : 4 ≤ Wn) (h4 : Wn % 4 = 0) (hx : ∀ v ∈ l, v.ok) : (valsD Wn word l).tells x (upS x l) := by
  have h := TwD.vals_tells (x := x) hW h4 l (TwD.new_ok (W := Wn) (word := word) hW) (TwD.new_tells (W := Wn) (word := word) x) (fun v hv => by have := (hx v hv).2.1; omega)
  rw [Nat.zero_add] at h
  exact h
theorem req_rankF (w : World) (p tp : Nat) (rv : Value) (vs : List Value) (D : TwD) (ht : Tow w p tp rv vs D) {W word n : Nat} (hd : D.fine W word n) (hn : n ≤ 500) (x : Int) (R : Nat) (hRR : R = rankR x D.rows) :
    Calls Tryz.prog 370 #[.pointer (some ⟨p, 0, none⟩), .int .i64 x] w fun e w' => e = .returned (.int .u64 (R : Nat)) ∧ w = w' :=
  req_rank w p tp rv vs D ht (by have := hd.flat; omega) (by have := hd.few8 hn; omega) x (by rw [hd.sum]; omega) R hRR

end Go.Proofs.YtlcoibhbdgdfcaaGreatDoor

namespace Go.Proofs.YtlcoibhbdgdfcaaGreatDoor
open Go.RowKit

theorem enters_total : ∀ (args : Array Value) (w : World), (callFunc 339 args).run Tryz.prog w = .ok (.enter 339 args) w := enters_of Tryz.func339 (by kernel_rfl) rfl
theorem enters_rows : ∀ (args : Array Value) (w : World), (callFunc 371 args).run Tryz.prog w = .ok (.enter 371 args) w := enters_of Tryz.func371 (by kernel_rfl) rfl
theorem enters_rank : ∀ (args : Array Value) (w : World), (callFunc 370 args).run Tryz.prog w = .ok (.enter 370 args) w := enters_of Tryz.func370 (by kernel_rfl) rfl
theorem TwD.tells_near {D : TwD} {x : Int} {m W word n : Nat} (hW : W % 4 = 0) (hd : D.fine W word n) (h : D.tells x m) : (max (rankR x D.rows) m - min (rankR x D.rows) m) * W ≤ 2 * n * D.rows.length := by
  obtain ⟨h1, h2⟩ := h.2
  have h3 := aboveR_le D.rows
  rw [hd.sum] at h3
  rw [hd.W_eq] at h1 h2
  have h4 : (D.rows.length - 1) * n ≤ D.rows.length * n := Nat.mul_le_mul_right _ (by omega)
  have e1 : W = 2 * (W / 2) := by omega
  have e2 : 2 * n * D.rows.length = 2 * (D.rows.length * n) := by rw [Nat.mul_assoc, Nat.mul_comm n]
  rw [e2]
  have key : (max (rankR x D.rows) m - min (rankR x D.rows) m) * (W / 2) ≤ D.rows.length * n := by
    rcases Nat.le_total (rankR x D.rows) m with h5 | h5
    · rw [Nat.max_eq_right h5, Nat.min_eq_left h5, Nat.sub_mul]; omega
    · rw [Nat.max_eq_left h5, Nat.min_eq_right h5, Nat.sub_mul]; omega
  calc _ = (max (rankR x D.rows) m - min (rankR x D.rows) m) * (2 * (W / 2)) := by rw [← e1]
    _ = 2 * ((max (rankR x D.rows) m - min (rankR x D.rows) m) * (W / 2)) := by rw [Nat.mul_left_comm]
    _ ≤ _ := by omega

end Go.Proofs.YtlcoibhbdgdfcaaGreatDoor
