/-
  The walk of (*Tower).Put. Conditions: the form's own reach.
  The walk of (*Tower).Rank. Conditions: the form's own reach.
  The walk of the reference's Up. Conditions: the form's own reach. Rows of values with counts: their cells, their sums, the walk of ogiveref13.Up. Conditions: the form's own reach.
  The document's tower in the heap: its rows are only read. Conditions: none.
  The walks of the reference's Split, Halve, Same (layer 20). Conditions: the form's own reach.
  The walks of the reference's Halve and Same (layer 20). Conditions: the form's own reach.
  The walk of the document's Settle of towers. Conditions: the form's own reach.
-/
import Derived.Test.YtlcoibhbdgdfcaaGreatDoorCoreCoinsB13
import Derived.Test.YtlcoibhbdgdfcaaGreatDoorCoreCoinsB14
import Derived.Test.YtlcoibhbdgdfcaaGreatDoorCoreCoinsB12
import Derived.Test.YtlcoibhbdgdfcaaGreatDoorCoreCoinsB4
import Derived.Test.YtlcoibhbdgdfcaaGreatDoorCoreCoinsB10
namespace Go.Proofs.YtlcoibhbdgdfcaaGreatDoor
open Go.RowKit

theorem flat_le0 {l : List (List Int)} (h : 0 < l.length) : l[0].length ≤ l.flatten.length := by
  cases l with
  | nil => simp at h
  | cons r l => simp
theorem Tow.setTotal {w : World} {p tp : Nat} {rv : Value} {vs : List Value} {D : TwD} (ht : Tow w p tp rv vs D) (t : Nat) : Tow (w.setCell ⟨p, 4, none⟩ (.int .u64 (t : Nat))) p tp rv vs { D with total := t } ∧ Chg [p] w (w.setCell ⟨p, 4, none⟩ (.int .u64 (t : Nat))) := by
  have k : Chg [p] w (w.setCell ⟨p, 4, none⟩ (.int .u64 (t : Nat))) := (Chg.refl _ w).setCell (a := ⟨p, 4, none⟩) (.inl (by simp)) _
  exact ⟨⟨ht.blk.setCell 4 _, ht.tape.chg k (by simpa using ht.ne_tape.symm), ht.own.chg k (fun b hb e => by simp at e; subst e; exact ht.p_rv hb),
      ht.rows.chg k (fun v hv b hb e => by simp at e; subst e; obtain ⟨i, hi, rfl⟩ := List.getElem_of_mem hv; exact ht.p_row i hi hb)⟩, k⟩

set_option maxRecDepth 100000 in
set_option maxHeartbeats 4000000 in
theorem req_put (w : World) (p tp : Nat) (rv : Value) (vs : List Value) (D : TwD) (ht : Tow w p tp rv vs D) (hW : 4 ≤ D.W) (hW2 : D.W ≤ 64) (hword : D.word < 18446744073709551616) (M : Nat) (hf : D.fits M) (hM : M ≤ 12000) (x : Int) (n : Nat) (h1 : 1 ≤ n) (h2 : n ≤ 1024) (hroom : D.total + n ≤ D.W * 1024) :
    Calls Tryz.prog 337 #[.pointer (some ⟨p, 0, none⟩), .int .i64 x, .int .u64 n] w fun e w' => e = .returned (.int .i64 0) ∧ ∃ rv' vs', Tow w' p tp rv' vs' ((D.ends x x).putN x n) ∧ Mv (fp p tp rv vs) w (fp p tp rv' vs') w' := by
  have HMO := Lib.hid (fun W hc => req_most W p tp rv vs D (ht.chg (F := []) hc (by simp)) hW2)
  have HEN := Lib.hid (fun W hc => req_ends W p tp rv vs D (ht.chg (F := []) hc (by simp)) x x)
  obtain ⟨c0, c1, c2, c3, c4, c5, c6⟩ := ht.cells
  have e1 : ((n : Int) == 0) = false := by rw [beq_eq_false_iff_ne]; omega
  have e2 : decide ((1024 : Int) < (n : Int)) = false := decide_eq_false (by omega)
  go_enter Tryz.func337, Tryz.ntmps337
  go_wp2_with fail
  have e3 : decide (IntKind.u64.wrap (((D.W * 1024 : Nat) : Int) - (D.total : Int)) < (n : Int)) = false := decide_eq_false (by rw [IntKind.wrap_u64]; omega)
  have e4 : IntKind.u64.wrap (((D.W * 1024 : Nat) : Int) - (D.total : Int)) = ((D.W * 1024 - D.total : Nat) : Int) := by rw [IntKind.wrap_u64]; omega
  have e5 : decide (D.W * 1024 - D.total < n) = false := decide_eq_false (by omega)
  have HWT := Lib.hid (show D.W * 1024 ≤ 65536 by omega)
  generalize D.W * 1024 = Wm at *
  go_quiet (first | (go_at_call 112; exact (HMO.out _ (by with_reducible (repeat (first | exact Chg.refl _ _ | apply Chg.drew | apply Chg.drewN)))).mono fun e w' ⟨he, hw⟩ => ⟨he, _, hw.symm⟩))
  go_wp2_with fail
  refine (HEN.out _ ((Chg.refl [] w).drewN nq)).mono ?_
  rintro e w1 ⟨rfl, ht1, hc1⟩
  have HM1 := Lib.hid (Mv.of_chg (((Chg.refl (fp p tp rv vs) w).drewN nq).trans' hc1 (fun b hb => .inl (by simp at hb; subst hb; simp [fp]))) : Mv (fp p tp rv vs) w (fp p tp rv vs) w1)
  have HD := Lib.hid (show (D.ends x x).W = D.W ∧ (D.ends x x).word = D.word ∧ (D.ends x x).total = D.total ∧ (D.ends x x).rows = D.rows ∧ (D.ends x x).used = D.used from by unfold TwD.ends; split <;> exact ⟨rfl, rfl, rfl, rfl, rfl⟩)
  have hfE : (D.ends x x).fits M := by obtain ⟨q1, q2, q3, q4, q5⟩ := HD.out; unfold TwD.fits; rw [q4, q5]; exact hf
  have HE0 : ∃ E, Hid (D.ends x x = E) := ⟨_, Lib.hid rfl⟩
  obtain ⟨E, HEQ⟩ := HE0
  rw [HEQ.out] at ht1 HD hfE
  have HF := Lib.hid hfE
  have HT1 := Lib.hid ht1
  clear ht hf hfE HMO HEN c0 c1 c2 c3 c4 c5 c6 e1 e2 e3 e4 e5 hc1 ht1
  go_wp2
  go_loopw [31] (fun i wx => ∃ (k : Nat) (rv' : Value) (vs' : List Value), k ≤ n ∧ i = .int .u64 (k : Nat) ∧ Tow wx p tp rv' vs' (E.putN x k) ∧ Mv (fp p tp rv vs) w (fp p tp rv' vs') wx) (fun i _ => n - (intOf i).toNat)
  case atStart => exact ⟨0, rv, vs, Nat.zero_le _, rfl, HT1.out, HM1.out⟩
  case round =>
    obtain ⟨k, rv', vs', hk, rfl, ht', hm'⟩ := hrel
    by_cases hlt : k < n
    · obtain ⟨w1', w2', w3'⟩ := E.putN_W x k
      have hfit := TwD.putN_fits x (by rw [HD.out.1]; exact hW) HF.out k
      have HS0 : ∃ G, Hid (E.putN x (k + 1) = G.put1 x) ∧ E.putN x k = G := ⟨_, Lib.hid rfl, rfl⟩
      obtain ⟨G, HS1, hG⟩ := HS0
      rw [hG] at hfit ht' w1' w2' w3'
      clear hG
      have hGW : G.W = D.W := w1'.trans HD.out.1
      have hGw : G.word = D.word := w2'.trans HD.out.2.1
      have hGt : G.total = D.total + k := w3'.trans (by rw [HD.out.2.2.1])
      obtain ⟨f1, f2, f3⟩ := hfit
      have hv0 : 0 < vs'.length := by rw [ht'.rows.1]; exact f1
      obtain ⟨ro, rc, hrv⟩ := ht'.own.shape
      subst hrv
      obtain ⟨g, o, cp, hsl, -, -, -⟩ := ht'.own.at1 (j := 0) f1 hv0
      simp only [Value.slice.injEq, true_and] at hsl
      obtain ⟨rfl, rfl⟩ := hsl
      obtain ⟨x0, x1, x3, -⟩ := ht'.at2 (j := 0) hv0
      have hrow := ht'.rows.2.1 0 hv0 f1
      obtain ⟨so, sc, hsv⟩ := hrow.shape
      rw [hsv] at x0 hrow
      have hrl : (G.rows[0]'f1).length ≤ 20000 := by have := flat_le0 f1; omega
      have HGET := Lib.hid (show G.rows.getD 0 [] = G.rows[0]'f1 from by rw [List.getD, List.getElem?_eq_getElem f1]; rfl)
      have HT := Lib.hid ht'
      have HSV := Lib.hid hsv
      have HROW := Lib.hid hrow
      have HHV := Lib.hid hv0
      obtain ⟨r0, hr0⟩ : ∃ r0, r0 = G.rows[0]'f1 := ⟨_, rfl⟩
      rw [← hr0] at HGET HROW hrl x0
      rw [← hr0] at HSV
      obtain ⟨l0, hl0⟩ : ∃ l0, l0 = r0.length := ⟨_, rfl⟩
      rw [← hl0] at HROW hrl x0 HSV
      have HL0 := Lib.hid hl0
      have hpos : 0 < G.rows.length := by omega
      have hpos' : (0 : Int) < (G.rows.length : Int) := by omega
      have HB := Lib.hid (show G.rows.length ≤ 20000 ∧ G.used + G.rows.flatten.length ≤ M + k ∧ 1 ≤ G.rows.length from by omega)
      simp only [Nat.add_zero] at x0 x1
      obtain ⟨z0, z1, z3, -⟩ := (HT.out.chg (F := []) (w1 := wr.alloc (.cells #[.int .i64 x] 2)) ((Chg.refl [] _).alloc _) (by simp)).at2 (j := 0) HHV.out
      rw [HSV.out] at z0
      simp only [Nat.add_zero] at z0 z1
      clear hsv hrow hr0 hl0 ht' w1' w2' w3' f2 f3
      go_wp2_with fail
      go_region_law (refine step_append_src rfl (.tmp 42) (.tmp 44) 121 121 rfl 2 _ 1 8 under_ints info_i64 rfl (by decide) (.slice so l0 sc) l0 (ints r0) rfl (HROW.out.chg (F := []) (by with_reducible (repeat (first | exact Chg.refl _ _ | apply Chg.drew | apply Chg.alloc))) (by simp)) (.slice (some ⟨wr.heap.size, 0, none⟩) 1 1) 1 (ints [x]) rfl (Src.of_rd under_ints (by first | exact Rd.lit1 wr (.int .i64 x) 2 1 | exact (Rd.lit1 wr (.int .i64 x) 2 1).chg (F := []) ((Chg.refl [] _).drew) (by simp))) (ints_oneCell _) (by unfold maxLen; omega) (by omega) ?_; intro a9 c9 w7 ho7 hg7 hf7
                     have HTA := Lib.hid (HT.out.chg (F := []) (w1 := (wr.alloc (.cells #[.int .i64 x] 2)).drew) (by with_reducible (repeat (first | exact Chg.refl _ _ | apply Chg.drew | apply Chg.alloc))) (by simp))
                     obtain ⟨y0, y1, y3⟩ := HTA.out.at3 (j := 0) HHV.out HSV.out hg7
                     simp only [Nat.add_zero] at y0 y1)
      all_goals
        have hvb : blkOf (.slice so l0 sc) = blkOf (vs'[0]'HHV.out) := by rw [HSV.out]
        have hlen9 : l0 + 1 = (r0 ++ [x]).length := by rw [List.length_append, ← HL0.out]; rfl
        have ho9 : Own w7 2 1 (.slice a9 (l0 + 1) c9) (r0 ++ [x]).length (ints (r0 ++ [x])) := by
          rw [← hlen9, ints_append]; exact ho7
        have HT8 := HTA.out.turn (j := 0) HHV.out hg7 (fun b hb => .inl (by rw [← hvb]; exact hb)) ho9 (fun i hi hne b hb e => by
          rcases hf7 b (by simpa using hb) with h1 | h1
          · rw [hvb] at h1
            exact HTA.out.rows.2.2 0 i HHV.out hi (by omega) b h1 e
          · have := HTA.out.rows.lt i hi b e; omega)
        have HADD := Lib.hid (show { G with rows := G.rows.set 0 (r0 ++ [x]), total := G.total + 1 } = G.add x from by unfold TwD.add; rw [HGET.out])
        have hk78 : Chg (fp p tp (.slice (some ⟨g, o, none⟩) G.rows.length rc) vs') wr (w7.setCell ⟨g, o, none⟩ (.slice a9 (l0 + 1) c9)) := ((((Chg.refl _ wr).alloc _).drew).trans' hg7 (fun b hb => .inl (HT.out.mem_row 0 HHV.out b (by rw [← hvb]; exact hb)))).setCell (.inl (HT.out.mem_rv g (by simp))) _
        have HFR := Lib.hid (show ∀ b ∈ abl a9, b ∈ fp p tp (.slice (some ⟨g, o, none⟩) G.rows.length rc) vs' ∨ wr.heap.size ≤ b from fun b hb => by
          rcases hf7 b (by simpa using hb) with h1 | h1
          · exact .inl (HT.out.mem_row 0 HHV.out b (by rw [← hvb]; exact h1))
          · exact .inr (by simp only [World.size_drew, World.size_alloc] at h1; omega))
        have HK := Lib.hid hk78
        simp only [Nat.add_zero] at HT8
        clear z0 z1 z3 x0 x1 x3 y0 y1 y3 HTA hk78 ho9 ho7 hg7 hf7 hvb HROW
        generalize w7.setCell ⟨g, o, none⟩ (.slice a9 (l0 + 1) c9) = w8 at *
        obtain ⟨-, -, -, -, t4, -, -⟩ := HT8.cells
        have f4 := HT8.blk.free 4
        obtain ⟨HT9, hk9⟩ := HT8.setTotal (G.total + 1)
        simp only at t4 HT9
        rw [HADD.out] at HT9
        have hcast : ((G.total + 1 : Nat) : Int) = (G.total : Int) + 1 := by push_cast; rfl
        rw [hcast] at HT9 hk9
        have HT9 := Lib.hid HT9
        have HK9 := Lib.hid hk9
        clear HT8 hk9 hcast
        have hgb : (G.total : Int) + 1 < 70000 := by have := HWT.out; omega
        have HGT := Lib.hid hGt
        clear hGt
        try simp only [Act.put, List.setIfInBounds_toArray, List.set_cons_succ, List.set_cons_zero, List.getElem_toArray, List.getElem_cons_succ, List.getElem_cons_zero]
        go_wp2_with fail
        have HSZ := TwD.add_size (D := G) x f1
        have hB := HB.out
        refine (req_settle _ p tp _ _ (G.add x) HT9.out (by show 4 ≤ G.W; omega) (by show G.W ≤ 64; omega) (by show G.word < _; rw [hGw]; exact hword) (by show G.used ≤ 1000000; omega) (by rw [HSZ.1]; omega) (by rw [HSZ.2]; omega)).mono ?_
        rintro e w9 ⟨rfl, rv2, vs2, ht2, hm2⟩
        have HMS : Mv (fp p tp (.slice (some ⟨g, o, none⟩) G.rows.length rc) vs') wr (fp p tp (.slice (some ⟨g, o, none⟩) G.rows.length rc) (vs'.set 0 (.slice a9 (l0 + 1) c9))) _ := ⟨HK.out.trans' HK9.out (fun b hb => .inl (by simp at hb; subst hb; simp [fp])), fun b hb => by
          simp only [fp, List.mem_cons, List.mem_append, List.mem_flatMap] at hb
          rcases hb with rfl | rfl | hb | ⟨v, hv, hb⟩
          · exact .inl (by simp [fp])
          · exact .inl (by simp [fp])
          · exact .inl (HT.out.mem_rv b hb)
          · rcases List.mem_or_eq_of_mem_set hv with hv | rfl
            · exact .inl (by simp only [fp, List.mem_cons, List.mem_append, List.mem_flatMap]; exact .inr (.inr (.inr ⟨v, hv, hb⟩)))
            · exact HFR.out b (by simpa using hb)⟩
        have HMZ := Lib.hid (hm'.trans (HMS.trans hm2))
        have HT2 := Lib.hid ht2
        clear HMS hm2 ht2 t4 f4 hm' hB
        go_wp2
        exact ⟨⟨k + 1, rv2, vs2, hlt, by go_num, by rw [HS1.out]; exact HT2.out, HMZ.out⟩, by simp [intOf]; omega⟩
    · obtain rfl : k = n := by omega
      go_wp2
      go_ret
      rw [HEQ.out]
      exact ⟨rfl, rv', vs', ht', hm'⟩
end Go.Proofs.YtlcoibhbdgdfcaaGreatDoor

namespace Go.Proofs.YtlcoibhbdgdfcaaGreatDoor
open Go.RowKit

theorem rankR_step (x : Int) (l : List (List Int)) (k : Nat) (h : k < l.length) : rankR x (l.take (k + 1)) = rankR x (l.take k) + 2 ^ k * upL l[k] x := by
  rw [List.take_succ_eq_append_getElem h]
  unfold rankR
  rw [wsum_app, List.length_take, Nat.min_eq_left (by omega)]
  simp [wsum]
theorem upL_step (x : Int) (l : List Int) (k : Nat) (h : k < l.length) : upL (l.take (k + 1)) x = upL (l.take k) x + if l[k] ≤ x then 1 else 0 := by
  rw [List.take_succ_eq_append_getElem h, upL_app, upL_cons]
  simp [upL]
theorem rankR_take (x : Int) (l : List (List Int)) (k : Nat) : rankR x (l.take k) ≤ rankR x l := by
  conv => rhs; rw [← List.take_append_drop k l]
  unfold rankR
  rw [wsum_app]
  omega

set_option maxRecDepth 100000 in
set_option maxHeartbeats 2000000 in
theorem req_rank (w : World) (p tp : Nat) (rv : Value) (vs : List Value) (D : TwD) (ht : Tow w p tp rv vs D) (hN : D.rows.flatten.length ≤ 100000) (hR : D.rows.length ≤ 40) (x : Int) (htot : totR D.rows ≤ 4611686018427387904) (R : Nat) (hRR : R = rankR x D.rows) :
    Calls Tryz.prog 370 #[.pointer (some ⟨p, 0, none⟩), .int .i64 x] w fun e w' => e = .returned (.int .u64 (R : Nat)) ∧ w = w' := by
  obtain ⟨-, -, -, c3, -, -, -⟩ := ht.cells
  obtain ⟨ro, rc, hrv⟩ := ht.own.shape
  subst hrv
  have HT := Lib.hid ht
  have hvl := Lib.hid (show vs.length = D.rows.length from ht.rows.1)
  have HRB := Lib.hid (fun k => show rankR x (D.rows.take k) ≤ 4611686018427387904 from Nat.le_trans (rankR_take x D.rows k) (Nat.le_trans (rankR_le x D.rows) htot))
  have HNN := Lib.hid hN
  have HRF := Lib.hid hRR
  generalize hrl : D.rows.length = n at *
  have HRL := Lib.hid hrl
  clear ht hrl hN htot hRR
  go_enter Tryz.func370, Tryz.ntmps370
  go_wp2
  go_loopw [5, 17] (fun s i wx => ∃ (k S : Nat), k ≤ n ∧ i = .int .i64 (k : Nat) ∧ s = .int .u64 (S : Nat) ∧ Hid (S = rankR x (D.rows.take k)) ∧ w = wx) (fun _ i _ => n - (intOf i).toNat)
  case atStart => exact ⟨0, 0, Nat.zero_le _, rfl, rfl, Lib.hid (by simp [rankR, wsum]), rfl⟩
  case round =>
    obtain ⟨k, S, hk, rfl, rfl, HS, hw⟩ := hrel
    subst hw
    by_cases hlt : k < n
    · have hkr : k < D.rows.length := by have := HRL.out; omega
      have hkv : k < vs.length := by have := hvl.out; have := HRL.out; omega
      obtain ⟨g, o, cp, hsl, d0, -, -⟩ := HT.out.own.at1 (j := k) hkr hkv
      rw [HRL.out] at hsl
      simp only [Value.slice.injEq, true_and] at hsl
      obtain ⟨rfl, rfl⟩ := hsl
      have hrow := HT.out.rows.2.1 k hkv hkr
      obtain ⟨so, sc, hsv⟩ := hrow.shape
      rw [hsv] at d0 hrow
      have hrn : D.rows[k].length ≤ 100000 := by
        obtain ⟨A, r, B, h1, h2⟩ := split_at hkr
        have h3 := HNN.out
        have e : D.rows[k] = r := by simp [h1, ← h2]
        rw [e]
        rw [h1] at h3
        simp at h3
        omega
      have HST := Lib.hid (rankR_step x D.rows k hkr)
      have hb1 := HRB.out (k + 1)
      rw [HST.out, ← HS.out] at hb1
      generalize D.rows[k] = r at *
      obtain ⟨m, hm⟩ : ∃ m, m = r.length := ⟨_, rfl⟩
      rw [← hm] at d0 hrow hrn
      have HM := Lib.hid hm
      have HRW := Lib.hid hrow.rd
      obtain ⟨P, hP⟩ : ∃ P, P = 2 ^ k := ⟨_, rfl⟩
      have hP64 : P ≤ 2 ^ 40 := by rw [hP]; exact Nat.pow_le_pow_right (by omega) (by omega)
      have hPw : IntKind.u64.wrap ((2 : Int) ^ k) = (P : Int) := by
        rw [hP, IntKind.wrap_u64]
        have e : ((2 : Int) ^ k) = ((2 ^ k : Nat) : Int) := by norm_cast
        rw [e, ← hP]
        have : (2 : Nat) ^ 40 = 1099511627776 := by decide
        omega
      rw [← hP] at HST hb1
      have HUB := Lib.hid (fun q (hq : q < r.length) => show S + P * upL (r.take (q + 1)) x ≤ 4611686018427387904 from Nat.le_trans (Nat.add_le_add_left (Nat.mul_le_mul_left _ (List.Sublist.countP_le (List.take_sublist _ _))) _) hb1)
      clear hsv hm hrow hP hb1 hP64
      go_wp2
      go_loopw [5, 24] (fun s i wx => ∃ (q T : Nat), q ≤ m ∧ i = .int .i64 (q : Nat) ∧ s = .int .u64 (T : Nat) ∧ Hid (T = S + P * upL (r.take q) x) ∧ w = wx) (fun _ i _ => m - (intOf i).toNat)
      case atStart => exact ⟨0, S, Nat.zero_le _, rfl, rfl, Lib.hid (by simp [upL]), rfl⟩
      case round =>
        obtain ⟨q, T, hq, rfl, rfl, HTT, hw⟩ := hrel
        subst hw
        by_cases hqm : q < m
        · have hqr : q < r.length := by have := HM.out; omega
          obtain ⟨b, o2, rfl, hcs⟩ := HRW.out.addr (by omega)
          have y0 := ints_at (l := r) (fun j hj => hcs j (by rw [HM.out]; exact hj)) q hqr
          have hus := upL_step x r q hqr
          have hub := HUB.out q hqr
          rw [hus, Nat.mul_add, ← Nat.add_assoc, ← HTT.out] at hub
          have HUS := Lib.hid hus
          generalize r[q] = y at *
          clear hcs
          by_cases hyx : y ≤ x
          · have hd : decide (y ≤ x) = true := decide_eq_true hyx
            rw [if_pos hyx] at HUS hub
            have hT2 : T + P ≤ 4611686018427387904 := by omega
            have HN := Lib.hid (show T + P = S + P * upL (r.take (q + 1)) x from by rw [HUS.out, HTT.out, Nat.mul_add]; omega)
            clear hub hus hyx
            go_wp2
            exact ⟨⟨q + 1, T + P, by omega, by go_num, by go_num, HN, by first | rfl | trivial⟩, by simp [intOf]; omega⟩
          · have hd : decide (y ≤ x) = false := decide_eq_false hyx
            rw [if_neg hyx] at HUS hub
            have HN := Lib.hid (show T = S + P * upL (r.take (q + 1)) x from by rw [HUS.out, HTT.out]; rfl)
            clear hub hus hyx
            go_wp2
            exact ⟨⟨q + 1, T, by omega, by go_num, rfl, HN, by first | rfl | trivial⟩, by simp [intOf]; omega⟩
        · obtain rfl : q = m := by omega
          have HN := Lib.hid (show T = rankR x (D.rows.take (k + 1)) from by rw [HST.out, HTT.out, HS.out, List.take_of_length_le (l := r) (by have := HM.out; omega)])
          clear HST HTT
          go_wp2
          exact ⟨⟨k + 1, T, by omega, by go_num, rfl, HN, by first | rfl | trivial⟩, by simp [intOf]; omega⟩
    · obtain rfl : k = n := by omega
      have HE := Lib.hid (show S = R from by rw [HS.out, HRF.out, List.take_of_length_le (by have := HRL.out; omega)])
      clear HS
      go_wp2
      go_ret
      rw [HE.out]
      exact ⟨rfl, rfl⟩
end Go.Proofs.YtlcoibhbdgdfcaaGreatDoor

namespace Go.Proofs.YtlcoibhbdgdfcaaGreatDoor
open Go.RowKit

end Go.Proofs.YtlcoibhbdgdfcaaGreatDoor

namespace Go.Proofs.YtlcoibhbdgdfcaaGreatDoor
open Go.RowKit
end Go.Proofs.YtlcoibhbdgdfcaaGreatDoor

namespace Go.Proofs.YtlcoibhbdgdfcaaGreatDoor
open Go.RowKit

def fpR (p : Nat) (rv : Value) (vs : List Value) : List Nat := p :: (blkOf rv ++ vs.flatMap blkOf)
namespace RT
variable {w w1 : World} {p W word used : Nat} {rv : Value} {vs : List Value} {rows : List (List Int)}
end RT
end Go.Proofs.YtlcoibhbdgdfcaaGreatDoor

namespace Go.Proofs.YtlcoibhbdgdfcaaGreatDoor
open Go.RowKit

theorem Rd.cap {w : World} {size n m c : Nat} {ao : Option Addr} {xs : List Value} (h : Rd w size (.slice ao m c) n xs) (c' : Nat) : Rd w size (.slice ao m c') n xs := by
  obtain ⟨h1, ao', cap, hv, h2⟩ := h
  simp only [Value.slice.injEq] at hv
  obtain ⟨rfl, rfl, rfl⟩ := hv
  exact ⟨h1, ao, c', rfl, h2⟩
/-- What the reference's Split hands back. -/
def SplitR (w w' : World) (l : List Int) (n m : Nat) (e : Ending) : Prop :=
  ∃ a3 c3 a4 c4, e = .returned (.tuple #[.slice a3 m c3, .slice a4 (n - m) c4]) ∧
    Rd w' 1 (.slice a3 m c3) m (ints ((sortL l).take m)) ∧ Rd w' 1 (.slice a4 (n - m) c4) (n - m) (ints ((sortL l).drop m)) ∧ Chg [] w w' ∧ (∀ b ∈ abl a3, w.heap.size ≤ b) ∧ (∀ b ∈ abl a4, w.heap.size ≤ b)

end Go.Proofs.YtlcoibhbdgdfcaaGreatDoor

namespace Go.Proofs.YtlcoibhbdgdfcaaGreatDoor
open Go.RowKit

theorem halveL_two (l : List Int) (s : Bool) (i : Nat) (h : i < l.length) (hp : decide (i % 2 = 1) = s) : halveL (l.take (i + 2)) s = halveL (l.take i) s ++ [l[i]] := by
  have h1 := halveL_step l s i h
  rw [hp, if_pos (by simp)] at h1
  by_cases h2 : i + 1 < l.length
  · have h3 := halveL_step l s (i + 1) h2
    have hp2 : decide ((i + 1) % 2 = 1) = !s := by
      rw [← hp, Bool.eq_iff_iff]
      simp
      omega
    rw [hp2, if_neg (by cases s <;> simp), List.append_nil] at h3
    rw [h3, h1]
  · rw [show l.take (i + 2) = l.take (i + 1) from by rw [List.take_of_length_le (by omega), List.take_of_length_le (by omega)], h1]

end Go.Proofs.YtlcoibhbdgdfcaaGreatDoor

namespace Go.Proofs.YtlcoibhbdgdfcaaGreatDoor
open Go.RowKit

theorem keepI_nat (n k : Nat) : keepI n (k : Int) = keepN n k := by simp [keepI]
theorem refS_mv {w0 w4 w5 w8 : World} {p g2 o2 n2 cc ix m n9 c3 c9 : Nat} {F0 : List Nat} {vsP : List Value} {a3 a9 : Option Addr}
    (hm : Mv F0 w0 (fpR p (.slice (some ⟨g2, o2, none⟩) n2 cc) vsP) w4) (h45 : Chg (fpR p (.slice (some ⟨g2, o2, none⟩) n2 cc) vsP) w4 w5) (h58 : Chg [g2] w5 w8) (hfa : ∀ b ∈ abl a3, w0.heap.size ≤ b) (hs : w0.heap.size ≤ w5.heap.size) (hf9 : ∀ b ∈ abl a9, w5.heap.size ≤ b) :
    Mv F0 w0 (fpR p (.slice (some ⟨g2, o2, none⟩) n2 cc) ((vsP.set ix (.slice a3 m c3)).set (ix + 1) (.slice a9 n9 c9))) w8 := by
  have hk := h45.trans' h58 (fun b hb => .inl (by simp at hb; subst hb; simp [fpR]))
  refine ⟨hm.chg.trans' hk hm.fr, fun b hb => ?_⟩
  simp only [fpR, List.mem_cons, List.mem_append, List.mem_flatMap] at hb
  rcases hb with rfl | hb | ⟨v, hv, hb⟩
  · exact hm.fr b (by simp [fpR])
  · exact hm.fr b (by simp only [fpR, List.mem_cons, List.mem_append]; exact .inr (.inl hb))
  · rcases List.mem_or_eq_of_mem_set hv with hv | rfl
    · rcases List.mem_or_eq_of_mem_set hv with hv | rfl
      · exact hm.fr b (by simp only [fpR, List.mem_cons, List.mem_append, List.mem_flatMap]; exact .inr (.inr ⟨v, hv, hb⟩))
      · exact .inr (hfa b (by simpa using hb))
    · exact .inr (by have := hf9 b (by simpa using hb); omega)

end Go.Proofs.YtlcoibhbdgdfcaaGreatDoor
