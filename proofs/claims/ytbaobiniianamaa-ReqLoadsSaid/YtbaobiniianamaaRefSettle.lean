/-
  The walk of the document's Settle of towers. Conditions: the form's own reach.
-/
import Derived.Test.YtbaobiniianamaaRefTower
import Derived.Test.YtbaobiniianamaaRefSplit
import Derived.Test.YtbaobiniianamaaRefHalve
import Derived.Test.YtbaobiniianamaaSettle
namespace Go.Proofs.Ytbaobiniianamaa
open Go.RowKit

theorem ref20_halve' (w : World) (ao : Option Addr) (cap n : Nat) (l : List Int) (hn : n = l.length) (s : Bool) (hr : Rd w 1 (.slice ao n cap) n (ints l)) (hl : n ≤ 1000) (H : List Int) (hH : H = halveL l s) (k : Nat) (hk : k = H.length) :
    Calls Try.prog 18 #[.slice ao n cap, .bool s] w fun e w' => ∃ a3 c3, e = .returned (.slice a3 k c3) ∧
      Own w' 2 1 (.slice a3 k c3) k (ints H) ∧ Chg [] w w' ∧ ∀ b ∈ abl a3, w.heap.size ≤ b := by
  subst hk
  subst hH
  exact ref20_halve w ao cap l n hn s hr hl
theorem keepI_nat (n k : Nat) : keepI n (k : Int) = keepN n k := by simp [keepI]
/-- The last store of a round. -/
theorem refS_tow {w4 w6 w7 : World} {p g o n c j n9 c9 W word used : Nat} {a8 a9 : Option Addr} {n8 c8 : Nat} {vs : List Value} {rows : List (List Int)} {R : List Int} (h : RT w4 p (.slice (some ⟨g, o, none⟩) n c) vs W word used rows) (hj : j < vs.length)
    (hk : Chg [] w4 w6) (hg : Chg (blkOf (.slice a8 n8 c8)) w6 w7) (hf8 : ∀ b ∈ abl a8, w4.heap.size ≤ b) (hn : n9 = R.length) (ho : Own w7 2 1 (.slice a9 n9 c9) n9 (ints R)) (hf : ∀ b ∈ abl a9, b ∈ blkOf (.slice a8 n8 c8) ∨ w6.heap.size ≤ b) :
    RT (w7.setCell ⟨g, o + j, none⟩ (.slice a9 n9 c9)) p (.slice (some ⟨g, o, none⟩) n c) (vs.set j (.slice a9 n9 c9)) W word used (rows.set j R) ∧ Chg [g] w4 (w7.setCell ⟨g, o + j, none⟩ (.slice a9 n9 c9)) ∧ ∀ b ∈ abl a9, w4.heap.size ≤ b := by
  have hs := hk.size
  have hf9 : ∀ b ∈ abl a9, w4.heap.size ≤ b := fun b hb => by
    rcases hf b hb with h1 | h1
    · exact hf8 b (by simpa using h1)
    · omega
  have hk7 : Chg [] w4 w7 := hk.trans' hg (fun b hb => .inr (hf8 b (by simpa using hb)))
  refine ⟨h.turn hj hk7 (by rw [← hn]; exact ho.rd) (fun b hb => ?_), (hk7.mono (F1 := [g]) (by simp)).setCell (a := ⟨g, o + j, none⟩) (.inl (by simp)) _, hf9⟩
  have h1 := hf9 b (by simpa using hb)
  have h2 := h.blk.lt
  have h3 := h.own.lt g (by simp)
  exact ⟨ho.lt b hb, by omega, by omega⟩

theorem refS_mv {w0 w4 w5 w8 : World} {p g2 o2 n2 cc ix m n9 c3 c9 : Nat} {F0 : List Nat} {vsP : List Value} {a3 a9 : Option Addr}
    (hm : Mv F0 w0 (fpR p (.slice (some ⟨g2, o2, none⟩) n2 cc) vsP) w4) (h45 : Chg (fpR p (.slice (some ⟨g2, o2, none⟩) n2 cc) vsP) w4 w5) (h58 : Chg [g2] w5 w8) (hfa : ∀ b ∈ abl a3, w0.heap.size ≤ b) (hs : w0.heap.size ≤ w5.heap.size) (hf9 : ∀ b ∈ abl a9, w5.heap.size ≤ b) :
    Mv F0 w0 (fpR p (.slice (some ⟨g2, o2, none⟩) n2 cc) ((vsP.set ix (.slice a3 m c3)).set (ix + 1) (.slice a9 n9 c9))) w8 := by
  have hk := h45.trans' h58 (fun b hb => .inl (by simp at hb; subst hb; simp [fpR]))
  refine ⟨hm.chg.trans' hk hm.fr, fun b hb => ?_⟩
  simp only [fpR, List.mem_cons, List.mem_append, List.mem_flatMap] at hb
  rcases hb with rfl | hb | ⟨v, hv, hb⟩
  · exact hm.fr b (by simp [fpR])
  · exact hm.fr b (by simp only [fpR, List.mem_cons, List.mem_append]; exact .inr (.inl hb))
  · rcases List.mem_or_eq_of_mem_set hv with hv | rfl
    · rcases List.mem_or_eq_of_mem_set hv with hv | rfl
      · exact hm.fr b (by simp only [fpR, List.mem_cons, List.mem_append, List.mem_flatMap]; exact .inr (.inr ⟨v, hv, hb⟩))
      · exact .inr (hfa b (by simpa using hb))
    · exact .inr (by have := hf9 b (by simpa using hb); omega)

set_option maxRecDepth 100000 in
set_option maxHeartbeats 4000000 in
set_option linter.unusedSimpArgs false in
theorem ref21_settle (w : World) (p : Nat) (rv : Value) (vs : List Value) (W word used : Nat) (rows0 : List (List Int)) (ht : RT w p rv vs W word used rows0) (hW : 4 ≤ W) (hW2 : W ≤ 64) (hword : word < 18446744073709551616) (hu : used ≤ 1000000) (hN : rows0.flatten.length ≤ 1000) (hR : rows0.length ≤ 20000) (S : Nat × List (List Int)) (hS : S = settle W (coinB word) (used, rows0)) :
    Calls Try.prog 54 #[.pointer (some ⟨p, 0, none⟩)] w fun e w' => e = .returned (.tuple #[]) ∧ ∃ rv' vs', RT w' p rv' vs' W word S.1 S.2 ∧ Mv (fpR p rv vs) w (fpR p rv' vs') w' := by
  obtain ⟨B, hB⟩ : ∃ B, B = needF 0 (used, rows0) := ⟨_, rfl⟩
  have hB1 : B ≤ 30100 := by rw [hB, needF]; simp only [List.drop_zero, Nat.sub_zero]; omega
  have HF := Lib.hid (show settleF W (coinB word) (B - 0) 0 (used, rows0) = S from by rw [hB, hS]; rfl)
  have HNB := Lib.hid (show needF 0 (used, rows0) ≤ B - 0 from by rw [hB]; exact Nat.le_refl _)
  clear hB hS
  go_enter Try.func54, Try.ntmps54
  go_wp2
  go_loopw [2] (fun i wx => ∃ (ix u : Nat) (rows : List (List Int)) (rv' : Value) (vs' : List Value), ix ≤ B ∧ i = .int .i64 (ix : Nat) ∧ RT wx p rv' vs' W word u rows ∧ Mv (fpR p rv vs) w (fpR p rv' vs') wx ∧
    u ≤ 1000000 + ix ∧ rows.flatten.length ≤ 1000 ∧ Hid (settleF W (coinB word) (B - ix) ix (u, rows) = S ∧ needF ix (u, rows) ≤ B - ix)) (fun i _ => B + 1 - (intOf i).toNat)
  case atStart => exact ⟨0, used, rows0, rv, vs, Nat.zero_le _, rfl, ht, Mv.refl _ _, by omega, hN, Lib.hid ⟨HF.out, HNB.out⟩⟩
  case round =>
    obtain ⟨ix, u, rows, rv', vs', hhB, rfl, ht', hm, hu', hN', HS⟩ := hrel
    clear ht hN hR HF HNB hu
    have hrl : rows.length ≤ 60100 := by have := HS.out.2; unfold needF at this; simp only at this; omega
    obtain ⟨c0, c1, c2, c3⟩ := ht'.cells
    have hvl : vs'.length = rows.length := ht'.len
    obtain ⟨ro, rc, hrv⟩ : ∃ ro rc, rv' = .slice ro rows.length rc := ht'.own.shape
    subst hrv
    by_cases hlt : ix < rows.length
    · obtain ⟨g, o, cp, hsl, d0, f0, hcp⟩ : ∃ g o cap, Value.slice ro rows.length rc = .slice (some ⟨g, o, none⟩) rows.length cap ∧ wr.cell? ⟨g, o + ix, none⟩ = some vs'[ix] ∧ wr.frozen? ⟨g, o + ix, none⟩ = false ∧ rows.length ≤ cap := ht'.own.at1 (j := ix) hlt (by omega)
      simp only [Value.slice.injEq, true_and] at hsl
      obtain ⟨rfl, rfl⟩ := hsl
      have hrow : Rd wr 1 vs'[ix] rows[ix].length (ints rows[ix]) := ht'.rd ix (by omega) hlt
      obtain ⟨so, sc, hsv⟩ := hrow.shape
      rw [hsv] at d0 hrow
      have HST := Lib.hid (settleF_at HS.out.1 HS.out.2 hW hlt)
      have HFL := Lib.hid (step_flat (s := (u, rows)) (coinB word) hlt (W := W))
      have hrf := flat_le hlt
      by_cases hsh : rows[ix].length < W
      · have hE := Lib.hid (show stepR W (coinB word) ix (u, rows) = (u, rows) from by unfold stepR; rw [if_pos (by simp only; rw [getD_at hlt]; exact hsh)])
        have hd : decide (rows[ix].length < W) = true := decide_eq_true hsh
        generalize rows[ix] = r at *
        clear hsv
        go_wp2
        go_quiet (fail)
        go_wp2
        refine ⟨⟨ix + 1, u, rows, _, vs', HST.out.1, by go_num, ht'.chg ((Chg.refl [] wr).drewN nq) (by simp), hm.trans (Mv.of_chg ((Chg.refl _ wr).drewN nq)), by omega, hN', Lib.hid ?_⟩, by simp [intOf]; have := HST.out.1; omega⟩
        have := HST.out.2
        rw [hE.out] at this
        exact this
      · have hd : decide (rows[ix].length < W) = false := decide_eq_false hsh
        have HR := Lib.hid hrow
        generalize hr : rows[ix] = r at *
        have HRR := Lib.hid hr
        clear hr
        go_wp2
        go_quiet (fail)
        have HT0 := Lib.hid (ht'.chg ((Chg.refl [] wr).drewN nq) (by simp))
        have HM0 := Lib.hid (hm.trans (Mv.of_chg ((Chg.refl _ wr).drewN nq)))
        have hR0 := HR.out.chg ((Chg.refl [] wr).drewN nq) (by simp)
        have d0' : (wr.drewN nq).cell? ⟨g, o + ix, none⟩ = some (.slice so r.length sc) := d0
        have f0' : (wr.drewN nq).frozen? ⟨g, o + ix, none⟩ = false := f0
        have hvl := Lib.hid hvl
        clear HR ht' hm c0 c1 c2 c3 d0 f0 hrow hd
        generalize wr.drewN nq = w0 at *
        obtain ⟨c0, c1, c2, c3⟩ := HT0.out.cells
        obtain ⟨m, hm⟩ : ∃ m, m = keepN r.length (W / 2) := ⟨_, rfl⟩
        have hq : (W : Int).tdiv 2 = ((W / 2 : Nat) : Int) := by rw [Int.tdiv_eq_ediv_of_nonneg (by omega)]; omega
        have HSP := Lib.hid (ref20_split w0.drew so sc r r.length rfl ((W / 2 : Nat) : Int) m (by rw [hm, keepI_nat]) (hR0.chg ((Chg.refl [] w0).drew) (by simp)) (by omega))
        have HM := Lib.hid hm
        have hmr : m ≤ r.length := by rw [hm]; exact (keepN_le (by omega)).2.2.1
        have hW2b : W / 2 ≤ 32 := by omega
        generalize hW2e : W / 2 = W2 at *
        have HW2E := Lib.hid hW2e
        clear hW2e
        have hww : IntKind.i64.wrap (W2 : Int) = (W2 : Int) := IntWalk.i64_in _ (by omega)
        generalize hrn : r.length = n at *
        have HRN := Lib.hid hrn
        clear hrn hm
        go_wp2_with fail
        go_cut [3, 4] (fun a b wx => ∃ a3 c3 a4 c4, a = .slice a3 m c3 ∧ b = .slice a4 (n - m) c4 ∧ Rd wx 1 (.slice a3 m c3) m (ints ((sortL r).take m)) ∧ Rd wx 1 (.slice a4 (n - m) c4) (n - m) (ints ((sortL r).drop m)) ∧ Chg [] w0 wx ∧ (∀ b ∈ abl a3, w0.heap.size ≤ b) ∧ (∀ b ∈ abl a4, w0.heap.size ≤ b))
        case first =>
          go_region_with (first | (go_at_call 15; refine HSP.out.mono ?_; rintro e w1 ⟨a3, c3, a4, c4, rfl, ho1, hb1, hc1, hfa, hfb⟩))
          all_goals
            have hcc : Chg [] w0 w1 := Chg.trans (by with_reducible (repeat (first | exact Chg.refl _ _ | apply Chg.drew))) hc1
            go_wp2_with fail
            go_meet
            exact ⟨a3, c3, a4, c4, rfl, rfl, ho1, hb1, hcc, hfa, hfb⟩
        case rest =>
          obtain ⟨a3, c3', a4, c4, rfl, rfl, ho1, hb1, hc1, hfa, hfb⟩ := hcut
          clear HSP hq hww
          rename World => w1
          have HT1 := Lib.hid (HT0.out.chg hc1 (by simp))
          obtain ⟨c0, c1, c2, c3⟩ := HT1.out.cells
          have HA := Lib.hid ho1
          have HB1 := Lib.hid hb1
          have hm0 : 0 < m := by
            have h1 := HM.out
            have h2 := HRN.out
            have h3 := HW2E.out
            rw [h1, keepN]
            split <;> omega
          have hl3 : ∀ b ∈ blkOf (.slice a3 m c3'), b < w1.heap.size := (ho1.lt (by omega)).resolve_left (by omega)
          have hsz01 := hc1.size
          have hfp0 := HT0.out.lt
          have HM01 := Lib.hid (Mv.of_chg (hc1.mono (by simp)) : Mv (fpR p (.slice (some ⟨g, o, none⟩) rows.length rc) vs') w0 (fpR p (.slice (some ⟨g, o, none⟩) rows.length rc) vs') w1)
          have HAL := Lib.hid (show ((sortL r).take m).length = m from by rw [List.length_take, (sort_ok r).2.2, HRN.out]; omega)
          have HBL := Lib.hid (show ((sortL r).drop m).length = n - m from by rw [List.length_drop, (sort_ok r).2.2, HRN.out])
          obtain ⟨H, hH⟩ : ∃ H, H = halveL ((sortL r).drop m) (coinB word u) := ⟨_, rfl⟩
          obtain ⟨k, hk⟩ : ∃ k, k = H.length := ⟨_, rfl⟩
          have hkn : k ≤ 1000 := by
            have h1 := halveL_len ((sortL r).drop m) (coinB word u)
            rw [← hH, ← hk, HBL.out] at h1
            omega
          have HHH := Lib.hid hH
          have HKK := Lib.hid hk
          have HC := Lib.hid (ref_coin w1.drew word u hword)
          have HHV := Lib.hid (ref20_halve' w1.drew a4 c4 (n - m) ((sortL r).drop m) HBL.out.symm (coinB word u) hb1 (by omega) H hH k hk)
          clear ho1 hb1 HT0 hc1 hR0 d0' f0' hH hk
          go_wp2_with fail
          go_cut [5] (fun a wx => ∃ a5 c5, a = .slice a5 k c5 ∧ Rd wx 1 (.slice a5 k c5) k (ints H) ∧ Chg [] w1 wx ∧ (∀ b ∈ abl a5, w1.heap.size ≤ b) ∧ (∀ b ∈ abl a5, b < wx.heap.size))
          case first =>
            go_region_with (first | (go_at_call 67; refine HC.out.mono ?_; rintro e w2 ⟨rfl, rfl⟩) | (go_at_call 18; refine HHV.out.mono ?_; rintro e w2 ⟨a5, c5, rfl, ho5, hc5, hf5⟩))
            all_goals
              have hcc : Chg [] w1 w2 := Chg.trans (by with_reducible (repeat (first | exact Chg.refl _ _ | apply Chg.drew))) hc5
              go_wp2_with fail
              go_meet
              exact ⟨a5, c5, rfl, ho5.rd, hcc, hf5, fun b hb => ho5.lt b (by simpa using hb)⟩
          case rest =>
            obtain ⟨a5, c5, rfl, ho5, hc5, hf5, hl5⟩ := hcut
            clear HC HHV c0 c1 c2 c3
            rename World => w2
            have hwu : IntKind.i64.wrap ((u : Int) + 1) = (u : Int) + 1 := IntWalk.i64_in _ (by omega)
            have HT2 := Lib.hid (show RT (w2.setCell ⟨p, 2, none⟩ (.int .i64 ((u : Int) + 1))) p _ vs' W word (u + 1) rows from (HT1.out.chg hc5 (by simp)).setUsed (u + 1))
            have HC2 := Lib.hid (show Chg [p] w1 (w2.setCell ⟨p, 2, none⟩ (.int .i64 ((u : Int) + 1))) from (hc5.mono (F1 := [p]) (by simp)).setCell (a := ⟨p, 2, none⟩) (.inl (by simp)) _)
            have hpr := HT1.out.p_rv
            have H5 := Lib.hid (show Rd (w2.setCell ⟨p, 2, none⟩ (.int .i64 ((u : Int) + 1))) 1 (.slice a5 k c5) k (ints H) from ho5.chg (F := [p]) ((Chg.refl _ w2).setCell (a := ⟨p, 2, none⟩) (.inl (by simp)) _) (fun b hb e => by
              simp at e; subst e
              have h1 := hf5 b (by simpa using hb)
              have h2 := HT1.out.blk.lt
              omega))
            obtain ⟨c0, c1, c2, c3⟩ := (HT1.out.chg hc5 (by simp)).cells
            have hfr2 := (HT1.out.chg hc5 (by simp)).blk.free 2
            have hwl : IntKind.i64.wrap ((rows.length : Int) - 1) = (rows.length : Int) - 1 := IntWalk.i64_in _ (by omega)
            have hl3' := hl3
            clear ho5
            go_upto_if 69 with (fail)
            have HL5 := Lib.hid hl5
            have HSZ5 := Lib.hid (show (w2.setCell ⟨p, 2, none⟩ (.int .i64 ((u : Int) + 1))).heap.size = w2.heap.size from by simp [World.setCell])
            clear c0 c1 c2 c3 hfr2 hpr
            generalize w2.setCell ⟨p, 2, none⟩ (.int .i64 ((u : Int) + 1)) = w3 at *
            clear hc5
            obtain ⟨c0, c1, c2, c3⟩ := HT2.out.cells
            have hfr3 := HT2.out.blk.free 3
            have hvl1 := hvl.out
            have hoc : ∀ y ∈ [Value.slice none 0 0], y.oneCell' = true := fun y hy => by simp at hy; subst hy; rfl
            obtain ⟨rowsP, hrowsP⟩ : ∃ z, z = (if ix + 1 = rows.length then rows ++ [[]] else rows) := ⟨_, rfl⟩
            obtain ⟨vsP, hvsP⟩ : ∃ z, z = (if ix + 1 = rows.length then vs' ++ [.slice none 0 0] else vs') := ⟨_, rfl⟩
            go_cut [3, 5] (fun a b wx => ∃ rv2, a = .slice a3 m c3' ∧ b = .slice a5 k c5 ∧ RT wx p rv2 vsP W word (u + 1) rowsP ∧ Mv (fpR p (.slice (some ⟨g, o, none⟩) rows.length rc) vs') w3 (fpR p rv2 vsP) wx)
            case first =>
              by_cases hlast : ix + 1 = rows.length
              · rw [if_pos hlast] at hrowsP hvsP
                have hlb : ((ix : Int) == (rows.length : Int) - 1) = true := by rw [beq_iff_eq]; omega
                have hrd : Rd (w3.alloc (.cells #[.slice none 0 0] 22)) 1 (.slice (some ⟨w3.heap.size, 0, none⟩) 1 1) 1 [.slice none 0 0] := Rd.lit1 w3 (.slice none 0 0) 22 1
                have hrl1 : rows.length + 1 ≤ 60101 := by omega
                clear hlast
                go_wp2_with (at_builtin; go_must (refine wpList_append_src _ rfl (.tmp 74) (.tmp 75) 47 47 rfl 22 _ 1 24 under_rowsT info_intsT rfl (by decide) (.slice (some ⟨g, o, none⟩) rows.length rc) rows.length vs' rfl (HT2.out.own.alloc _) (.slice (some ⟨w3.heap.size, 0, none⟩) 1 1) 1 [.slice none 0 0] rfl (Src.of_rd under_rowsT hrd) hoc (by unfold maxLen; omega) (by omega) ?_; intro a6 c6 w4 ho4 hg4 hf4; have HG4 := Lib.hid ((HT2.out.blk.alloc (.cells #[.slice none 0 0] 22)).chg hg4 (HT2.out.p_rv)); have z3 := HG4.out.cell 3; have zf := HG4.out.free 3))
                go_meet
                have hk2 : Chg (blkOf (.slice (some ⟨g, o, none⟩) rows.length rc)) w3 w4 := ((Chg.refl _ w3).alloc _).trans' hg4 (fun b hb => .inl hb)
                refine ⟨.slice a6 (rows.length + 1) c6, rfl, rfl, ?_, ?_, ?_⟩
                · rw [hrowsP, hvsP]
                  refine HT2.out.push hk2 ho4 (fun b hb => ?_)
                  rcases hf4 b (by simpa using hb) with h | h
                  · exact .inl h
                  · simp at h; right; omega
                · exact (hk2.mono (fun b hb => .inl (HT2.out.mem_rv b hb))).setCell (a := ⟨p, 3, none⟩) (.inl (by simp [fpR])) _
                · intro b hb
                  rw [hvsP] at hb
                  simp only [fpR, List.flatMap_append, List.flatMap_cons, List.flatMap_nil, List.append_nil, List.mem_cons, List.mem_append, blkOf_slice] at hb ⊢
                  rcases hb with rfl | hb | hb | hb
                  · simp
                  · rcases hf4 b hb with h | h
                    · simp at h; simp [h]
                    · simp at h; right; omega
                  · exact .inl (.inr (.inr hb))
                  · simp at hb
              · rw [if_neg hlast] at hrowsP hvsP
                have hlb : ((ix : Int) == (rows.length : Int) - 1) = false := by rw [beq_eq_false_iff_ne]; omega
                subst hrowsP hvsP
                go_wp2
                go_meet
                exact ⟨_, rfl, rfl, HT2.out, Mv.refl _ _⟩
            case rest =>
              rename World => w4
              obtain ⟨rv2, rfl, rfl, HT4, HM4⟩ := hcut
              have hPl := Lib.hid (show vsP.length = rowsP.length from HT4.len)
              have hixP : ix + 1 < rowsP.length := by
                rw [hrowsP]; split
                · simp; omega
                · omega
              have hixr : rowsP.length ≤ 60101 := by
                rw [hrowsP]; split
                · simp; omega
                · omega
              have hfp3 : ∀ b ∈ abl a3, b ∉ fpR p rv2 vsP := fun b hb hf => by
                have h0 := hsz01
                have h9 := HC2.out.size
                rcases HM4.fr b hf with h1 | h1
                · have := hfp0 b h1; have := hfa b hb; omega
                · have := hl3 b (by simpa using hb); omega
              have hsz34 := HM4.chg.size
              have hsz13 := HC2.out.size
              have hsz5 := HSZ5.out
              have hA4 : Rd w4 1 (.slice a3 m c3') m (ints ((sortL r).take m)) := (HA.out.chg HC2.out (fun b hb e => by simp at e; subst e; have := HT1.out.blk.lt; have := hfp0 b (by simp [fpR]); have := hfa b (by simpa using hb); omega)).chg HM4.chg (fun b hb e => by have := hfp0 b e; have := hfa b (by simpa using hb); omega)
              have hB4 : Rd w4 1 (.slice a5 k c5) k (ints H) := H5.out.chg HM4.chg (fun b hb e => by have := hfp0 b e; have := hf5 b (by simpa using hb); omega)
              obtain ⟨g2, o2, cc, rfl, e0, e1, hcc⟩ : ∃ g o cap, rv2 = .slice (some ⟨g, o, none⟩) rowsP.length cap ∧ w4.cell? ⟨g, o + ix, none⟩ = some (vsP[ix]'(by have := hPl.out; omega)) ∧ w4.frozen? ⟨g, o + ix, none⟩ = false ∧ rowsP.length ≤ cap := HT4.own.at1 (j := ix) (show ix < rowsP.length by omega) (by have := hPl.out; omega)
              obtain ⟨-, -, -, c3⟩ := HT4.cells
              have HT5 := Lib.hid (HT4.turn (j := ix) (by have := hPl.out; omega) (Chg.refl [] w4) (v := .slice a3 m c3') (r := (sortL r).take m) (by rw [HAL.out]; exact hA4) (fun b hb => by
                have h3 := hfp3 b (by simpa using hb)
                have h4 := hl3 b hb
                simp only [fpR, List.mem_cons, List.mem_append, blkOf_some, List.mem_singleton, List.mem_flatMap, not_or] at h3
                exact ⟨by omega, h3.1, h3.2.1.1⟩))
              have hB5 := hB4.chg (w1 := w4.setCell ⟨g2, o2 + ix, none⟩ (.slice a3 m c3')) (F := [g2]) ((Chg.refl _ w4).setCell (.inl (by simp)) _) (fun b hb e => by
                simp at e; subst e
                have h1 := HM4.fr b (HT4.mem_rv b (by simp))
                have h2 := hf5 b (by simpa using hb)
                have h3 := HL5.out b (by simpa using hb)
                rcases h1 with h1 | h1
                · have := hfp0 b h1; omega
                · omega)
              have HCH5 := Lib.hid (show Chg (fpR p (.slice (some ⟨g2, o2, none⟩) rowsP.length cc) vsP) w4 (w4.setCell ⟨g2, o2 + ix, none⟩ (.slice a3 m c3')) from (Chg.refl _ w4).setCell (.inl (HT4.mem_rv g2 (by simp))) _)
              have HMM := Lib.hid (HM01.out.trans ((show Mv _ w1 _ w3 from Mv.of_chg (HC2.out.mono (fun b hb => .inl (by simp at hb; subst hb; simp [fpR])))).trans HM4))
              have HMM2 := Lib.hid (show ∀ b ∈ abl a3, w0.heap.size ≤ b from hfa)
              have hixi : (ix : Int) < (rowsP.length : Int) := by omega
              have HRP := Lib.hid hrowsP
              have HVP := Lib.hid hvsP
              clear hrowsP hvsP HA hA4 HT1 HT2 hrl hcp hfr3 hoc hvl1 hfp3 hl3 hl3' hl5 hwl hwu hB4 c0 c1 c2
              go_wp2_with fail
              have hsz45 : (w4.setCell ⟨g2, o2 + ix, none⟩ (.slice a3 m c3')).heap.size = w4.heap.size := by simp [World.setCell]
              generalize w4.setCell ⟨g2, o2 + ix, none⟩ (.slice a3 m c3') = w5 at *
              have q3 : w5.cell? ⟨p, 3, none⟩ = some (.slice (some ⟨g2, o2, none⟩) rowsP.length cc) := HT5.out.cells.2.2.2
              have hlen5 : (rowsP.set ix ((sortL r).take m)).length = rowsP.length := by simp
              have hvl5 : (vsP.set ix (Value.slice a3 m c3')).length = rowsP.length := by rw [List.length_set]; exact hPl.out
              have hrow1 : Rd w5 1 (vsP.set ix (Value.slice a3 m c3'))[ix + 1] ((rowsP.set ix ((sortL r).take m))[ix + 1]'(by omega)).length (ints ((rowsP.set ix ((sortL r).take m))[ix + 1]'(by omega))) := HT5.out.rd (ix + 1) (by omega) (by omega)
              obtain ⟨so1, sc1, hsv1⟩ := hrow1.shape
              rw [hsv1] at hrow1
              obtain ⟨r1, hr1⟩ : ∃ z, z = (rowsP.set ix ((sortL r).take m))[ix + 1]'(by omega) := ⟨_, rfl⟩
              rw [← hr1] at hrow1 hsv1
              obtain ⟨l1, hl1⟩ : ∃ z, z = r1.length := ⟨_, rfl⟩
              rw [← hl1] at hrow1 hsv1
              have hr1N : l1 ≤ 1000 := by
                have h1 : r1.length ≤ rows.flatten.length := by
                  rw [hr1, List.getElem_set_ne (by omega)]
                  by_cases hla : ix + 1 = rows.length
                  · have e1 := HRP.out
                    rw [if_pos hla] at e1
                    subst e1
                    rw [List.getElem_append_right (by omega)]
                    simp
                  · have e1 := HRP.out
                    rw [if_neg hla] at e1
                    subst e1
                    exact flat_le _
                omega
              have HJ4 := Lib.hid (show ix + 1 < (vsP.set ix (Value.slice a3 m c3')).length from by omega)
              obtain ⟨x0, x1, -⟩ := HT5.out.at2v (j := ix + 1) HJ4.out hsv1
              have HR1 := Lib.hid hr1
              have HL1 := Lib.hid hl1
              have HROW1 := Lib.hid hrow1
              have HB5 := Lib.hid hB5
              have HSZ := Lib.hid (show w3.heap.size ≤ w5.heap.size from by omega)
              have HSZW := Lib.hid (show w0.heap.size ≤ w5.heap.size from by omega)
              have hwi : IntKind.i64.wrap ((ix : Int) + 1) = (ix : Int) + 1 := IntWalk.i64_in _ (by omega)
              have hix2 : (0 : Int) ≤ (ix : Int) + 1 := by omega
              have hix3 : (ix : Int) + 1 < (rowsP.length : Int) := by omega
              have HE := Lib.hid (stepR_eq (W := W) (c := coinB word) (u := u) (m := m) hlt HRR.out (by rw [HRN.out]; exact hsh) (by rw [HRN.out, HW2E.out]; exact HM.out) HRP.out hixP)
              have HE8 := HE.out
              rw [← HR1.out, ← HHH.out] at HE8
              have hst := HST.out
              rw [HE8] at hst
              have hfl := HFL.out
              rw [HE8] at hfl
              have HST9 := Lib.hid hst
              have HFL9 := Lib.hid (Nat.le_trans hfl hN')
              have hvl6 := Lib.hid hvl5
              have hlen6 := Lib.hid hlen5
              have HSV1 := Lib.hid hsv1
              have HFA := Lib.hid hfa
              have HFP0 := Lib.hid hfp0
              have HFB := Lib.hid hfb
              have HF5 := Lib.hid hf5
              have hlk1 : 0 + l1 ≤ maxLen := by unfold maxLen; omega
              have hlk : 0 + l1 + k ≤ maxLen := by unfold maxLen; omega
              have hlk18 : (0 + l1) * 8 ≤ 140737488355328 := by omega
              have hlk8 : (0 + l1 + k) * 8 ≤ 140737488355328 := by omega
              clear HE8 hst hfl hl1 hr1 hrow1 hB5 hsv1 e0 e1 c3 hfa hfp0 hfb hf5 hsz45 hsz34 hsz13 hsz01 hsz5 hvl hixi
              refine wp_region_held_drew (S := (fun wx => wx.cell? ⟨p, 3, none⟩ = some (.slice (some ⟨g2, o2, none⟩) rowsP.length cc))) (by kernel_rfl) q3 (fun hHeld => ?_)
              refine takeL (i := 0) (v := ?v0) rfl (by kernel_rfl) (by kernel_rfl) (by kernel_rfl) (fun _ _ _ h => h) (Or.inl ⟨by rfl, ?y0⟩) (by assumption) ?r0
              case y0 => (intro w hSw; (try dsimp only at hSw); go_simp; first | done | with_reducible rfl)
              try simp only [Act.put, List.setIfInBounds_toArray, List.set_cons_zero, List.set_cons_succ]
              refine takeL (i := 1) (v := ?v1) rfl (by kernel_rfl) (by kernel_rfl) (by kernel_rfl) (fun _ _ _ h => h) (Or.inl ⟨by rfl, ?y1⟩) (by assumption) ?r1
              case y1 => (intro w hSw; (try dsimp only at hSw); go_simp; first | done | with_reducible rfl)
              try simp only [Act.put, List.setIfInBounds_toArray, List.set_cons_zero, List.set_cons_succ]
              refine takeL (i := 2) (v := ?v2) rfl (by kernel_rfl) (by kernel_rfl) (by kernel_rfl) (fun _ _ _ h => h) (Or.inl ⟨by rfl, ?y2⟩) (by assumption) ?r2
              case y2 => (intro w hSw; (try dsimp only at hSw); go_simp; first | done | with_reducible rfl)
              try simp only [Act.put, List.setIfInBounds_toArray, List.set_cons_zero, List.set_cons_succ]
              refine takeL (i := 3) (v := ?v3) rfl (by kernel_rfl) (by kernel_rfl) (by kernel_rfl) (fun _ _ _ h => h) (Or.inl ⟨by rfl, ?y3⟩) (by assumption) ?r3
              case y3 => (intro w hSw; (try dsimp only at hSw); go_simp; first | done | with_reducible rfl)
              try simp only [Act.put, List.setIfInBounds_toArray, List.set_cons_zero, List.set_cons_succ]
              refine takeL (i := 4) (v := ?v4) rfl (by kernel_rfl) (by kernel_rfl) (by kernel_rfl) (fun _ _ _ h => h) (Or.inl ⟨by rfl, ?y4⟩) (by assumption) ?r4
              case y4 => (intro w hSw; (try dsimp only at hSw); go_simp; first | done | with_reducible rfl)
              try simp only [Act.put, List.setIfInBounds_toArray, List.set_cons_zero, List.set_cons_succ]
              refine takeL (i := 5) (v := ?v5) rfl (by kernel_rfl) (by kernel_rfl) (by kernel_rfl) (fun _ _ _ h => h) (Or.inl ⟨by rfl, ?y5⟩) (by assumption) ?r5
              case y5 => (intro w hSw; (try dsimp only at hSw); go_simp; first | done | with_reducible rfl)
              try simp only [Act.put, List.setIfInBounds_toArray, List.set_cons_zero, List.set_cons_succ]
              refine takeL (i := 7) (v := ?v7) rfl (by kernel_rfl) (by kernel_rfl) (by kernel_rfl) (fun _ _ _ h => h) (Or.inl ⟨by rfl, ?y7⟩) (by assumption) ?r7
              case y7 => (intro w hSw; (try dsimp only at hSw); go_simp; first | done | with_reducible rfl)
              try simp only [Act.put, List.setIfInBounds_toArray, List.set_cons_zero, List.set_cons_succ]
              refine takeL (i := 8) (v := ?v8) rfl (by kernel_rfl) (by kernel_rfl) (by kernel_rfl) (fun _ _ _ h => h) (Or.inl ⟨by rfl, ?y8⟩) (by assumption) ?r8
              case y8 => (intro w hSw; (try dsimp only at hSw); go_simp; first | done | with_reducible rfl)
              try simp only [Act.put, List.setIfInBounds_toArray, List.set_cons_zero, List.set_cons_succ]
              refine takeL (i := 9) (v := ?v9) rfl (by kernel_rfl) (by kernel_rfl) (by kernel_rfl) (fun _ _ _ h => h) (Or.inl ⟨by rfl, ?y9⟩) (by assumption) ?r9
              case y9 => (intro w hSw; (try dsimp only at hSw); go_simp; first | done | with_reducible rfl)
              try simp only [Act.put, List.setIfInBounds_toArray, List.set_cons_zero, List.set_cons_succ]
              refine takeL (i := 10) (v := ?v10) rfl (by kernel_rfl) (by kernel_rfl) (by kernel_rfl) (fun _ _ _ h => h) (Or.inl ⟨by rfl, ?y10⟩) (by assumption) ?r10
              case y10 => (intro w hSw; (try dsimp only at hSw); go_simp; first | done | with_reducible rfl)
              try simp only [Act.put, List.setIfInBounds_toArray, List.set_cons_zero, List.set_cons_succ]
              refine takeL (i := 11) (v := ?v11) rfl (by kernel_rfl) (by kernel_rfl) (by kernel_rfl) (fun _ _ _ h => h) (Or.inl ⟨by rfl, ?y11⟩) (by assumption) ?r11
              case y11 => (intro w hSw; (try dsimp only at hSw); go_simp; first | done | with_reducible rfl)
              try simp only [Act.put, List.setIfInBounds_toArray, List.set_cons_zero, List.set_cons_succ]
              refine takeL (i := 12) (v := ?v12) rfl (by kernel_rfl) (by kernel_rfl) (by kernel_rfl) (fun _ _ _ h => h) (Or.inl ⟨by rfl, ?y12⟩) (by assumption) ?r12
              case y12 => (intro w hSw; (try dsimp only at hSw); go_simp; first | done | with_reducible rfl)
              try simp only [Act.put, List.setIfInBounds_toArray, List.set_cons_zero, List.set_cons_succ]
              refine takeL (i := 13) (v := ?v13) rfl (by kernel_rfl) (by kernel_rfl) (by kernel_rfl) (fun _ _ _ h => h) (Or.inl ⟨by rfl, ?y13⟩) (by assumption) ?r13
              case y13 => (intro w hSw; (try dsimp only at hSw); go_simp; first | done | with_reducible rfl)
              try simp only [Act.put, List.setIfInBounds_toArray, List.set_cons_zero, List.set_cons_succ]
              refine takeL (i := 16) (v := ?v16) rfl (by kernel_rfl) (by kernel_rfl) (by kernel_rfl) (fun _ _ _ h => h) (Or.inl ⟨by rfl, ?y16⟩) (by assumption) ?r16
              case y16 => (intro w hSw; (try dsimp only at hSw); go_simp; first | done | with_reducible rfl)
              try simp only [Act.put, List.setIfInBounds_toArray, List.set_cons_zero, List.set_cons_succ]
              refine wpAnyH_ready (rs := [6, 14]) (by kernel_rfl) (by simp) (consL rfl (fun K hK => ?_) (consL rfl (fun K hK => ?_) AllReadyH.nil))
              · skip
                go_simp
                have HX := Lib.hid (show Chg [] w5 (w5.drew.alloc (.cells #[] 2)) from ((Chg.refl [] w5).drew).alloc _)
                have HO6 := Lib.hid (show Own (w5.drew.alloc (.cells #[] 2)) 2 1 (.slice (some ⟨w5.heap.size, 0, none⟩) 0 0) 0 (ints []) from Own.lit w5.drew 2 1 0 #[] rfl (by decide))
                have HT6 := Lib.hid (HT5.out.chg HX.out (by simp))
                have q3' := HT6.out.cells.2.2.2
                obtain ⟨x0', x1', -⟩ := HT6.out.at2v (j := ix + 1) HJ4.out HSV1.out
                have x0'' : (w5.alloc (.cells #[] 2)).cell? ⟨g2, o2 + (ix + 1), none⟩ = some (.slice so1 l1 sc1) := x0'
                refine hK.out _ _ q3' (fun hHeld => ?_)
                clear hK K
                try simp only [Act.put, List.setIfInBounds_toArray, List.set_cons_zero, List.set_cons_succ]
                refine wpAnyH_ready (rs := [14]) (by kernel_rfl) (by simp) (consL rfl (fun K hK => ?_) AllReadyH.nil)
                go_simp
                refine hK.out _ _ q3' (fun hHeld => ?_)
                clear hK K
                try simp only [Act.put, List.setIfInBounds_toArray, List.set_cons_zero, List.set_cons_succ]
                refine wpAnyH_ready (rs := [15]) (by kernel_rfl) (by simp) (consL rfl (fun K hK => ?_) AllReadyH.nil)
                refine step_append_src rfl (.tmp 92) (.tmp 100) 22 22 rfl 2 _ 1 8 under_ints info_i64 rfl (by decide) (.slice (some ⟨w5.heap.size, 0, none⟩) 0 0) 0 (ints []) rfl HO6.out (.slice so1 l1 sc1) l1 (ints r1) rfl (Src.of_rd under_ints (HROW1.out.chg HX.out (by simp))) (ints_oneCell _) hlk1 hlk18 ?_; intro a7 c7 w7 ho7 hg7 hf7
                have HX7 := Lib.hid (show Chg [] w5 w7 from HX.out.trans' hg7 (fun b hb => .inr (by simp at hb; subst hb; exact Nat.le_refl _)))
                have HF7 := Lib.hid (show ∀ b ∈ abl a7, w5.heap.size ≤ b from fun b hb => (hf7 b hb).elim (fun h => by simp at h; omega) (fun h => by simp at h; omega))
                have HT7 := Lib.hid (HT5.out.chg HX7.out (by simp))
                have q3'' := HT7.out.cells.2.2.2
                refine hK.out _ _ q3'' (fun hHeld => ?_)
                clear hK K
                try simp only [Act.put, List.setIfInBounds_toArray, List.set_cons_zero, List.set_cons_succ]
                refine wpAnyH_ready (rs := [17]) (by kernel_rfl) (by simp) (consL rfl (fun K hK => ?_) AllReadyH.nil)
                refine step_append_src rfl (.tmp 101) (.tmp 102) 22 22 rfl 2 _ 1 8 under_ints info_i64 rfl (by decide) (.slice a7 (0 + l1) c7) (0 + l1) (ints [] ++ ints r1) rfl ho7 (.slice a5 k c5) k (ints H) rfl (Src.of_rd under_ints (HB5.out.chg HX7.out (by simp))) (ints_oneCell _) hlk hlk8 ?_; intro a9 c9 w9 ho9 hg9 hf9
                have HX9 := Lib.hid (show Chg [] w5 w9 from HX7.out.trans' hg9 (fun b hb => .inr (HF7.out b (by simpa using hb))))
                have HT9 := Lib.hid (HT5.out.chg HX9.out (by simp))
                have q3''' := HT9.out.cells.2.2.2
                obtain ⟨z0, z1, -⟩ := HT9.out.at2v (j := ix + 1) HJ4.out HSV1.out
                refine hK.out _ _ q3''' (fun hHeld => ?_)
                clear hK K
                try simp only [Act.put, List.setIfInBounds_toArray, List.set_cons_zero, List.set_cons_succ]
                refine wpAnyH_ready (rs := [18]) (by kernel_rfl) (by simp) (consL rfl (fun K hK => ?_) AllReadyH.nil)
                go_simp
                refine hK.out _ _ q3''' (fun hHeld => ?_)
                clear hK K
                try simp only [Act.put, List.setIfInBounds_toArray, List.set_cons_zero, List.set_cons_succ]
                refine wpAnyH_ready (rs := [19]) (by kernel_rfl) (by simp) (consL rfl (fun K hK => ?_) AllReadyH.nil)
                go_simp
                obtain ⟨hT, hC, hF9⟩ := refS_tow (R := r1 ++ H) (n9 := l1 + k) (c9 := c9) (a9 := a9) HT5.out HJ4.out HX7.out hg9 HF7.out (by rw [List.length_append, ← HL1.out, ← HKK.out]) (by have h := ho9; rw [Nat.zero_add] at h; rw [ints_append]; exact h) hf9
                have HT8 := Lib.hid hT
                refine hK.out _ _ HT8.out.cells.2.2.2 (fun hHeld => ?_)
                clear hK K
                try simp only [Act.put, List.setIfInBounds_toArray, List.set_cons_zero, List.set_cons_succ]
                refine wpAnyH_done (by kernel_rfl) ?_ _
                have HMX := Lib.hid (refS_mv (ix := ix) (m := m) (c3 := c3') (n9 := l1 + k) (c9 := c9) HMM.out HCH5.out hC HFA.out HSZW.out hF9)
                clear ho7 hg7 hf7 ho9 hg9 hf9 hT hC hF9 z0 z1
                try simp only [Act.put, List.setIfInBounds_toArray, List.set_cons_succ, List.set_cons_zero, List.getElem_toArray, List.getElem_cons_succ, List.getElem_cons_zero]
                go_wp2
                exact ⟨⟨ix + 1, u + 1, (rowsP.set ix ((sortL r).take m)).set (ix + 1) (r1 ++ H), _, _, HST9.out.1, by go_num, HT8.out, HM0.out.trans HMX.out, by omega, HFL9.out, Lib.hid HST9.out.2⟩, by simp [intOf]; have := HST9.out.1; omega⟩
              · go_simp
                refine hK.out _ _ q3 (fun hHeld => ?_)
                clear hK K
                try simp only [Act.put, List.setIfInBounds_toArray, List.set_cons_zero, List.set_cons_succ]
                refine wpAnyH_ready (rs := [6]) (by kernel_rfl) (by simp) (consL rfl (fun K hK => ?_) AllReadyH.nil)
                go_simp
                have HX := Lib.hid (show Chg [] w5 (w5.drew.alloc (.cells #[] 2)) from ((Chg.refl [] w5).drew).alloc _)
                have HO6 := Lib.hid (show Own (w5.drew.alloc (.cells #[] 2)) 2 1 (.slice (some ⟨w5.heap.size, 0, none⟩) 0 0) 0 (ints []) from Own.lit w5.drew 2 1 0 #[] rfl (by decide))
                have HT6 := Lib.hid (HT5.out.chg HX.out (by simp))
                have q3' := HT6.out.cells.2.2.2
                obtain ⟨x0', x1', -⟩ := HT6.out.at2v (j := ix + 1) HJ4.out HSV1.out
                have x0'' : (w5.alloc (.cells #[] 2)).cell? ⟨g2, o2 + (ix + 1), none⟩ = some (.slice so1 l1 sc1) := x0'
                refine hK.out _ _ q3' (fun hHeld => ?_)
                clear hK K
                try simp only [Act.put, List.setIfInBounds_toArray, List.set_cons_zero, List.set_cons_succ]
                refine wpAnyH_ready (rs := [15]) (by kernel_rfl) (by simp) (consL rfl (fun K hK => ?_) AllReadyH.nil)
                refine step_append_src rfl (.tmp 92) (.tmp 100) 22 22 rfl 2 _ 1 8 under_ints info_i64 rfl (by decide) (.slice (some ⟨w5.heap.size, 0, none⟩) 0 0) 0 (ints []) rfl HO6.out (.slice so1 l1 sc1) l1 (ints r1) rfl (Src.of_rd under_ints (HROW1.out.chg HX.out (by simp))) (ints_oneCell _) hlk1 hlk18 ?_; intro a7 c7 w7 ho7 hg7 hf7
                have HX7 := Lib.hid (show Chg [] w5 w7 from HX.out.trans' hg7 (fun b hb => .inr (by simp at hb; subst hb; exact Nat.le_refl _)))
                have HF7 := Lib.hid (show ∀ b ∈ abl a7, w5.heap.size ≤ b from fun b hb => (hf7 b hb).elim (fun h => by simp at h; omega) (fun h => by simp at h; omega))
                have HT7 := Lib.hid (HT5.out.chg HX7.out (by simp))
                have q3'' := HT7.out.cells.2.2.2
                refine hK.out _ _ q3'' (fun hHeld => ?_)
                clear hK K
                try simp only [Act.put, List.setIfInBounds_toArray, List.set_cons_zero, List.set_cons_succ]
                refine wpAnyH_ready (rs := [17]) (by kernel_rfl) (by simp) (consL rfl (fun K hK => ?_) AllReadyH.nil)
                refine step_append_src rfl (.tmp 101) (.tmp 102) 22 22 rfl 2 _ 1 8 under_ints info_i64 rfl (by decide) (.slice a7 (0 + l1) c7) (0 + l1) (ints [] ++ ints r1) rfl ho7 (.slice a5 k c5) k (ints H) rfl (Src.of_rd under_ints (HB5.out.chg HX7.out (by simp))) (ints_oneCell _) hlk hlk8 ?_; intro a9 c9 w9 ho9 hg9 hf9
                have HX9 := Lib.hid (show Chg [] w5 w9 from HX7.out.trans' hg9 (fun b hb => .inr (HF7.out b (by simpa using hb))))
                have HT9 := Lib.hid (HT5.out.chg HX9.out (by simp))
                have q3''' := HT9.out.cells.2.2.2
                obtain ⟨z0, z1, -⟩ := HT9.out.at2v (j := ix + 1) HJ4.out HSV1.out
                refine hK.out _ _ q3''' (fun hHeld => ?_)
                clear hK K
                try simp only [Act.put, List.setIfInBounds_toArray, List.set_cons_zero, List.set_cons_succ]
                refine wpAnyH_ready (rs := [18]) (by kernel_rfl) (by simp) (consL rfl (fun K hK => ?_) AllReadyH.nil)
                go_simp
                refine hK.out _ _ q3''' (fun hHeld => ?_)
                clear hK K
                try simp only [Act.put, List.setIfInBounds_toArray, List.set_cons_zero, List.set_cons_succ]
                refine wpAnyH_ready (rs := [19]) (by kernel_rfl) (by simp) (consL rfl (fun K hK => ?_) AllReadyH.nil)
                go_simp
                obtain ⟨hT, hC, hF9⟩ := refS_tow (R := r1 ++ H) (n9 := l1 + k) (c9 := c9) (a9 := a9) HT5.out HJ4.out HX7.out hg9 HF7.out (by rw [List.length_append, ← HL1.out, ← HKK.out]) (by have h := ho9; rw [Nat.zero_add] at h; rw [ints_append]; exact h) hf9
                have HT8 := Lib.hid hT
                refine hK.out _ _ HT8.out.cells.2.2.2 (fun hHeld => ?_)
                clear hK K
                try simp only [Act.put, List.setIfInBounds_toArray, List.set_cons_zero, List.set_cons_succ]
                refine wpAnyH_done (by kernel_rfl) ?_ _
                have HMX := Lib.hid (refS_mv (ix := ix) (m := m) (c3 := c3') (n9 := l1 + k) (c9 := c9) HMM.out HCH5.out hC HFA.out HSZW.out hF9)
                clear ho7 hg7 hf7 ho9 hg9 hf9 hT hC hF9 z0 z1
                try simp only [Act.put, List.setIfInBounds_toArray, List.set_cons_succ, List.set_cons_zero, List.getElem_toArray, List.getElem_cons_succ, List.getElem_cons_zero]
                go_wp2
                exact ⟨⟨ix + 1, u + 1, (rowsP.set ix ((sortL r).take m)).set (ix + 1) (r1 ++ H), _, _, HST9.out.1, by go_num, HT8.out, HM0.out.trans HMX.out, by omega, HFL9.out, Lib.hid HST9.out.2⟩, by simp [intOf]; have := HST9.out.1; omega⟩
    · have hS := settleF_end HS.out.1 hlt
      have hd : decide ((ix : Int) < (rows.length : Int)) = false := decide_eq_false (by omega)
      go_wp2
      go_end0
      rw [hS]
      exact ⟨rfl, _, vs', ht', hm⟩
end Go.Proofs.Ytbaobiniianamaa
