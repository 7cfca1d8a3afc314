/-
  The walk of the document's Join of towers. Conditions: the form's own reach.
-/
import Derived.Test.YtbaobiniianamaaReqJoin
namespace Go.Proofs.Ytbaobiniianamaa
open Go.RowKit

theorem refJ_mv {w0 w5 w8 : World} {p g2 o2 n2 cc ix n9 c9 : Nat} {F0 : List Nat} {vsP : List Value} {a9 : Option Addr}
    (hm : Mv F0 w0 (fpR p (.slice (some ⟨g2, o2, none⟩) n2 cc) vsP) w5) (h58 : Chg [g2] w5 w8) (hf9 : ∀ b ∈ abl a9, w5.heap.size ≤ b) :
    Mv F0 w0 (fpR p (.slice (some ⟨g2, o2, none⟩) n2 cc) (vsP.set ix (.slice a9 n9 c9))) w8 := by
  have hs := hm.chg.size
  refine ⟨hm.chg.trans' (h58.mono (F1 := fpR p (.slice (some ⟨g2, o2, none⟩) n2 cc) vsP) (fun b hb => .inl (by simp at hb; subst hb; simp [fpR]))) hm.fr, fun b hb => ?_⟩
  simp only [fpR, List.mem_cons, List.mem_append, List.mem_flatMap] at hb
  rcases hb with rfl | hb | ⟨v, hv, hb⟩
  · exact hm.fr b (by simp [fpR])
  · exact hm.fr b (by simp only [fpR, List.mem_cons, List.mem_append]; exact .inr (.inl hb))
  · rcases List.mem_or_eq_of_mem_set hv with hv | rfl
    · exact hm.fr b (by simp only [fpR, List.mem_cons, List.mem_append, List.mem_flatMap]; exact .inr (.inr ⟨v, hv, hb⟩))
    · exact .inr (by have := hf9 b (by simpa using hb); omega)

set_option maxRecDepth 100000 in
set_option maxHeartbeats 4000000 in
set_option linter.unusedSimpArgs false in
theorem ref21_join (w : World) (p : Nat) (rv : Value) (vs : List Value) (W word used : Nat) (rows0 : List (List Int)) (ht : RT w p rv vs W word used rows0) (q : Nat) (qv : Value) (us : List Value) (W2 word2 used2 : Nat) (orows : List (List Int)) (ho : RT w q qv us W2 word2 used2 orows)
    (hdis : ∀ b ∈ fpR p rv vs, b ∉ fpR q qv us) (hW : 4 ≤ W) (hW2 : W ≤ 64) (hword : word < 18446744073709551616) (hu : used ≤ 1000000) (hN : rows0.flatten.length + orows.flatten.length ≤ 1000) (hR : rows0.length ≤ 100) (hR2 : orows.length ≤ 100) (S : Nat × List (List Int)) (hS : S = settle W (coinB word) (used, joinR rows0 orows)) :
    Calls Try.prog 30 #[.pointer (some ⟨p, 0, none⟩), .pointer (some ⟨q, 0, none⟩)] w fun e w' => e = .returned (.tuple #[]) ∧ ∃ rv' vs', RT w' p rv' vs' W word S.1 S.2 ∧ Mv (fpR p rv vs) w (fpR p rv' vs') w' := by
  have HQ := Lib.hid (fun wx (hx : Mv (fpR p rv vs) w (fpR p rv vs) wx ∨ Chg (fpR p rv vs) w wx) => ho.chg (F := fpR p rv vs) (hx.elim (fun h => h.chg) id) (fun b hb e => hdis b e hb))
  have HSV := Lib.hid hS
  obtain ⟨n, hn⟩ : ∃ n, n = orows.length := ⟨_, rfl⟩
  obtain ⟨qo, qc, hqv⟩ : ∃ ro rc, qv = .slice ro orows.length rc := ho.own.shape
  subst hqv
  obtain ⟨-, -, -, k3⟩ := ho.cells
  rw [← hn] at k3
  have HX1 := Lib.hid ho.own
  have hxl := Lib.hid ho.len
  have HOUT := Lib.hid ho.out
  have HO := Lib.hid ho
  have HDIS := Lib.hid hdis
  have HT0 := Lib.hid ht
  rw [← hn] at HX1 HO HDIS HQ
  have HNN := Lib.hid hn
  clear ht ho hdis hS hn
  go_enter Try.func30, Try.ntmps30
  go_wp2
  go_loopw [11] (fun i wx => ∃ (k : Nat) (rv' : Value) (vs' : List Value), k ≤ n ∧ i = .int .i64 (k : Nat) ∧ RT wx p rv' vs' W word used (joinR rows0 (orows.take k)) ∧ Mv (fpR p rv vs) w (fpR p rv' vs') wx) (fun i _ => n - (intOf i).toNat)
  case atStart => exact ⟨0, rv, vs, Nat.zero_le _, rfl, by rw [List.take_zero, joinR_nil]; exact HT0.out, Mv.refl _ _⟩
  case round =>
    obtain ⟨k, rv', vs', hk, rfl, ht', hm'⟩ := hrel
    obtain ⟨c0, c1, c2, c3⟩ := ht'.cells
    obtain ⟨rows, hrows⟩ : ∃ z, z = joinR rows0 (orows.take k) := ⟨_, rfl⟩
    rw [← hrows] at ht'
    have hrl : rows.length ≤ 100 := by rw [hrows, joinR_len, List.length_take]; omega
    have hkr : k ≤ rows.length := by rw [hrows, joinR_len, List.length_take]; have := HNN.out; omega
    have hfl : rows.flatten.length ≤ 1000 := by
      have h1 := joinR_flat rows0 (orows.take k)
      have h2 : (orows.take k).flatten.length ≤ orows.flatten.length := by
        conv => rhs; rw [← List.take_append_drop k orows, List.flatten_append, List.length_append]
        omega
      rw [hrows]; omega
    obtain ⟨ro2, rc2, hrv⟩ : ∃ ro rc, rv' = .slice ro rows.length rc := ht'.own.shape
    subst hrv
    have HQW := Lib.hid (HQ.out wr (.inr hm'.chg))
    by_cases hlt : k < n
    · have hko : k < orows.length := by have := HNN.out; omega
      have hkx : k < us.length := by have := hxl.out; omega
      have HSTEP := Lib.hid (joinR_step rows0 orows k hko)
      rw [← hrows] at HSTEP
      have hxr : Rd wr 1 us[k] orows[k].length (ints orows[k]) := HQW.out.rd k hkx hko
      obtain ⟨so, sc, hsv⟩ := hxr.shape
      obtain ⟨g5, o5, cp5, hv5, d1, -, -⟩ := HQW.out.own.at1 (j := k) hko hkx
      rw [← HNN.out] at hv5
      simp only [Value.slice.injEq, true_and] at hv5
      obtain ⟨rfl, rfl⟩ := hv5
      have hxblk := Lib.hid (show ∀ b ∈ blkOf us[k], b < w.heap.size ∧ b ∉ fpR p rv vs from fun b hb => ⟨HO.out.lt b (HO.out.mem_row k hkx b hb), fun e => HDIS.out b e (HO.out.mem_row k hkx b hb)⟩)
      rw [hsv] at hxr hxblk d1
      have hrn : orows[k].length ≤ 1000 := by have := flat_le hko; omega
      have hxout := Lib.hid (show ∀ b ∈ blkOf (.slice so orows[k].length sc), b ∉ fpR p (.slice ro2 rows.length rc2) vs' from fun b hb e => by
        have h1 := hxblk.out b hb
        rcases hm'.fr b e with h | h
        · exact h1.2 h
        · omega)
      have HXR := Lib.hid hxr
      clear hsv hrows hxr hxblk
      generalize orows[k] = s at *
      obtain ⟨m, hm⟩ : ∃ m, m = s.length := ⟨_, rfl⟩
      rw [← hm] at d1 hrn HXR hxout
      have HMS := Lib.hid hm
      clear hm
      have HT := Lib.hid ht'
      have HM := Lib.hid hm'
      have hvl := Lib.hid (show vs'.length = rows.length from ht'.len)
      have hfr3 := ht'.blk.free 3
      have hoc : ∀ y ∈ [Value.slice none 0 0], y.oneCell' = true := fun y hy => by simp at hy; subst hy; rfl
      obtain ⟨rowsP, hrowsP⟩ : ∃ z, z = (if k = rows.length then rows ++ [[]] else rows) := ⟨_, rfl⟩
      obtain ⟨vsP, hvsP⟩ : ∃ z, z = (if k = rows.length then vs' ++ [.slice none 0 0] else vs') := ⟨_, rfl⟩
      have HST := Lib.hid (HSTEP.out rowsP hrowsP)
      clear ht' hm' c0 c1 c2 HSTEP
      go_upto_if 22 with (fail)
      go_cut [4, 5] (fun a b wx => ∃ rv2, a = .int .i64 (k : Nat) ∧ b = .slice so m sc ∧ RT wx p rv2 vsP W word used rowsP ∧ Mv (fpR p (.slice ro2 rows.length rc2) vs') wr (fpR p rv2 vsP) wx)
      case first =>
        by_cases hlast : k = rows.length
        · rw [if_pos hlast] at hrowsP hvsP
          have hlb : ((k : Int) == (rows.length : Int)) = true := by rw [beq_iff_eq]; omega
          have hrd : Rd (wr.alloc (.cells #[.slice none 0 0] 22)) 1 (.slice (some ⟨wr.heap.size, 0, none⟩) 1 1) 1 [.slice none 0 0] := Rd.lit1 wr (.slice none 0 0) 22 1
          have hrl1 : rows.length + 1 ≤ 60101 := by omega
          clear hlast
          go_wp2_with (at_builtin; go_must (refine wpList_append_src _ rfl (.tmp 27) (.tmp 28) 47 47 rfl 22 _ 1 24 under_rowsT info_intsT rfl (by decide) (.slice ro2 rows.length rc2) rows.length vs' rfl (HT.out.own.alloc _) (.slice (some ⟨wr.heap.size, 0, none⟩) 1 1) 1 [.slice none 0 0] rfl (Src.of_rd under_rowsT hrd) hoc (by unfold maxLen; omega) (by omega) ?_; intro a6 c6 w6 ho6 hg6 hf6; have HG6 := Lib.hid ((HT.out.blk.alloc (.cells #[.slice none 0 0] 22)).chg hg6 (HT.out.p_rv)); have z3 := HG6.out.cell 3; have zf := HG6.out.free 3))
          go_meet
          have hk2 : Chg (blkOf (.slice ro2 rows.length rc2)) wr w6 := ((Chg.refl _ wr).alloc _).trans' hg6 (fun b hb => .inl hb)
          refine ⟨.slice a6 (rows.length + 1) c6, rfl, rfl, ?_, ?_, ?_⟩
          · rw [hrowsP, hvsP]
            refine HT.out.push hk2 ho6 (fun b hb => ?_)
            rcases hf6 b (by simpa using hb) with h | h
            · exact .inl h
            · simp at h; right; omega
          · exact (hk2.mono (fun b hb => .inl (HT.out.mem_rv b hb))).setCell (a := ⟨p, 3, none⟩) (.inl (by simp [fpR])) _
          · intro b hb
            rw [hvsP] at hb
            simp only [fpR, List.flatMap_append, List.flatMap_cons, List.flatMap_nil, List.append_nil, List.mem_cons, List.mem_append, blkOf_slice] at hb ⊢
            rcases hb with rfl | hb | hb | hb
            · simp
            · rcases hf6 b hb with h | h
              · simp at h; simp [h]
              · simp at h; right; omega
            · exact .inl (.inr (.inr hb))
            · simp at hb
        · rw [if_neg hlast] at hrowsP hvsP
          have hlb : ((k : Int) == (rows.length : Int)) = false := by rw [beq_eq_false_iff_ne]; omega
          subst hrowsP hvsP
          go_wp2
          go_meet
          exact ⟨_, rfl, rfl, HT.out, Mv.refl _ _⟩
      case rest =>
        rename World => w6
        obtain ⟨rv2, rfl, rfl, HT6, HM6⟩ := hcut
        have hPl : vsP.length = rowsP.length := HT6.len
        have hkP : k < rowsP.length := by
          rw [hrowsP]; split
          · simp; omega
          · omega
        have hkP2 : rowsP.length ≤ 101 := by
          rw [hrowsP]; split
          · simp; omega
          · omega
        have hkV : k < vsP.length := by omega
        obtain ⟨g2, o2, cc, rfl, e0, e1, hcc⟩ : ∃ g o cap, rv2 = .slice (some ⟨g, o, none⟩) rowsP.length cap ∧ w6.cell? ⟨g, o + k, none⟩ = some vsP[k] ∧ w6.frozen? ⟨g, o + k, none⟩ = false ∧ rowsP.length ≤ cap := HT6.own.at1 (j := k) hkP hkV
        have hrow1 : Rd w6 1 vsP[k] rowsP[k].length (ints rowsP[k]) := HT6.rd k hkV hkP
        obtain ⟨so1, sc1, hsv1⟩ := hrow1.shape
        rw [hsv1] at e0 hrow1
        have HGD := Lib.hid (getD_at hkP)
        have hl1N : rowsP[k].length ≤ 1000 := by
          by_cases hla : k = rows.length
          · rw [if_pos hla] at hrowsP
            subst hrowsP
            rw [List.getElem_append_right (by omega)]
            simp
          · rw [if_neg hla] at hrowsP
            subst hrowsP
            exact Nat.le_trans (flat_le hkP) hfl
        have HT6 := Lib.hid HT6
        have HM6 := Lib.hid HM6
        have HXR6 := Lib.hid (HXR.out.chg HM6.out.chg hxout.out)
        have HSV1 := Lib.hid hsv1
        have HJ := Lib.hid hkV
        have q3 : w6.cell? ⟨p, 3, none⟩ = some (.slice (some ⟨g2, o2, none⟩) rowsP.length cc) := HT6.out.cells.2.2.2
        have HMD := Lib.hid (HM.out.trans HM6.out)
        obtain ⟨r1, hr1⟩ : ∃ z, z = rowsP[k] := ⟨_, rfl⟩
        rw [← hr1] at e0 hrow1 hl1N HGD HSV1
        obtain ⟨l1, hl1⟩ : ∃ z, z = r1.length := ⟨_, rfl⟩
        rw [← hl1] at e0 hrow1 hl1N HSV1
        have HROW := Lib.hid hrow1
        have HL1 := Lib.hid hl1
        have hlk1 : 0 + l1 ≤ maxLen := by unfold maxLen; omega
        have hlk : 0 + l1 + m ≤ maxLen := by unfold maxLen; omega
        have hlk18 : (0 + l1) * 8 ≤ 140737488355328 := by omega
        have hlk8 : (0 + l1 + m) * 8 ≤ 140737488355328 := by omega
        have hkP3 : (0 : Int) ≤ (k : Int) := by omega
        have hkP4 : (k : Int) < (rowsP.length : Int) := by omega
        have hHR := Lib.hid hrowsP
        have hHV := Lib.hid hvsP
        have hPl' := Lib.hid hPl
        have hc0 : Chg [] w6 w6.drew := (Chg.refl [] w6).drew
        clear hsv1 hrow1 hr1 hl1 hrowsP hvsP hPl hkr hrl hfl c3
        go_wp2_with fail
        refine startG (S := fun wx => wx.cell? ⟨p, 3, none⟩ = some (.slice (some ⟨g2, o2, none⟩) rowsP.length cc) ∧ wx.cell? ⟨g2, o2 + k, none⟩ = some (.slice so1 l1 sc1)) (st := 17) (by kernel_rfl) ⟨q3, e0⟩ (fun hHeld => ?_)
        refine takeP (i := 0) (v := ?vc0) rfl (by kernel_rfl) (by kernel_rfl) (by kernel_rfl) (by decide) (fun _ _ _ h => h) (Or.inl ⟨by rfl, ?yc0⟩) (by assumption) ?rc0
        case yc0 => (intro w _; go_simp; first | done | with_reducible rfl)
        try simp only [Act.put, List.setIfInBounds_toArray, List.set_cons_zero, List.set_cons_succ]
        refine takeP (i := 1) (v := ?vc1) rfl (by kernel_rfl) (by kernel_rfl) (by kernel_rfl) (by decide) (fun _ _ _ h => h) (Or.inl ⟨by rfl, ?yc1⟩) (by assumption) ?rc1
        case yc1 => (intro w _; go_simp; first | done | with_reducible rfl)
        try simp only [Act.put, List.setIfInBounds_toArray, List.set_cons_zero, List.set_cons_succ]
        refine takeP (i := 2) (v := ?vc2) rfl (by kernel_rfl) (by kernel_rfl) (by kernel_rfl) (by decide) (fun _ _ _ h => h) (Or.inl ⟨by rfl, ?yc2⟩) (by assumption) ?rc2
        case yc2 => (intro w _; go_simp; first | done | with_reducible rfl)
        try simp only [Act.put, List.setIfInBounds_toArray, List.set_cons_zero, List.set_cons_succ]
        refine takeG (i := 3) (v := ?vc3) rfl (by kernel_rfl) (by kernel_rfl) (by kernel_rfl) (by decide) (by kernel_rfl) (by kernel_rfl) (fun _ _ _ h => h) (Or.inl ⟨by rfl, ?yc3⟩) (by assumption) ?rc3
        case yc3 => (intro w hSw; (try dsimp only at hSw); go_simp; first | done | with_reducible rfl)
        try simp only [Act.put, List.setIfInBounds_toArray, List.set_cons_zero, List.set_cons_succ]
        refine takeP (i := 4) (v := ?vc4) rfl (by kernel_rfl) (by kernel_rfl) (by kernel_rfl) (by decide) (fun _ _ _ h => h) (Or.inl ⟨by rfl, ?yc4⟩) (by assumption) ?rc4
        case yc4 => (intro w _; go_simp; first | done | with_reducible rfl)
        try simp only [Act.put, List.setIfInBounds_toArray, List.set_cons_zero, List.set_cons_succ]
        refine takeP (i := 6) (v := ?vc6) rfl (by kernel_rfl) (by kernel_rfl) (by kernel_rfl) (by decide) (fun _ _ _ h => h) (Or.inl ⟨by rfl, ?yc6⟩) (by assumption) ?rc6
        case yc6 => (intro w _; go_simp; first | done | with_reducible rfl)
        try simp only [Act.put, List.setIfInBounds_toArray, List.set_cons_zero, List.set_cons_succ]
        refine takeP (i := 7) (v := ?vc7) rfl (by kernel_rfl) (by kernel_rfl) (by kernel_rfl) (by decide) (fun _ _ _ h => h) (Or.inl ⟨by rfl, ?yc7⟩) (by assumption) ?rc7
        case yc7 => (intro w _; go_simp; first | done | with_reducible rfl)
        try simp only [Act.put, List.setIfInBounds_toArray, List.set_cons_zero, List.set_cons_succ]
        refine takeP (i := 8) (v := ?vc8) rfl (by kernel_rfl) (by kernel_rfl) (by kernel_rfl) (by decide) (fun _ _ _ h => h) (Or.inl ⟨by rfl, ?yc8⟩) (by assumption) ?rc8
        case yc8 => (intro w _; go_simp; first | done | with_reducible rfl)
        try simp only [Act.put, List.setIfInBounds_toArray, List.set_cons_zero, List.set_cons_succ]
        refine takeG (i := 9) (v := ?vc9) rfl (by kernel_rfl) (by kernel_rfl) (by kernel_rfl) (by decide) (by kernel_rfl) (by kernel_rfl) (fun _ _ _ h => h) (Or.inl ⟨by rfl, ?yc9⟩) (by assumption) ?rc9
        case yc9 => (intro w hSw; (try dsimp only at hSw); go_simp; first | done | with_reducible rfl)
        try simp only [Act.put, List.setIfInBounds_toArray, List.set_cons_zero, List.set_cons_succ]
        refine takeP (i := 10) (v := ?vc10) rfl (by kernel_rfl) (by kernel_rfl) (by kernel_rfl) (by decide) (fun _ _ _ h => h) (Or.inl ⟨by rfl, ?yc10⟩) (by assumption) ?rc10
        case yc10 => (intro w _; go_simp; first | done | with_reducible rfl)
        try simp only [Act.put, List.setIfInBounds_toArray, List.set_cons_zero, List.set_cons_succ]
        refine takeP (i := 11) (v := ?vc11) rfl (by kernel_rfl) (by kernel_rfl) (by kernel_rfl) (by decide) (fun _ _ _ h => h) (Or.inl ⟨by rfl, ?yc11⟩) (by assumption) ?rc11
        case yc11 => (intro w _; go_simp; first | done | with_reducible rfl)
        try simp only [Act.put, List.setIfInBounds_toArray, List.set_cons_zero, List.set_cons_succ]
        refine takeG (i := 12) (v := ?vc12) rfl (by kernel_rfl) (by kernel_rfl) (by kernel_rfl) (by decide) (by kernel_rfl) (by kernel_rfl) (fun _ _ _ h => h) (Or.inl ⟨by rfl, ?yc12⟩) (by assumption) ?rc12
        case yc12 => (intro w hSw; (try dsimp only at hSw); go_simp; first | done | with_reducible rfl)
        try simp only [Act.put, List.setIfInBounds_toArray, List.set_cons_zero, List.set_cons_succ]
        refine takeP (i := 14) (v := ?vc14) rfl (by kernel_rfl) (by kernel_rfl) (by kernel_rfl) (by decide) (fun _ _ _ h => h) (Or.inl ⟨by rfl, ?yc14⟩) (by assumption) ?rc14
        case yc14 => (intro w _; go_simp; first | done | with_reducible rfl)
        try simp only [Act.put, List.setIfInBounds_toArray, List.set_cons_zero, List.set_cons_succ]
        refine readyG (rs := [5]) (by kernel_rfl) (by simp) (consG rfl (fun K hK => ?_) nilG)
        refine step_build0 rfl rfl ?_; intro ga w7 ha hg7 hga
        have HX7 := Lib.hid (hc0.trans hg7)
        have HA := Lib.hid ha
        have HGA := Lib.hid hga
        obtain ⟨s7, f7, q7⟩ : w7.cell? ⟨g2, o2 + k, none⟩ = some (.slice so1 l1 sc1) ∧ w7.frozen? ⟨g2, o2 + k, none⟩ = false ∧ w7.cell? ⟨p, 3, none⟩ = some (.slice (some ⟨g2, o2, none⟩) rowsP.length cc) := (HT6.out.chg HX7.out (by simp)).at2v (j := k) HJ.out HSV1.out
        clear ha hg7 hga
        refine hK.out _ _ (fun _ _ => ⟨q7, s7⟩) (fun hHeld => ?_)
        clear hK K hHeld
        try simp only [Act.put, List.setIfInBounds_toArray, List.set_cons_zero, List.set_cons_succ]
        refine readyG (rs := [13]) (by kernel_rfl) (by simp) (consG rfl (fun K hK => ?_) nilG)
        have hrd := HROW.out.chg HX7.out (by simp)
        refine step_append_src rfl (.tmp 37) (.tmp 44) 22 22 rfl 2 _ 1 8 under_ints info_i64 rfl (by decide) (.slice (some ⟨ga, 0, none⟩) 0 0) 0 (ints []) rfl HA.out (.slice so1 l1 sc1) l1 (ints r1) rfl (Src.of_rd under_ints hrd) (ints_oneCell _) hlk1 hlk18 ?_; intro a8 c8 w8 ho8 hg8 hf8
        have HX8 := Lib.hid (HX7.out.trans' hg8 (fun b hb => .inr (by simp at hb; subst hb; exact HGA.out)))
        have HF8 := Lib.hid (show ∀ b ∈ abl a8, w6.heap.size ≤ b from fun b hb => (hf8 b hb).elim (fun h => by simp at h; subst h; exact HGA.out) (fun h => Nat.le_trans (Chg.size HX7.out) h))
        have HC := Lib.hid ho8
        obtain ⟨s8, f8, q8⟩ : w8.cell? ⟨g2, o2 + k, none⟩ = some (.slice so1 l1 sc1) ∧ w8.frozen? ⟨g2, o2 + k, none⟩ = false ∧ w8.cell? ⟨p, 3, none⟩ = some (.slice (some ⟨g2, o2, none⟩) rowsP.length cc) := (HT6.out.chg HX8.out (by simp)).at2v (j := k) HJ.out HSV1.out
        clear ho8 hg8 hf8 hrd s7 f7 q7
        refine hK.out _ _ (fun _ _ => ⟨q8, s8⟩) (fun hHeld => ?_)
        clear hK K hHeld
        try simp only [Act.put, List.setIfInBounds_toArray, List.set_cons_zero, List.set_cons_succ]
        refine readyG (rs := [15]) (by kernel_rfl) (by simp) (consG rfl (fun K hK => ?_) nilG)
        have hrx := HXR6.out.chg HX8.out (by simp)
        refine step_append_src rfl (.tmp 45) (.tmp 46) 22 22 rfl 2 _ 1 8 under_ints info_i64 rfl (by decide) (.slice a8 (0 + l1) c8) (0 + l1) (ints [] ++ ints r1) rfl HC.out (.slice so m sc) m (ints s) rfl (Src.of_rd under_ints hrx) (ints_oneCell _) hlk hlk8 ?_; intro a9 c9 w9 ho9 hg9 hf9
        have HX9 := Lib.hid (HX8.out.trans' hg9 (fun b hb => .inr (HF8.out b (by simpa using hb))))
        obtain ⟨s9, f9, q9⟩ : w9.cell? ⟨g2, o2 + k, none⟩ = some (.slice so1 l1 sc1) ∧ w9.frozen? ⟨g2, o2 + k, none⟩ = false ∧ w9.cell? ⟨p, 3, none⟩ = some (.slice (some ⟨g2, o2, none⟩) rowsP.length cc) := (HT6.out.chg HX9.out (by simp)).at2v (j := k) HJ.out HSV1.out
        refine hK.out _ _ (fun _ _ => ⟨q9, s9⟩) (fun hHeld => ?_)
        clear hK K hHeld
        try simp only [Act.put, List.setIfInBounds_toArray, List.set_cons_zero, List.set_cons_succ]
        refine readyG (rs := [16]) (by kernel_rfl) (by simp) (consG rfl (fun K hK => ?_) nilG)
        go_simp
        refine hK.out _ _ (fun _ _ => ⟨q9, s9⟩) (fun hHeld => ?_)
        clear hK K hHeld
        try simp only [Act.put, List.setIfInBounds_toArray, List.set_cons_zero, List.set_cons_succ]
        refine readyG (rs := [17]) (by kernel_rfl) (by simp) (consG rfl (fun K hK => ?_) nilG)
        go_simp
        obtain ⟨hT, hC, hF9⟩ := refS_tow (R := r1 ++ s) (n9 := l1 + m) (c9 := c9) (a9 := a9) HT6.out HJ.out HX8.out hg9 HF8.out (by rw [List.length_append, ← HL1.out, ← HMS.out]) (by have h := ho9; rw [Nat.zero_add] at h; rw [ints_append]; exact h) hf9
        have HT8 := Lib.hid hT
        have HMX := Lib.hid (refJ_mv (ix := k) (n9 := l1 + m) (c9 := c9) HMD.out hC hF9)
        clear hT hC hF9 ho9 hg9 hf9 s9 q9 f9 s8 q8 f8 hrx q3 e0 e1
        refine hK.out _ _ (fun h => absurd rfl h) (fun hHeld => ?_)
        clear hK K hHeld
        try simp only [Act.put, List.setIfInBounds_toArray, List.set_cons_zero, List.set_cons_succ]
        refine doneG (by kernel_rfl) ?_ _
        go_wp2
        exact ⟨⟨k + 1, _, _, by omega, by go_num, by rw [HST.out, HGD.out]; exact HT8.out, HMX.out⟩, by simp [intOf]; omega⟩
    · obtain rfl : k = n := by omega
      rw [List.take_of_length_le (by have := HNN.out; omega)] at hrows
      subst hrows
      have HME := Lib.hid hm'
      have HSE := Lib.hid (ref21_settle wr p _ vs' W word used _ ht' hW hW2 hword hu hfl (by omega) S HSV.out)
      clear ht' hm' c0 c1 c2 c3
      go_wp2_with fail
      refine HSE.out.mono ?_
      rintro e w9 ⟨rfl, rv9, vs9, ht9, hm9⟩
      go_wp2
      go_end0
      exact ⟨rfl, rv9, vs9, ht9, HME.out.trans hm9⟩
end Go.Proofs.Ytbaobiniianamaa
