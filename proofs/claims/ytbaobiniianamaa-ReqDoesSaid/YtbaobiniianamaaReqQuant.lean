/-
  The walk of (*Tower).Quantile. Conditions: the form's own reach.
-/
import Derived.Test.YtbaobiniianamaaTower
import Derived.Test.YtbaobiniianamaaReqRank
import Derived.Test.YtbaobiniianamaaPlace
import Derived.Test.YtbaobiniianamaaSortItm
namespace Go.Proofs.Ytbaobiniianamaa
open Go.RowKit

theorem under_itms : Try.prog.underlying 94 = some (.slice 96) := by kernel_rfl
theorem info_itm : (Try.prog.info? 96).map (fun i => (i.zero, i.size, i.bytes)) = some (some (.agg #[.int .i64 0, .int .u64 0]), 2, 16) := by kernel_rfl
def itsCells (l : List Itm) : List Value := (l.map itCells).flatten
theorem itsCells_app (a b : List Itm) : itsCells (a ++ b) = itsCells a ++ itsCells b := by simp [itsCells]
theorem itsCells_one (p : Itm) : itsCells [p] = [.int .i64 p.1, .int .u64 (p.2 : Nat)] := by simp [itsCells, itCells]
theorem itsCells_oneCell (l : List Itm) : ∀ y ∈ itsCells l, y.oneCell' = true := by
  intro y hy
  simp only [itsCells, List.mem_flatten, List.mem_map] at hy
  obtain ⟨_, ⟨p, _, rfl⟩, hy⟩ := hy
  simp [itCells] at hy
  rcases hy with rfl | rfl <;> rfl
theorem itsCells_len (l : List Itm) : (itsCells l).length = l.length * 2 := encs_len itCells 2 (fun _ => rfl) l
theorem itm_at {w : World} {b o k : Nat} {l : List Itm} (hc : ∀ j, j < l.length * 2 → w.cell? ⟨b, o + j, none⟩ = (itsCells l)[j]?) (h : k < l.length) :
    w.cell? ⟨b, o + k * 2, none⟩ = some (.int .i64 l[k].1) ∧ w.cell? ⟨b, o + k * 2 + 1, none⟩ = some (.int .u64 (l[k].2 : Nat)) := by
  have h0 := encs_get itCells 2 (fun _ => rfl) l k 0 h (by omega)
  have h1 := encs_get itCells 2 (fun _ => rfl) l k 1 h (by omega)
  have e0 := hc (k * 2) (by omega)
  have e1 := hc (k * 2 + 1) (by omega)
  exact ⟨by rw [e0]; exact h0, by rw [show o + k * 2 + 1 = o + (k * 2 + 1) by omega, e1]; exact h1⟩
theorem rowItems_step (P : Nat) (r : List Int) (q : Nat) (h : q < r.length) : (r.take (q + 1)).map (fun x => (x, P)) = (r.take q).map (fun x => (x, P)) ++ [(r[q], P)] := by
  rw [List.take_succ_eq_append_getElem h, List.map_append]; rfl
theorem itemsR_step (l : List (List Int)) (k : Nat) (h : k < l.length) : itemsR 0 (l.take (k + 1)) = itemsR 0 (l.take k) ++ l[k].map (fun x => (x, 2 ^ k)) := by
  rw [List.take_succ_eq_append_getElem h, itemsR_app, List.length_take, Nat.min_eq_left (by omega)]
  simp [itemsR]
theorem flat_take_le (l : List (List Int)) (k : Nat) : (l.take k).flatten.length ≤ l.flatten.length := by
  conv => rhs; rw [← List.take_append_drop k l, List.flatten_append, List.length_append]
  omega

set_option maxRecDepth 100000 in
set_option maxHeartbeats 4000000 in
theorem req_quantile (w : World) (p tp : Nat) (rv : Value) (vs : List Value) (D : TwD) (ht : Tow w p tp rv vs D) (num den : Nat) (hnum : num < 18446744073709551616) (hden : den < 18446744073709551616)
    (hN : D.rows.flatten.length ≤ 100000) (hR : D.rows.length ≤ 40) (htot : totR D.rows = D.total) (ht62 : D.total ≤ 4611686018427387904) (hlow : ∀ r ∈ D.rows, ∀ v ∈ r, v ≤ 9223372036854775807)
    (T E : Nat) (hT : T = placeT num den D.total) (hE : E = placeE num den D.total) (V : Int) (hV : V = if E = 0 then quantR T D.rows else 0) :
    Calls Try.prog 37 #[.pointer (some ⟨p, 0, none⟩), .agg #[.int .u64 (num : Nat), .int .u64 (den : Nat)]] w fun e w' => e = .returned (.tuple #[.int .i64 V, .int .i64 (E : Nat)]) ∧ Chg [] w w' := by
  have HT := Lib.hid ht
  have hc := (Chg.refl [] w).alloc (.cells #[.int .u64 num, .int .u64 den] 64)
  have hbx := Blk.alloc_new w #[.int .u64 num, .int .u64 den] 64
  have b0 := hbx.cell 0
  have b1 := hbx.cell 1
  have HT1 := Lib.hid (ht.chg hc (by simp))
  obtain ⟨-, -, -, -, c4, -, -⟩ := HT1.out.cells
  obtain ⟨Ei, hEi⟩ : ∃ z : Int, z = (E : Nat) := ⟨_, rfl⟩
  have HPL := Lib.hid (fun u => show Calls Try.prog 58 #[.agg #[.int .u64 (num : Nat), .int .u64 (den : Nat)], .int .u64 (D.total : Nat)] u fun e w' => e = .returned (.tuple #[.int .u64 (T : Nat), .int .i64 Ei]) ∧ Chg [] u w' from by rw [hEi]; exact share_place u num den D.total hnum hden (by omega) T E hT hE)
  rw [← hEi]
  have HEI := Lib.hid hEi
  clear hEi
  have HC := Lib.hid hc
  have HV := Lib.hid hV
  have HE0 := Lib.hid (show E = 0 → 1 ≤ T ∧ T ≤ D.total from fun h => by rw [hT]; exact placeT_of (by rw [← hE]; exact h))
  clear ht hc hbx hV hT hE
  go_enter Try.func37, Try.ntmps37
  go_wp2_with fail
  go_cut [6, 7] (fun a b wx => a = .int .u64 (T : Nat) ∧ b = .int .i64 Ei ∧ Chg [] w wx)
  case first =>
    go_region_with (first | (go_at_call 58; refine (HPL.out _).mono ?_; rintro e w1 ⟨rfl, hc1⟩))
    all_goals
      go_wp2_with fail
      go_meet
      exact ⟨rfl, rfl, HC.out.trans ((Chg.drew (Chg.refl [] _)).trans hc1)⟩
  case rest =>
    obtain ⟨rfl, rfl, hc1⟩ := hcut
    clear HPL HT1 HC c4 b0 b1
    by_cases hE : E = 0
    · subst hE
      obtain rfl : Ei = 0 := HEI.out
      clear HEI
      have HT1 := Lib.hid (HT.out.chg hc1 (by simp))
      have HW1 := Lib.hid hc1
      have hv := HV.out
      rw [if_pos rfl] at hv
      obtain ⟨hT1, hT2⟩ := HE0.out rfl
      have HVV := Lib.hid hv
      obtain ⟨-, -, -, c3, -, -, -⟩ := HT1.out.cells
      obtain ⟨ro, rc, hrv⟩ := HT1.out.own.shape
      subst hrv
      have hvl := Lib.hid (show vs.length = D.rows.length from HT1.out.rows.1)
      have HNN := Lib.hid hN
      have HTOT := Lib.hid (show totR D.rows ≤ 4611686018427387904 ∧ sumI (itemsR 0 D.rows) = D.total from ⟨by omega, by rw [sumI_items, htot]; simp⟩)
      have HLOW := Lib.hid hlow
      generalize hrl : D.rows.length = n at *
      have HRL := Lib.hid hrl
      clear hrl hN htot hlow hv HV HE0 HT hc1
      go_wp2_with fail
      go_loopw [8, 34] (fun s i wx => ∃ (k S : Nat) (a1 : Option Addr) (c1 : Nat), k ≤ n ∧ i = .int .i64 (k : Nat) ∧ s = .slice a1 S c1 ∧ Own wx 96 2 (.slice a1 S c1) S (itsCells (itemsR 0 (D.rows.take k))) ∧ Hid (S = (itemsR 0 (D.rows.take k)).length) ∧ S ≤ 100000 ∧ (∀ b ∈ abl a1, wc.heap.size ≤ b) ∧ Chg [] wc wx) (fun _ i _ => n - (intOf i).toNat)
      case atStart => exact ⟨0, 0, none, 0, Nat.zero_le _, rfl, rfl, Own.nil _ _ _, Lib.hid rfl, by omega, by simp, Chg.refl _ _⟩
      case round =>
        obtain ⟨k, S, a1, c1, hk, rfl, rfl, ho, HS, hS, hb1, hch⟩ := hrel
        by_cases hlt : k < n
        · have hkr : k < D.rows.length := by have := HRL.out; omega
          have hkv : k < vs.length := by have := hvl.out; have := HRL.out; omega
          have HT2 := HT1.out.chg hch (by simp)
          obtain ⟨g, o, cp, hsl, d0, -, -⟩ := HT2.own.at1 (j := k) hkr hkv
          rw [HRL.out] at hsl
          simp only [Value.slice.injEq, true_and] at hsl
          obtain ⟨rfl, rfl⟩ := hsl
          have hrow := HT2.rows.2.1 k hkv hkr
          obtain ⟨so, sc, hsv⟩ := hrow.shape
          rw [hsv] at d0 hrow
          have HST := Lib.hid (itemsR_step D.rows k hkr)
          have hflt : (D.rows.take (k + 1)).flatten.length ≤ 100000 := Nat.le_trans (flat_take_le D.rows (k + 1)) HNN.out
          have hfle : (D.rows.take (k + 1)).flatten.length = S + D.rows[k].length := by
            have h1 := congrArg List.length HST.out
            rw [itemsR_len, List.length_append, ← HS.out, List.length_map] at h1
            exact h1
          rw [hfle] at hflt
          have HRW0 := Lib.hid (show ∀ u, Chg [] wc u → Rd u 1 (.slice so D.rows[k].length sc) D.rows[k].length (ints D.rows[k]) from fun u hu => by
            have h1 := (HT1.out.rows.2.1 k hkv hkr).rd
            rw [hsv] at h1
            exact h1.chg hu (by simp))
          generalize D.rows[k] = r at *
          obtain ⟨m, hm⟩ : ∃ m, m = r.length := ⟨_, rfl⟩
          rw [← hm] at d0 HRW0 hflt
          have HM := Lib.hid hm
          obtain ⟨P, hP⟩ : ∃ P, P = 2 ^ k := ⟨_, rfl⟩
          have hP64 : P ≤ 1099511627776 := by
            have h1 : P ≤ 2 ^ 40 := by rw [hP]; exact Nat.pow_le_pow_right (by omega) (by omega)
            have : (2 : Nat) ^ 40 = 1099511627776 := by decide
            omega
          have hPw : IntKind.u64.wrap ((2 : Int) ^ k) = (P : Int) := by
            rw [IntKind.wrap_u64]
            have e : ((2 : Int) ^ k) = ((2 ^ k : Nat) : Int) := by rw [Int.natCast_pow]; rfl
            rw [e, ← hP]
            omega
          rw [← hP] at HST
          have HOO := Lib.hid ho
          have HCH := Lib.hid hch
          clear hsv hm hrow hP HT2 hfle ho hch
          go_wp2_with fail
          go_loopw [8, 41] (fun s i wx => ∃ (q : Nat) (a1 : Option Addr) (c1 : Nat), q ≤ m ∧ i = .int .i64 (q : Nat) ∧ s = .slice a1 (S + q) c1 ∧ Own wx 96 2 (.slice a1 (S + q) c1) (S + q) (itsCells (itemsR 0 (D.rows.take k)) ++ itsCells ((r.take q).map (fun x => (x, P)))) ∧ (∀ b ∈ abl a1, wc.heap.size ≤ b) ∧ Chg [] wc wx) (fun _ i _ => m - (intOf i).toNat)
          case atStart => exact ⟨0, a1, c1, Nat.zero_le _, rfl, rfl, by simpa [itsCells] using HOO.out, hb1, HCH.out⟩
          case round =>
            obtain ⟨q, a2, c2, hq, rfl, rfl, ho, hb2, hch⟩ := hrel
            by_cases hqm : q < m
            · have hqr : q < r.length := by have := HM.out; omega
              have hcs0 := HRW0.out wr hch
              obtain ⟨b, o2, rfl, hcs⟩ := hcs0.addr (by omega)
              have y0 := ints_at (l := r) (fun j hj => hcs j (by rw [HM.out]; exact hj)) q hqr
              have HQS := Lib.hid (rowItems_step P r q hqr)
              generalize r[q] = y at *
              clear hcs hcs0
              have hrd : Rd (wr.alloc (.cells #[.int .i64 y, .int .u64 (P : Nat)] 96)) 2 (.slice (some ⟨wr.heap.size, 0, none⟩) 1 1) 1 (itsCells [(y, P)]) := by
                rw [itsCells_one]
                exact Rd.lit wr #[.int .i64 y, .int .u64 (P : Nat)] 96 2 1 1 rfl
              go_wp2_with (at_builtin; go_must (refine wpList_append_src _ rfl (.tmp 45) (.tmp 50) 94 94 rfl 96 _ 2 16 under_itms info_itm rfl (by decide) (.slice a2 (S + q) c2) (S + q) _ rfl (ho.alloc _) (.slice (some ⟨wr.heap.size, 0, none⟩) 1 1) 1 (itsCells [(y, P)]) rfl (Src.of_rd under_itms hrd) (itsCells_oneCell _) (by unfold maxLen; omega) (by omega) ?_; intro a5 c5 w7 ho7 hg7 hf7))
              have hgr : Chg (abl a2) wr w7 := by
                have := ((Chg.refl (abl a2) wr).alloc (.cells #[.int .i64 y, .int .u64 (P : Nat)] 96)).trans' hg7 (fun b hb => .inl (by simpa using hb))
                exact this
              have hsz := hch.size
              refine ⟨⟨q + 1, a5, c5, by omega, by go_num, rfl, ?_, fun b hb => ?_, hch.trans' hgr (fun b hb => .inr (hb2 b hb))⟩, by simp [intOf]; omega⟩
              · rw [HQS.out, itsCells_app, ← List.append_assoc]
                exact ho7
              · rcases hf7 b hb with h | h
                · exact hb2 b (by simpa using h)
                · simp at h; omega
            · obtain rfl : q = m := by omega
              rw [List.take_of_length_le (l := r) (by have := HM.out; omega), ← itsCells_app, ← HST.out] at ho
              have HS2 := Lib.hid (show S + q = (itemsR 0 (D.rows.take (k + 1))).length from by rw [HST.out, List.length_append, List.length_map, ← HS.out, HM.out])
              go_wp2_with fail
              exact ⟨⟨k + 1, S + q, a2, c2, by omega, by go_num, rfl, ho, HS2, by omega, hb2, hch⟩, by simp [intOf]; omega⟩
        · obtain rfl : k = n := by omega
          rw [List.take_of_length_le (by have := HRL.out; omega)] at ho HS
          have hS0 : 0 < S := by
            have h1 := HS.out
            have h2 := HTOT.out.2
            cases hi : itemsR 0 D.rows with
            | nil => rw [hi] at h2; simp [sumI] at h2; omega
            | cons p l => rw [hi] at h1; simp at h1; omega
          obtain ⟨g, o, rfl, -⟩ := ho.rd.addr hS0
          have HSO := Lib.hid (sort_items wr g o c1 S (itemsR 0 D.rows) HS.out ho (by omega))
          have HC2 := Lib.hid (HW1.out.trans hch)
          have hgb := hb1 g (by simp [abl])
          have HGB := Lib.hid (Nat.le_trans HW1.out.size hgb)
          clear ho hch HT1 c3 hb1
          go_wp2_with fail
          refine HSO.out.mono ?_
          rintro e w3 ⟨rfl, l, hl, hp, hsrt, ho3, hc3⟩
          have HQ := Lib.hid (fun i (hi : i < l.length) (h1 : sumI (l.take i) < T) (h2 : T ≤ sumI (l.take (i + 1))) => quantR_at (rows := D.rows) hp hsrt hi h1 h2 HLOW.out)
          have hsl : sumI l = D.total := by rw [sumI_perm hp]; exact HTOT.out.2
          have hall : ∀ i, sumI (l.take i) ≤ 4611686018427387904 := fun i => Nat.le_trans (sumI_take_le l i) (by omega)
          have HALL := Lib.hid hall
          have HCS := Lib.hid (show ∀ j, j < l.length * 2 → w3.cell? ⟨g, o + j, none⟩ = (itsCells l)[j]? from fun j hj => ho3.cells j (by omega))
          obtain ⟨y0, y1⟩ := itm_at HCS.out (k := 0) (by omega)
          have HC3 := Lib.hid (HC2.out.trans' hc3 (fun b hb => .inr (by simp at hb; subst hb; exact HGB.out)))
          have HL := Lib.hid hl
          have HP1 := Lib.hid (show sumI (l.take 1) = l[0].2 from by rw [sumI_take l 0 (by omega)]; simp [sumI])
          have HSL := Lib.hid hsl
          simp only [Nat.zero_mul, Nat.add_zero] at y0 y1
          generalize l[0] = z0 at *
          clear hp hsrt ho3 hc3 hall hsl HSO HTOT
          go_wp2_with fail
          go_loopw [13, 14] (fun s i wx => ∃ (k A : Nat), k < S ∧ i = .int .i64 (k : Nat) ∧ s = .int .u64 (A : Nat) ∧ Hid (A = sumI (l.take (k + 1))) ∧ Hid (sumI (l.take k) < T) ∧ wx = w3) (fun _ i _ => S - (intOf i).toNat)
          case atStart => exact ⟨0, z0.2, hS0, rfl, rfl, Lib.hid HP1.out.symm, Lib.hid (by simp [sumI]; omega), rfl⟩
          case round =>
            obtain ⟨k, A, hkS, rfl, rfl, HA, HB, hw⟩ := hrel
            subst hw
            have hA62 : A ≤ 4611686018427387904 := by rw [HA.out]; exact HALL.out (k + 1)
            have hkl : k < l.length := by have := HL.out; omega
            obtain ⟨x0, x1⟩ := itm_at HCS.out (k := k) hkl
            by_cases hAT : A < T
            · have d1 : decide ((A : Int) < (T : Int)) = true := decide_eq_true (by omega)
              have d1' : decide (A < T) = true := decide_eq_true hAT
              have hk1 : k + 1 < S := by
                rcases Nat.lt_or_ge (k + 1) S with h | h
                · exact h
                · exfalso
                  have h1 := HA.out
                  rw [List.take_of_length_le (by have := HL.out; omega), HSL.out] at h1
                  omega
              have d2 : decide ((k : Int) + 1 < (S : Int)) = true := decide_eq_true (by omega)
              have hk1l : k + 1 < l.length := by have := HL.out; omega
              obtain ⟨x2, x3⟩ := itm_at HCS.out (k := k + 1) hk1l
              have HN := Lib.hid (sumI_take l (k + 1) hk1l)
              have HAB := Lib.hid (show sumI (l.take (k + 1)) < T from by rw [← HA.out]; exact hAT)
              have hN := HALL.out (k + 1 + 1)
              rw [HN.out, ← HA.out] at hN
              generalize l[k + 1] = z at *
              go_wp2_with fail
              exact ⟨⟨k + 1, A + z.2, by omega, by go_num, by go_num, Lib.hid (by rw [HN.out, HA.out]), HAB, by first | rfl | trivial⟩, by simp [intOf]; omega⟩
            · have d1 : decide ((A : Int) < (T : Int)) = false := decide_eq_false (by omega)
              have d1' : decide (A < T) = false := decide_eq_false hAT
              have HR := Lib.hid (show l[k].1 = V from by rw [HVV.out]; exact HQ.out k hkl HB.out (by rw [← HA.out]; omega))
              generalize l[k] = z at *
              go_wp2_with fail
              go_ret2
              rw [HR.out]
              exact ⟨rfl, HC3.out⟩
    · have hne : (Ei != 0) = true := by rw [bne_iff_ne]; have := HEI.out; omega
      have hv := HV.out
      rw [if_neg hE] at hv
      subst hv
      go_wp2_with fail
      go_ret2
      exact ⟨rfl, hc1⟩
end Go.Proofs.Ytbaobiniianamaa
