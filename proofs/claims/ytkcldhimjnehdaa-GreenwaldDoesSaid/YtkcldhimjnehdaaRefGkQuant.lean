/-
  The walk of the document's Quantile (layer 19). Conditions: the form's own reach.
-/
import Derived.Test.YtkcldhimjnehdaaRefGkPut
import Derived.Test.YtkcldhimjnehdaaPlace
import Derived.Test.YtkcldhimjnehdaaTupAsk
namespace Go.Proofs.Ytkcldhimjnehdaa
open Go.RowKit

/-- The first one of the closest, by a loop that begins with the greatest number. -/
def goS (t : Nat) : Nat → Int → List Sp → Int
  | _, x, [] => x
  | b, x, s :: r => if offN t s.lo s.hi < b then goS t (offN t s.lo s.hi) s.x r else goS t b x r
theorem goS_goF (t : Nat) : ∀ (r : List Tp) (b : Nat) (x : Int) (a : Nat), goS t b x (spF a r) = goF t false b x a r
  | [], _, _, _ => rfl
  | p :: r, b, x, a => by
    rw [spF, goS, goF]
    by_cases h : offN t (a + p.st) (a + p.st + p.sl) < b
    · rw [if_pos h, if_pos (.inr h)]
      exact goS_goF t r _ _ _
    · rw [if_neg h, if_neg (by simp only [Bool.false_eq_true, false_or]; exact h)]
      exact goS_goF t r _ _ _
theorem goS_found {t M : Nat} {l : List Tp} (h : ∀ s ∈ spF 0 l, offN t s.lo s.hi < M) : goS t M 0 (spF 0 l) = foundX t l := by
  rw [goS_goF]
  cases l with
  | nil => rfl
  | cons p r =>
    have h1 := h ⟨p.x, 0 + p.st, 0 + p.st + p.sl⟩ (by rw [spF]; simp)
    rw [foundX, goF, goF, if_pos (.inr h1), if_pos (.inl rfl)]
theorem sp_get3 {w : World} {b o k : Nat} {l : List Sp} (hc : ∀ j, j < l.length * 3 → w.cell? ⟨b, o + j, none⟩ = (spCells l)[j]?) (h : k < l.length) :
    w.cell? ⟨b, o + k * 3, none⟩ = some (.int .i64 l[k].x) ∧ w.cell? ⟨b, o + k * 3 + 1, none⟩ = some (.int .u64 l[k].lo) ∧ w.cell? ⟨b, o + k * 3 + 2, none⟩ = some (.int .u64 l[k].hi) := by
  have g : ∀ j, j < 3 → w.cell? ⟨b, o + k * 3 + j, none⟩ = (l[k].cells)[j]? := fun j hj => by
    rw [← spCells_get l k j h hj, ← hc (k * 3 + j) (by omega), Nat.add_assoc]
  exact ⟨g 0 (by omega), g 1 (by omega), g 2 (by omega)⟩
theorem enters_r19total : ∀ (args : Array Value) (w : World), (callFunc 61 args).run Try.prog w = .ok (.enter 61 args) w := enters_of Try.func61 (by kernel_rfl) rfl
theorem enters_r19place : ∀ (args : Array Value) (w : World), (callFunc 21 args).run Try.prog w = .ok (.enter 21 args) w := enters_of Try.func21 (by kernel_rfl) rfl

set_option maxRecDepth 100000 in
set_option maxHeartbeats 8000000 in
theorem ref19_quantile (w : World) (p : Nat) (sv wv : Value) (D : GkD) (h : RG w p sv wv D) (hok : D.ok) (hg : goodK D.num D.den = true) (hn : D.total ≤ 30000) (pn pd : Nat) (hpn : pn < 18446744073709551616) (hpd : pd < 18446744073709551616)
    (T E : Nat) (hT : T = placeT pn pd D.total) (hE : E = placeE pn pd D.total) :
    Calls Try.prog 34 #[.pointer (some ⟨p, 0, none⟩), .agg #[.int .u64 (pn : Nat), .int .u64 (pd : Nat)]] w fun e w' =>
      (E ≠ 0 ∧ e = .returned (.tuple #[.int .i64 0, .int .i64 (E : Nat)]) ∧ RG w' p sv wv D ∧ Chg [] w w') ∨
      (E = 0 ∧ e = .returned (.tuple #[.int .i64 (foundX T D.flush.row), .int .i64 0]) ∧ ∃ sv' wv', RG w' p sv' wv' D.flush ∧ Mv (fpS p sv wv) w (fpS p sv' wv') w') := by
  have hc := (Chg.refl [] w).alloc (.cells #[.int .u64 pn, .int .u64 pd] 25)
  have hbx := Blk.alloc_new w #[.int .u64 pn, .int .u64 pd] 25
  have HG0 := Lib.hid h
  obtain ⟨Ei, hEi⟩ : ∃ z : Int, z = (E : Nat) := ⟨_, rfl⟩
  obtain ⟨N, hN⟩ : ∃ N, N = D.total := ⟨_, rfl⟩
  rw [← hN] at hT hE hn
  have hfi := hok.fine
  have hrl : D.row.length ≤ 30000 := by have h1 := hok.len; have h2 : D.vals.length ≤ D.total := Nat.le_add_right _ _; omega
  have HTO := Lib.hid (fun u (hu : Chg [] w u) => show Calls Try.prog 61 #[.pointer (some ⟨p, 0, none⟩)] u fun e w' => e = .returned (.int .u64 (N : Nat)) ∧ Chg [] u w' from by rw [hN]; exact ref19_total u p sv wv D (HG0.out.chg hu (by simp)) hfi hrl (by omega))
  have HPL := Lib.hid (fun u => show Calls Try.prog 21 #[.agg #[.int .u64 (pn : Nat), .int .u64 (pd : Nat)], .int .u64 (N : Nat)] u fun e w' => e = .returned (.tuple #[.int .u64 (T : Nat), .int .i64 Ei]) ∧ Chg [] u w' from by rw [hEi]; exact ref03_place u pn pd N hpn hpd (by omega) T E hT hE)
  have HEI := Lib.hid hEi
  have HOK := Lib.hid hok
  have HGD := Lib.hid hg
  have HN := Lib.hid hN
  have HNB := Lib.hid hn
  have HTE := Lib.hid (show E = 0 → 1 ≤ T ∧ T ≤ N from fun h => by rw [hT]; exact placeT_of (by rw [← hE]; exact h))
  rw [← hEi]
  have HC := Lib.hid hc
  have HB := Lib.hid hbx
  obtain ⟨bc, hbc⟩ : ∃ z, z = w.heap.size := ⟨_, rfl⟩
  rw [← hbc] at HB
  clear h hok hg hc hbx hEi hN hT hE hn hfi hrl hpn hpd
  go_enter Try.func34, Try.ntmps34
  go_upto_region 1 with (fail)
  rw [← hbc]
  clear hbc
  generalize w.alloc (.cells #[.int .u64 pn, .int .u64 pd] 25) = w0 at *
  have hSS : Chg [] w w0.drew ∧ w0.drew.cell? ⟨bc, 0, none⟩ = some (.int .u64 (pn : Nat)) ∧ w0.drew.cell? ⟨bc, 1, none⟩ = some (.int .u64 (pd : Nat)) := ⟨HC.out.drew, HB.out.cell 0, HB.out.cell 1⟩
  refine startG (S := fun wx => Chg [] w wx ∧ wx.cell? ⟨bc, 0, none⟩ = some (.int .u64 (pn : Nat)) ∧ wx.cell? ⟨bc, 1, none⟩ = some (.int .u64 (pd : Nat))) (st := 8) (by kernel_rfl) hSS (fun hHeld => ?_)
  refine takeG (i := 0) (v := ?vz0) rfl (by kernel_rfl) (by kernel_rfl) (by kernel_rfl) (by decide) (by kernel_rfl) (by kernel_rfl) (fun _ _ _ h => h) (Or.inl ⟨by rfl, ?yz0⟩) hSS ?rz0
  case yz0 => (intro w hSw; (try dsimp only at hSw); go_simp; first | done | with_reducible rfl)
  try simp only [Act.put, List.setIfInBounds_toArray, List.set_cons_zero, List.set_cons_succ]
  refine takeP (i := 1) (v := ?vz1) rfl (by kernel_rfl) (by kernel_rfl) (by kernel_rfl) (by decide) (fun _ _ _ h => h) (Or.inl ⟨by rfl, ?yz1⟩) hSS ?rz1
  case yz1 => (intro w _; go_simp; first | done | with_reducible rfl)
  try simp only [Act.put, List.setIfInBounds_toArray, List.set_cons_zero, List.set_cons_succ]
  refine readyG (rs := [2]) (by kernel_rfl) (by simp) (consG rfl (fun K hK => ?_) nilG)
  refine step_calls rfl 61 _ _ rfl enters_r19total _ #[.pointer (some ⟨p, 0, none⟩)] (by simp [Act.eval]) (HTO.out _ hSS.1) ?_; rintro e wq ⟨rfl, hcq⟩; refine ⟨_, rfl, ?_⟩
  have hS8 : Chg [] w wq ∧ wq.cell? ⟨bc, 0, none⟩ = some (.int .u64 (pn : Nat)) ∧ wq.cell? ⟨bc, 1, none⟩ = some (.int .u64 (pd : Nat)) := ⟨hSS.1.trans hcq, hcq.cell hSS.2.1 (by simp), hcq.cell hSS.2.2 (by simp)⟩
  clear hcq
  refine hK.out _ _ (fun _ _ => hS8) (fun hHeld => ?_)
  clear hK K hHeld
  try simp only [Act.put, List.setIfInBounds_toArray, List.set_cons_zero, List.set_cons_succ]
  refine readyG (rs := [3]) (by kernel_rfl) (by simp) (consG rfl (fun K hK => ?_) nilG)
  refine step_calls rfl 21 _ _ rfl enters_r19place _ #[.agg #[.int .u64 (pn : Nat), .int .u64 (pd : Nat)], .int .u64 (N : Nat)] (by simp [Act.eval]) (HPL.out _) ?_; rintro e w9 ⟨rfl, hc9⟩; refine ⟨_, rfl, ?_⟩
  have hS9 : Chg [] w w9 ∧ w9.cell? ⟨bc, 0, none⟩ = some (.int .u64 (pn : Nat)) ∧ w9.cell? ⟨bc, 1, none⟩ = some (.int .u64 (pd : Nat)) := ⟨hS8.1.trans hc9, hc9.cell hS8.2.1 (by simp), hc9.cell hS8.2.2 (by simp)⟩
  clear hc9
  refine hK.out _ _ (fun _ _ => hS9) (fun hHeld => ?_)
  clear hK K hHeld
  try simp only [Act.put, List.setIfInBounds_toArray, List.set_cons_zero, List.set_cons_succ]
  refine takeP (i := 4) (v := ?vz4) rfl (by kernel_rfl) (by kernel_rfl) (by kernel_rfl) (by decide) (fun _ _ _ h => h) (Or.inl ⟨by rfl, ?yz4⟩) hS9 ?rz4
  case yz4 => (intro w _; go_simp; first | done | with_reducible rfl)
  try simp only [Act.put, List.setIfInBounds_toArray, List.set_cons_zero, List.set_cons_succ]
  refine takeP (i := 5) (v := ?vz5) rfl (by kernel_rfl) (by kernel_rfl) (by kernel_rfl) (by decide) (fun _ _ _ h => h) (Or.inl ⟨by rfl, ?yz5⟩) hS9 ?rz5
  case yz5 => (intro w _; go_simp; first | done | with_reducible rfl)
  try simp only [Act.put, List.setIfInBounds_toArray, List.set_cons_zero, List.set_cons_succ]
  refine takeP (i := 6) (v := ?vz6) rfl (by kernel_rfl) (by kernel_rfl) (by kernel_rfl) (by decide) (fun _ _ _ h => h) (Or.inl ⟨by rfl, ?yz6⟩) hS9 ?rz6
  case yz6 => (intro w _; go_simp; first | done | with_reducible rfl)
  try simp only [Act.put, List.setIfInBounds_toArray, List.set_cons_zero, List.set_cons_succ]
  refine takeP (i := 7) (v := ?vz7) rfl (by kernel_rfl) (by kernel_rfl) (by kernel_rfl) (by decide) (fun _ _ _ h => h) (Or.inl ⟨by rfl, ?yz7⟩) hS9 ?rz7
  case yz7 => (intro w _; go_simp; first | done | with_reducible rfl)
  try simp only [Act.put, List.setIfInBounds_toArray, List.set_cons_zero, List.set_cons_succ]
  refine readyG (rs := [8]) (by kernel_rfl) (by simp) (consG rfl (fun K hK => ?_) nilG)
  go_simp
  refine hK.out _ _ (fun h => absurd rfl h) (fun hHeld => ?_)
  clear hK K hHeld
  try simp only [Act.put, List.setIfInBounds_toArray, List.set_cons_zero, List.set_cons_succ]
  refine doneG (by kernel_rfl) ?_ _
  have HC9 := Lib.hid hS9.1
  have HG9 := Lib.hid (HG0.out.chg hS9.1 (by simp))
  clear hSS hS8 hS9
  by_cases hE : E = 0
  · subst hE
    obtain rfl : Ei = 0 := HEI.out
    obtain ⟨hT1, hT2⟩ := HTE.out rfl
    have HFL := Lib.hid (ref19_flush w9 p sv wv D HG9.out ⟨HOK.out.fine, HOK.out.placed, HOK.out.len, by have := HOK.out.few; omega, HOK.out.tight⟩ HGD.out (by have := HN.out; have := HNB.out; omega))
    have HO := Lib.hid (GkD.flush_ok0 HOK.out)
    have hvl : D.flush.vals.length ≤ 30000 := by
      have ht := D.flush_same.2.2.1
      have h4 := HN.out
      have h5 := HNB.out
      rw [← ht] at h4
      unfold GkD.total at h4
      omega
    have HEQ := Lib.hid (rfl : D.flush = D.flush)
    generalize hX : D.flush = X at *
    have HX := Lib.hid hX
    clear hX
    have HHI := Lib.hid (show ∀ s ∈ spF 0 X.row, s.hi ≤ 30000 ∧ s.lo ≤ s.hi from fun s hs => ⟨Nat.le_trans (HO.out.fine.high s hs) hvl, (spF_lohi 0 X.row s hs).2⟩)
    have HTB := Lib.hid (show T ≤ 30000 from by have := HNB.out; omega)
    have HGF := Lib.hid (goS_found (t := T) (M := 18446744073709551615) (l := X.row) (fun s hs => by have h1 := HHI.out s hs; have h2 := HTB.out; unfold offN; omega))
    obtain ⟨V, hV⟩ : ∃ V, V = foundX T X.row := ⟨_, rfl⟩
    rw [← hV] at HGF
    have HV := Lib.hid hV
    clear hV hvl
    go_wp2_with fail
    refine HFL.out.mono ?_
    rintro e w1 ⟨rfl, sv1, wv1, hg1, hc1, hs1, hw1⟩
    obtain ⟨-, -, c2, -⟩ := hg1.cells
    obtain ⟨so, sc, hsv⟩ := hg1.spots.shape
    subst hsv
    have HG1 := Lib.hid hg1
    have HM1 := Lib.hid ((Mv.of_chg (F := fpS p sv wv) HC9.out.nil).trans (RG.mv hc1 hs1 hw1))
    have hsl : (spF 0 X.row).length = X.row.length := spF_len 0 X.row
    have HRD := Lib.hid hg1.spots.rd
    generalize spF 0 X.row = S at *
    obtain ⟨n0, hn0⟩ : ∃ n, n = X.row.length := ⟨_, rfl⟩
    rw [← hn0] at c2 HRD HM1 HG1 hsl
    have HSL := Lib.hid hsl
    have HN0 := Lib.hid (show n0 ≤ 30000 from by have h1 := HO.out.len; have h2 := HX.out; have h3 := D.flush_same.2.2.1; rw [h2] at h3; have h4 := HN.out; have h5 := HNB.out; unfold GkD.total at h3 h4; omega)
    clear hg1 hc1 hs1 hw1 hsl hn0 HFL
    go_wp2
    go_loopw [8, 9, 30] (fun bv xv i wx => ∃ (k best : Nat) (y : Int), k ≤ n0 ∧ i = .int .i64 (k : Nat) ∧ bv = .int .u64 (best : Nat) ∧ xv = .int .i64 y ∧ Hid (goS T best y (S.drop k) = V) ∧ Chg [] w1 wx) (fun _ _ i _ => n0 - (intOf i).toNat)
    case atStart => exact ⟨0, 18446744073709551615, 0, Nat.zero_le _, rfl, rfl, rfl, Lib.hid HGF.out, Chg.refl _ _⟩
    case round =>
      obtain ⟨k, best, y, hk, rfl, rfl, rfl, HL, hch⟩ := hrel
      by_cases hlt : k < n0
      · have hkl : k < S.length := by have := HSL.out; omega
        obtain ⟨b, o, rfl, hcc⟩ := (HRD.out.chg hch (by simp)).addr (by omega)
        rw [← HSL.out] at hcc
        obtain ⟨d0, d1, d2⟩ := sp_get3 hcc hkl
        have hgo := HL.out
        rw [List.drop_eq_getElem_cons hkl, goS] at hgo
        obtain ⟨h1, h2⟩ := HHI.out S[k] (List.getElem_mem hkl)
        generalize S[k] = s at *
        have htb := HTB.out
        have hnb := HN0.out
        have hoff : offN T s.lo s.hi = max (T - s.lo) (s.hi - T) := rfl
        generalize offN T s.lo s.hi = d at *
        clear hcc
        have HOFF := Lib.hid hoff
        clear hoff
        have hcut : ∃ q : Nat, q = T - s.lo := ⟨_, rfl⟩
        obtain ⟨q, hq⟩ := hcut
        have HQ := Lib.hid hq
        clear hq
        go_upto_if 37 with (fail)
        go_cut [12] (fun a wx => a = .int .u64 (q : Nat) ∧ wx = wr.alloc (.cells #[.int .i64 s.x, .int .u64 s.lo, .int .u64 s.hi] 108))
        case first =>
          by_cases h : s.lo < T
          · have e1 : decide ((s.lo : Int) < (T : Int)) = true := decide_eq_true (by omega)
            have e1' : decide (s.lo < T) = true := decide_eq_true h
            have e3 : IntKind.u64.wrap ((T : Int) - (s.lo : Int)) = (q : Int) := by rw [IntKind.wrap_u64, HQ.out]; omega
            go_wp2_with fail
            go_meet
            exact ⟨rfl, rfl⟩
          · have e1 : decide ((s.lo : Int) < (T : Int)) = false := decide_eq_false (by omega)
            have e1' : decide (s.lo < T) = false := decide_eq_false h
            go_wp2_with fail
            go_meet
            exact ⟨by rw [HQ.out]; congr 1; omega, rfl⟩
        case rest =>
          obtain ⟨rfl, rfl⟩ := hcut
          obtain ⟨y2, hy2⟩ : ∃ z : Nat, z = s.hi - T := ⟨_, rfl⟩
          have HY2 := Lib.hid hy2
          clear hy2
          go_upto_if 45 with (fail)
          go_cut [12] (fun a wx => a = .int .u64 (d : Nat) ∧ wx = wr.alloc (.cells #[.int .i64 s.x, .int .u64 s.lo, .int .u64 s.hi] 108))
          case first =>
            by_cases h : T < s.hi
            · have e1 : decide ((T : Int) < (s.hi : Int)) = true := decide_eq_true (by omega)
              have e1' : decide (T < s.hi) = true := decide_eq_true h
              have e3 : IntKind.u64.wrap ((s.hi : Int) - (T : Int)) = (y2 : Int) := by rw [IntKind.wrap_u64, HY2.out]; omega
              go_wp2_with fail
              all_goals
                go_meet
                refine ⟨congrArg (Value.int .u64) ?_, rfl⟩
                have h1 := HOFF.out
                have h2 := HQ.out
                have h3 := HY2.out
                first | omega | (simp_all; done) | (split <;> omega)
            · have e1 : decide ((T : Int) < (s.hi : Int)) = false := decide_eq_false (by omega)
              have e1' : decide (T < s.hi) = false := decide_eq_false h
              go_wp2_with fail
              go_meet
              exact ⟨congrArg (Value.int .u64) (by have h1 := HOFF.out; have h2 := HQ.out; omega), rfl⟩
          case rest =>
            obtain ⟨rfl, rfl⟩ := hcut
            by_cases h : d < best
            · have e1 : decide ((d : Int) < (best : Int)) = true := decide_eq_true (by omega)
              have e1' : decide (d < best) = true := decide_eq_true h
              rw [if_pos h] at hgo
              have HGO := Lib.hid hgo
              clear hgo h
              go_wp2
              exact ⟨⟨k + 1, d, s.x, by omega, by go_num, rfl, rfl, HGO, hch.alloc _⟩, by simp [intOf]; omega⟩
            · have e1 : decide ((d : Int) < (best : Int)) = false := decide_eq_false (by omega)
              have e1' : decide (d < best) = false := decide_eq_false h
              rw [if_neg h] at hgo
              have HGO := Lib.hid hgo
              clear hgo h
              go_wp2
              exact ⟨⟨k + 1, best, y, by omega, by go_num, rfl, rfl, HGO, hch.alloc _⟩, by simp [intOf]; omega⟩
      · obtain rfl : k = n0 := by omega
        rw [List.drop_of_length_le (by have := HSL.out; omega)] at HL
        obtain rfl : y = V := HL.out
        have HCH := Lib.hid hch
        clear hch
        go_wp2_with fail
        go_ret2
        rw [HX.out, ← HV.out]
        first
        | exact ⟨rfl, _, _, HG1.out.chg HCH.out (by simp), HM1.out.trans (Mv.of_chg HCH.out.nil)⟩
        | exact .inr ⟨rfl, rfl, _, _, HG1.out.chg HCH.out (by simp), HM1.out.trans (Mv.of_chg HCH.out.nil)⟩
  · have hne : (Ei > 0) := by have := HEI.out; omega
    have hne2 : decide (0 < Ei) = true := decide_eq_true hne
    have HNE := Lib.hid hE
    clear hE hne
    go_wp2_with fail
    go_ret2
    exact .inl ⟨HNE.out, rfl, HG9.out, HC9.out⟩
end Go.Proofs.Ytkcldhimjnehdaa
