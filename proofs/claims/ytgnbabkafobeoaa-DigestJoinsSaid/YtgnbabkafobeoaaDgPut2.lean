/-
  The walks of tidy, ends, Put (layer 17). Conditions: the form's own reach.
-/
import Derived.Test.YtgnbabkafobeoaaDgPut
namespace Go.Proofs.Ytgnbabkafobeoaa
open Go.RowKit

def DgD.ends (D : DgD) (lo hi : Int) : DgD := if totP D.row = 0 then { D with least := lo, most := hi } else { D with least := min D.least lo, most := max D.most hi }
theorem DgD.ends_same (D : DgD) (lo hi : Int) : (D.ends lo hi).depth = D.depth ∧ (D.ends lo hi).factor = D.factor ∧ (D.ends lo hi).row = D.row := by
  unfold DgD.ends
  split <;> exact ⟨rfl, rfl, rfl⟩
theorem Dg.setEnds {w : World} {p s : Nat} {rv : Value} {D : DgD} (h : Dg w p s rv D) (lo hi : Int) :
    Dg ((w.setCell ⟨p, 4, none⟩ (.int .i64 lo)).setCell ⟨p, 5, none⟩ (.int .i64 hi)) p s rv { D with least := lo, most := hi } ∧ Chg [p] w ((w.setCell ⟨p, 4, none⟩ (.int .i64 lo)).setCell ⟨p, 5, none⟩ (.int .i64 hi)) := by
  have k2 : Chg [p] w ((w.setCell ⟨p, 4, none⟩ (.int .i64 lo)).setCell ⟨p, 5, none⟩ (.int .i64 hi)) := ((Chg.refl _ w).setCell (a := ⟨p, 4, none⟩) (.inl (by simp)) _).setCell (a := ⟨p, 5, none⟩) (.inl (by simp)) _
  refine ⟨⟨?_, h.strip.chg k2 (fun b hb e => by simp at e; subst e; exact h.p_fp hb), h.ne⟩, k2⟩
  exact (h.blk.setCell 4 (.int .i64 lo)).setCell 5 (.int .i64 hi)
set_option maxRecDepth 100000 in
set_option maxHeartbeats 1000000 in
theorem dg_tidy (w : World) (p s : Nat) (rv : Value) (D : DgD) (h : Dg w p s rv D) (hok : D.ok) :
    Calls Try.prog 43 #[.pointer (some ⟨p, 0, none⟩)] w fun e w' => e = .returned (.tuple #[]) ∧ ∃ s' rv', Dg w' p s' rv' { D with row := tidyR D.factor D.row } ∧ Mv (fpD p s rv) w (fpD p s' rv') w' := by
  obtain ⟨-, -, -, c3, -, -⟩ := h.cells
  obtain ⟨n, hn⟩ : ∃ n, n = D.row.length := ⟨_, rfl⟩
  have HLE := Lib.hid (strip_len w s rv D.row h.strip n hn)
  have HMO := Lib.hid (dg_most w p s rv D h hok.f2)
  have HSQ := Lib.hid (dg_squeeze w p s rv D h hok)
  have HH := Lib.hid h
  obtain ⟨m, hm⟩ : ∃ m, m = 4 * D.factor := ⟨_, rfl⟩
  have HT := Lib.hid (show tidyR D.factor D.row = if m < n then squeezeR D.factor D.row else D.row from by rw [hm, hn]; rfl)
  rw [← hm] at HMO
  clear h hok hn hm
  go_enter Try.func43, Try.ntmps43
  go_wp2_with fail
  refine HLE.out.mono ?_
  rintro e w1 ⟨rfl, rfl⟩
  go_wp2_with fail
  refine HMO.out.mono ?_
  rintro e w1 ⟨rfl, rfl⟩
  by_cases h1 : m < n
  · have d1 : decide ((m : Int) < (n : Int)) = true := decide_eq_true (by omega)
    have d1' : decide (m < n) = true := decide_eq_true h1
    rw [if_pos h1] at HT
    clear h1
    go_wp2_with fail
    refine HSQ.out.mono ?_
    rintro e w2 ⟨rfl, s2, rv2, h2, h3⟩
    have H2 := Lib.hid h2
    have H3 := Lib.hid h3
    clear h2 h3
    go_wp2_with fail
    go_end0
    rw [HT.out]
    exact ⟨rfl, s2, rv2, H2.out, H3.out⟩
  · have d1 : decide ((m : Int) < (n : Int)) = false := decide_eq_false (by omega)
    have d1' : decide (m < n) = false := decide_eq_false h1
    rw [if_neg h1] at HT
    clear h1
    go_wp2_with fail
    go_end0
    rw [HT.out]
    exact ⟨rfl, s, rv, HH.out, Mv.of_chg (Chg.refl _ _)⟩
set_option maxRecDepth 100000 in
set_option maxHeartbeats 4000000 in
theorem dg_ends (w : World) (p s : Nat) (rv : Value) (D : DgD) (h : Dg w p s rv D) (lo hi : Int) :
    Calls Try.prog 41 #[.pointer (some ⟨p, 0, none⟩), .int .i64 lo, .int .i64 hi] w fun e w' => e = .returned (.tuple #[]) ∧ Dg w' p s rv (D.ends lo hi) ∧ Chg [p] w w' := by
  have HTO := Lib.hid (dg_total w p s rv D h)
  have HH := Lib.hid h
  obtain ⟨-, -, -, -, c4, c5⟩ := h.cells
  have f4 := h.blk.free 4
  have f5 := h.blk.free 5
  obtain ⟨T, hT⟩ : ∃ T, T = totP D.row := ⟨_, rfl⟩
  have HE := Lib.hid (show D.ends lo hi = if T = 0 then { D with least := lo, most := hi } else { D with least := min D.least lo, most := max D.most hi } from by rw [hT]; rfl)
  rw [← hT] at HTO
  clear h hT
  go_enter Try.func41, Try.ntmps41
  go_wp2_with fail
  refine HTO.out.mono ?_
  rintro e w1 ⟨rfl, rfl⟩
  by_cases h0 : T = 0
  · have d0 : ((T : Int) == 0) = true := by rw [beq_iff_eq]; omega
    rw [if_pos h0] at HE
    have HS := Lib.hid (HH.out.setEnds lo hi)
    clear h0 HTO
    go_wp2_with fail
    refine bodyPost_ret (results_none rfl _ _ _) rfl ?_
    rw [HE.out]
    exact ⟨rfl, HS.out.1, HS.out.2⟩
  · have d0 : ((T : Int) == 0) = false := by rw [beq_eq_false_iff_ne]; omega
    rw [if_neg h0] at HE
    clear h0 HTO
    go_upto_region 2 with (fail)
    have hSS : w.drew.cell? ⟨p, 4, none⟩ = some (.int .i64 D.least) ∧ w.drew.cell? ⟨p, 5, none⟩ = some (.int .i64 D.most) := ⟨c4, c5⟩
    refine startG (S := fun wx => wx.cell? ⟨p, 4, none⟩ = some (.int .i64 D.least) ∧ wx.cell? ⟨p, 5, none⟩ = some (.int .i64 D.most)) (st := 16) (by kernel_rfl) hSS (fun hHeld => ?_)
    refine takeP (i := 0) (v := ?vz0) rfl (by kernel_rfl) (by kernel_rfl) (by kernel_rfl) (by decide) (fun _ _ _ h => h) (Or.inl ⟨by rfl, ?yz0⟩) hSS ?rz0
    case yz0 => (intro w _; go_simp; first | done | with_reducible rfl)
    try simp only [Act.put, List.setIfInBounds_toArray, List.set_cons_zero, List.set_cons_succ]
    refine takeP (i := 1) (v := ?vz1) rfl (by kernel_rfl) (by kernel_rfl) (by kernel_rfl) (by decide) (fun _ _ _ h => h) (Or.inl ⟨by rfl, ?yz1⟩) hSS ?rz1
    case yz1 => (intro w _; go_simp; first | done | with_reducible rfl)
    try simp only [Act.put, List.setIfInBounds_toArray, List.set_cons_zero, List.set_cons_succ]
    refine takeP (i := 2) (v := ?vz2) rfl (by kernel_rfl) (by kernel_rfl) (by kernel_rfl) (by decide) (fun _ _ _ h => h) (Or.inl ⟨by rfl, ?yz2⟩) hSS ?rz2
    case yz2 => (intro w _; go_simp; first | done | with_reducible rfl)
    try simp only [Act.put, List.setIfInBounds_toArray, List.set_cons_zero, List.set_cons_succ]
    refine takeP (i := 3) (v := ?vz3) rfl (by kernel_rfl) (by kernel_rfl) (by kernel_rfl) (by decide) (fun _ _ _ h => h) (Or.inl ⟨by rfl, ?yz3⟩) hSS ?rz3
    case yz3 => (intro w _; go_simp; first | done | with_reducible rfl)
    try simp only [Act.put, List.setIfInBounds_toArray, List.set_cons_zero, List.set_cons_succ]
    refine takeP (i := 4) (v := ?vz4) rfl (by kernel_rfl) (by kernel_rfl) (by kernel_rfl) (by decide) (fun _ _ _ h => h) (Or.inl ⟨by rfl, ?yz4⟩) hSS ?rz4
    case yz4 => (intro w _; go_simp; first | done | with_reducible rfl)
    try simp only [Act.put, List.setIfInBounds_toArray, List.set_cons_zero, List.set_cons_succ]
    refine takeG (i := 5) (v := ?vz5) rfl (by kernel_rfl) (by kernel_rfl) (by kernel_rfl) (by decide) (by kernel_rfl) (by kernel_rfl) (fun _ _ _ h => h) (Or.inl ⟨by rfl, ?yz5⟩) hSS ?rz5
    case yz5 => (intro w hSw; (try dsimp only at hSw); go_simp; first | done | with_reducible rfl)
    try simp only [Act.put, List.setIfInBounds_toArray, List.set_cons_zero, List.set_cons_succ]
    refine takeP (i := 6) (v := ?vz6) rfl (by kernel_rfl) (by kernel_rfl) (by kernel_rfl) (by decide) (fun _ _ _ h => h) (Or.inl ⟨by rfl, ?yz6⟩) hSS ?rz6
    case yz6 => (intro w _; go_simp; first | done | with_reducible rfl)
    try simp only [Act.put, List.setIfInBounds_toArray, List.set_cons_zero, List.set_cons_succ]
    refine takeP (i := 7) (v := ?vz7) rfl (by kernel_rfl) (by kernel_rfl) (by kernel_rfl) (by decide) (fun _ _ _ h => h) (Or.inl ⟨by rfl, ?yz7⟩) hSS ?rz7
    case yz7 => (intro w _; go_simp; first | done | with_reducible rfl)
    try simp only [Act.put, List.setIfInBounds_toArray, List.set_cons_zero, List.set_cons_succ]
    refine takeP (i := 8) (v := ?vz8) rfl (by kernel_rfl) (by kernel_rfl) (by kernel_rfl) (by decide) (fun _ _ _ h => h) (Or.inl ⟨by rfl, ?yz8⟩) hSS ?rz8
    case yz8 => (intro w _; go_simp; first | done | with_reducible rfl)
    try simp only [Act.put, List.setIfInBounds_toArray, List.set_cons_zero, List.set_cons_succ]
    refine takeP (i := 9) (v := ?vz9) rfl (by kernel_rfl) (by kernel_rfl) (by kernel_rfl) (by decide) (fun _ _ _ h => h) (Or.inl ⟨by rfl, ?yz9⟩) hSS ?rz9
    case yz9 => (intro w _; go_simp; first | done | with_reducible rfl)
    try simp only [Act.put, List.setIfInBounds_toArray, List.set_cons_zero, List.set_cons_succ]
    refine takeP (i := 10) (v := ?vz10) rfl (by kernel_rfl) (by kernel_rfl) (by kernel_rfl) (by decide) (fun _ _ _ h => h) (Or.inl ⟨by rfl, ?yz10⟩) hSS ?rz10
    case yz10 => (intro w _; go_simp; first | done | with_reducible rfl)
    try simp only [Act.put, List.setIfInBounds_toArray, List.set_cons_zero, List.set_cons_succ]
    refine takeG (i := 11) (v := ?vz11) rfl (by kernel_rfl) (by kernel_rfl) (by kernel_rfl) (by decide) (by kernel_rfl) (by kernel_rfl) (fun _ _ _ h => h) (Or.inl ⟨by rfl, ?yz11⟩) hSS ?rz11
    case yz11 => (intro w hSw; (try dsimp only at hSw); go_simp; first | done | with_reducible rfl)
    try simp only [Act.put, List.setIfInBounds_toArray, List.set_cons_zero, List.set_cons_succ]
    refine takeP (i := 12) (v := ?vz12) rfl (by kernel_rfl) (by kernel_rfl) (by kernel_rfl) (by decide) (fun _ _ _ h => h) (Or.inl ⟨by rfl, ?yz12⟩) hSS ?rz12
    case yz12 => (intro w _; go_simp; first | done | with_reducible rfl)
    try simp only [Act.put, List.setIfInBounds_toArray, List.set_cons_zero, List.set_cons_succ]
    refine takeP (i := 13) (v := ?vz13) rfl (by kernel_rfl) (by kernel_rfl) (by kernel_rfl) (by decide) (fun _ _ _ h => h) (Or.inl ⟨by rfl, ?yz13⟩) hSS ?rz13
    case yz13 => (intro w _; go_simp; first | done | with_reducible rfl)
    try simp only [Act.put, List.setIfInBounds_toArray, List.set_cons_zero, List.set_cons_succ]
    refine takeP (i := 14) (v := ?vz14) rfl (by kernel_rfl) (by kernel_rfl) (by kernel_rfl) (by decide) (fun _ _ _ h => h) (Or.inl ⟨by rfl, ?yz14⟩) hSS ?rz14
    case yz14 => (intro w _; go_simp; first | done | with_reducible rfl)
    try simp only [Act.put, List.setIfInBounds_toArray, List.set_cons_zero, List.set_cons_succ]
    refine takeP (i := 15) (v := ?vz15) rfl (by kernel_rfl) (by kernel_rfl) (by kernel_rfl) (by decide) (fun _ _ _ h => h) (Or.inl ⟨by rfl, ?yz15⟩) hSS ?rz15
    case yz15 => (intro w _; go_simp; first | done | with_reducible rfl)
    try simp only [Act.put, List.setIfInBounds_toArray, List.set_cons_zero, List.set_cons_succ]
    refine readyG (rs := [16]) (by kernel_rfl) (by simp) (consG rfl (fun K hK => ?_) nilG)
    go_simp
    refine hK.out _ _ (fun h => absurd rfl h) (fun hHeld => ?_)
    clear hK K hHeld
    try simp only [Act.put, List.setIfInBounds_toArray, List.set_cons_zero, List.set_cons_succ]
    refine readyG (rs := [17]) (by kernel_rfl) (by simp) (consG rfl (fun K hK => ?_) nilG)
    go_simp
    refine hK.out _ _ (fun _ h => absurd h (by decide)) (fun hHeld => ?_)
    clear hK K hHeld
    try simp only [Act.put, List.setIfInBounds_toArray, List.set_cons_zero, List.set_cons_succ]
    refine readyG (rs := [18]) (by kernel_rfl) (by simp) (consG rfl (fun K hK => ?_) nilG)
    go_simp
    refine hK.out _ _ (fun _ h => absurd h (by decide)) (fun hHeld => ?_)
    clear hK K hHeld
    try simp only [Act.put, List.setIfInBounds_toArray, List.set_cons_zero, List.set_cons_succ]
    refine readyG (rs := [19]) (by kernel_rfl) (by simp) (consG rfl (fun K hK => ?_) nilG)
    go_simp
    refine hK.out _ _ (fun _ h => absurd h (by decide)) (fun hHeld => ?_)
    clear hK K hHeld
    try simp only [Act.put, List.setIfInBounds_toArray, List.set_cons_zero, List.set_cons_succ]
    refine doneG (by kernel_rfl) ?_ _
    have HS := Lib.hid (HH.out.setEnds (min D.least lo) (max D.most hi))
    have e1 : (if lo < D.least then lo else D.least) = min D.least lo := by split <;> omega
    have e2 : (if D.most < hi then hi else D.most) = max D.most hi := by split <;> omega
    rw [e1, e2]
    clear e1 e2 hSS
    go_wp2_with fail
    go_end0
    rw [HE.out]
    exact ⟨rfl, HS.out.1.chg ((Chg.refl [] _).drew) (by simp), HS.out.2.drew⟩
theorem Dg.mvEnds {w w1 : World} {p s : Nat} {rv : Value} (k : Chg [p] w w1) : Mv (fpD p s rv) w (fpD p s rv) w1 := ⟨k.mono (fun b hb => .inl (by simp at hb; subst hb; simp [fpD])), fun b hb => .inl hb⟩
noncomputable def DgD.put (D : DgD) (x : Int) (c : Nat) : DgD := { D.ends x x with row := tidyR D.factor (refAdd D.row (((2 ^ D.depth : Nat) : Int) + x) c) }
theorem DgD.ends_ok {D : DgD} (h : D.ok) (lo hi : Int) : (D.ends lo hi).ok := by
  unfold DgD.ends
  split <;> exact ⟨h.d1, h.d2, h.f1, h.f2, h.nodes, h.tot, h.len⟩
theorem DgD.put_ok {D : DgD} (h : D.ok) {x : Int} {c : Nat} (h0 : 0 ≤ x) (h1 : x < ((2 ^ D.depth : Nat) : Int)) (hc : totP D.row + c ≤ 9223372036854775807) (hl : D.row.length + 1 ≤ 1000) :
    (D.put x c).ok ∧ (D.put x c).depth = D.depth ∧ (D.put x c).factor = D.factor ∧ totP (D.put x c).row = totP D.row + c ∧ (D.put x c).row.length ≤ D.row.length + 1 := by
  obtain ⟨e1, e2, e3⟩ := D.ends_same x x
  have hp := two_d h.d1 h.d2
  have hN : Nodes (refAdd D.row (((2 ^ D.depth : Nat) : Int) + x) c) D.top := h.nodes.add (by omega) (by unfold DgD.top; omega) c
  obtain ⟨t1, t2, t3⟩ := tidyR_ok (f := D.factor) hN
  have t4 := refAdd_len (i := ((2 ^ D.depth : Nat) : Int) + x) h.nodes.up c
  have t5 := refAdd_tot (i := ((2 ^ D.depth : Nat) : Int) + x) h.nodes.up c
  refine ⟨⟨?_, ?_, ?_, ?_, ?_, ?_, ?_⟩, e1, e2, ?_, ?_⟩
  · show 1 ≤ (D.ends x x).depth; rw [e1]; exact h.d1
  · show (D.ends x x).depth ≤ 24; rw [e1]; exact h.d2
  · show 1 ≤ (D.ends x x).factor; rw [e2]; exact h.f1
  · show (D.ends x x).factor ≤ 64; rw [e2]; exact h.f2
  · show Nodes (tidyR D.factor _) (2 * ((2 ^ (D.ends x x).depth : Nat) : Int)); rw [e1]; exact t1
  · show totP (tidyR D.factor _) ≤ _; omega
  · show (tidyR D.factor _).length ≤ _; omega
  · show totP (tidyR D.factor _) = _; omega
  · show (tidyR D.factor _).length ≤ _; omega
set_option maxRecDepth 100000 in
set_option maxHeartbeats 4000000 in
theorem dg_put (w : World) (p s : Nat) (rv : Value) (D : DgD) (h : Dg w p s rv D) (hok : D.ok) (x : Int) (c : Nat) (h0 : 0 ≤ x) (h1 : x < ((2 ^ D.depth : Nat) : Int)) (hc1 : 1 ≤ c) (hc : totP D.row + c ≤ 9223372036854775807) (hl : D.row.length + 1 ≤ 1000) :
    Calls Try.prog 18 #[.pointer (some ⟨p, 0, none⟩), .int .i64 x, .int .u64 (c : Nat)] w fun e w' => e = .returned (.int .i64 0) ∧ ∃ s' rv', Dg w' p s' rv' (D.put x c) ∧ Mv (fpD p s rv) w (fpD p s' rv') w' := by
  obtain ⟨P, hP⟩ : ∃ P, P = 2 ^ D.depth := ⟨_, rfl⟩
  have hp2 := two_d hok.d1 hok.d2
  rw [← hP] at h1 hp2
  have HLF := Lib.hid (fun u => tree_leaf u D.depth P hok.d1 hok.d2 hP x h0 h1)
  obtain ⟨T, hT⟩ : ∃ T, T = totP D.row := ⟨_, rfl⟩
  obtain ⟨S, hS⟩ : ∃ S, S = T + c := ⟨_, rfl⟩
  rw [← hT] at hc
  have HTO := Lib.hid (fun u (hu : Chg [] w u) => dg_total u p s rv D (h.chg hu (by simp)))
  rw [← hT] at HTO
  have HPL := Lib.hid (fun u b0 hb0 => wide_plus2 u T c (by omega) (by omega) b0 hb0)
  have e : plusV [T, c] = .tuple #[.int .u64 (S : Nat), .bool true] := by
    have e0 : [T, c].sum = S := by simp [hS]
    unfold plusV
    rw [e0, if_pos (by omega)]
  rw [e] at HPL
  obtain ⟨E, hE⟩ : ∃ E, E = D.ends x x := ⟨_, rfl⟩
  obtain ⟨e1, e2, e3⟩ := D.ends_same x x
  rw [← hE] at e1 e2 e3
  have HEN := Lib.hid (fun u (hu : Chg [] w u) => dg_ends u p s rv D (h.chg hu (by simp)) x x)
  rw [← hE] at HEN
  have HEO := Lib.hid (show E.ok from by rw [hE]; exact DgD.ends_ok hok x x)
  obtain ⟨r2, hr2⟩ : ∃ r, r = refAdd D.row ((P : Int) + x) c := ⟨_, rfl⟩
  have hN : Nodes r2 D.top := by rw [hr2]; exact hok.nodes.add (by omega) (by unfold DgD.top; rw [← hP]; omega) c
  have t4 := refAdd_len (i := (P : Int) + x) hok.nodes.up c
  have t5 := refAdd_tot (i := (P : Int) + x) hok.nodes.up c
  rw [← hr2] at t4 t5
  have HO2 := Lib.hid (show ({ E with row := r2 } : DgD).ok from ⟨HEO.out.d1, HEO.out.d2, HEO.out.f1, HEO.out.f2, by unfold DgD.top; simp only; rw [e1]; exact hN, by show totP r2 ≤ _; omega, by show r2.length ≤ _; omega⟩)
  have HAD := Lib.hid (fun u (hu : Spt u s rv E.row) => strip_add u s rv E.row hu HEO.out.nodes.up HEO.out.nodes.pos HEO.out.len ((P : Int) + x) c hc1 (by rw [e3, ← hT]; exact hc))
  have hra : refAdd E.row ((P : Int) + x) c = r2 := by rw [e3, hr2]
  rw [hra] at HAD
  have HPT := Lib.hid (show D.put x c = { E with row := tidyR E.factor r2 } from by rw [DgD.put, ← hE, e2, hr2, hP])
  have HH := Lib.hid h
  have HS := Lib.hid (fun wx (hu : Chg [] w wx) => show wx.cell? ⟨p, 2, none⟩ = some (.int .i64 (D.depth : Nat)) from (h.chg hu (by simp)).cells.2.2.1)
  have d0 : ((c : Int) == 0) = false := by rw [beq_eq_false_iff_ne]; omega
  have c2 := HS.out _ (Chg.refl _ _)
  clear h hok hP h0 h1 hc hl hT hS e hE e1 e2 e3 hr2 hN t4 t5 hra hp2 hc1
  go_enter Try.func18, Try.ntmps18
  go_wp2_with fail
  refine (HLF.out _).mono ?_
  rintro e w1 ⟨rfl, hc1⟩
  have HC1 := Lib.hid hc1
  clear hc1 c2
  go_wp2_with fail
  refine (HTO.out _ HC1.out).mono ?_
  rintro e w2 ⟨rfl, rfl⟩
  go_wp2_with fail
  refine (HPL.out _ _ rfl).mono ?_
  rintro e w2 ⟨rfl, rfl⟩
  have HC2 := Lib.hid (HC1.out.alloc (.cells #[.int .u64 (T : Nat), .int .u64 (c : Nat)] 25))
  clear HPL HTO HLF HC1
  go_wp2_with fail
  generalize w1.alloc (.cells #[.int .u64 (T : Nat), .int .u64 (c : Nat)] 25) = w2 at *
  refine (HEN.out _ HC2.out).mono ?_
  rintro e w3 ⟨rfl, hd3, hc3⟩
  have HD3 := Lib.hid hd3
  have HM3 := Lib.hid ((Mv.of_chg (F := fpD p s rv) HC2.out.nil).trans (Dg.mvEnds hc3))
  obtain ⟨-, -, -, c3, -, -⟩ := hd3.cells
  clear hd3 hc3 HEN
  go_wp2_with fail
  refine (HAD.out _ HD3.out.strip).mono ?_
  rintro e w4 ⟨rfl, rv4, hs4, hm4⟩
  obtain ⟨hg1, hg2⟩ := HD3.out.go hs4 hm4
  have HM4 := Lib.hid (HM3.out.trans hg2)
  have HTI := Lib.hid (dg_tidy w4 p s rv4 { E with row := r2 } hg1 HO2.out)
  clear hs4 hm4 hg1 hg2 HAD c3
  go_wp2_with fail
  refine HTI.out.mono ?_
  rintro e w5 ⟨rfl, s5, rv5, h5, hm5⟩
  have H5 := Lib.hid h5
  have HM5 := Lib.hid (HM4.out.trans hm5)
  clear h5 hm5 HTI
  go_wp2_with fail
  go_ret
  rw [HPT.out]
  exact ⟨rfl, s5, rv5, H5.out, HM5.out⟩
end Go.Proofs.Ytgnbabkafobeoaa
