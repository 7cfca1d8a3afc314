/-
  The document's digest in the heap; the walks of its Total and lift (layers 7, 17). Conditions: the form's own reach.
-/
import Derived.Test.YtgnbabkafobeoaaDigest
import Derived.Test.YtgnbabkafobeoaaPrRefAdd
namespace Go.Proofs.Ytgnbabkafobeoaa
open Go.RowKit

def rdCells (sv : Value) (D : DgD) : Array Value := #[.int .i64 (D.depth : Nat), .int .i64 (D.factor : Nat), sv]
structure RD (w : World) (q : Nat) (sv : Value) (D : DgD) : Prop where
  blk : Blk w q (rdCells sv D) 63
  row : Own w 53 2 sv D.row.length (prCells D.row)
def fpR (q : Nat) (sv : Value) : List Nat := q :: blkOf sv
namespace RD
variable {w w1 : World} {q : Nat} {sv : Value} {D : DgD}
theorem lt (h : RD w q sv D) : ∀ b ∈ fpR q sv, b < w.heap.size := by
  intro b hb
  simp only [fpR, List.mem_cons] at hb
  rcases hb with rfl | hb
  · exact h.blk.lt
  · exact h.row.lt b hb
theorem chg {F : List Nat} (h : RD w q sv D) (k : Chg F w w1) (hF : ∀ b ∈ fpR q sv, b ∉ F) : RD w1 q sv D :=
  ⟨h.blk.chg k (hF q (by simp [fpR])), h.row.chg k (fun b hb => hF b (by simp [fpR, hb]))⟩
theorem q_sv (h : RD w q sv D) : q ∉ blkOf sv := h.row.ne_blk h.blk (by decide)
theorem cells (h : RD w q sv D) : w.cell? ⟨q, 0, none⟩ = some (.int .i64 (D.depth : Nat)) ∧ w.cell? ⟨q, 1, none⟩ = some (.int .i64 (D.factor : Nat)) ∧ w.cell? ⟨q, 2, none⟩ = some sv := ⟨h.blk.cell 0, h.blk.cell 1, h.blk.cell 2⟩
theorem set (h : RD w q sv D) {sv2 : Value} {r2 : List Pr} (k : Chg [] w w1) (ho : Own w1 53 2 sv2 r2.length (prCells r2)) (hf : ∀ b ∈ blkOf sv2, w.heap.size ≤ b) :
    RD (w1.setCell ⟨q, 2, none⟩ sv2) q sv2 { D with row := r2 } ∧ Mv (fpR q sv) w (fpR q sv2) (w1.setCell ⟨q, 2, none⟩ sv2) ∧ Chg [q] w (w1.setCell ⟨q, 2, none⟩ sv2) := by
  have hb := h.blk.chg k (by simp)
  have k2 : Chg [q] w1 (w1.setCell ⟨q, 2, none⟩ sv2) := (Chg.refl _ w1).setCell (a := ⟨q, 2, none⟩) (.inl (by simp)) _
  refine ⟨⟨hb.setCell 2 _, ho.chg k2 (fun b hb2 e => by simp at e; subst e; exact ho.ne_blk hb (by decide) hb2)⟩, ⟨?_, ?_⟩, (k.nil (F := [q])).setCell (a := ⟨q, 2, none⟩) (.inl (by simp)) _⟩
  · exact (k.nil (F := fpR q sv)).setCell (a := ⟨q, 2, none⟩) (.inl (by simp [fpR])) _
  · intro b hb2
    simp only [fpR, List.mem_cons] at hb2 ⊢
    rcases hb2 with rfl | hb2
    · exact .inl (.inl rfl)
    · exact .inr (hf b hb2)
end RD
theorem take_tot1 (l : List Pr) (k : Nat) (h : k < l.length) : totP (l.take (k + 1)) = totP (l.take k) + l[k].c := by
  rw [List.take_succ_eq_append_getElem h, totP_app]
  simp [totP]
set_option maxRecDepth 100000 in
set_option maxHeartbeats 1000000 in
theorem ref07_total (w : World) (ao : Option Addr) (cap n : Nat) (l : List Pr) (hn : n = l.length) (hr : Rd w 2 (.slice ao n cap) n (prCells l)) (hl : n ≤ 1000) (hm : totP l ≤ 9223372036854775807) :
    Calls Try.prog 21 #[.slice ao n cap] w fun e w' => e = .returned (.int .u64 (totP l : Nat)) ∧ Chg [] w w' := by
  have HN := Lib.hid hn
  have HR := Lib.hid hr
  have HB := Lib.hid (fun k => Nat.le_trans (take_tot l k) hm)
  obtain ⟨T, hT⟩ : ∃ T, T = totP l := ⟨_, rfl⟩
  rw [← hT]
  have HT := Lib.hid hT
  clear hn hr hm hT
  go_enter Try.func21, Try.ntmps21
  go_wp2
  go_loopw [3, 8] (fun s i wx => ∃ (k S : Nat), k ≤ n ∧ i = .int .i64 (k : Nat) ∧ s = .int .u64 (S : Nat) ∧ Hid (S = totP (l.take k)) ∧ Chg [] w wx) (fun _ i _ => n - (intOf i).toNat)
  case atStart => exact ⟨0, 0, Nat.zero_le _, rfl, rfl, Lib.hid rfl, Chg.refl _ _⟩
  case round =>
    obtain ⟨k, S, hk, rfl, rfl, HS, hch⟩ := hrel
    by_cases hlt : k < n
    · have hkl : k < l.length := by have := HN.out; omega
      obtain ⟨b, o, rfl, hc⟩ := (HR.out.chg hch (by simp)).addr (by omega)
      rw [HN.out] at hc
      obtain ⟨c0, c1⟩ := pr_at hc hkl
      have hb := HB.out (k + 1)
      rw [take_tot1 l k hkl, ← HS.out] at hb
      have HX := Lib.hid (show S + l[k].c = totP (l.take (k + 1)) from by rw [take_tot1 l k hkl, HS.out])
      generalize l[k] = v at *
      clear hc
      go_wp2
      exact ⟨⟨k + 1, S + v.c, by omega, by go_num, by go_num, HX, hch.alloc _⟩, by simp [intOf]; omega⟩
    · obtain rfl : k = n := by omega
      have HE := Lib.hid (show S = T from by rw [HS.out, HT.out, List.take_of_length_le (by have := HN.out; omega)])
      go_wp2
      go_ret
      rw [HE.out]
      exact ⟨rfl, hch⟩
theorem enters_rcount : ∀ (args : Array Value) (w : World), (callFunc 68 args).run Try.prog w = .ok (.enter 68 args) w := enters_of Try.func68 (by kernel_rfl) rfl
theorem enters_rtotal : ∀ (args : Array Value) (w : World), (callFunc 21 args).run Try.prog w = .ok (.enter 21 args) w := enters_of Try.func21 (by kernel_rfl) rfl
theorem filter_stepR (l : List Pr) (f : Pr → Bool) (k : Nat) (h : k < l.length) : (l.take (k + 1)).filter f = (l.take k).filter f ++ if f l[k] then [l[k]] else [] := by
  rw [List.take_succ_eq_append_getElem h, List.filter_append]
  congr 1
  simp [List.filter_cons]
def rest2f (r : List Pr) (v : Int) (k : Nat) : List Pr := (r.take k).filter fun p => decide (p.i ≠ v) && decide (p.i ≠ bes v) && decide (p.i ≠ v / 2)
theorem sum_le {r : List Pr} {top : Int} (h : Nodes r top) {v : Int} (hv : 1 ≤ v) : cntI r v + cntI r (bes v) + cntI r (v / 2) ≤ totP r := by
  by_cases h1 : v = 1
  · have e1 : cntI r (bes 1) = 0 := cntI_none (fun p hp e => by have h2 := (h.ix p hp).1; have h3 : bes 1 = 0 := rfl; omega)
    have e2 : cntI r (1 / 2) = 0 := cntI_none (fun p hp e => by have h2 := (h.ix p hp).1; omega)
    have e3 := cntI_tot r 1
    rw [h1, e1, e2]
    omega
  · have := rest_tot r (v := v) (by omega)
    unfold upSum at this
    omega
set_option maxRecDepth 100000 in
set_option maxHeartbeats 16000000 in
theorem ref17_lift (w : World) (q : Nat) (sv : Value) (D : DgD) (h : RD w q sv D) (hok : D.ok) (v : Int) (hv1 : 1 ≤ v) (hv2 : v < D.top) :
    Calls Try.prog 69 #[.pointer (some ⟨q, 0, none⟩), .int .i64 v] w fun e w' => e = .returned (.bool (liftV D.factor D.row v).1) ∧ ∃ sv', RD w' q sv' { D with row := (liftV D.factor D.row v).2 } ∧ Mv (fpR q sv) w (fpR q sv') w' ∧ Chg [q] w w' := by
  obtain ⟨p1, p2, p3⟩ := two_d hok.d1 hok.d2
  have htop : D.top = 2 * ((2 ^ D.depth : Nat) : Int) := rfl
  have hv3 : v < 33554432 := by omega
  have hf1 := hok.f1
  have hf2 := hok.f2
  obtain ⟨ro, rc, hrv⟩ := h.row.shape
  subst hrv
  obtain ⟨n, hn⟩ : ∃ n, n = D.row.length := ⟨_, rfl⟩
  have hn1 : n ≤ 1000 := by have := hok.len; omega
  have HNO := Lib.hid hok.nodes
  have HH := Lib.hid h
  have HN := Lib.hid hn
  have HS := Lib.hid (fun wx (hu : Chg [] w wx) => show Chg [] w wx ∧ wx.cell? ⟨q, 2, none⟩ = some (.slice ro n rc) from by
    obtain ⟨-, -, q2⟩ := (h.chg hu (by simp)).cells
    rw [← hn] at q2
    exact ⟨hu, q2⟩)
  have HF := Lib.hid (fun wx (hu : Chg [] w wx) => (h.chg hu (by simp)).cells.2.1)
  have HCN := Lib.hid (fun u (hu : Chg [] w u) (i : Int) => show Calls Try.prog 68 #[.slice ro n rc, .int .i64 i] u fun e w' => e = .returned (.int .u64 (cntI D.row i : Nat)) ∧ Chg [] u w' from by
    rw [hn]
    exact ref06_count u ro rc D.row i (h.chg hu (by simp)).row.rd hok.len hok.tot)
  have HTO := Lib.hid (fun u (hu : Chg [] w u) => ref07_total u ro rc n D.row hn (by have h2 := (h.chg hu (by simp)).row.rd; rw [← hn] at h2; exact h2) hn1 hok.tot)
  obtain ⟨A, hA⟩ : ∃ A, A = cntI D.row v := ⟨_, rfl⟩
  obtain ⟨B, hB⟩ : ∃ A, A = cntI D.row (bes v) := ⟨_, rfl⟩
  obtain ⟨C, hC⟩ : ∃ A, A = cntI D.row (v / 2) := ⟨_, rfl⟩
  obtain ⟨T, hT⟩ : ∃ A, A = totP D.row := ⟨_, rfl⟩
  have hsl := sum_le hok.nodes hv1
  rw [← hA, ← hB, ← hC, ← hT] at hsl
  have htt := hok.tot
  rw [← hT] at htt HTO
  have HA := Lib.hid hA
  have HB := Lib.hid hB
  have HC := Lib.hid hC
  obtain ⟨U, hU⟩ : ∃ U, U = upSum D.row v := ⟨_, rfl⟩
  have hsm : A + B + C = U := by rw [hU, hA, hB, hC]; rfl
  have HU := Lib.hid hU
  have hw1 : IntKind.u64.wrap ((A : Int) + (B : Int)) = ((A + B : Nat) : Int) := by rw [IntKind.wrap_u64]; omega
  have hw2 : IntKind.u64.wrap (((A + B : Nat) : Int) + (C : Int)) = (U : Int) := by rw [IntKind.wrap_u64]; omega
  have hUT : U ≤ T := by omega
  obtain ⟨AB, hAB⟩ : ∃ z, z = A + B := ⟨_, rfl⟩
  rw [← hAB] at hw1 hw2
  obtain ⟨f, hf⟩ : ∃ f, f = D.factor := ⟨_, rfl⟩
  rw [← hf] at hf1 hf2
  obtain ⟨L, hL⟩ : ∃ L, L = T / f := ⟨_, rfl⟩
  have hwf : IntKind.u64.wrap (f : Int) = (f : Int) := IntWalk.u64_in _ (by omega)
  have hq : (T : Int).tdiv (f : Int) = (L : Int) := by rw [Int.tdiv_eq_ediv_of_nonneg (by omega), hL]; rfl
  have hl : L ≤ T := by rw [hL]; exact Nat.div_le_self _ _
  have hwl : IntKind.u64.wrap (L : Int) = (L : Int) := IntWalk.u64_in _ (by omega)
  have hq2 : (T : Int) / (f : Int) = (L : Int) := by rw [hL]; rfl
  have hz : ((f : Int) == 0) = false := by rw [beq_eq_false_iff_ne]; omega
  have hz3 : (f = 0) = False := by simp; omega
  have HLL := Lib.hid (show L = totP D.row / D.factor from by rw [hL, hT, hf])
  obtain ⟨X, hX⟩ : ∃ X, X = liftV D.factor D.row v := ⟨_, rfl⟩
  rw [← hX]
  have HX := Lib.hid hX
  rw [← hf] at HF
  have hvd : v.tdiv 2 = v / 2 := Int.tdiv_eq_ediv_of_nonneg (by omega)
  have hvm : v.tmod 2 = v % 2 := Int.tmod_eq_emod_of_nonneg (by omega)
  have hwv : IntKind.i64.wrap (v / 2) = v / 2 := by rw [IntKind.wrap_i64]; omega
  have hwm : IntKind.i64.wrap (v % 2) = v % 2 := by rw [IntKind.wrap_i64]; omega
  have HTT := Lib.hid htt
  have HHT := Lib.hid hT
  obtain ⟨bv, hbv⟩ : ∃ z, z = bes v := ⟨_, rfl⟩
  have HBV := Lib.hid hbv
  obtain ⟨-, q2⟩ := HS.out _ (Chg.refl _ _)
  clear h hok hn hA hB hC hT hU hsm hX hf hL htop htt hsl hAB p1 p2 p3 hv2 hbv
  go_enter Try.func69, Try.ntmps69
  go_wp2_with fail
  refine (HCN.out _ (Chg.refl _ _) v).mono ?_
  rintro e w1 ⟨rfl, hc1⟩
  rw [← HA.out]
  have HC1 := Lib.hid hc1
  clear hc1 q2
  go_upto_if 21 with (fail)
  go_cut [6] (fun a wx => a = .int .i64 bv ∧ wx = w1)
  case first =>
    by_cases hod : v % 2 = 1
    · have d1 : (v % 2 == 1) = true := by rw [beq_iff_eq]; exact hod
      have hwb : IntKind.i64.wrap (v - 1) = bv := by rw [HBV.out, bes, if_pos hod, IntKind.wrap_i64]; omega
      have hwb2 : v - 1 = bv := by rw [HBV.out, bes, if_pos hod]
      go_wp2_with fail
      go_meet
      exact ⟨by first | rfl | exact congrArg (Value.int .i64) HBV.out.symm | (rw [hwb]; done) | (rw [hwb2]; done), rfl⟩
    · have d1 : (v % 2 == 1) = false := by rw [beq_eq_false_iff_ne]; exact hod
      have hwb : IntKind.i64.wrap (v + 1) = bv := by rw [HBV.out, bes, if_neg hod, IntKind.wrap_i64]; omega
      have hwb2 : v + 1 = bv := by rw [HBV.out, bes, if_neg hod]
      go_wp2_with fail
      go_meet
      exact ⟨by first | rfl | exact congrArg (Value.int .i64) HBV.out.symm | (rw [hwb]; done) | (rw [hwb2]; done), rfl⟩
  case rest =>
    obtain ⟨rfl, rfl⟩ := hcut
    rw [← HBV.out] at HB
    go_upto_region 5 with (fail)
    have hSS := HS.out _ HC1.out.drew
    refine startG (S := fun wx => Chg [] w wx ∧ wx.cell? ⟨q, 2, none⟩ = some (.slice ro n rc)) (st := 16) (by kernel_rfl) hSS (fun hHeld => ?_)
    refine takeP (i := 0) (v := ?va0) rfl (by kernel_rfl) (by kernel_rfl) (by kernel_rfl) (by decide) (fun _ _ _ h => h) (Or.inl ⟨by rfl, ?ya0⟩) hSS ?ra0
    case ya0 => (intro w _; go_simp; first | done | with_reducible rfl)
    try simp only [Act.put, List.setIfInBounds_toArray, List.set_cons_zero, List.set_cons_succ]
    refine takeP (i := 1) (v := ?va1) rfl (by kernel_rfl) (by kernel_rfl) (by kernel_rfl) (by decide) (fun _ _ _ h => h) (Or.inl ⟨by rfl, ?ya1⟩) hSS ?ra1
    case ya1 => (intro w _; go_simp; first | done | with_reducible rfl)
    try simp only [Act.put, List.setIfInBounds_toArray, List.set_cons_zero, List.set_cons_succ]
    refine takeP (i := 2) (v := ?va2) rfl (by kernel_rfl) (by kernel_rfl) (by kernel_rfl) (by decide) (fun _ _ _ h => h) (Or.inl ⟨by rfl, ?ya2⟩) hSS ?ra2
    case ya2 => (intro w _; go_simp; first | done | with_reducible rfl)
    try simp only [Act.put, List.setIfInBounds_toArray, List.set_cons_zero, List.set_cons_succ]
    refine takeP (i := 3) (v := ?va3) rfl (by kernel_rfl) (by kernel_rfl) (by kernel_rfl) (by decide) (fun _ _ _ h => h) (Or.inl ⟨by rfl, ?ya3⟩) hSS ?ra3
    case ya3 => (intro w _; go_simp; first | done | with_reducible rfl)
    try simp only [Act.put, List.setIfInBounds_toArray, List.set_cons_zero, List.set_cons_succ]
    refine takeG (i := 4) (v := ?va4) rfl (by kernel_rfl) (by kernel_rfl) (by kernel_rfl) (by decide) (by kernel_rfl) (by kernel_rfl) (fun _ _ _ h => h) (Or.inl ⟨by rfl, ?ya4⟩) hSS ?ra4
    case ya4 => (intro w hSw; (try dsimp only at hSw); go_simp; first | done | with_reducible rfl)
    try simp only [Act.put, List.setIfInBounds_toArray, List.set_cons_zero, List.set_cons_succ]
    refine takeP (i := 5) (v := ?va5) rfl (by kernel_rfl) (by kernel_rfl) (by kernel_rfl) (by decide) (fun _ _ _ h => h) (Or.inl ⟨by rfl, ?ya5⟩) hSS ?ra5
    case ya5 => (intro w _; go_simp; first | done | with_reducible rfl)
    try simp only [Act.put, List.setIfInBounds_toArray, List.set_cons_zero, List.set_cons_succ]
    refine takeP (i := 8) (v := ?va8) rfl (by kernel_rfl) (by kernel_rfl) (by kernel_rfl) (by decide) (fun _ _ _ h => h) (Or.inl ⟨by rfl, ?ya8⟩) hSS ?ra8
    case ya8 => (intro w _; go_simp; first | done | with_reducible rfl)
    try simp only [Act.put, List.setIfInBounds_toArray, List.set_cons_zero, List.set_cons_succ]
    refine takeP (i := 9) (v := ?va9) rfl (by kernel_rfl) (by kernel_rfl) (by kernel_rfl) (by decide) (fun _ _ _ h => h) (Or.inl ⟨by rfl, ?ya9⟩) hSS ?ra9
    case ya9 => (intro w _; go_simp; first | done | with_reducible rfl)
    try simp only [Act.put, List.setIfInBounds_toArray, List.set_cons_zero, List.set_cons_succ]
    refine takeP (i := 10) (v := ?va10) rfl (by kernel_rfl) (by kernel_rfl) (by kernel_rfl) (by decide) (fun _ _ _ h => h) (Or.inl ⟨by rfl, ?ya10⟩) hSS ?ra10
    case ya10 => (intro w _; go_simp; first | done | with_reducible rfl)
    try simp only [Act.put, List.setIfInBounds_toArray, List.set_cons_zero, List.set_cons_succ]
    refine takeG (i := 11) (v := ?va11) rfl (by kernel_rfl) (by kernel_rfl) (by kernel_rfl) (by decide) (by kernel_rfl) (by kernel_rfl) (fun _ _ _ h => h) (Or.inl ⟨by rfl, ?ya11⟩) hSS ?ra11
    case ya11 => (intro w hSw; (try dsimp only at hSw); go_simp; first | done | with_reducible rfl)
    try simp only [Act.put, List.setIfInBounds_toArray, List.set_cons_zero, List.set_cons_succ]
    refine takeP (i := 12) (v := ?va12) rfl (by kernel_rfl) (by kernel_rfl) (by kernel_rfl) (by decide) (fun _ _ _ h => h) (Or.inl ⟨by rfl, ?ya12⟩) hSS ?ra12
    case ya12 => (intro w _; go_simp; first | done | with_reducible rfl)
    try simp only [Act.put, List.setIfInBounds_toArray, List.set_cons_zero, List.set_cons_succ]
    refine takeP (i := 13) (v := ?va13) rfl (by kernel_rfl) (by kernel_rfl) (by kernel_rfl) (by decide) (fun _ _ _ h => h) (Or.inl ⟨by rfl, ?ya13⟩) hSS ?ra13
    case ya13 => (intro w _; go_simp; first | done | with_reducible rfl)
    try simp only [Act.put, List.setIfInBounds_toArray, List.set_cons_zero, List.set_cons_succ]
    refine readyG (rs := [6]) (by kernel_rfl) (by simp) (consG rfl (fun K hK => ?_) nilG)
    refine step_calls rfl 68 _ _ rfl enters_rcount _ #[.slice ro n rc, .int .i64 bv] (by simp [Act.eval]) (HCN.out _ hSS.1 bv) ?_; rintro e w4 ⟨rfl, hcq⟩; refine ⟨_, rfl, ?_⟩
    rw [← HB.out]
    have hS1 := HS.out _ (hSS.1.trans hcq)
    clear hcq
    refine hK.out _ _ (fun _ _ => hS1) (fun hHeld => ?_)
    clear hK K hHeld
    try simp only [Act.put, List.setIfInBounds_toArray, List.set_cons_zero, List.set_cons_succ]
    refine takeP (i := 7) (v := ?va7) rfl (by kernel_rfl) (by kernel_rfl) (by kernel_rfl) (by decide) (fun _ _ _ h => h) (Or.inl ⟨by rfl, ?ya7⟩) hS1 ?ra7
    case ya7 => (intro w _; go_simp; first | done | with_reducible rfl)
    try simp only [Act.put, List.setIfInBounds_toArray, List.set_cons_zero, List.set_cons_succ]
    refine readyG (rs := [14]) (by kernel_rfl) (by simp) (consG rfl (fun K hK => ?_) nilG)
    refine step_calls rfl 68 _ _ rfl enters_rcount _ #[.slice ro n rc, .int .i64 (v / 2)] (by simp [Act.eval]) (HCN.out _ hS1.1 (v / 2)) ?_; rintro e w6 ⟨rfl, hcq⟩; refine ⟨_, rfl, ?_⟩
    rw [← HC.out]
    have hS2 := HS.out _ (hS1.1.trans hcq)
    clear hcq
    refine hK.out _ _ (fun _ _ => hS2) (fun hHeld => ?_)
    clear hK K hHeld
    try simp only [Act.put, List.setIfInBounds_toArray, List.set_cons_zero, List.set_cons_succ]
    refine takeP (i := 15) (v := ?va15) rfl (by kernel_rfl) (by kernel_rfl) (by kernel_rfl) (by decide) (fun _ _ _ h => h) (Or.inl ⟨by rfl, ?ya15⟩) hS2 ?ra15
    case ya15 => (intro w _; go_simp; first | done | with_reducible rfl)
    try simp only [Act.put, List.setIfInBounds_toArray, List.set_cons_zero, List.set_cons_succ]
    refine readyG (rs := [16]) (by kernel_rfl) (by simp) (consG rfl (fun K hK => ?_) nilG)
    go_simp
    refine hK.out _ _ (fun h => absurd rfl h) (fun hHeld => ?_)
    clear hK K hHeld
    try simp only [Act.put, List.setIfInBounds_toArray, List.set_cons_zero, List.set_cons_succ]
    refine doneG (by kernel_rfl) ?_ _
    have HC6 := Lib.hid hS2.1
    have HH6 := Lib.hid (HH.out.chg hS2.1 (by simp))
    clear hSS hS1 hS2 HCN HC1
    have HSAME := Lib.hid (show stays D.factor D.row v = true → X = (false, D.row) from fun e => by rw [HX.out]; exact if_pos e)
    by_cases h1 : v = 1
    · have d1 : (v == 1) = true := by rw [beq_iff_eq]; exact h1
      have HE := Lib.hid (HSAME.out (by rw [stays, decide_eq_true h1]; rfl))
      clear h1
      go_wp2
      go_quiet (fail)
      go_wp2_with fail
      go_ret
      rw [HE.out]
      have hcz : Chg [] w6 (w6.drewN nq) := (Chg.refl [] w6).drewN nq
      exact ⟨rfl, _, HH6.out.chg hcz (by simp), Mv.of_chg (HC6.out.trans hcz).nil, (HC6.out.trans hcz).nil⟩
    have d1 : (v == 1) = false := by rw [beq_eq_false_iff_ne]; exact h1
    by_cases h0 : A = 0
    · have d2 : ((A : Int) == 0) = true := by rw [beq_iff_eq]; omega
      have HE := Lib.hid (HSAME.out (by rw [stays, ← HA.out, decide_eq_true h0, Bool.or_true]; rfl))
      clear h0
      go_wp2
      go_quiet (fail)
      go_wp2_with fail
      go_ret
      rw [HE.out]
      have hcz : Chg [] w6 (w6.drewN nq) := (Chg.refl [] w6).drewN nq
      exact ⟨rfl, _, HH6.out.chg hcz (by simp), Mv.of_chg (HC6.out.trans hcz).nil, (HC6.out.trans hcz).nil⟩
    have d2 : ((A : Int) == 0) = false := by rw [beq_eq_false_iff_ne]; omega
    have h2v : 2 ≤ v := by omega
    have hUL : decide ((L : Int) < (U : Int)) = decide (L < U) := by simp
    obtain ⟨Q, hQ⟩ : ∃ Q, Q = decide (L < U) := ⟨_, rfl⟩
    rw [← hQ] at hUL
    have hUL2 : decide (L < U) = Q := hQ.symm
    have HQ := Lib.hid hQ
    clear hQ
    go_upto_region 6 with (fail)
    go_cut [60] (fun a wx => a = .bool Q ∧ Chg [] w6 wx)
    case first =>
      have HS2 := Lib.hid (fun wx (hu : Chg [] w6 wx) => show Chg [] w6 wx ∧ wx.cell? ⟨q, 1, none⟩ = some (.int .i64 (f : Nat)) ∧ wx.cell? ⟨q, 2, none⟩ = some (.slice ro n rc) from ⟨hu, HF.out _ (HC6.out.trans hu), (HS.out _ (HC6.out.trans hu)).2⟩)
      have hSS := HS2.out w6.drew (Chg.refl [] w6).drew
      refine startG (S := fun wx => Chg [] w6 wx ∧ wx.cell? ⟨q, 1, none⟩ = some (.int .i64 (f : Nat)) ∧ wx.cell? ⟨q, 2, none⟩ = some (.slice ro n rc)) (st := 12) (by kernel_rfl) hSS (fun hHeld => ?_)
      refine takeP (i := 0) (v := ?vb0) rfl (by kernel_rfl) (by kernel_rfl) (by kernel_rfl) (by decide) (fun _ _ _ h => h) (Or.inl ⟨by rfl, ?yb0⟩) hSS ?rb0
      case yb0 => (intro w _; go_simp; first | done | with_reducible rfl)
      try simp only [Act.put, List.setIfInBounds_toArray, List.set_cons_zero, List.set_cons_succ]
      refine takeP (i := 1) (v := ?vb1) rfl (by kernel_rfl) (by kernel_rfl) (by kernel_rfl) (by decide) (fun _ _ _ h => h) (Or.inl ⟨by rfl, ?yb1⟩) hSS ?rb1
      case yb1 => (intro w _; go_simp; first | done | with_reducible rfl)
      try simp only [Act.put, List.setIfInBounds_toArray, List.set_cons_zero, List.set_cons_succ]
      refine takeP (i := 2) (v := ?vb2) rfl (by kernel_rfl) (by kernel_rfl) (by kernel_rfl) (by decide) (fun _ _ _ h => h) (Or.inl ⟨by rfl, ?yb2⟩) hSS ?rb2
      case yb2 => (intro w _; go_simp; first | done | with_reducible rfl)
      try simp only [Act.put, List.setIfInBounds_toArray, List.set_cons_zero, List.set_cons_succ]
      refine takeP (i := 3) (v := ?vb3) rfl (by kernel_rfl) (by kernel_rfl) (by kernel_rfl) (by decide) (fun _ _ _ h => h) (Or.inl ⟨by rfl, ?yb3⟩) hSS ?rb3
      case yb3 => (intro w _; go_simp; first | done | with_reducible rfl)
      try simp only [Act.put, List.setIfInBounds_toArray, List.set_cons_zero, List.set_cons_succ]
      refine takeP (i := 4) (v := ?vb4) rfl (by kernel_rfl) (by kernel_rfl) (by kernel_rfl) (by decide) (fun _ _ _ h => h) (Or.inl ⟨by rfl, ?yb4⟩) hSS ?rb4
      case yb4 => (intro w _; go_simp; first | done | with_reducible rfl)
      try simp only [Act.put, List.setIfInBounds_toArray, List.set_cons_zero, List.set_cons_succ]
      refine takeP (i := 5) (v := ?vb5) rfl (by kernel_rfl) (by kernel_rfl) (by kernel_rfl) (by decide) (fun _ _ _ h => h) (Or.inl ⟨by rfl, ?yb5⟩) hSS ?rb5
      case yb5 => (intro w _; go_simp; first | done | with_reducible rfl)
      try simp only [Act.put, List.setIfInBounds_toArray, List.set_cons_zero, List.set_cons_succ]
      refine takeP (i := 6) (v := ?vb6) rfl (by kernel_rfl) (by kernel_rfl) (by kernel_rfl) (by decide) (fun _ _ _ h => h) (Or.inl ⟨by rfl, ?yb6⟩) hSS ?rb6
      case yb6 => (intro w _; go_simp; first | done | with_reducible rfl)
      try simp only [Act.put, List.setIfInBounds_toArray, List.set_cons_zero, List.set_cons_succ]
      refine takeP (i := 7) (v := ?vb7) rfl (by kernel_rfl) (by kernel_rfl) (by kernel_rfl) (by decide) (fun _ _ _ h => h) (Or.inl ⟨by rfl, ?yb7⟩) hSS ?rb7
      case yb7 => (intro w _; go_simp; first | done | with_reducible rfl)
      try simp only [Act.put, List.setIfInBounds_toArray, List.set_cons_zero, List.set_cons_succ]
      refine takeP (i := 8) (v := ?vb8) rfl (by kernel_rfl) (by kernel_rfl) (by kernel_rfl) (by decide) (fun _ _ _ h => h) (Or.inl ⟨by rfl, ?yb8⟩) hSS ?rb8
      case yb8 => (intro w _; go_simp; first | done | with_reducible rfl)
      try simp only [Act.put, List.setIfInBounds_toArray, List.set_cons_zero, List.set_cons_succ]
      refine takeP (i := 9) (v := ?vb9) rfl (by kernel_rfl) (by kernel_rfl) (by kernel_rfl) (by decide) (fun _ _ _ h => h) (Or.inl ⟨by rfl, ?yb9⟩) hSS ?rb9
      case yb9 => (intro w _; go_simp; first | done | with_reducible rfl)
      try simp only [Act.put, List.setIfInBounds_toArray, List.set_cons_zero, List.set_cons_succ]
      refine takeP (i := 10) (v := ?vb10) rfl (by kernel_rfl) (by kernel_rfl) (by kernel_rfl) (by decide) (fun _ _ _ h => h) (Or.inl ⟨by rfl, ?yb10⟩) hSS ?rb10
      case yb10 => (intro w _; go_simp; first | done | with_reducible rfl)
      try simp only [Act.put, List.setIfInBounds_toArray, List.set_cons_zero, List.set_cons_succ]
      refine takeG (i := 11) (v := ?vb11) rfl (by kernel_rfl) (by kernel_rfl) (by kernel_rfl) (by decide) (by kernel_rfl) (by kernel_rfl) (fun _ _ _ h => h) (Or.inl ⟨by rfl, ?yb11⟩) hSS ?rb11
      case yb11 => (intro w hSw; (try dsimp only at hSw); go_simp; first | done | with_reducible rfl)
      try simp only [Act.put, List.setIfInBounds_toArray, List.set_cons_zero, List.set_cons_succ]
      refine takeP (i := 13) (v := ?vb13) rfl (by kernel_rfl) (by kernel_rfl) (by kernel_rfl) (by decide) (fun _ _ _ h => h) (Or.inl ⟨by rfl, ?yb13⟩) hSS ?rb13
      case yb13 => (intro w _; go_simp; first | done | with_reducible rfl)
      try simp only [Act.put, List.setIfInBounds_toArray, List.set_cons_zero, List.set_cons_succ]
      refine takeP (i := 14) (v := ?vb14) rfl (by kernel_rfl) (by kernel_rfl) (by kernel_rfl) (by decide) (fun _ _ _ h => h) (Or.inl ⟨by rfl, ?yb14⟩) hSS ?rb14
      case yb14 => (intro w _; go_simp; first | done | with_reducible rfl)
      try simp only [Act.put, List.setIfInBounds_toArray, List.set_cons_zero, List.set_cons_succ]
      refine takeP (i := 15) (v := ?vb15) rfl (by kernel_rfl) (by kernel_rfl) (by kernel_rfl) (by decide) (fun _ _ _ h => h) (Or.inl ⟨by rfl, ?yb15⟩) hSS ?rb15
      case yb15 => (intro w _; go_simp; first | done | with_reducible rfl)
      try simp only [Act.put, List.setIfInBounds_toArray, List.set_cons_zero, List.set_cons_succ]
      refine readyG (rs := [12, 16]) (by kernel_rfl) (by simp) (consG rfl (fun K hK => ?_) (consG rfl (fun K hK => ?_) nilG))
      ·
        refine step_callsG (by rfl) 21 _ _ rfl enters_rtotal _ #[.slice ro n rc] (by simp [Act.eval]) (HTO.out _ (HC6.out.trans hSS.1)) ?_; rintro e wb ⟨rfl, hcb⟩; refine ⟨_, rfl, ?_⟩
        have hS1 := HS2.out _ (hSS.1.trans hcb)
        clear hcb
        refine hK.out _ _ (fun h => absurd rfl h) (fun hHeld => ?_)
        clear hK K hHeld
        try simp only [Act.put, List.setIfInBounds_toArray, List.set_cons_zero, List.set_cons_succ]
        refine readyG (rs := [16]) (by kernel_rfl) (by simp) (consG rfl (fun K hK => ?_) nilG)
        go_simp
        refine hK.out _ _ (fun _ h => absurd h (by decide)) (fun hHeld => ?_)
        clear hK K hHeld
        try simp only [Act.put, List.setIfInBounds_toArray, List.set_cons_zero, List.set_cons_succ]
        refine takeP (i := 17) (v := ?vba17) rfl (by kernel_rfl) (by kernel_rfl) (by kernel_rfl) (by decide) (fun _ _ _ h => h) (Or.inl ⟨by rfl, ?yba17⟩) hS1 ?rba17
        case yba17 => (intro w _; go_simp; first | done | with_reducible rfl)
        try simp only [Act.put, List.setIfInBounds_toArray, List.set_cons_zero, List.set_cons_succ]
        refine takeP (i := 18) (v := ?vba18) rfl (by kernel_rfl) (by kernel_rfl) (by kernel_rfl) (by decide) (fun _ _ _ h => h) (Or.inl ⟨by rfl, ?yba18⟩) hS1 ?rba18
        case yba18 => (intro w _; go_simp; first | done | with_reducible rfl)
        try simp only [Act.put, List.setIfInBounds_toArray, List.set_cons_zero, List.set_cons_succ]
        refine takeP (i := 19) (v := ?vba19) rfl (by kernel_rfl) (by kernel_rfl) (by kernel_rfl) (by decide) (fun _ _ _ h => h) (Or.inl ⟨by rfl, ?yba19⟩) hS1 ?rba19
        case yba19 => (intro w _; go_simp; first | done | with_reducible rfl)
        try simp only [Act.put, List.setIfInBounds_toArray, List.set_cons_zero, List.set_cons_succ]
        refine takeP (i := 20) (v := ?vba20) rfl (by kernel_rfl) (by kernel_rfl) (by kernel_rfl) (by decide) (fun _ _ _ h => h) (Or.inl ⟨by rfl, ?yba20⟩) hS1 ?rba20
        case yba20 => (intro w _; go_simp; first | done | with_reducible rfl)
        try simp only [Act.put, List.setIfInBounds_toArray, List.set_cons_zero, List.set_cons_succ]
        refine doneG (by kernel_rfl) ?_ _
        go_wp2_with fail
        go_meet
        exact ⟨rfl, hS1.1⟩
      ·
        go_simp
        refine hK.out _ _ (fun _ _ => hSS) (fun hHeld => ?_)
        clear hK K hHeld
        try simp only [Act.put, List.setIfInBounds_toArray, List.set_cons_zero, List.set_cons_succ]
        refine takeP (i := 17) (v := ?vbb17) rfl (by kernel_rfl) (by kernel_rfl) (by kernel_rfl) (by decide) (fun _ _ _ h => h) (Or.inl ⟨by rfl, ?ybb17⟩) hSS ?rbb17
        case ybb17 => (intro w _; go_simp; first | done | with_reducible rfl)
        try simp only [Act.put, List.setIfInBounds_toArray, List.set_cons_zero, List.set_cons_succ]
        refine readyG (rs := [12]) (by kernel_rfl) (by simp) (consG rfl (fun K hK => ?_) nilG)
        refine step_callsG (by rfl) 21 _ _ rfl enters_rtotal _ #[.slice ro n rc] (by simp [Act.eval]) (HTO.out _ (HC6.out.trans hSS.1)) ?_; rintro e wb ⟨rfl, hcb⟩; refine ⟨_, rfl, ?_⟩
        have hS1 := HS2.out _ (hSS.1.trans hcb)
        clear hcb
        refine hK.out _ _ (fun h => absurd rfl h) (fun hHeld => ?_)
        clear hK K hHeld
        try simp only [Act.put, List.setIfInBounds_toArray, List.set_cons_zero, List.set_cons_succ]
        refine takeP (i := 18) (v := ?vbb18) rfl (by kernel_rfl) (by kernel_rfl) (by kernel_rfl) (by decide) (fun _ _ _ h => h) (Or.inl ⟨by rfl, ?ybb18⟩) hS1 ?rbb18
        case ybb18 => (intro w _; go_simp; first | done | with_reducible rfl)
        try simp only [Act.put, List.setIfInBounds_toArray, List.set_cons_zero, List.set_cons_succ]
        refine takeP (i := 19) (v := ?vbb19) rfl (by kernel_rfl) (by kernel_rfl) (by kernel_rfl) (by decide) (fun _ _ _ h => h) (Or.inl ⟨by rfl, ?ybb19⟩) hS1 ?rbb19
        case ybb19 => (intro w _; go_simp; first | done | with_reducible rfl)
        try simp only [Act.put, List.setIfInBounds_toArray, List.set_cons_zero, List.set_cons_succ]
        refine takeP (i := 20) (v := ?vbb20) rfl (by kernel_rfl) (by kernel_rfl) (by kernel_rfl) (by decide) (fun _ _ _ h => h) (Or.inl ⟨by rfl, ?ybb20⟩) hS1 ?rbb20
        case ybb20 => (intro w _; go_simp; first | done | with_reducible rfl)
        try simp only [Act.put, List.setIfInBounds_toArray, List.set_cons_zero, List.set_cons_succ]
        refine doneG (by kernel_rfl) ?_ _
        go_wp2_with fail
        go_meet
        exact ⟨rfl, hS1.1⟩
    case rest =>
      rename World => w7
      obtain ⟨rfl, hc7⟩ := hcut
      have HC7 := Lib.hid (HC6.out.trans hc7)
      have HH7 := Lib.hid (HH6.out.chg hc7 (by simp))
      clear hc7
      cases Q with
      | true =>
        have HE := Lib.hid (HSAME.out (by rw [stays, ← HLL.out, ← HU.out, ← HQ.out, Bool.or_true]))
        clear hUL hUL2
        go_wp2_with fail
        go_ret
        rw [HE.out]
        exact ⟨rfl, _, HH7.out, Mv.of_chg HC7.out.nil, HC7.out.nil⟩
      | false =>
        have HE := Lib.hid (show X = (true, refAdd (rest D.row v) (v / 2) U) from by
          rw [HX.out, liftV, show stays D.factor D.row v = false from by rw [stays, ← HA.out, ← HLL.out, ← HU.out, decide_eq_false h1, decide_eq_false h0, ← HQ.out]; rfl, HU.out]
          rfl)
        have HRT := Lib.hid (show totP (rest D.row v) ≤ 9223372036854775807 from by have h2 := rest_tot D.row h2v; have h3 := HTT.out; have h4 := HHT.out; omega)
        have HUM := Lib.hid (show U ≤ 9223372036854775807 from by have h3 := HTT.out; omega)
        obtain ⟨-, q2⟩ := HS.out _ HC7.out
        clear hUL hUL2 h0 h1 HSAME HX hw1 hw2 hwf hq hl hwl hq2 hz d1 d2 HTO HC6 HH6
        go_wp2
        go_loopw [8, 66] (fun out i wx => ∃ (k : Nat) (Fl : List Pr) (a3 : Option Addr) (c3 : Nat), k ≤ n ∧ i = .int .i64 (k : Nat) ∧ out = .slice a3 Fl.length c3 ∧ Hid (Fl = rest2f D.row v k) ∧ Fl.length ≤ k ∧
          Own wx 53 2 (.slice a3 Fl.length c3) Fl.length (prCells Fl) ∧ Chg [] w7 wx ∧ ∀ b ∈ abl a3, w7.heap.size ≤ b) (fun _ i _ => n - (intOf i).toNat)
        case atStart => exact ⟨0, [], none, 0, Nat.zero_le _, rfl, rfl, Lib.hid rfl, Nat.le_refl _, Own.nil _ _ _, Chg.refl _ _, by simp [abl]⟩
        case round =>
          obtain ⟨k, Fl, a3, c3, hk, rfl, rfl, HFl, hFk, ho, hch, hab⟩ := hrel
          by_cases hlt : k < n
          · have hkl : k < D.row.length := by have := HN.out; omega
            obtain ⟨b, o, rfl, hcs⟩ := (HH7.out.chg hch (by simp)).row.rd.addr (by omega)
            obtain ⟨c0, c1⟩ := pr_at hcs hkl
            have HSx := Lib.hid (filter_stepR D.row (fun p => decide (p.i ≠ v) && decide (p.i ≠ bes v) && decide (p.i ≠ v / 2)) k hkl)
            have hbx := Blk.alloc_new wr #[.int .i64 D.row[k].i, .int .u64 D.row[k].c] 53
            have hch2 := hch.alloc (.cells #[.int .i64 D.row[k].i, .int .u64 D.row[k].c] 53)
            have e0 := hbx.cell 0
            have e1 := hbx.cell 1
            have hsz := hch.size
            generalize D.row[k] = x at *
            clear hcs
            by_cases g1 : x.i = v
            · have d1 : (x.i != v) = false := by rw [g1]; simp
              have HE2 := Lib.hid (show Fl = rest2f D.row v (k + 1) from by rw [rest2f, HSx.out, if_neg (by simp [g1]), List.append_nil]; exact HFl.out)
              clear g1 HSx
              go_wp2
              exact ⟨⟨k + 1, Fl, a3, c3, by omega, by go_num, rfl, HE2, by omega, ho.alloc _, hch2, hab⟩, by simp [intOf]; omega⟩
            have d1 : (x.i != v) = true := by rw [bne_iff_ne]; exact g1
            by_cases g2 : x.i = bes v
            · have d2 : (x.i != bv) = false := by rw [g2, HBV.out]; simp
              have HE2 := Lib.hid (show Fl = rest2f D.row v (k + 1) from by rw [rest2f, HSx.out, if_neg (by simp [g2]), List.append_nil]; exact HFl.out)
              clear g1 g2 HSx
              go_wp2
              exact ⟨⟨k + 1, Fl, a3, c3, by omega, by go_num, rfl, HE2, by omega, ho.alloc _, hch2, hab⟩, by simp [intOf]; omega⟩
            have d2 : (x.i != bv) = true := by rw [bne_iff_ne, HBV.out]; exact g2
            by_cases g3 : x.i = v / 2
            · have d3 : (x.i != v / 2) = false := by rw [g3]; simp
              have HE2 := Lib.hid (show Fl = rest2f D.row v (k + 1) from by rw [rest2f, HSx.out, if_neg (by simp [g3]), List.append_nil]; exact HFl.out)
              clear g1 g2 g3 HSx
              go_wp2
              exact ⟨⟨k + 1, Fl, a3, c3, by omega, by go_num, rfl, HE2, by omega, ho.alloc _, hch2, hab⟩, by simp [intOf]; omega⟩
            have d3 : (x.i != v / 2) = true := by rw [bne_iff_ne]; exact g3
            have HE2 := Lib.hid (show Fl ++ [x] = rest2f D.row v (k + 1) from by rw [rest2f, HSx.out, if_pos (by simp [g1, g2, g3]), HFl.out]; rfl)
            have hrd : Rd ((wr.alloc (.cells #[.int .i64 x.i, .int .u64 x.c] 53)).alloc (.cells #[.int .i64 x.i, .int .u64 x.c] 53)) 2 (.slice (some ⟨wr.heap.size + 1, 0, none⟩) 1 1) 1 (prCells [x]) := by
              have := Rd.lit (wr.alloc (.cells #[.int .i64 x.i, .int .u64 x.c] 53)) #[.int .i64 x.i, .int .u64 x.c] 53 2 1 1 rfl
              simpa [prCells, Pr.cells] using this
            clear g1 g2 g3 HSx
            go_wp2_with (at_builtin; go_must (refine wpList_append_src _ rfl (.tmp 87) (.tmp 89) 48 48 rfl 53 _ 2 16 under_pairs info_pair rfl (by decide) (.slice a3 Fl.length c3) Fl.length (prCells Fl) rfl ((ho.alloc _).alloc _) (.slice (some ⟨wr.heap.size + 1, 0, none⟩) 1 1) 1 (prCells [x]) rfl (Src.of_rd under_pairs hrd) (prCells_oneCell _) (by unfold maxLen; omega) (by omega) ?_; intro a4 c4 w8 ho8 hg8 hf8))
            refine ⟨⟨k + 1, Fl ++ [x], a4, c4, by omega, by go_num, by simp, HE2, by simp; omega, by simpa [prCells_append] using ho8, (hch2.alloc _).trans' hg8 (fun b hb => .inr (hab b (by simpa using hb))), ?_⟩, by simp [intOf]; omega⟩
            intro b hb
            rcases hf8 b hb with h | h
            · exact hab b (by simpa using h)
            · simp at h; omega
          · obtain rfl : k = n := by omega
            have hfe : Fl = rest D.row v := by rw [HFl.out, rest2f, List.take_of_length_le (by have := HN.out; omega)]; rfl
            subst hfe
            have HADD := Lib.hid (ref06_add wr a3 c3 (rest D.row v) (v / 2) U ho.rd (by omega) HRT.out HUM.out)
            have HCW := Lib.hid (HC7.out.trans hch)
            clear ho hab HFl hFk
            go_wp2_with fail
            refine HADD.out.mono ?_
            rintro e w8 ⟨a4, c4, rfl, ho8, hc8, hf8⟩
            have hcw8 := HCW.out.trans hc8
            have hbq := (HH.out.chg hcw8 (by simp)).blk
            have f2 := hbq.free 2
            have g2 : w8.cell? ⟨q, 2, none⟩ = some (.slice ro k rc) := by rw [HN.out]; exact hbq.cell 2
            have HSET := Lib.hid (HH.out.set hcw8 (sv2 := .slice a4 (refAdd (rest D.row v) (v / 2) U).length c4) ho8 (fun b hb => Nat.le_trans HCW.out.size (hf8 b (by simpa using hb))))
            clear hbq hcw8 ho8 hc8 hf8 HADD
            go_wp2_with fail
            go_ret
            rw [HE.out]
            exact ⟨rfl, _, HSET.out.1, HSET.out.2.1, HSET.out.2.2⟩
end Go.Proofs.Ytgnbabkafobeoaa
