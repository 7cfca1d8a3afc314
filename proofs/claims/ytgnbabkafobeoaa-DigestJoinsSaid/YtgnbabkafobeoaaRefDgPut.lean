/-
  The walks of the document's Tidy and Put (layer 17). Conditions: the form's own reach.
-/
import Derived.Test.YtgnbabkafobeoaaRefDg
import Derived.Test.YtgnbabkafobeoaaDgPut2
namespace Go.Proofs.Ytgnbabkafobeoaa
open Go.RowKit

set_option maxRecDepth 100000 in
set_option maxHeartbeats 8000000 in
theorem ref17_tidy (w : World) (q : Nat) (sv : Value) (D : DgD) (h : RD w q sv D) (hok : D.ok) :
    Calls Try.prog 48 #[.pointer (some ⟨q, 0, none⟩)] w fun e w' => e = .returned (.tuple #[]) ∧ ∃ sv', RD w' q sv' { D with row := tidyR D.factor D.row } ∧ Mv (fpR q sv) w (fpR q sv') w' := by
  have hsq := squeezeR_is (f := D.factor) hok.nodes
  obtain ⟨R, hR⟩ : ∃ R, R = squeezeR D.factor D.row := ⟨_, rfl⟩
  rw [← hR] at hsq
  have HSQ := Lib.hid hsq
  have HH := Lib.hid h
  have HOK := Lib.hid hok
  obtain ⟨N, hN⟩ : ∃ N, N = D.row.length := ⟨_, rfl⟩
  obtain ⟨m, hm⟩ : ∃ m, m = 4 * D.factor := ⟨_, rfl⟩
  obtain ⟨Z, hZ⟩ : ∃ Z, Z = tidyR D.factor D.row := ⟨_, rfl⟩
  have HT := Lib.hid (show Z = if m < N then R else D.row from by rw [hZ, hm, hN, hR]; rfl)
  rw [← hZ]
  obtain ⟨ro0, rc0, hrv0⟩ := h.row.shape
  subst hrv0
  have HNN := Lib.hid hN
  obtain ⟨c0, c1, c2⟩ := h.cells
  rw [← hN] at c2
  obtain ⟨f, hf⟩ : ∃ f, f = D.factor := ⟨_, rfl⟩
  rw [← hf] at c1 hm
  have hf2 := hok.f2
  rw [← hf] at hf2
  have hn1 : N ≤ 1000 := by have := hok.len; omega
  have hwm : IntKind.i64.wrap (4 * (f : Int)) = (m : Int) := by rw [IntKind.wrap_i64]; omega
  obtain ⟨G, hG⟩ : ∃ G, G = phi D.row + 2 := ⟨_, rfl⟩
  have HGP := Lib.hid (show phi D.row < G from by omega)
  clear hR hsq h hok hG hZ hN hm hf
  go_enter Try.func48, Try.ntmps48
  by_cases hlen : N ≤ m
  · have d1 : decide ((N : Int) ≤ (m : Int)) = true := decide_eq_true (by omega)
    have d1' : decide (N ≤ m) = true := decide_eq_true hlen
    have HE := Lib.hid (show Z = D.row from by rw [HT.out, if_neg (by omega)])
    clear hlen
    go_wp2
    go_quiet (fail)
    go_wp2_with fail
    refine bodyPost_ret (results_none rfl _ _ _) rfl ?_
    have hcz : Chg [] w (w.drewN nq) := (Chg.refl [] w).drewN nq
    rw [HE.out]
    exact ⟨rfl, _, HH.out.chg hcz (by simp), Mv.of_chg hcz.nil⟩
  have d1 : decide ((N : Int) ≤ (m : Int)) = false := decide_eq_false (by omega)
  have d1' : decide (N ≤ m) = false := decide_eq_false hlen
  have HE := Lib.hid (show Z = R from by rw [HT.out, if_pos (by omega)])
  clear hlen HT
  go_wp2
  go_quiet (fail)
  go_wp2_with fail
  have hcz : Chg [] w (w.drewN nq) := (Chg.refl [] w).drewN nq
  have HH0 := Lib.hid (HH.out.chg hcz (by simp))
  have HM0 := Lib.hid (Mv.of_chg (F := fpR q (.slice ro0 D.row.length rc0)) hcz.nil)
  clear hcz c0 c1 c2
  generalize w.drewN nq = w0 at *
  go_loopg [2] G (fun g m wx => ∃ (b : Bool) (r : List Pr) (sv' : Value), m = .bool b ∧ RD wx q sv' { D with row := r } ∧ Mv (fpR q (.slice ro0 D.row.length rc0)) w (fpR q sv') wx ∧ Hid (({ D with row := r } : DgD).ok) ∧ Hid (if b then SqR D.factor r R else r = R) ∧ (b = true → phi r < g))
  case atStart => exact ⟨true, D.row, _, rfl, HH0.out, HM0.out, HOK, Lib.hid HSQ.out, fun _ => HGP.out⟩
  case round =>
    obtain ⟨b, r, sv1, rfl, hdg, hmv, HO, HQ, hph⟩ := hrel
    have HDG := Lib.hid hdg
    have HMV := Lib.hid hmv
    have HPH := Lib.hid hph
    clear hdg hmv hph
    cases b with
    | false =>
      have hrR : r = R := HQ.out
      subst hrR
      go_wp2_with fail
      go_end0
      rw [HE.out]
      exact ⟨rfl, sv1, HDG.out, HMV.out⟩
    | true =>
      obtain ⟨T, hT⟩ : ∃ T, T = pass D.factor r := ⟨_, rfl⟩
      have HT := Lib.hid hT
      obtain ⟨ro1, rc1, hrv1⟩ := HDG.out.row.shape
      subst hrv1
      obtain ⟨-, -, c2⟩ := HDG.out.cells
      obtain ⟨n, hn⟩ : ∃ n, n = r.length := ⟨_, rfl⟩
      have hn1 : n ≤ 1000 := by have := HO.out.len; simp only at this; omega
      have HN := Lib.hid hn
      have c2' : wr.cell? ⟨q, 2, none⟩ = some (.slice ro1 n rc1) := by rw [hn]; exact c2
      obtain ⟨go, hgo⟩ : ∃ z, z = gk := ⟨_, rfl⟩
      have HGO := Lib.hid (show go = gk ∧ phi r < go from ⟨hgo, by rw [hgo]; exact HPH.out rfl⟩)
      have HSR := Lib.hid (show SqR D.factor r R from HQ.out)
      have hgl : go = gk := hgo
      clear hT hn hgo HPH HQ c2
      have hwn : IntKind.i64.wrap ((n : Int) - 1) = (n : Int) - 1 := by rw [IntKind.wrap_i64]; omega
      go_wp2_with fail
      go_loopg [2, 4] n (fun g m i wx => ∃ (b : Bool) (x : List Pr) (sv' : Value), g ≤ n ∧ i = .int .i64 (if g = 0 then -1 else ((g - 1 : Nat) : Int)) ∧ m = .bool b ∧ RD wx q sv' { D with row := x } ∧ Mv (fpR q (.slice ro1 r.length rc1)) wr (fpR q sv') wx ∧ Chg [q] wr wx ∧ Hid (({ D with row := x } : DgD).ok) ∧ Hid (passV D.factor ((r.map Pr.i).take g).reverse b x = T))
      case atStart => exact ⟨false, r, _, Nat.le_refl _, by (split <;> congr 1 <;> omega), rfl, HDG.out, Mv.of_chg (Chg.refl _ _), Chg.refl _ _, HO, Lib.hid (by rw [HT.out, List.take_of_length_le (by simp [HN.out])]; rfl)⟩
      case round =>
        rename World => w2
        obtain ⟨b, x, sv3, hgn, hi, rfl, hd3, hm3, hq3, HO3, HP3⟩ := hrel
        have HD3 := Lib.hid hd3
        have HM3 := Lib.hid hm3
        have HQ3 := Lib.hid hq3
        clear hd3 hm3 hq3
        by_cases hg0 : gk = 0
        · have hi2 := hi
          rw [if_pos hg0] at hi2
          clear hi
          subst hi2
          have hT2 := HP3.out
          rw [hg0, List.take_zero, List.reverse_nil, passV, HT.out] at hT2
          have HNX := Lib.hid (show (b = false ∧ x = R) ∨ (b = true ∧ SqR D.factor x R ∧ phi x < phi r) from by
            rcases HSR.out.step hT2.symm with h | h
            · exact .inl h
            · refine .inr ⟨h.1, h.2, ?_⟩
              have h3 := (pass_ok (f := D.factor) HO.out.nodes).2.2.1
              rw [← hT2] at h3
              exact h3 h.1)
          clear hT2 hg0 hgn
          go_wp2_with fail
          rcases HNX.out with ⟨rfl, h2⟩ | ⟨rfl, h2, h3⟩
          · go_roundg 0
            case measure => have := HGO.out; omega
            case rel => exact ⟨false, x, sv3, rfl, HD3.out, HMV.out.trans HM3.out, HO3, Lib.hid h2, fun e => absurd e (by decide)⟩
          · go_roundg (phi x + 1)
            case measure => have := HGO.out; omega
            case rel => exact ⟨true, x, sv3, rfl, HD3.out, HMV.out.trans HM3.out, HO3, Lib.hid h2, fun _ => Nat.lt_succ_self _⟩
        · obtain ⟨j, hj⟩ : ∃ j, gk = j + 1 := ⟨gk - 1, by omega⟩
          have hi2 := hi
          rw [if_neg hg0, hj, Nat.add_sub_cancel] at hi2
          clear hi
          subst hi2
          have hjl : j < r.length := by have := HN.out; omega
          obtain ⟨b2, o2, rfl, hcc⟩ := (HDG.out.row.chg HQ3.out (fun y hy e => by simp at e; subst e; exact HDG.out.q_sv hy)).rd.addr (by have := HN.out; simp only; omega)
          obtain ⟨e0, -⟩ := pr_at hcc hjl
          have hvx := HO.out.nodes.ix _ (List.getElem_mem hjl)
          have hT2 := HP3.out
          rw [hj, take_rev (r.map Pr.i) j (by simpa using hjl), List.getElem_map, passV] at hT2
          generalize r[j].i = v at *
          have HLI := Lib.hid (ref17_lift w2 q sv3 { D with row := x } HD3.out HO3.out v hvx.1 hvx.2)
          have HOK3 := Lib.hid (lift_row HO3.out hvx.1 hvx.2)
          obtain ⟨lx, hlx⟩ : ∃ z, z = liftV D.factor x v := ⟨_, rfl⟩
          have HLI2 := Lib.hid (show Calls Try.prog 69 #[.pointer (some ⟨q, 0, none⟩), .int .i64 v] w2 fun e w' => e = .returned (.bool lx.1) ∧ ∃ sv', RD w' q sv' { D with row := lx.2 } ∧ Mv (fpR q sv3) w2 (fpR q sv') w' ∧ Chg [q] w2 w' from by rw [hlx]; exact HLI.out)
          have HOK4 := Lib.hid (show ({ D with row := lx.2 } : DgD).ok from by rw [hlx]; exact HOK3.out)
          rw [← hlx] at hT2
          have HT2 := Lib.hid hT2
          have hjn : j < n := by omega
          have hjk : j < gk := by omega
          have HJ := Lib.hid (show j < gk ∧ j ≤ n from ⟨hjk, by omega⟩)
          clear hcc hvx hT2 hlx HLI HOK3 hg0 hgn hj hjl
          have hwj : IntKind.i64.wrap ((j : Int) - 1) = (j : Int) - 1 := by rw [IntKind.wrap_i64]; omega
          go_wp2_with fail
          refine HLI2.out.mono ?_
          rintro e w4 ⟨rfl, sv4, hd4, hm4, hq4⟩
          have HD4 := Lib.hid hd4
          have HM4 := Lib.hid (HM3.out.trans hm4)
          have HQ4 := Lib.hid (HQ3.out.trans hq4)
          clear hd4 hm4 hq4 HLI2 e0
          obtain ⟨lb, lr⟩ := lx
          cases lb with
          | true =>
            go_wp2_with fail
            go_roundg j
            case measure => exact HJ.out.1
            case rel => exact ⟨true, lr, sv4, HJ.out.2, by (split <;> congr 1 <;> omega), rfl, HD4.out, HM4.out, HQ4.out, HOK4, Lib.hid (by have h := HT2.out; simpa using h)⟩
          | false =>
            go_wp2_with fail
            go_roundg j
            case measure => exact HJ.out.1
            case rel => exact ⟨b, lr, sv4, HJ.out.2, by (split <;> congr 1 <;> omega), rfl, HD4.out, HM4.out, HQ4.out, HOK4, Lib.hid (by have h := HT2.out; simpa using h)⟩
theorem RD.ends {w : World} {q : Nat} {sv : Value} {D E : DgD} (h : RD w q sv D) (h1 : E.depth = D.depth) (h2 : E.factor = D.factor) (h3 : E.row = D.row) : RD w q sv E :=
  ⟨by have hb := h.blk; unfold rdCells at hb ⊢; rw [h1, h2]; exact hb, by rw [h3]; exact h.row⟩
set_option maxRecDepth 100000 in
set_option maxHeartbeats 4000000 in
theorem ref17_put (w : World) (q : Nat) (sv : Value) (D : DgD) (h : RD w q sv D) (hok : D.ok) (x : Int) (c : Nat) (h0 : 0 ≤ x) (h1 : x < ((2 ^ D.depth : Nat) : Int)) (hc : totP D.row + c ≤ 9223372036854775807) (hl : D.row.length + 1 ≤ 1000) :
    Calls Try.prog 30 #[.pointer (some ⟨q, 0, none⟩), .int .i64 x, .int .u64 (c : Nat)] w fun e w' => e = .returned (.tuple #[]) ∧ ∃ sv', RD w' q sv' (D.put x c) ∧ Mv (fpR q sv) w (fpR q sv') w' := by
  obtain ⟨ro, rc, hrv⟩ := h.row.shape
  subst hrv
  obtain ⟨c0, c1, c2⟩ := h.cells
  have hp2 := two_d hok.d1 hok.d2
  obtain ⟨d, hd⟩ : ∃ d, d = D.depth := ⟨_, rfl⟩
  rw [← hd] at c0 h1 hp2
  have hd2 : d ≤ 24 := by rw [hd]; exact hok.d2
  obtain ⟨P, hP⟩ : ∃ P, P = 2 ^ d := ⟨_, rfl⟩
  rw [← hP] at h1 hp2
  have HPD := Lib.hid hP
  obtain ⟨n, hn⟩ : ∃ n, n = D.row.length := ⟨_, rfl⟩
  rw [← hn] at c2
  obtain ⟨r2, hr2⟩ : ∃ r, r = refAdd D.row ((P : Int) + x) c := ⟨_, rfl⟩
  have hNo : Nodes r2 D.top := by rw [hr2]; exact hok.nodes.add (by omega) (by unfold DgD.top; rw [← hd, ← hP]; omega) c
  have t4 := refAdd_len (i := (P : Int) + x) hok.nodes.up c
  have t5 := refAdd_tot (i := (P : Int) + x) hok.nodes.up c
  rw [← hr2] at t4 t5
  have HO2 := Lib.hid (ok_row hok hNo (by omega) (by omega))
  have HAD := Lib.hid (fun u (hu : Chg [] w u) => show Calls Try.prog 47 #[.slice ro n rc, .int .i64 ((P : Int) + x), .int .u64 c] u fun e w' => ∃ a3 c3, e = .returned (.slice a3 r2.length c3) ∧ Own w' 53 2 (.slice a3 r2.length c3) r2.length (prCells r2) ∧ Chg [] u w' ∧ ∀ b ∈ abl a3, u.heap.size ≤ b from by
    rw [hn, hr2]
    exact ref06_add u ro rc D.row ((P : Int) + x) c (h.chg hu (by simp)).row.rd hok.len (by omega) (by omega))
  have HPT := Lib.hid (show (D.put x c).depth = D.depth ∧ (D.put x c).factor = D.factor ∧ (D.put x c).row = tidyR D.factor r2 from by
    obtain ⟨e1, e2, e3⟩ := D.ends_same x x
    exact ⟨e1, e2, by rw [hr2, hP, hd]; rfl⟩)
  have HH := Lib.hid h
  have HN := Lib.hid hn
  have hpx : IntKind.i64.wrap ((P : Int) + x) = (P : Int) + x := by rw [IntKind.wrap_i64]; omega
  have HPB := Lib.hid (fun k (hk : k ≤ d) => show 2 ^ k ≤ 16777216 from Nat.le_trans (Nat.pow_le_pow_right (by omega) (by omega : k ≤ 24)) (by decide))
  clear h hok h0 h1 hc hl hd hP hn hr2 hNo t4 t5 hp2
  go_enter Try.func30, Try.ntmps30
  go_wp2
  go_loopw [6, 7] (fun l i wx => ∃ k L : Nat, k ≤ d ∧ i = .int .i64 (k : Nat) ∧ l = .int .i64 (L : Nat) ∧ Hid (L = 2 ^ k) ∧ wx = w) (fun _ i _ => d - (intOf i).toNat)
  case atStart => exact ⟨0, 1, Nat.zero_le _, rfl, rfl, Lib.hid rfl, rfl⟩
  case round =>
    obtain ⟨k, L, hk, rfl, rfl, HL, rfl⟩ := hrel
    by_cases hlt : k < d
    · have hb := HPB.out k hk
      rw [← HL.out] at hb
      have HL2 := Lib.hid (show 2 * L = 2 ^ (k + 1) from by rw [Nat.pow_succ, HL.out]; omega)
      go_wp2
      exact ⟨⟨k + 1, 2 * L, by omega, by go_num, by go_num, HL2, by trivial⟩, by simp [intOf]; omega⟩
    · obtain rfl : k = d := by omega
      obtain rfl : L = P := by rw [HL.out, HPD.out]
      go_wp2_with fail
      refine (HAD.out _ (Chg.refl _ _)).mono ?_
      rintro e w3 ⟨a3, c3, rfl, ho3, hc3, hf3⟩
      have hbq := (HH.out.chg hc3 (by simp)).blk
      have f2 := hbq.free 2
      have g2 : w3.cell? ⟨q, 2, none⟩ = some (.slice ro n rc) := by rw [HN.out]; exact hbq.cell 2
      have HSET := Lib.hid (HH.out.set hc3 (sv2 := .slice a3 r2.length c3) ho3 (fun b hb => hf3 b (by simpa using hb)))
      clear hbq ho3 hc3 hf3 HAD
      go_wp2_with fail
      have HTI := Lib.hid (ref17_tidy _ q _ { D with row := r2 } HSET.out.1 HO2.out)
      refine HTI.out.mono ?_
      rintro e w5 ⟨rfl, sv5, h5, hm5⟩
      have H5 := Lib.hid (RD.ends h5 (E := D.put x c) HPT.out.1 HPT.out.2.1 HPT.out.2.2)
      have HM5 := Lib.hid (HSET.out.2.1.trans hm5)
      clear h5 hm5 HTI
      go_wp2_with fail
      go_end0
      exact ⟨rfl, sv5, H5.out, HM5.out⟩
end Go.Proofs.Ytgnbabkafobeoaa
