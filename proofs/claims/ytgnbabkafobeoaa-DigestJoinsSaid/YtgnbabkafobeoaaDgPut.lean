/-
  The walks of squeeze and tidy (layer 17). Conditions: the form's own reach.
-/
import Derived.Test.YtgnbabkafobeoaaDgLift
namespace Go.Proofs.Ytgnbabkafobeoaa
open Go.RowKit

theorem SqR.step {f : Nat} {r R r' : List Pr} {b : Bool} (h : SqR f r R) (e : pass f r = (b, r')) : (b = false ∧ r' = R) ∨ (b = true ∧ SqR f r' R) := by
  cases h with
  | stop h2 =>
    rw [h2] at e
    simp only [Prod.mk.injEq] at e
    exact .inl ⟨e.1.symm, e.2.symm⟩
  | go h2 h3 =>
    rw [h2] at e
    simp only [Prod.mk.injEq] at e
    rw [← e.2]
    exact .inr ⟨e.1.symm, h3⟩
theorem ok_row {D : DgD} (h : D.ok) {r : List Pr} (h1 : Nodes r D.top) (h2 : totP r ≤ 9223372036854775807) (h3 : r.length ≤ 1000) : ({ D with row := r } : DgD).ok := ⟨h.d1, h.d2, h.f1, h.f2, h1, h2, h3⟩
theorem take_rev (l : List Int) (k : Nat) (h : k < l.length) : (l.take (k + 1)).reverse = l[k] :: (l.take k).reverse := by
  rw [List.take_succ_eq_append_getElem h]
  simp
theorem lift_row {D : DgD} (h : D.ok) {v : Int} (h1 : 1 ≤ v) (h2 : v < D.top) : ({ D with row := (liftV D.factor D.row v).2 } : DgD).ok := by
  obtain ⟨a1, a2, -, a4, -⟩ := lift_ok (f := D.factor) h.nodes h1 h2
  exact ok_row h a1 (by rw [a2]; exact h.tot) (Nat.le_trans a4 h.len)
set_option maxRecDepth 100000 in
set_option maxHeartbeats 8000000 in
theorem dg_squeeze (w : World) (p s : Nat) (rv : Value) (D : DgD) (h : Dg w p s rv D) (hok : D.ok) :
    Calls Try.prog 66 #[.pointer (some ⟨p, 0, none⟩)] w fun e w' => e = .returned (.tuple #[]) ∧ ∃ s' rv', Dg w' p s' rv' { D with row := squeezeR D.factor D.row } ∧ Mv (fpD p s rv) w (fpD p s' rv') w' := by
  obtain ⟨R, hR⟩ : ∃ R, R = squeezeR D.factor D.row := ⟨_, rfl⟩
  have hsq := squeezeR_is (f := D.factor) hok.nodes
  rw [← hR] at hsq ⊢
  have HSQ := Lib.hid hsq
  have HH := Lib.hid h
  have HOK := Lib.hid hok
  obtain ⟨G, hG⟩ : ∃ G, G = phi D.row + 2 := ⟨_, rfl⟩
  have HGP := Lib.hid (show phi D.row < G from by omega)
  clear hR hsq h hok hG
  go_enter Try.func66, Try.ntmps66
  go_wp2_with fail
  go_loopg [2] G (fun g m wx => ∃ (b : Bool) (r : List Pr) (s' : Nat) (rv' : Value), m = .bool b ∧ Dg wx p s' rv' { D with row := r } ∧ Mv (fpD p s rv) w (fpD p s' rv') wx ∧ Hid (({ D with row := r } : DgD).ok) ∧ Hid (if b then SqR D.factor r R else r = R) ∧ (b = true → phi r < g))
  case atStart => exact ⟨true, D.row, s, rv, rfl, HH.out, Mv.of_chg (Chg.refl _ _), HOK, Lib.hid HSQ.out, fun _ => HGP.out⟩
  case round =>
    obtain ⟨b, r, s1, rv1, rfl, hdg, hmv, HO, HQ, hph⟩ := hrel
    have HDG := Lib.hid hdg
    have HMV := Lib.hid hmv
    have HPH := Lib.hid hph
    clear hdg hmv hph
    cases b with
    | false =>
      have hrR : r = R := HQ.out
      subst hrR
      go_wp2_with fail
      go_end0
      exact ⟨rfl, s1, rv1, HDG.out, HMV.out⟩
    | true =>
      obtain ⟨T, hT⟩ : ∃ T, T = pass D.factor r := ⟨_, rfl⟩
      have HT := Lib.hid hT
      obtain ⟨-, -, -, c3, -, -⟩ := HDG.out.cells
      obtain ⟨n, hn⟩ : ∃ n, n = r.length := ⟨_, rfl⟩
      have hn1 : n ≤ 1000 := by have := HO.out.len; simp only at this; omega
      have HPA := Lib.hid (strip_pairs wr s1 rv1 r HDG.out.strip n hn hn1)
      have HN := Lib.hid hn
      obtain ⟨go, hgo⟩ : ∃ z, z = gk := ⟨_, rfl⟩
      have HGO := Lib.hid (show go = gk ∧ phi r < go from ⟨hgo, by rw [hgo]; exact HPH.out rfl⟩)
      have HSR := Lib.hid (show SqR D.factor r R from HQ.out)
      have hgl : go = gk := hgo
      clear hT hn hgo HPH HQ
      go_wp2_with fail
      refine HPA.out.mono ?_
      rintro e w2 ⟨a2, c2, rfl, ho2, hc2, hf2⟩
      have HO2 := Lib.hid ho2
      have HD2 := Lib.hid (HDG.out.chg hc2 (by simp))
      have HM2 := Lib.hid (HMV.out.trans (Mv.of_chg (F := fpD p s1 rv1) hc2.nil))
      have HF2 := Lib.hid (show ∀ x ∈ abl a2, x ∉ fpD p s1 rv1 from fun x hx e => by have h1 := hf2 x hx; have h2 := HDG.out.lt x e; omega)
      clear ho2 hc2 hf2 HPA c3
      have hwn : IntKind.i64.wrap ((n : Int) - 1) = (n : Int) - 1 := by rw [IntKind.wrap_i64]; omega
      go_wp2_with fail
      go_loopg [2, 4] n (fun g m i wx => ∃ (b : Bool) (x : List Pr) (s' : Nat) (rv' : Value), g ≤ n ∧ i = .int .i64 (if g = 0 then -1 else ((g - 1 : Nat) : Int)) ∧ m = .bool b ∧ Dg wx p s' rv' { D with row := x } ∧ Mv (fpD p s1 rv1) w2 (fpD p s' rv') wx ∧ Hid (({ D with row := x } : DgD).ok) ∧ Hid (passV D.factor ((r.map Pr.i).take g).reverse b x = T))
      case atStart => exact ⟨false, r, s1, rv1, Nat.le_refl _, by (split <;> congr 1 <;> omega), rfl, HD2.out, Mv.of_chg (Chg.refl _ _), HO, Lib.hid (by rw [HT.out, List.take_of_length_le (by simp [HN.out])]; rfl)⟩
      case round =>
        obtain ⟨b, x, s3, rv3, hgn, hi, rfl, hd3, hm3, HO3, HP3⟩ := hrel
        have HD3 := Lib.hid hd3
        have HM3 := Lib.hid hm3
        clear hd3 hm3
        by_cases hg0 : gk = 0
        · have hi2 := hi
          rw [if_pos hg0] at hi2
          clear hi
          subst hi2
          have hT2 := HP3.out
          rw [hg0, List.take_zero, List.reverse_nil, passV, HT.out] at hT2
          have HNX := Lib.hid (show (b = false ∧ x = R) ∨ (b = true ∧ SqR D.factor x R ∧ phi x < phi r) from by
            rcases HSR.out.step hT2.symm with h | h
            · exact .inl h
            · refine .inr ⟨h.1, h.2, ?_⟩
              have h3 := (pass_ok (f := D.factor) HO.out.nodes).2.2.1
              rw [← hT2] at h3
              exact h3 h.1)
          clear hT2 hg0 hgn
          go_wp2_with fail
          rcases HNX.out with ⟨rfl, h2⟩ | ⟨rfl, h2, h3⟩
          · go_roundg 0
            case measure => have := HGO.out; omega
            case rel => exact ⟨false, x, s3, rv3, rfl, HD3.out, HM2.out.trans HM3.out, HO3, Lib.hid h2, fun e => absurd e (by decide)⟩
          · go_roundg (phi x + 1)
            case measure => have := HGO.out; omega
            case rel => exact ⟨true, x, s3, rv3, rfl, HD3.out, HM2.out.trans HM3.out, HO3, Lib.hid h2, fun _ => Nat.lt_succ_self _⟩
        · obtain ⟨j, hj⟩ : ∃ j, gk = j + 1 := ⟨gk - 1, by omega⟩
          have hi2 := hi
          rw [if_neg hg0, hj, Nat.add_sub_cancel] at hi2
          clear hi
          subst hi2
          have hjl : j < r.length := by have := HN.out; omega
          obtain ⟨b2, o2, rfl, hcc⟩ := (HO2.out.chg HM3.out.chg (fun y hy => HF2.out y (by simpa using hy))).rd.addr (by omega)
          rw [HN.out] at hcc
          obtain ⟨e0, -⟩ := pr_at hcc hjl
          have hvx := HO.out.nodes.ix _ (List.getElem_mem hjl)
          have hT2 := HP3.out
          rw [hj, take_rev (r.map Pr.i) j (by simpa using hjl), List.getElem_map, passV] at hT2
          generalize r[j].i = v at *
          have HLI := Lib.hid (dg_lift wr p s3 rv3 { D with row := x } HD3.out HO3.out v hvx.1 hvx.2)
          have HOK3 := Lib.hid (lift_row HO3.out hvx.1 hvx.2)
          obtain ⟨lx, hlx⟩ : ∃ z, z = liftV D.factor x v := ⟨_, rfl⟩
          have HLI2 := Lib.hid (show Calls Try.prog 83 #[.pointer (some ⟨p, 0, none⟩), .int .i64 v] wr fun e w' => e = .returned (.bool lx.1) ∧ ∃ s' rv', Dg w' p s' rv' { D with row := lx.2 } ∧ Mv (fpD p s3 rv3) wr (fpD p s' rv') w' from by rw [hlx]; exact HLI.out)
          have HOK4 := Lib.hid (show ({ D with row := lx.2 } : DgD).ok from by rw [hlx]; exact HOK3.out)
          rw [← hlx] at hT2
          have HT2 := Lib.hid hT2
          have hjn : j < n := by omega
          have hjk : j < gk := by omega
          have HJ := Lib.hid (show j < gk ∧ j ≤ n from ⟨hjk, by omega⟩)
          clear hcc hvx hT2 hlx HLI HOK3 hg0 hgn hj hjl
          have hwj : IntKind.i64.wrap ((j : Int) - 1) = (j : Int) - 1 := by rw [IntKind.wrap_i64]; omega
          go_wp2_with fail
          refine HLI2.out.mono ?_
          rintro e w4 ⟨rfl, s4, rv4, hd4, hm4⟩
          have HD4 := Lib.hid hd4
          have HM4 := Lib.hid (HM3.out.trans hm4)
          clear hd4 hm4 HLI2 e0
          obtain ⟨lb, lr⟩ := lx
          cases lb with
          | true =>
            go_wp2_with fail
            go_roundg j
            case measure => exact HJ.out.1
            case rel => exact ⟨true, lr, s4, rv4, HJ.out.2, by (split <;> congr 1 <;> omega), rfl, HD4.out, HM4.out, HOK4, Lib.hid (by have h := HT2.out; simpa using h)⟩
          | false =>
            go_wp2_with fail
            go_roundg j
            case measure => exact HJ.out.1
            case rel => exact ⟨b, lr, s4, rv4, HJ.out.2, by (split <;> congr 1 <;> omega), rfl, HD4.out, HM4.out, HOK4, Lib.hid (by have h := HT2.out; simpa using h)⟩
end Go.Proofs.Ytgnbabkafobeoaa
