/-
  The walks of the document's Rank, Quantile, Join of digests (layer 17). Conditions: the form's own reach.
-/
import Derived.Test.YtgnbabkafobeoaaRef16
import Derived.Test.YtgnbabkafobeoaaDgQuant
import Derived.Test.YtgnbabkafobeoaaRefDgPut
import Derived.Test.YtgnbabkafobeoaaDgJoin
namespace Go.Proofs.Ytgnbabkafobeoaa
open Go.RowKit

theorem enters_rqrange : ∀ (args : Array Value) (w : World), (callFunc 46 args).run Try.prog w = .ok (.enter 46 args) w := enters_of Try.func46 (by kernel_rfl) rfl
theorem enters_rqbefore : ∀ (args : Array Value) (w : World), (callFunc 45 args).run Try.prog w = .ok (.enter 45 args) w := enters_of Try.func45 (by kernel_rfl) rfl
theorem enters_rqtotal : ∀ (args : Array Value) (w : World), (callFunc 21 args).run Try.prog w = .ok (.enter 21 args) w := enters_of Try.func21 (by kernel_rfl) rfl
theorem enters_rqplace : ∀ (args : Array Value) (w : World), (callFunc 14 args).run Try.prog w = .ok (.enter 14 args) w := enters_of Try.func14 (by kernel_rfl) rfl
theorem enters_rqadd : ∀ (args : Array Value) (w : World), (callFunc 47 args).run Try.prog w = .ok (.enter 47 args) w := enters_of Try.func47 (by kernel_rfl) rfl
theorem RD.row_at {w w1 : World} {q : Nat} {so : Option Addr} {sc n : Nat} {D : DgD} (h : RD w q (.slice so n sc) D) (hn : n = D.row.length) (k : Chg [] w w1) : Rd w1 2 (.slice so n sc) n (prCells D.row) ∧ w1.cell? ⟨q, 0, none⟩ = some (.int .i64 (D.depth : Nat)) ∧ w1.cell? ⟨q, 2, none⟩ = some (.slice so n sc) := by
  have h1 := h.chg k (by simp)
  have h2 := h1.row.rd
  rw [← hn] at h2
  exact ⟨h2, h1.cells.1, h1.cells.2.2⟩
theorem Rd.at_pr {w : World} {b o n cap : Nat} {l : List Pr} (h : Rd w 2 (.slice (some ⟨b, o, none⟩) n cap) n (prCells l)) (hn : n = l.length) {k : Nat} (hk : k < l.length) :
    w.cell? ⟨b, o + k * 2, none⟩ = some (.int .i64 l[k].i) ∧ w.cell? ⟨b, o + k * 2 + 1, none⟩ = some (.int .u64 l[k].c) := by
  obtain ⟨b', o', e, hc⟩ := h.addr (by omega)
  simp only [Option.some.injEq, Addr.mk.injEq, and_true] at e
  obtain ⟨rfl, rfl⟩ := e
  exact pr_at (l := l) (fun j hj => hc j (by rw [hn]; exact hj)) hk
set_option maxRecDepth 100000 in
set_option maxHeartbeats 8000000 in
theorem ref17_rank (w : World) (q : Nat) (sv : Value) (D : DgD) (h : RD w q sv D) (hok : D.ok) (x : Int) (A B : Nat) (hA : A = rankLo D.depth D.row x) (hB : B = rankHi D.depth D.row x) :
    Calls Try.prog 24 #[.pointer (some ⟨q, 0, none⟩), .int .i64 x] w fun e w' => e = .returned (.tuple #[.int .u64 (A : Nat), .int .u64 (B : Nat)]) ∧ Chg [] w w' := by
  have htt := hok.tot
  obtain ⟨so, sc, hsv⟩ := h.row.shape
  subst hsv
  obtain ⟨n, hn⟩ : ∃ n, n = D.row.length := ⟨_, rfl⟩
  have hn1 : n ≤ 1000 := by have := hok.len; omega
  rw [← hn] at h
  have HRG := Lib.hid (fun u v hv => ref16_range u D.depth hok.d2 v hv (loN D.depth v) (hiN D.depth v) rfl rfl)
  have HNO := Lib.hid (fun p (hp : p ∈ D.row) => show isNode D.depth p.i from hok.nodes.ix p hp)
  have HAT := Lib.hid (fun u (hu : Chg [] w u) => RD.row_at h hn hu)
  have HN := Lib.hid hn
  have HA := Lib.hid hA
  have HB := Lib.hid hB
  obtain ⟨-, -, c2⟩ := HAT.out w (Chg.refl _ _)
  clear h hok hn hA hB
  go_enter Try.func24, Try.ntmps24
  go_wp2_with fail
  go_loopw [6, 7, 17] (fun t u i wx => ∃ (k S U : Nat), k ≤ n ∧ i = .int .i64 (k : Nat) ∧ t = .int .u64 (S : Nat) ∧ u = .int .u64 (U : Nat) ∧ Chg [] w wx ∧ Hid (S = rankLo D.depth (D.row.take k) x ∧ U = rankHi D.depth (D.row.take k) x)) (fun _ _ i _ => n - (intOf i).toNat)
  case atStart => exact ⟨0, 0, 0, Nat.zero_le _, rfl, rfl, rfl, Chg.refl _ _, Lib.hid ⟨rfl, rfl⟩⟩
  case round =>
    obtain ⟨k, S, U, hk, rfl, rfl, rfl, hch, HSU⟩ := hrel
    have HCH := Lib.hid hch
    clear hch
    by_cases hlt : k < n
    case neg =>
      obtain rfl : k = n := by omega
      have HE := Lib.hid (show S = A ∧ U = B from by
        have h := HSU.out
        rw [List.take_of_length_le (by have := HN.out; omega)] at h
        rw [HA.out, HB.out]
        exact h)
      go_wp2_with fail
      go_ret2
      rw [HE.out.1, HE.out.2]
      exact ⟨rfl, HCH.out⟩
    have hkl : k < D.row.length := by have := HN.out; omega
    obtain ⟨hrd, -, -⟩ := HAT.out _ HCH.out
    obtain ⟨b, o, rfl, hcc⟩ := hrd.addr (by omega)
    obtain ⟨e0, e1⟩ := Rd.at_pr hrd HN.out hkl
    have HLS := Lib.hid (sumIf_take (fun i => decide (hiN D.depth i ≤ x)) D.row k hkl)
    have HUS := Lib.hid (sumIf_take (fun i => decide (loN D.depth i ≤ x)) D.row k hkl)
    have hbs : S + D.row[k].c ≤ 9223372036854775807 ∧ U + D.row[k].c ≤ 9223372036854775807 := by
      have h1 := HSU.out
      have h2 := sumIf_le (fun i => decide (hiN D.depth i ≤ x)) (D.row.take k)
      have h3 := sumIf_le (fun i => decide (loN D.depth i ≤ x)) (D.row.take k)
      have h4 := take_tot D.row (k + 1)
      rw [List.take_succ_eq_append_getElem hkl, totP_app] at h4
      have h5 : totP [D.row[k]] = D.row[k].c := by simp [totP]
      unfold rankLo rankHi at h1
      omega
    have HND := Lib.hid (HNO.out _ (List.getElem_mem hkl))
    generalize D.row[k] = y at *
    generalize hlo : loN D.depth y.i = lo at *
    generalize hhi : hiN D.depth y.i = hi at *
    have HRX := Lib.hid (fun u => show Calls Try.prog 46 #[.int .i64 (D.depth : Nat), .int .i64 y.i] u fun e w' => e = .returned (.tuple #[.int .i64 lo, .int .i64 hi]) ∧ Chg [] u w' from by rw [← hlo, ← hhi]; exact HRG.out u y.i HND.out)
    have hw1 : IntKind.u64.wrap ((S : Int) + (y.c : Int)) = ((S + y.c : Nat) : Int) := by rw [IntKind.wrap_u64]; omega
    have hw2 : IntKind.u64.wrap ((U : Int) + (y.c : Int)) = ((U + y.c : Nat) : Int) := by rw [IntKind.wrap_u64]; omega
    clear hcc hlo hhi hbs hrd
    go_upto_region 6 with (fail)
    obtain ⟨q5, hq5⟩ : ∃ z, z = wr.heap.size := ⟨_, rfl⟩
    have HBQ := Lib.hid (Blk.alloc_new wr #[.int .i64 y.i, .int .u64 y.c] 53)
    have HCW := Lib.hid (HCH.out.alloc (.cells #[.int .i64 y.i, .int .u64 y.c] 53))
    rw [← hq5] at HBQ ⊢
    clear hq5 e0 e1
    generalize wr.alloc (.cells #[.int .i64 y.i, .int .u64 y.c] 53) = wq at *
    have HS := Lib.hid (fun wx (hu : Chg [] wq wx) => show Chg [] wq wx ∧ wx.cell? ⟨q, 0, none⟩ = some (.int .i64 (D.depth : Nat)) ∧ wx.cell? ⟨q5, 0, none⟩ = some (.int .i64 y.i) from ⟨hu, (HAT.out _ (HCW.out.trans hu)).2.1, (HBQ.out.chg hu (by simp)).cell 0⟩)
    have hSS := HS.out wq.drew (Chg.refl [] wq).drew
    refine startN (S := fun wx => Chg [] wq wx ∧ wx.cell? ⟨q, 0, none⟩ = some (.int .i64 (D.depth : Nat)) ∧ wx.cell? ⟨q5, 0, none⟩ = some (.int .i64 y.i)) (by kernel_rfl) hSS (fun hHeld => ?_)
    refine takeN (i := 0) (v := ?vc0) rfl (by kernel_rfl) (by kernel_rfl) (by kernel_rfl) (fun _ _ _ h => h) (Or.inl ⟨by rfl, ?yc0⟩) hSS ?rc0
    case yc0 => (intro w hSw; (try dsimp only at hSw); go_simp; first | done | with_reducible rfl)
    try simp only [Act.put, List.setIfInBounds_toArray, List.set_cons_zero, List.set_cons_succ]
    refine takeN (i := 1) (v := ?vc1) rfl (by kernel_rfl) (by kernel_rfl) (by kernel_rfl) (fun _ _ _ h => h) (Or.inl ⟨by rfl, ?yc1⟩) hSS ?rc1
    case yc1 => (intro w hSw; (try dsimp only at hSw); go_simp; first | done | with_reducible rfl)
    try simp only [Act.put, List.setIfInBounds_toArray, List.set_cons_zero, List.set_cons_succ]
    refine takeN (i := 2) (v := ?vc2) rfl (by kernel_rfl) (by kernel_rfl) (by kernel_rfl) (fun _ _ _ h => h) (Or.inl ⟨by rfl, ?yc2⟩) hSS ?rc2
    case yc2 => (intro w hSw; (try dsimp only at hSw); go_simp; first | done | with_reducible rfl)
    try simp only [Act.put, List.setIfInBounds_toArray, List.set_cons_zero, List.set_cons_succ]
    refine takeN (i := 3) (v := ?vc3) rfl (by kernel_rfl) (by kernel_rfl) (by kernel_rfl) (fun _ _ _ h => h) (Or.inl ⟨by rfl, ?yc3⟩) hSS ?rc3
    case yc3 => (intro w hSw; (try dsimp only at hSw); go_simp; first | done | with_reducible rfl)
    try simp only [Act.put, List.setIfInBounds_toArray, List.set_cons_zero, List.set_cons_succ]
    refine takeN (i := 4) (v := ?vc4) rfl (by kernel_rfl) (by kernel_rfl) (by kernel_rfl) (fun _ _ _ h => h) (Or.inl ⟨by rfl, ?yc4⟩) hSS ?rc4
    case yc4 => (intro w hSw; (try dsimp only at hSw); go_simp; first | done | with_reducible rfl)
    try simp only [Act.put, List.setIfInBounds_toArray, List.set_cons_zero, List.set_cons_succ]
    refine takeN (i := 5) (v := ?vc5) rfl (by kernel_rfl) (by kernel_rfl) (by kernel_rfl) (fun _ _ _ h => h) (Or.inl ⟨by rfl, ?yc5⟩) hSS ?rc5
    case yc5 => (intro w hSw; (try dsimp only at hSw); go_simp; first | done | with_reducible rfl)
    try simp only [Act.put, List.setIfInBounds_toArray, List.set_cons_zero, List.set_cons_succ]
    refine readyN (rs := [6]) (by kernel_rfl) (by simp) (consN rfl (fun K hK => ?_) nilN)
    refine step_callsG (by rfl) 46 _ _ rfl enters_rqrange _ #[.int .i64 (D.depth : Nat), .int .i64 y.i] (by simp [Act.eval]) (HRX.out _) ?_; rintro e wy ⟨rfl, hcy⟩; refine ⟨_, rfl, ?_⟩
    have hSA := HS.out wy (hSS.1.trans hcy)
    have HBY := Lib.hid (HBQ.out.chg (hSS.1.trans hcy) (by simp))
    clear hcy
    refine hK.out _ _ hSA (fun hHeld => ?_)
    clear hK K hHeld
    try simp only [Act.put, List.setIfInBounds_toArray, List.set_cons_zero, List.set_cons_succ]
    refine takeN (i := 7) (v := ?vc7) rfl (by kernel_rfl) (by kernel_rfl) (by kernel_rfl) (fun _ _ _ h => h) (Or.inl ⟨by rfl, ?yc7⟩) hSA ?rc7
    case yc7 => (intro w hSw; (try dsimp only at hSw); go_simp; first | done | with_reducible rfl)
    try simp only [Act.put, List.setIfInBounds_toArray, List.set_cons_zero, List.set_cons_succ]
    refine takeN (i := 8) (v := ?vc8) rfl (by kernel_rfl) (by kernel_rfl) (by kernel_rfl) (fun _ _ _ h => h) (Or.inl ⟨by rfl, ?yc8⟩) hSA ?rc8
    case yc8 => (intro w hSw; (try dsimp only at hSw); go_simp; first | done | with_reducible rfl)
    try simp only [Act.put, List.setIfInBounds_toArray, List.set_cons_zero, List.set_cons_succ]
    refine takeN (i := 9) (v := ?vc9) rfl (by kernel_rfl) (by kernel_rfl) (by kernel_rfl) (fun _ _ _ h => h) (Or.inl ⟨by rfl, ?yc9⟩) hSA ?rc9
    case yc9 => (intro w hSw; (try dsimp only at hSw); go_simp; first | done | with_reducible rfl)
    try simp only [Act.put, List.setIfInBounds_toArray, List.set_cons_zero, List.set_cons_succ]
    refine takeN (i := 10) (v := ?vc10) rfl (by kernel_rfl) (by kernel_rfl) (by kernel_rfl) (fun _ _ _ h => h) (Or.inl ⟨by rfl, ?yc10⟩) hSA ?rc10
    case yc10 => (intro w hSw; (try dsimp only at hSw); go_simp; first | done | with_reducible rfl)
    try simp only [Act.put, List.setIfInBounds_toArray, List.set_cons_zero, List.set_cons_succ]
    refine takeN (i := 11) (v := ?vc11) rfl (by kernel_rfl) (by kernel_rfl) (by kernel_rfl) (fun _ _ _ h => h) (Or.inl ⟨by rfl, ?yc11⟩) hSA ?rc11
    case yc11 => (intro w hSw; (try dsimp only at hSw); go_simp; first | done | with_reducible rfl)
    try simp only [Act.put, List.setIfInBounds_toArray, List.set_cons_zero, List.set_cons_succ]
    refine doneN (by kernel_rfl) ?_ _
    have HCZ := Lib.hid (HCW.out.trans hSA.1)
    have y1 := HBY.out.cell 1
    simp only [List.getElem?_toArray, List.getElem?_cons_zero, List.getElem?_cons_succ] at y1
    clear hSS hSA HS
    by_cases g1 : hi ≤ x
    · have d1 : decide (hi ≤ x) = true := decide_eq_true g1
      have E1 := Lib.hid (show S + y.c = rankLo D.depth (D.row.take (k + 1)) x from by unfold rankLo; rw [HLS.out, d1, HSU.out.1]; rfl)
      by_cases g2 : lo ≤ x
      · have d2 : decide (lo ≤ x) = true := decide_eq_true g2
        have E2 := Lib.hid (show U + y.c = rankHi D.depth (D.row.take (k + 1)) x from by unfold rankHi; rw [HUS.out, d2, HSU.out.2]; rfl)
        clear g1 g2
        go_wp2_with fail
        exact ⟨⟨k + 1, S + y.c, U + y.c, by omega, by go_num, rfl, rfl, HCZ.out, Lib.hid ⟨E1.out, E2.out⟩⟩, by simp [intOf]; omega⟩
      · have d2 : decide (lo ≤ x) = false := decide_eq_false g2
        have E2 := Lib.hid (show U = rankHi D.depth (D.row.take (k + 1)) x from by unfold rankHi; rw [HUS.out, d2, HSU.out.2]; rfl)
        clear g1 g2
        go_wp2_with fail
        exact ⟨⟨k + 1, S + y.c, U, by omega, by go_num, rfl, rfl, HCZ.out, Lib.hid ⟨E1.out, E2.out⟩⟩, by simp [intOf]; omega⟩
    · have d1 : decide (hi ≤ x) = false := decide_eq_false g1
      have E1 := Lib.hid (show S = rankLo D.depth (D.row.take (k + 1)) x from by unfold rankLo; rw [HLS.out, d1, HSU.out.1]; rfl)
      by_cases g2 : lo ≤ x
      · have d2 : decide (lo ≤ x) = true := decide_eq_true g2
        have E2 := Lib.hid (show U + y.c = rankHi D.depth (D.row.take (k + 1)) x from by unfold rankHi; rw [HUS.out, d2, HSU.out.2]; rfl)
        clear g1 g2
        go_wp2_with fail
        exact ⟨⟨k + 1, S, U + y.c, by omega, by go_num, rfl, rfl, HCZ.out, Lib.hid ⟨E1.out, E2.out⟩⟩, by simp [intOf]; omega⟩
      · have d2 : decide (lo ≤ x) = false := decide_eq_false g2
        have E2 := Lib.hid (show U = rankHi D.depth (D.row.take (k + 1)) x from by unfold rankHi; rw [HUS.out, d2, HSU.out.2]; rfl)
        clear g1 g2
        go_wp2_with fail
        exact ⟨⟨k + 1, S, U, by omega, by go_num, rfl, rfl, HCZ.out, Lib.hid ⟨E1.out, E2.out⟩⟩, by simp [intOf]; omega⟩
theorem find_first {α : Type} {q : α → Bool} {l : List α} {k : Nat} (hk : k < l.length) (h1 : ∀ y ∈ l.take k, q y = false) (h2 : q l[k] = true) : l.find? q = some l[k] := by
  have e : l = l.take k ++ l[k] :: l.drop (k + 1) := by rw [← List.drop_eq_getElem_cons hk, List.take_append_drop]
  have e2 : (l.take k).find? q = none := List.find?_eq_none.2 (fun y hy => by rw [h1 y hy]; decide)
  conv => lhs; rw [e]
  rw [List.find?_append, e2, List.find?_cons, h2]
  rfl
set_option maxRecDepth 100000 in
set_option maxHeartbeats 16000000 in
theorem ref17_quantile (w : World) (q : Nat) (sv : Value) (D : DgD) (h : RD w q sv D) (hok : D.ok) (num den : Nat) (hnum : num < 18446744073709551616) (hden : den < 18446744073709551616) (T E : Nat) (hT : T = placeT num den (totP D.row)) (hE : E = placeE num den (totP D.row)) (X : Int) (hX : X = if E = 0 then quantD D.depth D.row T else 0) :
    Calls Try.prog 23 #[.pointer (some ⟨q, 0, none⟩), .agg #[.int .u64 (num : Nat), .int .u64 (den : Nat)]] w fun e w' => e = .returned (.tuple #[.int .i64 X, .int .i64 (E : Nat)]) ∧ Chg [] w w' := by
  obtain ⟨M, hM⟩ : ∃ M, M = totP D.row := ⟨_, rfl⟩
  have htt := hok.tot
  have hll := hok.len
  rw [← hM] at hT hE htt
  have HPL := Lib.hid (fun u => ref03_place u num den M hnum hden (by omega) T E hT hE)
  obtain ⟨so, sc, hsv⟩ := h.row.shape
  subst hsv
  obtain ⟨n, hn⟩ : ∃ n, n = D.row.length := ⟨_, rfl⟩
  have hn1 : n ≤ 1000 := by omega
  rw [← hn] at h
  have HRG := Lib.hid (fun u v hv => ref16_range u D.depth hok.d2 v hv (loN D.depth v) (hiN D.depth v) rfl rfl)
  have HBE := Lib.hid (fun u v hv z hz => ref16_before u D.depth hok.d2 v z hv hz)
  have HNO := Lib.hid (fun p (hp : p ∈ D.row) => show isNode D.depth p.i from hok.nodes.ix p hp)
  have HAT := Lib.hid (fun u (hu : Chg [] w u) => RD.row_at h hn hu)
  have HTO := Lib.hid (fun u (hu : Chg [] w u) => show Calls Try.prog 21 #[.slice so n sc] u fun e w' => e = .returned (.int .u64 (M : Nat)) ∧ Chg [] u w' from by
    rw [hM]
    exact ref07_total u so sc n D.row hn (HAT.out u hu).1 hn1 hok.tot)
  have hpe : E ≤ 5 := by rw [hE]; unfold placeE; split <;> (try split) <;> omega
  have HC0 := Lib.hid ((Chg.refl [] w).alloc (.cells #[.int .u64 (num : Nat), .int .u64 (den : Nat)] 27))
  have hb0 := Blk.alloc_new w #[.int .u64 (num : Nat), .int .u64 (den : Nat)] 27
  obtain ⟨bq, hbq⟩ : ∃ z, z = w.heap.size := ⟨_, rfl⟩
  rw [← hbq] at hb0
  have HB0 := Lib.hid hb0
  have HX := Lib.hid hX
  have HN := Lib.hid hn
  have HM := Lib.hid hM
  clear h hok hT hE hM hb0 hX hn hnum hden
  go_enter Try.func23, Try.ntmps23
  go_upto_region 1 with (fail)
  rw [← hbq]
  clear hbq
  generalize w.alloc (.cells #[.int .u64 (num : Nat), .int .u64 (den : Nat)] 27) = w0 at *
  have HS := Lib.hid (fun wx (hu : Chg [] w0 wx) => show Chg [] w0 wx ∧ wx.cell? ⟨bq, 0, none⟩ = some (.int .u64 (num : Nat)) ∧ wx.cell? ⟨bq, 1, none⟩ = some (.int .u64 (den : Nat)) ∧ wx.cell? ⟨q, 2, none⟩ = some (.slice so n sc) from ⟨hu, (HB0.out.chg hu (by simp)).cell 0, (HB0.out.chg hu (by simp)).cell 1, (HAT.out _ (HC0.out.trans hu)).2.2⟩)
  have hSS := HS.out w0.drew (Chg.refl [] w0).drew
  refine startN (S := fun wx => Chg [] w0 wx ∧ wx.cell? ⟨bq, 0, none⟩ = some (.int .u64 (num : Nat)) ∧ wx.cell? ⟨bq, 1, none⟩ = some (.int .u64 (den : Nat)) ∧ wx.cell? ⟨q, 2, none⟩ = some (.slice so n sc)) (by kernel_rfl) hSS (fun hHeld => ?_)
  refine takeN (i := 0) (v := ?vd0) rfl (by kernel_rfl) (by kernel_rfl) (by kernel_rfl) (fun _ _ _ h => h) (Or.inl ⟨by rfl, ?yd0⟩) hSS ?rd0
  case yd0 => (intro w hSw; (try dsimp only at hSw); go_simp; first | done | with_reducible rfl)
  try simp only [Act.put, List.setIfInBounds_toArray, List.set_cons_zero, List.set_cons_succ]
  refine takeN (i := 1) (v := ?vd1) rfl (by kernel_rfl) (by kernel_rfl) (by kernel_rfl) (fun _ _ _ h => h) (Or.inl ⟨by rfl, ?yd1⟩) hSS ?rd1
  case yd1 => (intro w hSw; (try dsimp only at hSw); go_simp; first | done | with_reducible rfl)
  try simp only [Act.put, List.setIfInBounds_toArray, List.set_cons_zero, List.set_cons_succ]
  refine takeN (i := 2) (v := ?vd2) rfl (by kernel_rfl) (by kernel_rfl) (by kernel_rfl) (fun _ _ _ h => h) (Or.inl ⟨by rfl, ?yd2⟩) hSS ?rd2
  case yd2 => (intro w hSw; (try dsimp only at hSw); go_simp; first | done | with_reducible rfl)
  try simp only [Act.put, List.setIfInBounds_toArray, List.set_cons_zero, List.set_cons_succ]
  refine takeN (i := 3) (v := ?vd3) rfl (by kernel_rfl) (by kernel_rfl) (by kernel_rfl) (fun _ _ _ h => h) (Or.inl ⟨by rfl, ?yd3⟩) hSS ?rd3
  case yd3 => (intro w hSw; (try dsimp only at hSw); go_simp; first | done | with_reducible rfl)
  try simp only [Act.put, List.setIfInBounds_toArray, List.set_cons_zero, List.set_cons_succ]
  refine takeN (i := 4) (v := ?vd4) rfl (by kernel_rfl) (by kernel_rfl) (by kernel_rfl) (fun _ _ _ h => h) (Or.inl ⟨by rfl, ?yd4⟩) hSS ?rd4
  case yd4 => (intro w hSw; (try dsimp only at hSw); go_simp; first | done | with_reducible rfl)
  try simp only [Act.put, List.setIfInBounds_toArray, List.set_cons_zero, List.set_cons_succ]
  refine readyN (rs := [5]) (by kernel_rfl) (by simp) (consN rfl (fun K hK => ?_) nilN)
  refine step_callsG (by rfl) 21 _ _ rfl enters_rqtotal _ #[.slice so n sc] (by simp [Act.eval]) (HTO.out _ (HC0.out.trans hSS.1)) ?_; rintro e w1 ⟨rfl, hc1⟩; refine ⟨_, rfl, ?_⟩
  have hSA := HS.out w1 (hSS.1.trans hc1)
  clear hc1
  refine hK.out _ _ hSA (fun hHeld => ?_)
  clear hK K hHeld
  try simp only [Act.put, List.setIfInBounds_toArray, List.set_cons_zero, List.set_cons_succ]
  refine readyN (rs := [6]) (by kernel_rfl) (by simp) (consN rfl (fun K hK => ?_) nilN)
  refine step_callsG (by rfl) 14 _ _ rfl enters_rqplace _ #[.agg #[.int .u64 (num : Nat), .int .u64 (den : Nat)], .int .u64 (M : Nat)] (by simp [Act.eval]) (HPL.out _) ?_; rintro e w2 ⟨rfl, hc2⟩; refine ⟨_, rfl, ?_⟩
  have hSB := HS.out w2 (hSA.1.trans hc2)
  clear hc2
  refine hK.out _ _ hSB (fun hHeld => ?_)
  clear hK K hHeld
  try simp only [Act.put, List.setIfInBounds_toArray, List.set_cons_zero, List.set_cons_succ]
  refine takeN (i := 7) (v := ?vd7) rfl (by kernel_rfl) (by kernel_rfl) (by kernel_rfl) (fun _ _ _ h => h) (Or.inl ⟨by rfl, ?yd7⟩) hSB ?rd7
  case yd7 => (intro w hSw; (try dsimp only at hSw); go_simp; first | done | with_reducible rfl)
  try simp only [Act.put, List.setIfInBounds_toArray, List.set_cons_zero, List.set_cons_succ]
  refine takeN (i := 8) (v := ?vd8) rfl (by kernel_rfl) (by kernel_rfl) (by kernel_rfl) (fun _ _ _ h => h) (Or.inl ⟨by rfl, ?yd8⟩) hSB ?rd8
  case yd8 => (intro w hSw; (try dsimp only at hSw); go_simp; first | done | with_reducible rfl)
  try simp only [Act.put, List.setIfInBounds_toArray, List.set_cons_zero, List.set_cons_succ]
  refine takeN (i := 9) (v := ?vd9) rfl (by kernel_rfl) (by kernel_rfl) (by kernel_rfl) (fun _ _ _ h => h) (Or.inl ⟨by rfl, ?yd9⟩) hSB ?rd9
  case yd9 => (intro w hSw; (try dsimp only at hSw); go_simp; first | done | with_reducible rfl)
  try simp only [Act.put, List.setIfInBounds_toArray, List.set_cons_zero, List.set_cons_succ]
  refine takeN (i := 10) (v := ?vd10) rfl (by kernel_rfl) (by kernel_rfl) (by kernel_rfl) (fun _ _ _ h => h) (Or.inl ⟨by rfl, ?yd10⟩) hSB ?rd10
  case yd10 => (intro w hSw; (try dsimp only at hSw); go_simp; first | done | with_reducible rfl)
  try simp only [Act.put, List.setIfInBounds_toArray, List.set_cons_zero, List.set_cons_succ]
  refine takeN (i := 11) (v := ?vd11) rfl (by kernel_rfl) (by kernel_rfl) (by kernel_rfl) (fun _ _ _ h => h) (Or.inl ⟨by rfl, ?yd11⟩) hSB ?rd11
  case yd11 => (intro w hSw; (try dsimp only at hSw); go_simp; first | done | with_reducible rfl)
  try simp only [Act.put, List.setIfInBounds_toArray, List.set_cons_zero, List.set_cons_succ]
  refine doneN (by kernel_rfl) ?_ _
  have HC1 := Lib.hid (HC0.out.trans hSB.1)
  clear hSS hSA hSB HS HTO HPL HB0 HC0
  by_cases h0 : E = 0
  case neg =>
    have e0 : decide ((0 : Int) < (E : Int)) = true := decide_eq_true (by omega)
    have e0' : decide (0 < E) = true := decide_eq_true (by omega)
    obtain rfl : X = 0 := by rw [HX.out, if_neg h0]
    clear h0
    go_wp2_with fail
    go_ret2
    exact ⟨rfl, HC1.out⟩
  rw [if_pos h0] at HX
  subst h0
  obtain ⟨-, -, c2⟩ := HAT.out _ HC1.out
  go_wp2_with fail
  go_loopw [33] (fun i wx => ∃ k : Nat, k ≤ n ∧ i = .int .i64 (k : Nat) ∧ Chg [] w wx ∧ Hid (∀ y ∈ D.row.take k, pickP D.depth D.row T y = false)) (fun i _ => n - (intOf i).toNat)
  case atStart => exact ⟨0, Nat.zero_le _, rfl, HC1.out, Lib.hid (by simp)⟩
  case round =>
    obtain ⟨k, hk, rfl, hch, HPK⟩ := hrel
    have HCH := Lib.hid hch
    clear hch
    by_cases hlt : k < n
    case neg =>
      obtain rfl : k = n := by omega
      have HXX := Lib.hid (show X = 0 from by
        have h := HPK.out
        rw [List.take_of_length_le (by have := HN.out; omega)] at h
        rw [HX.out, quantD, List.find?_eq_none.2 (fun y hy => by rw [h y hy]; decide)])
      go_wp2_with fail
      go_ret2
      rw [HXX.out]
      exact ⟨rfl, HCH.out⟩
    have hkl : k < D.row.length := by have := HN.out; omega
    obtain ⟨hrd, -, -⟩ := HAT.out _ HCH.out
    obtain ⟨b, o, rfl, hcc⟩ := hrd.addr (by omega)
    obtain ⟨e0, e1⟩ := Rd.at_pr hrd HN.out hkl
    have HND := Lib.hid (HNO.out _ (List.getElem_mem hkl))
    have HFF := Lib.hid (fun hp => find_first hkl HPK.out hp)
    have HPN := Lib.hid (fun (hp : pickP D.depth D.row T D.row[k] = false) => show ∀ y ∈ D.row.take (k + 1), pickP D.depth D.row T y = false from fun y hy => by
      rw [List.take_succ_eq_append_getElem hkl] at hy
      rcases List.mem_append.1 hy with h | h
      · exact HPK.out y h
      · simp at h; subst h; exact hp)
    have hxc := mem_tot (List.getElem_mem hkl)
    rw [← HM.out] at hxc
    generalize D.row[k] = x at *
    clear hcc hrd
    go_upto_region 8 with (fail)
    obtain ⟨q5, hq5⟩ : ∃ z, z = wr.heap.size := ⟨_, rfl⟩
    have HBQ := Lib.hid (Blk.alloc_new wr #[.int .i64 x.i, .int .u64 x.c] 53)
    have HCW := Lib.hid (HCH.out.alloc (.cells #[.int .i64 x.i, .int .u64 x.c] 53))
    rw [← hq5] at HBQ ⊢
    clear hq5 e0 e1
    generalize wr.alloc (.cells #[.int .i64 x.i, .int .u64 x.c] 53) = wq at *
    obtain ⟨A, hA⟩ : ∃ A, A = ahead D.depth D.row x.i := ⟨_, rfl⟩
    have HA := Lib.hid hA
    have hAM : A ≤ M := by rw [hA, HM.out]; exact sumIf_le _ _
    clear hA
    obtain ⟨-, -, c3⟩ := HAT.out _ HCW.out
    go_upto_block 2 with (fail)
    go_cut [10] (fun v wx => v = .int .u64 (A : Nat) ∧ Chg [] wq wx)
    case first =>
      go_wp2_with fail
      go_loopw [10, 42] (fun t i wx => ∃ (j S : Nat), j ≤ n ∧ i = .int .i64 (j : Nat) ∧ t = .int .u64 (S : Nat) ∧ Chg [] wq wx ∧ Hid (S = sumIf (fun z => befN D.depth z x.i) (D.row.take j))) (fun _ i _ => n - (intOf i).toNat)
      case atStart => exact ⟨0, 0, Nat.zero_le _, rfl, rfl, Chg.refl _ _, Lib.hid rfl⟩
      case round =>
        rename World => wj
        obtain ⟨j, S, hj, rfl, rfl, hcj, HSS⟩ := hrel
        have HCJ := Lib.hid hcj
        clear hcj
        by_cases hlj : j < n
        case neg =>
          obtain rfl : j = n := by omega
          have HSA := Lib.hid (show S = A from by rw [HSS.out, HA.out, List.take_of_length_le (by have := HN.out; omega)]; rfl)
          clear hlj
          go_wp2_with fail
          go_meet
          exact ⟨by rw [HSA.out], HCJ.out⟩
        have hjl : j < D.row.length := by have := HN.out; omega
        obtain ⟨hrd, -, -⟩ := HAT.out _ (HCW.out.trans HCJ.out)
        obtain ⟨e0, e1⟩ := Rd.at_pr hrd HN.out hjl
        have HNE := Lib.hid (HNO.out _ (List.getElem_mem hjl))
        have HLS := Lib.hid (sumIf_take (fun z => befN D.depth z x.i) D.row j hjl)
        have hbs : S + D.row[j].c ≤ 9223372036854775807 := by
          have h1 := HSS.out
          have h2 := sumIf_le (fun z => befN D.depth z x.i) (D.row.take j)
          have h4 := take_tot D.row (j + 1)
          rw [List.take_succ_eq_append_getElem hjl, totP_app] at h4
          have h5 : totP [D.row[j]] = D.row[j].c := by simp [totP]
          have := HM.out
          omega
        generalize D.row[j] = y at *
        have HBX := Lib.hid (fun u => HBE.out u y.i HNE.out x.i HND.out)
        generalize befN D.depth y.i x.i = B at *
        have hw1 : IntKind.u64.wrap ((S : Int) + (y.c : Int)) = ((S + y.c : Nat) : Int) := by rw [IntKind.wrap_u64]; omega
        clear hrd hbs
        go_upto_region 11 with (fail)
        obtain ⟨q6, hq6⟩ : ∃ z, z = wj.heap.size := ⟨_, rfl⟩
        have HBY := Lib.hid (Blk.alloc_new wj #[.int .i64 y.i, .int .u64 y.c] 53)
        have HBX5 := Lib.hid (HBQ.out.chg (HCJ.out.alloc (.cells #[.int .i64 y.i, .int .u64 y.c] 53)) (by simp))
        have HCY := Lib.hid (HCJ.out.alloc (.cells #[.int .i64 y.i, .int .u64 y.c] 53))
        rw [← hq6] at HBY ⊢
        clear hq6 e0 e1
        generalize wj.alloc (.cells #[.int .i64 y.i, .int .u64 y.c] 53) = wy at *
        have HS := Lib.hid (fun wx (hu : Chg [] wy wx) => show Chg [] wy wx ∧ wx.cell? ⟨q, 0, none⟩ = some (.int .i64 (D.depth : Nat)) ∧ wx.cell? ⟨q6, 0, none⟩ = some (.int .i64 y.i) ∧ wx.cell? ⟨q5, 0, none⟩ = some (.int .i64 x.i) from ⟨hu, (HAT.out _ ((HCW.out.trans HCY.out).trans hu)).2.1, (HBY.out.chg hu (by simp)).cell 0, (HBX5.out.chg hu (by simp)).cell 0⟩)
        have hSS := HS.out wy.drew (Chg.refl [] wy).drew
        refine startN (S := fun wx => Chg [] wy wx ∧ wx.cell? ⟨q, 0, none⟩ = some (.int .i64 (D.depth : Nat)) ∧ wx.cell? ⟨q6, 0, none⟩ = some (.int .i64 y.i) ∧ wx.cell? ⟨q5, 0, none⟩ = some (.int .i64 x.i)) (by kernel_rfl) hSS (fun hHeld => ?_)
        refine takeN (i := 0) (v := ?ve0) rfl (by kernel_rfl) (by kernel_rfl) (by kernel_rfl) (fun _ _ _ h => h) (Or.inl ⟨by rfl, ?ye0⟩) hSS ?re0
        case ye0 => (intro w hSw; (try dsimp only at hSw); go_simp; first | done | with_reducible rfl)
        try simp only [Act.put, List.setIfInBounds_toArray, List.set_cons_zero, List.set_cons_succ]
        refine takeN (i := 1) (v := ?ve1) rfl (by kernel_rfl) (by kernel_rfl) (by kernel_rfl) (fun _ _ _ h => h) (Or.inl ⟨by rfl, ?ye1⟩) hSS ?re1
        case ye1 => (intro w hSw; (try dsimp only at hSw); go_simp; first | done | with_reducible rfl)
        try simp only [Act.put, List.setIfInBounds_toArray, List.set_cons_zero, List.set_cons_succ]
        refine takeN (i := 2) (v := ?ve2) rfl (by kernel_rfl) (by kernel_rfl) (by kernel_rfl) (fun _ _ _ h => h) (Or.inl ⟨by rfl, ?ye2⟩) hSS ?re2
        case ye2 => (intro w hSw; (try dsimp only at hSw); go_simp; first | done | with_reducible rfl)
        try simp only [Act.put, List.setIfInBounds_toArray, List.set_cons_zero, List.set_cons_succ]
        refine takeN (i := 3) (v := ?ve3) rfl (by kernel_rfl) (by kernel_rfl) (by kernel_rfl) (fun _ _ _ h => h) (Or.inl ⟨by rfl, ?ye3⟩) hSS ?re3
        case ye3 => (intro w hSw; (try dsimp only at hSw); go_simp; first | done | with_reducible rfl)
        try simp only [Act.put, List.setIfInBounds_toArray, List.set_cons_zero, List.set_cons_succ]
        refine takeN (i := 4) (v := ?ve4) rfl (by kernel_rfl) (by kernel_rfl) (by kernel_rfl) (fun _ _ _ h => h) (Or.inl ⟨by rfl, ?ye4⟩) hSS ?re4
        case ye4 => (intro w hSw; (try dsimp only at hSw); go_simp; first | done | with_reducible rfl)
        try simp only [Act.put, List.setIfInBounds_toArray, List.set_cons_zero, List.set_cons_succ]
        refine takeN (i := 5) (v := ?ve5) rfl (by kernel_rfl) (by kernel_rfl) (by kernel_rfl) (fun _ _ _ h => h) (Or.inl ⟨by rfl, ?ye5⟩) hSS ?re5
        case ye5 => (intro w hSw; (try dsimp only at hSw); go_simp; first | done | with_reducible rfl)
        try simp only [Act.put, List.setIfInBounds_toArray, List.set_cons_zero, List.set_cons_succ]
        refine takeN (i := 6) (v := ?ve6) rfl (by kernel_rfl) (by kernel_rfl) (by kernel_rfl) (fun _ _ _ h => h) (Or.inl ⟨by rfl, ?ye6⟩) hSS ?re6
        case ye6 => (intro w hSw; (try dsimp only at hSw); go_simp; first | done | with_reducible rfl)
        try simp only [Act.put, List.setIfInBounds_toArray, List.set_cons_zero, List.set_cons_succ]
        refine takeN (i := 7) (v := ?ve7) rfl (by kernel_rfl) (by kernel_rfl) (by kernel_rfl) (fun _ _ _ h => h) (Or.inl ⟨by rfl, ?ye7⟩) hSS ?re7
        case ye7 => (intro w hSw; (try dsimp only at hSw); go_simp; first | done | with_reducible rfl)
        try simp only [Act.put, List.setIfInBounds_toArray, List.set_cons_zero, List.set_cons_succ]
        refine readyN (rs := [8]) (by kernel_rfl) (by simp) (consN rfl (fun K hK => ?_) nilN)
        refine step_callsG (by rfl) 45 _ _ rfl enters_rqbefore _ #[.int .i64 (D.depth : Nat), .int .i64 y.i, .int .i64 x.i] (by simp [Act.eval]) (HBX.out _) ?_; rintro e wz ⟨rfl, hcz⟩; refine ⟨_, rfl, ?_⟩
        have hSA := HS.out wz (hSS.1.trans hcz)
        have HBZ := Lib.hid (HBY.out.chg (hSS.1.trans hcz) (by simp))
        clear hcz
        refine hK.out _ _ hSA (fun hHeld => ?_)
        clear hK K hHeld
        try simp only [Act.put, List.setIfInBounds_toArray, List.set_cons_zero, List.set_cons_succ]
        refine doneN (by kernel_rfl) ?_ _
        have HCZ := Lib.hid (HCY.out.trans hSA.1)
        have y1 := HBZ.out.cell 1
        simp only [List.getElem?_toArray, List.getElem?_cons_zero, List.getElem?_cons_succ] at y1
        clear hSS hSA HS
        cases B with
        | true =>
          have HS2 := Lib.hid (show S + y.c = sumIf (fun z => befN D.depth z x.i) (D.row.take (j + 1)) from by rw [HLS.out, ← HSS.out]; rfl)
          go_wp2_with fail
          exact ⟨⟨j + 1, S + y.c, by omega, by go_num, rfl, HCZ.out, HS2⟩, by simp [intOf]; omega⟩
        | false =>
          have HS2 := Lib.hid (show S = sumIf (fun z => befN D.depth z x.i) (D.row.take (j + 1)) from by rw [HLS.out, ← HSS.out]; rfl)
          go_wp2_with fail
          exact ⟨⟨j + 1, S, by omega, by go_num, rfl, HCZ.out, HS2⟩, by simp [intOf]; omega⟩
    case rest =>
      rename World => wz
      obtain ⟨rfl, hcz⟩ := hcut
      have HCZ := Lib.hid (HCW.out.trans hcz)
      have HBZ := Lib.hid (HBQ.out.chg hcz (by simp))
      have y0 := HBZ.out.cell 0
      have y1 := HBZ.out.cell 1
      simp only [List.getElem?_toArray, List.getElem?_cons_zero, List.getElem?_cons_succ] at y0 y1
      obtain ⟨Z, hZ⟩ : ∃ Z, Z = A + x.c := ⟨_, rfl⟩
      have hw1 : IntKind.u64.wrap ((A : Int) + (x.c : Int)) = (Z : Int) := by rw [IntKind.wrap_u64]; omega
      have HPQ := Lib.hid (show pickP D.depth D.row T x = (decide (A < T) && decide (T ≤ Z)) from by unfold pickP; rw [← HA.out, hZ])
      clear hcz hZ
      by_cases g1 : A < T
      case neg =>
        have d1 : decide ((A : Int) < (T : Int)) = false := decide_eq_false (by omega)
        have d1' : decide (A < T) = false := decide_eq_false g1
        have HPN2 := Lib.hid (HPN.out (by rw [HPQ.out, d1']; rfl))
        clear g1
        go_wp2_with fail
        exact ⟨⟨k + 1, by omega, by go_num, HCZ.out, HPN2⟩, by simp [intOf]; omega⟩
      have d1 : decide ((A : Int) < (T : Int)) = true := decide_eq_true (by omega)
      have d1' : decide (A < T) = true := decide_eq_true g1
      by_cases g2 : T ≤ Z
      case neg =>
        have d2 : decide ((T : Int) ≤ (Z : Int)) = false := decide_eq_false (by omega)
        have d2' : decide (T ≤ Z) = false := decide_eq_false g2
        have HPN2 := Lib.hid (HPN.out (by rw [HPQ.out, d2', Bool.and_false]))
        clear g1 g2
        go_wp2_with fail
        exact ⟨⟨k + 1, by omega, by go_num, HCZ.out, HPN2⟩, by simp [intOf]; omega⟩
      have d2 : decide ((T : Int) ≤ (Z : Int)) = true := decide_eq_true (by omega)
      have d2' : decide (T ≤ Z) = true := decide_eq_true g2
      have HXX := Lib.hid (show X = hiN D.depth x.i from by
        rw [HX.out, quantD, HFF.out (by rw [HPQ.out, d1', d2']; rfl)])
      have HRX := Lib.hid (fun u => HRG.out u x.i HND.out)
      rw [← HXX.out] at HRX
      clear g1 g2 HFF HPN
      go_upto_region 15 with (fail)
      have HS := Lib.hid (fun wx (hu : Chg [] wz wx) => show Chg [] wz wx ∧ wx.cell? ⟨q, 0, none⟩ = some (.int .i64 (D.depth : Nat)) ∧ wx.cell? ⟨q5, 0, none⟩ = some (.int .i64 x.i) from ⟨hu, (HAT.out _ (HCZ.out.trans hu)).2.1, (HBZ.out.chg hu (by simp)).cell 0⟩)
      have hSS := HS.out wz.drew (Chg.refl [] wz).drew
      refine startN (S := fun wx => Chg [] wz wx ∧ wx.cell? ⟨q, 0, none⟩ = some (.int .i64 (D.depth : Nat)) ∧ wx.cell? ⟨q5, 0, none⟩ = some (.int .i64 x.i)) (by kernel_rfl) hSS (fun hHeld => ?_)
      refine takeN (i := 0) (v := ?vf0) rfl (by kernel_rfl) (by kernel_rfl) (by kernel_rfl) (fun _ _ _ h => h) (Or.inl ⟨by rfl, ?yf0⟩) hSS ?rf0
      case yf0 => (intro w hSw; (try dsimp only at hSw); go_simp; first | done | with_reducible rfl)
      try simp only [Act.put, List.setIfInBounds_toArray, List.set_cons_zero, List.set_cons_succ]
      refine takeN (i := 1) (v := ?vf1) rfl (by kernel_rfl) (by kernel_rfl) (by kernel_rfl) (fun _ _ _ h => h) (Or.inl ⟨by rfl, ?yf1⟩) hSS ?rf1
      case yf1 => (intro w hSw; (try dsimp only at hSw); go_simp; first | done | with_reducible rfl)
      try simp only [Act.put, List.setIfInBounds_toArray, List.set_cons_zero, List.set_cons_succ]
      refine takeN (i := 2) (v := ?vf2) rfl (by kernel_rfl) (by kernel_rfl) (by kernel_rfl) (fun _ _ _ h => h) (Or.inl ⟨by rfl, ?yf2⟩) hSS ?rf2
      case yf2 => (intro w hSw; (try dsimp only at hSw); go_simp; first | done | with_reducible rfl)
      try simp only [Act.put, List.setIfInBounds_toArray, List.set_cons_zero, List.set_cons_succ]
      refine takeN (i := 3) (v := ?vf3) rfl (by kernel_rfl) (by kernel_rfl) (by kernel_rfl) (fun _ _ _ h => h) (Or.inl ⟨by rfl, ?yf3⟩) hSS ?rf3
      case yf3 => (intro w hSw; (try dsimp only at hSw); go_simp; first | done | with_reducible rfl)
      try simp only [Act.put, List.setIfInBounds_toArray, List.set_cons_zero, List.set_cons_succ]
      refine takeN (i := 4) (v := ?vf4) rfl (by kernel_rfl) (by kernel_rfl) (by kernel_rfl) (fun _ _ _ h => h) (Or.inl ⟨by rfl, ?yf4⟩) hSS ?rf4
      case yf4 => (intro w hSw; (try dsimp only at hSw); go_simp; first | done | with_reducible rfl)
      try simp only [Act.put, List.setIfInBounds_toArray, List.set_cons_zero, List.set_cons_succ]
      refine takeN (i := 5) (v := ?vf5) rfl (by kernel_rfl) (by kernel_rfl) (by kernel_rfl) (fun _ _ _ h => h) (Or.inl ⟨by rfl, ?yf5⟩) hSS ?rf5
      case yf5 => (intro w hSw; (try dsimp only at hSw); go_simp; first | done | with_reducible rfl)
      try simp only [Act.put, List.setIfInBounds_toArray, List.set_cons_zero, List.set_cons_succ]
      refine readyN (rs := [6]) (by kernel_rfl) (by simp) (consN rfl (fun K hK => ?_) nilN)
      refine step_callsG (by rfl) 46 _ _ rfl enters_rqrange _ #[.int .i64 (D.depth : Nat), .int .i64 x.i] (by simp [Act.eval]) (HRX.out _) ?_; rintro e wv ⟨rfl, hcv⟩; refine ⟨_, rfl, ?_⟩
      have hSA := HS.out wv (hSS.1.trans hcv)
      clear hcv
      refine hK.out _ _ hSA (fun hHeld => ?_)
      clear hK K hHeld
      try simp only [Act.put, List.setIfInBounds_toArray, List.set_cons_zero, List.set_cons_succ]
      refine takeN (i := 7) (v := ?vf7) rfl (by kernel_rfl) (by kernel_rfl) (by kernel_rfl) (fun _ _ _ h => h) (Or.inl ⟨by rfl, ?yf7⟩) hSA ?rf7
      case yf7 => (intro w hSw; (try dsimp only at hSw); go_simp; first | done | with_reducible rfl)
      try simp only [Act.put, List.setIfInBounds_toArray, List.set_cons_zero, List.set_cons_succ]
      refine takeN (i := 8) (v := ?vf8) rfl (by kernel_rfl) (by kernel_rfl) (by kernel_rfl) (fun _ _ _ h => h) (Or.inl ⟨by rfl, ?yf8⟩) hSA ?rf8
      case yf8 => (intro w hSw; (try dsimp only at hSw); go_simp; first | done | with_reducible rfl)
      try simp only [Act.put, List.setIfInBounds_toArray, List.set_cons_zero, List.set_cons_succ]
      refine takeN (i := 9) (v := ?vf9) rfl (by kernel_rfl) (by kernel_rfl) (by kernel_rfl) (fun _ _ _ h => h) (Or.inl ⟨by rfl, ?yf9⟩) hSA ?rf9
      case yf9 => (intro w hSw; (try dsimp only at hSw); go_simp; first | done | with_reducible rfl)
      try simp only [Act.put, List.setIfInBounds_toArray, List.set_cons_zero, List.set_cons_succ]
      refine takeN (i := 10) (v := ?vf10) rfl (by kernel_rfl) (by kernel_rfl) (by kernel_rfl) (fun _ _ _ h => h) (Or.inl ⟨by rfl, ?yf10⟩) hSA ?rf10
      case yf10 => (intro w hSw; (try dsimp only at hSw); go_simp; first | done | with_reducible rfl)
      try simp only [Act.put, List.setIfInBounds_toArray, List.set_cons_zero, List.set_cons_succ]
      refine takeN (i := 11) (v := ?vf11) rfl (by kernel_rfl) (by kernel_rfl) (by kernel_rfl) (fun _ _ _ h => h) (Or.inl ⟨by rfl, ?yf11⟩) hSA ?rf11
      case yf11 => (intro w hSw; (try dsimp only at hSw); go_simp; first | done | with_reducible rfl)
      try simp only [Act.put, List.setIfInBounds_toArray, List.set_cons_zero, List.set_cons_succ]
      refine doneN (by kernel_rfl) ?_ _
      have HCV := Lib.hid (HCZ.out.trans hSA.1)
      clear hSS hSA HS
      go_wp2_with fail
      go_ret2
      exact ⟨rfl, HCV.out⟩
set_option maxRecDepth 100000 in
set_option maxHeartbeats 8000000 in
theorem ref17_join (w : World) (q : Nat) (sv : Value) (D : DgD) (h : RD w q sv D) (hok : D.ok) (hfew : D.row.length ≤ 4 * D.factor) (q2 : Nat) (sv2 : Value) (O : DgD) (k : RD w q2 sv2 O) (hok2 : O.ok) (hpar : O.depth = D.depth)
    (hn : totP D.row + totP O.row ≤ 9223372036854775807) (hl : D.row.length + O.row.length ≤ 1000) (hd : ∀ b ∈ fpR q2 sv2, b ∉ fpR q sv) :
    Calls Try.prog 28 #[.pointer (some ⟨q, 0, none⟩), .pointer (some ⟨q2, 0, none⟩)] w fun e w' => e = .returned (.tuple #[]) ∧ ∃ sv', RD w' q sv' (D.join O) ∧ Mv (fpR q sv) w (fpR q sv') w' := by
  obtain ⟨so2, sc2, hsv2⟩ := k.row.shape
  subst hsv2
  obtain ⟨n, hnn⟩ : ∃ n, n = O.row.length := ⟨_, rfl⟩
  rw [← hnn] at k hd
  have hn1 : n ≤ 1000 := by omega
  have HD := Lib.hid hd
  have HK := Lib.hid k
  have HAT := Lib.hid (fun u (hu : Chg (fpR q sv) w u) => show Rd u 2 (.slice so2 n sc2) n (prCells O.row) ∧ u.cell? ⟨q2, 2, none⟩ = some (.slice so2 n sc2) from by
    have h1 := HK.out.chg hu (fun b hb e => HD.out b hb e)
    obtain ⟨a, -, b⟩ := RD.row_at h1 hnn (Chg.refl _ _)
    exact ⟨a, b⟩)
  have HN := Lib.hid hnn
  have HH := Lib.hid h
  have HB := Lib.hid (And.intro hn hl)
  have HOK := Lib.hid hok
  have HIX := Lib.hid (show ∀ p ∈ O.row, 1 ≤ p.i ∧ p.i < D.top from fun x hx => by
    have h := hok2.nodes.ix x hx
    unfold DgD.top at h ⊢
    rw [← hpar]
    exact h)
  have HJ := Lib.hid (show (D.join O).depth = D.depth ∧ (D.join O).factor = D.factor ∧ (D.join O).row = tidyR D.factor (addAll D.row O.row) from by
    obtain ⟨e1, e2, e3⟩ := D.ends_same O.least O.most
    unfold DgD.join
    split
    · next hz =>
      have ho : O.row = [] := by
        rcases hr : O.row with _ | ⟨p, r⟩
        · rfl
        · exfalso
          have h1 := hok2.nodes.pos p (by rw [hr]; simp)
          rw [hr, totP_cons] at hz
          omega
      refine ⟨rfl, rfl, ?_⟩
      rw [ho]
      show D.row = tidyR D.factor D.row
      unfold tidyR
      rw [if_neg (by omega)]
    · exact ⟨e1, e2, rfl⟩)
  obtain ⟨-, c2⟩ := HAT.out w (Chg.refl _ _)
  clear h k hok hok2 hpar hn hl hd hnn hfew
  go_enter Try.func28, Try.ntmps28
  go_wp2_with fail
  go_loopw [11] (fun i wx => ∃ (j : Nat) (sv3 : Value), j ≤ n ∧ i = .int .i64 (j : Nat) ∧ RD wx q sv3 { D with row := addAll D.row (O.row.take j) } ∧ Mv (fpR q sv) w (fpR q sv3) wx) (fun i _ => n - (intOf i).toNat)
  case atStart => exact ⟨0, sv, Nat.zero_le _, rfl, HH.out, Mv.of_chg (Chg.refl _ _)⟩
  case round =>
    obtain ⟨j, sv3, hj, rfl, hrd, hmv⟩ := hrel
    have HRD := Lib.hid hrd
    have HMV := Lib.hid hmv
    clear hrd hmv
    have hix : ∀ p ∈ O.row.take j, 1 ≤ p.i ∧ p.i < D.top := fun x hx => HIX.out x (List.mem_of_mem_take hx)
    obtain ⟨g1, g2, g3⟩ := addAll_ok (O.row.take j) HOK.out.nodes hix
    have htk := take_tot O.row j
    have hbb := HB.out
    have HG := Lib.hid (And.intro g1 (And.intro g2 g3))
    by_cases hlt : j < n
    case neg =>
      obtain rfl : j = n := by omega
      rw [List.take_of_length_le (by have := HN.out; omega)] at HRD HG htk
      have HO2 := Lib.hid (ok_row HOK.out HG.out.1 (by have := HG.out.2.1; omega) (by have := HG.out.2.2; omega))
      have HTI := Lib.hid (ref17_tidy wr q sv3 _ HRD.out HO2.out)
      clear hix g1 g2 g3 htk hbb
      go_wp2_with fail
      refine HTI.out.mono ?_
      rintro e w5 ⟨rfl, sv5, h5, hm5⟩
      have H5 := Lib.hid (RD.ends h5 (E := D.join O) HJ.out.1 HJ.out.2.1 HJ.out.2.2)
      have HM5 := Lib.hid (HMV.out.trans hm5)
      clear h5 hm5 HTI
      go_wp2_with fail
      go_end0
      exact ⟨rfl, sv5, H5.out, HM5.out⟩
    have hkl : j < O.row.length := by have := HN.out; omega
    obtain ⟨hrd, -⟩ := HAT.out _ HMV.out.chg
    obtain ⟨b, o, rfl, hcc⟩ := hrd.addr (by omega)
    obtain ⟨e0, e1⟩ := Rd.at_pr hrd HN.out hkl
    have HTK := Lib.hid (addAll_take D.row O.row j hkl)
    have hlen : (addAll D.row (O.row.take j)).length ≤ 1000 := by
      have : (O.row.take j).length ≤ O.row.length := by rw [List.length_take]; omega
      omega
    have hxc : O.row[j].c ≤ 9223372036854775807 := by have := mem_tot (List.getElem_mem hkl); omega
    have htt : totP (addAll D.row (O.row.take j)) ≤ 9223372036854775807 := by omega
    obtain ⟨so3, sc3, hsv3⟩ := HRD.out.row.shape
    subst hsv3
    generalize O.row[j] = x at *
    have HAD := Lib.hid (fun u (hu : Chg [] wr u) => ref06_add u so3 sc3 (addAll D.row (O.row.take j)) x.i x.c (HRD.out.chg hu (by simp)).row.rd hlen htt hxc)
    rw [← HTK.out] at HAD
    obtain ⟨r2, hr2⟩ : ∃ r, r = addAll D.row (O.row.take (j + 1)) := ⟨_, rfl⟩
    rw [← hr2] at HAD
    have HR2 := Lib.hid hr2
    obtain ⟨m, hm⟩ : ∃ m, m = (addAll D.row (O.row.take j)).length := ⟨_, rfl⟩
    have HRM := Lib.hid (show ∀ u, Chg [] wr u → u.cell? ⟨q, 2, none⟩ = some (.slice so3 m sc3) from fun u hu => by rw [hm]; exact (HRD.out.chg hu (by simp)).cells.2.2)
    have HADm := Lib.hid (fun u (hu : Chg [] wr u) => show Calls Try.prog 47 #[.slice so3 m sc3, .int .i64 x.i, .int .u64 (x.c : Nat)] u fun e w' => ∃ a3 c3, e = .returned (.slice a3 r2.length c3) ∧ Own w' 53 2 (.slice a3 r2.length c3) r2.length (prCells r2) ∧ Chg [] u w' ∧ ∀ b ∈ abl a3, u.heap.size ≤ b from by rw [hm]; exact HAD.out u hu)
    clear hix g1 g2 g3 htk hbb hcc hrd hlen hxc htt hr2 HAD hm HTK HG
    go_upto_region 3 with (fail)
    obtain ⟨q5, hq5⟩ : ∃ z, z = wr.heap.size := ⟨_, rfl⟩
    have HBQ := Lib.hid (Blk.alloc_new wr #[.int .i64 x.i, .int .u64 x.c] 53)
    have hcw := (Chg.refl [] wr).alloc (.cells #[.int .i64 x.i, .int .u64 x.c] 53)
    have HCW := Lib.hid hcw
    have HRW := Lib.hid (HRD.out.chg hcw (by simp))
    have HMW := Lib.hid (HMV.out.trans (Mv.of_chg hcw.nil))
    rw [← hq5] at HBQ ⊢
    clear hq5 e0 e1 hcw
    generalize wr.alloc (.cells #[.int .i64 x.i, .int .u64 x.c] 53) = wq at *
    have HS := Lib.hid (fun wx (hu : Chg [] wq wx) => show Chg [] wq wx ∧ wx.cell? ⟨q, 2, none⟩ = some (.slice so3 m sc3) ∧ wx.cell? ⟨q5, 0, none⟩ = some (.int .i64 x.i) ∧ wx.cell? ⟨q5, 1, none⟩ = some (.int .u64 (x.c : Nat)) from ⟨hu, HRM.out _ (HCW.out.trans hu), (HBQ.out.chg hu (by simp)).cell 0, (HBQ.out.chg hu (by simp)).cell 1⟩)
    have hSS := HS.out wq.drew (Chg.refl [] wq).drew
    refine startG (S := fun wx => Chg [] wq wx ∧ wx.cell? ⟨q, 2, none⟩ = some (.slice so3 m sc3) ∧ wx.cell? ⟨q5, 0, none⟩ = some (.int .i64 x.i) ∧ wx.cell? ⟨q5, 1, none⟩ = some (.int .u64 (x.c : Nat))) (st := 12) (by kernel_rfl) hSS (fun hHeld => ?_)
    refine takeP (i := 0) (v := ?vg0) rfl (by kernel_rfl) (by kernel_rfl) (by kernel_rfl) (by decide) (fun _ _ _ h => h) (Or.inl ⟨by rfl, ?yg0⟩) hSS ?rg0
    case yg0 => (intro w _; go_simp; first | done | with_reducible rfl)
    try simp only [Act.put, List.setIfInBounds_toArray, List.set_cons_zero, List.set_cons_succ]
    refine takeP (i := 1) (v := ?vg1) rfl (by kernel_rfl) (by kernel_rfl) (by kernel_rfl) (by decide) (fun _ _ _ h => h) (Or.inl ⟨by rfl, ?yg1⟩) hSS ?rg1
    case yg1 => (intro w _; go_simp; first | done | with_reducible rfl)
    try simp only [Act.put, List.setIfInBounds_toArray, List.set_cons_zero, List.set_cons_succ]
    refine takeP (i := 2) (v := ?vg2) rfl (by kernel_rfl) (by kernel_rfl) (by kernel_rfl) (by decide) (fun _ _ _ h => h) (Or.inl ⟨by rfl, ?yg2⟩) hSS ?rg2
    case yg2 => (intro w _; go_simp; first | done | with_reducible rfl)
    try simp only [Act.put, List.setIfInBounds_toArray, List.set_cons_zero, List.set_cons_succ]
    refine takeP (i := 3) (v := ?vg3) rfl (by kernel_rfl) (by kernel_rfl) (by kernel_rfl) (by decide) (fun _ _ _ h => h) (Or.inl ⟨by rfl, ?yg3⟩) hSS ?rg3
    case yg3 => (intro w _; go_simp; first | done | with_reducible rfl)
    try simp only [Act.put, List.setIfInBounds_toArray, List.set_cons_zero, List.set_cons_succ]
    refine takeG (i := 4) (v := ?vg4) rfl (by kernel_rfl) (by kernel_rfl) (by kernel_rfl) (by decide) (by kernel_rfl) (by kernel_rfl) (fun _ _ _ h => h) (Or.inl ⟨by rfl, ?yg4⟩) hSS ?rg4
    case yg4 => (intro w hSw; (try dsimp only at hSw); go_simp; first | done | with_reducible rfl)
    try simp only [Act.put, List.setIfInBounds_toArray, List.set_cons_zero, List.set_cons_succ]
    refine takeP (i := 5) (v := ?vg5) rfl (by kernel_rfl) (by kernel_rfl) (by kernel_rfl) (by decide) (fun _ _ _ h => h) (Or.inl ⟨by rfl, ?yg5⟩) hSS ?rg5
    case yg5 => (intro w _; go_simp; first | done | with_reducible rfl)
    try simp only [Act.put, List.setIfInBounds_toArray, List.set_cons_zero, List.set_cons_succ]
    refine takeG (i := 6) (v := ?vg6) rfl (by kernel_rfl) (by kernel_rfl) (by kernel_rfl) (by decide) (by kernel_rfl) (by kernel_rfl) (fun _ _ _ h => h) (Or.inl ⟨by rfl, ?yg6⟩) hSS ?rg6
    case yg6 => (intro w hSw; (try dsimp only at hSw); go_simp; first | done | with_reducible rfl)
    try simp only [Act.put, List.setIfInBounds_toArray, List.set_cons_zero, List.set_cons_succ]
    refine takeP (i := 7) (v := ?vg7) rfl (by kernel_rfl) (by kernel_rfl) (by kernel_rfl) (by decide) (fun _ _ _ h => h) (Or.inl ⟨by rfl, ?yg7⟩) hSS ?rg7
    case yg7 => (intro w _; go_simp; first | done | with_reducible rfl)
    try simp only [Act.put, List.setIfInBounds_toArray, List.set_cons_zero, List.set_cons_succ]
    refine takeG (i := 8) (v := ?vg8) rfl (by kernel_rfl) (by kernel_rfl) (by kernel_rfl) (by decide) (by kernel_rfl) (by kernel_rfl) (fun _ _ _ h => h) (Or.inl ⟨by rfl, ?yg8⟩) hSS ?rg8
    case yg8 => (intro w hSw; (try dsimp only at hSw); go_simp; first | done | with_reducible rfl)
    try simp only [Act.put, List.setIfInBounds_toArray, List.set_cons_zero, List.set_cons_succ]
    refine readyG (rs := [9]) (by kernel_rfl) (by simp) (consG rfl (fun K hK => ?_) nilG)
    refine step_calls rfl 47 _ _ rfl enters_rqadd _ #[.slice so3 m sc3, .int .i64 x.i, .int .u64 (x.c : Nat)] (by simp [Act.eval]) (HADm.out _ (HCW.out.trans hSS.1)) ?_; rintro e wy ⟨a3, c3, rfl, ho3, hc3, hf3⟩; refine ⟨_, rfl, ?_⟩
    have hSA := HS.out wy (hSS.1.trans hc3)
    have HSET := Lib.hid (HRW.out.set (hSS.1.trans hc3) (sv2 := .slice a3 r2.length c3) ho3 (fun b hb => Nat.le_trans hSS.1.size (hf3 b (by simpa using hb))))
    have HMY := Lib.hid (HMW.out.trans HSET.out.2.1)
    have f2 := (HRW.out.chg hSA.1 (by simp)).blk.free 2
    have g2 := hSA.2.1
    clear ho3 hc3 hf3
    refine hK.out _ _ (fun _ _ => hSA) (fun hHeld => ?_)
    clear hK K hHeld
    try simp only [Act.put, List.setIfInBounds_toArray, List.set_cons_zero, List.set_cons_succ]
    refine takeP (i := 10) (v := ?vg10) rfl (by kernel_rfl) (by kernel_rfl) (by kernel_rfl) (by decide) (fun _ _ _ h => h) (Or.inl ⟨by rfl, ?yg10⟩) hSA ?rg10
    case yg10 => (intro w _; go_simp; first | done | with_reducible rfl)
    try simp only [Act.put, List.setIfInBounds_toArray, List.set_cons_zero, List.set_cons_succ]
    refine takeP (i := 11) (v := ?vg11) rfl (by kernel_rfl) (by kernel_rfl) (by kernel_rfl) (by decide) (fun _ _ _ h => h) (Or.inl ⟨by rfl, ?yg11⟩) hSA ?rg11
    case yg11 => (intro w _; go_simp; first | done | with_reducible rfl)
    try simp only [Act.put, List.setIfInBounds_toArray, List.set_cons_zero, List.set_cons_succ]
    refine readyG (rs := [12]) (by kernel_rfl) (by simp) (consG rfl (fun K hK => ?_) nilG)
    go_simp
    refine hK.out _ _ (fun h => absurd rfl h) (fun hHeld => ?_)
    clear hK K hHeld
    try simp only [Act.put, List.setIfInBounds_toArray, List.set_cons_zero, List.set_cons_succ]
    refine doneG (by kernel_rfl) ?_ _
    clear hSS hSA HS HADm HRM HRW HMW HBQ f2 g2
    go_wp2_with fail
    exact ⟨⟨j + 1, .slice a3 r2.length c3, by omega, by go_num, by rw [← HR2.out]; exact HSET.out.1, HMY.out⟩, by simp [intOf]; omega⟩
end Go.Proofs.Ytgnbabkafobeoaa
