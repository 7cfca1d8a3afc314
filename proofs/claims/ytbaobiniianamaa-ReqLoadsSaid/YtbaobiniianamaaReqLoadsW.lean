/-
  The walk of the law ReqLoads. Conditions: the form's own reach.
-/
import Derived.Test.YtbaobiniianamaaReqLowW
import Derived.Test.YtbaobiniianamaaReqSame
import Derived.Test.YtbaobiniianamaaReqEnds
import Derived.Test.YtbaobiniianamaaReqLoad
namespace Go.Proofs.Ytbaobiniianamaa
open Go.RowKit

theorem enters_load : ∀ (args : Array Value) (w : World), (callFunc 34 args).run Try.prog w = .ok (.enter 34 args) w := enters_of Try.func34 (by kernel_rfl) rfl

theorem foldl_min_le : ∀ (l : List Vl) (a : Int), l.foldl (fun m u => min m u.x) a ≤ a
  | [], _ => Int.le_refl _
  | v :: l, a => Int.le_trans (foldl_min_le l (min a v.x)) (Int.min_le_left _ _)
theorem le_foldl_max : ∀ (l : List Vl) (a : Int), a ≤ l.foldl (fun m u => max m u.x) a
  | [], _ => Int.le_refl _
  | v :: l, a => Int.le_trans (Int.le_max_left _ _) (le_foldl_max l (max a v.x))
theorem loV_hiV (l : List Vl) : loV l ≤ hiV l := by
  cases l with
  | nil => exact Int.le_refl _
  | cons v l => exact Int.le_trans (foldl_min_le l v.x) (le_foldl_max l v.x)
/-- A tower that takes one value again and again. -/
def TwD.putK (D : TwD) (x : Int) : Nat → TwD
  | 0 => D
  | k + 1 => ((D.putK x k).ends x x).putN x 1
theorem TwD.putK_ok {D : TwD} {W word n : Nat} (hW : 4 ≤ W) (h : D.ok W word n) {x : Int} (hx : x ≤ 9223372036854775807) (k : Nat) : (D.putK x k).ok W word (n + k) := by
  induction k with
  | zero => exact h
  | succ k ih => exact TwD.putN_ok hW (TwD.ends_ok ih x x) hx 1
theorem tail_mem {l : List (List Int)} {k : Nat} (h : k + 1 < l.length) : l[k + 1] ∈ l.tail := by
  cases l with
  | nil => simp at h
  | cons r l =>
    rw [List.getElem_cons_succ]
    exact List.getElem_mem _
theorem sumS_nil {l : List Vl} (h1 : ∀ v ∈ l, 1 ≤ v.n) (h : sumS l = 0) : l = [] := by
  cases l with
  | nil => rfl
  | cons v l =>
    have := h1 v (by simp)
    simp only [sumS] at h
    omega

set_option maxRecDepth 100000 in
set_option maxHeartbeats 8000000 in
set_option linter.unusedSimpArgs false in
theorem law_ReqLoads (w : World) (W : Int) (word : Nat) (hword : word < 18446744073709551616) (ao : Option Addr) (ca : Nat) (a : List Vl) (hra : Rd w 2 (.slice ao a.length ca) a.length (vlCells a)) (hla : a.length ≤ 140737488351232) (hka : ∀ i ∈ a, i.ok)
    (x : Int) (_hx1 : -9223372036854775808 ≤ x) (_hx2 : x < 9223372036854775808) (ro : Option Addr) (rc : Nat) (xs : List Value) (rws : List (List Int)) (hrr : RowsR w (.slice ro rws.length rc) rws.length xs rws) (used : Int) (_hu1 : -9223372036854775808 ≤ used) (_hu2 : used < 9223372036854775808) :
    Calls Try.prog 10 #[.agg #[.int .i64 W, .int .u64 (word : Nat)], .slice ao a.length ca, .int .i64 x, .slice ro rws.length rc, .int .i64 used] w fun e w' => e = .returned (.bool true) ∧ Chg [] w w' := by
  have HAL := Lib.hid law21_alive
  have HKA := Lib.hid hka
  have HRA := Lib.hid hra
  have HRR := Lib.hid (fun u (hu : Chg [] w u) => hrr.nil hu)
  obtain ⟨n, hn⟩ : ∃ n, n = a.length := ⟨_, rfl⟩
  rw [← hn] at HRA hla ⊢
  have HN := Lib.hid hn
  obtain ⟨nr, hnr⟩ : ∃ n, n = rws.length := ⟨_, rfl⟩
  rw [← hnr] at HRR ⊢
  have HNR := Lib.hid hnr
  clear hka hra hn hrr hnr
  have hc0 := (Chg.refl [] w).alloc (.cells #[.int .i64 W, .int .u64 (word : Nat)] 37)
  have hb0 := Blk.alloc_new w #[.int .i64 W, .int .u64 (word : Nat)] 37
  obtain ⟨bc, hbc⟩ : ∃ z, z = w.heap.size := ⟨_, rfl⟩
  rw [← hbc] at hb0
  have HBC := Lib.hid hbc
  have HC0 := Lib.hid hc0
  have HB := Lib.hid hb0
  have HBA := Lib.hid (fun u (hu : Chg [] w u) => law21_build u W word hword ao ca n a HN.out (HRA.out.chg hu (by simp)) hla (fun v hv => by have := (HKA.out v hv).2.1; omega) (fun v hv => (HKA.out v hv).2.2))
  clear hc0 hb0
  go_enter Try.func10, Try.ntmps10
  go_wp2_with fail
  rw [← hbc]
  clear hbc
  generalize w.alloc (.cells #[.int .i64 W, .int .u64 (word : Nat)] 37) = w0 at *
  refine (HAL.out _).mono ?_
  rintro e w4 ⟨rfl, hc1⟩
  have HC4 := Lib.hid (HC0.out.trans hc1)
  have HB4 := Lib.hid (HB.out.chg hc1 (by simp))
  have x0 := HB4.out.cell 0
  have x1 := HB4.out.cell 1
  simp only [List.getElem?_toArray, List.getElem?_cons_zero, List.getElem?_cons_succ] at x0 x1
  clear hc1 HB HC0 HAL
  go_wp2_with fail
  refine (HBA.out _ HC4.out).mono ?_
  clear x0 x1
  rintro e w5 (⟨hbad, rfl, hc5⟩ | ⟨hok, p, tp, rv, vs, q, qv, qs, rfl, ht5, hq5, hc5, hf5, hg5, hd5⟩)
  · go_wp2_with fail
    go_ret
    exact ⟨rfl, HC4.out.trans hc5⟩
  obtain ⟨Wn, rfl, g1, g2, g4, hsa, ea, hoa⟩ := valsD_ok (word := word) hok HKA.out
  have HC5 := Lib.hid (HC4.out.trans hc5)
  have HB5 := Lib.hid (HB4.out.chg hc5 (by simp))
  have HT5 := Lib.hid (show Tow w5 p tp rv vs (valsD Wn word a) from ht5)
  have HQ5 := Lib.hid (show RT w5 q qv qs (valsD Wn word a).W (valsD Wn word a).word (valsD Wn word a).used (valsD Wn word a).rows from hq5)
  have HF := Lib.hid hoa.fine
  have HOK := Lib.hid hoa
  have HSP := Lib.hid (valsD_spans (W := Wn) (word := word) (fun v hv => (hok.1 v hv).1))
  have hs5 : sumS a ≤ 200 := hsa
  have HNIL := Lib.hid (show sumS a = 0 → a = [] from sumS_nil (fun v hv => (hok.1 v hv).1))
  have HG5 := Lib.hid (show ∀ b ∈ fpR q qv qs, w.heap.size ≤ b from fun b hb => Nat.le_trans HC4.out.size (hg5 b hb))
  have HBQ := Lib.hid (show bc ∉ fpR q qv qs from fun h => by have h1 := hg5 bc h; have h2 := HB4.out.lt; omega)
  have HGOOD := Lib.hid hok.2.2.2
  generalize valsD Wn word a = D at *
  obtain ⟨N, hNN⟩ : ∃ N, N = sumS a := ⟨_, rfl⟩
  rw [← hNN] at HF hs5 HOK HNIL
  obtain ⟨lo, hlo⟩ : ∃ z, z = loV a := ⟨_, rfl⟩
  obtain ⟨hi, hhi⟩ : ∃ z, z = hiV a := ⟨_, rfl⟩
  obtain ⟨bb, hbb⟩ : ∃ z, z = decide (a ≠ []) := ⟨_, rfl⟩
  obtain ⟨U, hU⟩ : ∃ U, U = D.used := ⟨_, rfl⟩
  obtain ⟨m, hm⟩ : ∃ m, m = D.rows.length := ⟨_, rfl⟩
  have hww : D.W = Wn := HF.out.W_eq
  have hfl := HF.out.flat
  have h8 := HF.out.few8 (by omega)
  have HOKD := Lib.hid (show okL (Wn : Int) D.rows (U : Int) lo hi from ⟨HGOOD.out, HF.out.ne, by omega, by omega, fun k hk => ⟨HF.out.short _ (List.getElem_mem hk), fun h => by
      obtain ⟨k, rfl⟩ : ∃ j, k = j + 1 := ⟨k - 1, by omega⟩
      have h1 := HF.out.full D.rows[k + 1] (tail_mem hk)
      have h2 := h.2.2
      omega⟩, by rw [HF.out.sum]; simp only [Int.toNat_natCast]; omega, by rw [hlo, hhi]; exact loV_hiV a, fun h => by
      rw [HF.out.sum] at h
      have h1 := HNIL.out h
      rw [hlo, hhi, h1]
      exact ⟨rfl, rfl⟩⟩)
  have HTW := Lib.hid (fun u (hu : Chg [] w5 u) => HT5.out.chg hu (by simp))
  have HEN := Lib.hid (fun u (hu : Chg [] w5 u) => req_Ends u p tp rv vs D (HTW.out u hu) a HSP.out lo hi bb hlo hhi hbb)
  have HRW := Lib.hid (fun u (hu : Chg [] w5 u) => req_rows u p tp rv vs D (HTW.out u hu) (by omega) (by omega))
  have HUS := Lib.hid (fun u (hu : Chg [] w5 u) => req_used u p tp rv vs D (HTW.out u hu))
  rw [← hU] at HUS
  rw [← hm] at HRW
  have HM := Lib.hid hm
  have HLR := Lib.hid (fun u ro2 rc2 us (hr : RowsR u (.slice ro2 m rc2) m us D.rows) => show Calls Try.prog 34 #[.agg #[.int .i64 (Wn : Nat), .int .u64 (word : Nat)], .slice ro2 m rc2, .int .i64 (U : Nat), .int .i64 lo, .int .i64 hi] u fun e w' => ∃ p2 tp2 rv2 vs2, e = .returned (.tuple #[.pointer (some ⟨p2, 0, none⟩), .int .i64 0]) ∧ Tow w' p2 tp2 rv2 vs2 (TwD.loaded (Wn : Int) word D.rows (U : Int) lo hi) ∧ Chg [] u w' ∧ ∀ b ∈ fp p2 tp2 rv2 vs2, u.heap.size ≤ b from
    (req_load u (Wn : Int) word ro2 rc2 m us D.rows hr (fun r hr => by have h1 := HF.out.short r hr; omega) (by omega) (U : Int) lo hi).mono fun e w' h => by
      rcases h with ⟨h1, -⟩ | ⟨-, p2, tp2, rv2, vs2, h2, h3, h4, h5⟩
      · exact absurd HOKD.out h1
      · exact ⟨p2, tp2, rv2, vs2, h2, h3, h4, h5⟩)
  have HD2 := Lib.hid (show (TwD.loaded (Wn : Int) word D.rows (U : Int) lo hi).ok Wn word N from ⟨rfl, rfl, HF.out.sum, by have h := HOK.out.fit; rw [TwD.fits, ← hU] at h; exact h, HF.out.sum, HF.out.short, HF.out.full, HF.out.low⟩)
  have HQQ := Lib.hid (fun u (hu : RT u q qv qs D.W D.word D.used D.rows) => show RT u q qv qs (TwD.loaded (Wn : Int) word D.rows (U : Int) lo hi).W (TwD.loaded (Wn : Int) word D.rows (U : Int) lo hi).word (TwD.loaded (Wn : Int) word D.rows (U : Int) lo hi).used (TwD.loaded (Wn : Int) word D.rows (U : Int) lo hi).rows from by
    rw [hww, HF.out.word_eq, ← hU] at hu; exact hu)
  clear ht5 hq5 hc5 hf5 hg5 hd5 hok ea hoa hsa HB4 HC4 HBA hNN hlo hhi hbb hU hm hww hfl h8 HOK HSP
  by_cases hn20 : 20 < nr
  · have d1 : decide ((20 : Int) < (nr : Int)) = true := decide_eq_true (by omega)
    have d1' : decide (20 < nr) = true := decide_eq_true hn20
    go_wp2_with fail
    go_ret
    exact ⟨rfl, HC5.out⟩
  have d1 : decide ((20 : Int) < (nr : Int)) = false := decide_eq_false (by omega)
  have d1' : decide (20 < nr) = false := decide_eq_false hn20
  go_wp2_with fail
  refine (HEN.out _ (Chg.refl _ _)).mono ?_
  rintro e w6 ⟨rfl, hc6⟩
  have H56 := Lib.hid hc6
  have hKC := Lib.hid (fun u (hu : Chg [] w5 u) => show u.cell? ⟨bc, 0, none⟩ = some (.int .i64 (Wn : Nat)) ∧ u.cell? ⟨bc, 1, none⟩ = some (.int .u64 (word : Nat)) from by
      have h := HB5.out.chg hu (by simp)
      exact ⟨h.cell 0, h.cell 1⟩)
  have hK0 := hKC.out _ H56.out
  clear hc6 d1 d1'
  go_wp2_with fail
  refine startG (S := fun wx => wx.cell? ⟨bc, 0, none⟩ = some (.int .i64 (Wn : Nat)) ∧ wx.cell? ⟨bc, 1, none⟩ = some (.int .u64 (word : Nat))) (st := 12) (by kernel_rfl) hK0 (fun hHeld => ?_)
  refine takeG (i := 0) (v := ?vz0) rfl (by kernel_rfl) (by kernel_rfl) (by kernel_rfl) (by decide) (by kernel_rfl) (by kernel_rfl) (fun _ _ _ h => h) (Or.inl ⟨by rfl, ?yz0⟩) hK0 ?rz0
  case yz0 => (intro w hSw; (try dsimp only at hSw); go_simp; first | done | with_reducible rfl)
  try simp only [Act.put, List.setIfInBounds_toArray, List.set_cons_zero, List.set_cons_succ]
  refine takeP (i := 1) (v := ?vz1) rfl (by kernel_rfl) (by kernel_rfl) (by kernel_rfl) (by decide) (fun _ _ _ h => h) (Or.inl ⟨by rfl, ?yz1⟩) hK0 ?rz1
  case yz1 => (intro w _; go_simp; first | done | with_reducible rfl)
  try simp only [Act.put, List.setIfInBounds_toArray, List.set_cons_zero, List.set_cons_succ]
  refine takeP (i := 3) (v := ?vz3) rfl (by kernel_rfl) (by kernel_rfl) (by kernel_rfl) (by decide) (fun _ _ _ h => h) (Or.inl ⟨by rfl, ?yz3⟩) hK0 ?rz3
  case yz3 => (intro w _; go_simp; first | done | with_reducible rfl)
  try simp only [Act.put, List.setIfInBounds_toArray, List.set_cons_zero, List.set_cons_succ]
  refine takeP (i := 5) (v := ?vz5) rfl (by kernel_rfl) (by kernel_rfl) (by kernel_rfl) (by decide) (fun _ _ _ h => h) (Or.inl ⟨by rfl, ?yz5⟩) hK0 ?rz5
  case yz5 => (intro w _; go_simp; first | done | with_reducible rfl)
  try simp only [Act.put, List.setIfInBounds_toArray, List.set_cons_zero, List.set_cons_succ]
  refine takeP (i := 6) (v := ?vz6) rfl (by kernel_rfl) (by kernel_rfl) (by kernel_rfl) (by decide) (fun _ _ _ h => h) (Or.inl ⟨by rfl, ?yz6⟩) hK0 ?rz6
  case yz6 => (intro w _; go_simp; first | done | with_reducible rfl)
  try simp only [Act.put, List.setIfInBounds_toArray, List.set_cons_zero, List.set_cons_succ]
  refine readyG (rs := [2]) (by kernel_rfl) (by simp) (consG rfl (fun K hK => ?_) nilG)
  refine step_calls rfl 27 _ _ rfl enters_rows' _ #[.pointer (some ⟨p, 0, none⟩)] (by simp [Act.eval, Act.put]) (HRW.out _ ((H56.out).drew)) ?_; rintro e w7 ⟨ro2, rc2, us2, rfl, ⟨hx1, hx2, -, -⟩, hc7⟩; refine ⟨_, rfl, ?_⟩
  have H57 := Lib.hid ((H56.out.drew).trans hc7)
  have HX := Lib.hid (show RowsR w7 (.slice ro2 m rc2) m us2 D.rows from ⟨HM.out ▸ hx1.rd, HM.out, hx2.1, fun j h h' => (hx2.2.1 j h h').rd⟩)
  have hK7 := hKC.out w7 H57.out
  clear hx1 hx2 hc7
  refine hK.out _ _ (fun _ _ => hK7) (fun hHeld => ?_)
  clear hK K hHeld
  try simp only [Act.put, List.setIfInBounds_toArray, List.set_cons_zero, List.set_cons_succ]
  refine readyG (rs := [4]) (by kernel_rfl) (by simp) (consG rfl (fun K hK => ?_) nilG)
  refine step_calls rfl 21 _ _ rfl enters_used _ #[.pointer (some ⟨p, 0, none⟩)] (by simp [Act.eval, Act.put]) (HUS.out _ H57.out) ?_; rintro e wq ⟨rfl, rfl⟩; refine ⟨_, rfl, ?_⟩
  refine hK.out _ _ (fun _ _ => hK7) (fun hHeld => ?_)
  clear hK K hHeld
  try simp only [Act.put, List.setIfInBounds_toArray, List.set_cons_zero, List.set_cons_succ]
  refine readyG (rs := [7]) (by kernel_rfl) (by simp) (consG rfl (fun K hK => ?_) nilG)
  refine step_calls rfl 34 _ _ rfl enters_load _ #[.agg #[.int .i64 (Wn : Nat), .int .u64 (word : Nat)], .slice ro2 m rc2, .int .i64 (U : Nat), .int .i64 lo, .int .i64 hi] (by simp [Act.eval, Act.put]) (HLR.out w7 ro2 rc2 us2 HX.out) ?_; rintro e w8 ⟨p2, tp2, rv2, vs2, rfl, ht8, hc8, hf8⟩; refine ⟨_, rfl, ?_⟩
  have H58 := Lib.hid ((H57.out).trans hc8)
  have HT8 := Lib.hid ht8
  have HF8 := Lib.hid hf8
  have hK8 := hKC.out w8 H58.out
  have H78 := Lib.hid hc8
  clear ht8 hc8 hf8
  refine hK.out _ _ (fun _ _ => hK8) (fun hHeld => ?_)
  clear hK K hHeld
  try simp only [Act.put, List.setIfInBounds_toArray, List.set_cons_zero, List.set_cons_succ]
  refine takeP (i := 8) (v := ?vz8) rfl (by kernel_rfl) (by kernel_rfl) (by kernel_rfl) (by decide) (fun _ _ _ h => h) (Or.inl ⟨by rfl, ?yz8⟩) hK8 ?rz8
  case yz8 => (intro w _; go_simp; first | done | with_reducible rfl)
  try simp only [Act.put, List.setIfInBounds_toArray, List.set_cons_zero, List.set_cons_succ]
  refine takeP (i := 9) (v := ?vz9) rfl (by kernel_rfl) (by kernel_rfl) (by kernel_rfl) (by decide) (fun _ _ _ h => h) (Or.inl ⟨by rfl, ?yz9⟩) hK8 ?rz9
  case yz9 => (intro w _; go_simp; first | done | with_reducible rfl)
  try simp only [Act.put, List.setIfInBounds_toArray, List.set_cons_zero, List.set_cons_succ]
  refine takeP (i := 10) (v := ?vz10) rfl (by kernel_rfl) (by kernel_rfl) (by kernel_rfl) (by decide) (fun _ _ _ h => h) (Or.inl ⟨by rfl, ?yz10⟩) hK8 ?rz10
  case yz10 => (intro w _; go_simp; first | done | with_reducible rfl)
  try simp only [Act.put, List.setIfInBounds_toArray, List.set_cons_zero, List.set_cons_succ]
  refine takeP (i := 11) (v := ?vz11) rfl (by kernel_rfl) (by kernel_rfl) (by kernel_rfl) (by decide) (fun _ _ _ h => h) (Or.inl ⟨by rfl, ?yz11⟩) hK8 ?rz11
  case yz11 => (intro w _; go_simp; first | done | with_reducible rfl)
  try simp only [Act.put, List.setIfInBounds_toArray, List.set_cons_zero, List.set_cons_succ]
  refine readyG (rs := [12]) (by kernel_rfl) (by simp) (consG rfl (fun K hK => ?_) nilG)
  go_simp
  refine hK.out _ _ (fun h => absurd rfl h) (fun hHeld => ?_)
  clear hK K hHeld
  try simp only [Act.put, List.setIfInBounds_toArray, List.set_cons_zero, List.set_cons_succ]
  refine doneG (by kernel_rfl) ?_ _
  have HLQ := HQ5.out.lt
  have HQ8 := Lib.hid (HQQ.out w8 (HQ5.out.chg H58.out (by simp)))
  have HD8 := Lib.hid (show ∀ b ∈ fp p2 tp2 rv2 vs2, b ∉ fpR q qv qs from fun b hb h => by have h1 := HF8.out b hb; have h2 := HLQ b h; have h3 := H57.out.size; omega)
  have HFW := Lib.hid (show (∀ b ∈ fp p2 tp2 rv2 vs2, w.heap.size ≤ b) ∧ bc ∉ fp p2 tp2 rv2 vs2 from ⟨fun b hb => by have h1 := HF8.out b hb; have h2 := (HC5.out.trans H57.out).size; omega, fun hb => by have h1 := HF8.out bc hb; have h2 := HB5.out.lt; have h3 := H57.out.size; omega⟩)
  have HC8 := Lib.hid (HC5.out.trans H58.out)
  have HB8 := Lib.hid (HB5.out.chg H58.out (by simp))
  clear HLQ hK0 hK7 hK8 hKC HQ5 HT5 HTW HEN HRW HUS HLR HQQ HX H56 H57 H58 H78 HF8 HC5 HB5 HF HOKD
  generalize TwD.loaded (Wn : Int) word D.rows (U : Int) lo hi = D2 at *
  have HSA := Lib.hid (law21_same w8 p2 tp2 rv2 vs2 D2 HT8.out q qv qs D2.W D2.word HQ8.out HD2.out.fine (by omega))
  go_wp2_with fail
  refine HSA.out.mono ?_
  rintro e w9 ⟨rfl, hc9⟩
  have HT9 := Lib.hid (HT8.out.chg hc9 (by simp))
  have HQ9 := Lib.hid (HQ8.out.chg hc9 (by simp))
  have HC9 := Lib.hid (HC8.out.trans hc9)
  have HB9 := Lib.hid (HB8.out.chg hc9 (by simp))
  clear HT8 HQ8 HC8 HB8 hc9 HSA
  go_wp2_with fail
  go_loopw [19] (fun i wx => ∃ (k : Nat) (rv' : Value) (vs' : List Value) (qv' : Value) (qs' : List Value), k ≤ 9 ∧ i = .int .i64 (k : Nat) ∧ Tow wx p2 tp2 rv' vs' (D2.putK x k) ∧ RT wx q qv' qs' (D2.putK x k).W (D2.putK x k).word (D2.putK x k).used (D2.putK x k).rows ∧ Blk wx bc #[.int .i64 (Wn : Nat), .int .u64 (word : Nat)] 37 ∧ Chg [] w wx ∧
    Hid ((∀ b ∈ fp p2 tp2 rv' vs', w.heap.size ≤ b) ∧ bc ∉ fp p2 tp2 rv' vs') ∧ Hid ((∀ b ∈ fpR q qv' qs', w.heap.size ≤ b) ∧ bc ∉ fpR q qv' qs') ∧ Hid (∀ b ∈ fp p2 tp2 rv' vs', b ∉ fpR q qv' qs')) (fun i _ => 9 - (intOf i).toNat)
  case atStart => exact ⟨0, rv2, vs2, qv, qs, Nat.zero_le _, rfl, HT9.out, HQ9.out, HB9.out, HC9.out, HFW, Lib.hid ⟨HG5.out, HBQ.out⟩, HD8⟩
  case round =>
    clear HT9 HQ9 HB9 HC9 HFW HG5 HBQ HD8
    obtain ⟨k, rv', vs', qv', qs', hk, rfl, ht', hq', hb', hch, HFk, HGk, HDk⟩ := hrel
    by_cases hlt : k < 9
    · have d1 : decide ((k : Int) < 9) = true := decide_eq_true (by omega)
      have HOKk := Lib.hid (TwD.putK_ok g1 HD2.out (show x ≤ 9223372036854775807 by omega) k)
      have HKS := Lib.hid (show D2.putK x (k + 1) = ((D2.putK x k).ends x x).putN x 1 from rfl)
      generalize D2.putK x k = Dk at *
      have HPUT := Lib.hid (req_put wr p2 tp2 rv' vs' Dk ht' (by rw [HOKk.out.W_eq]; exact g1) (by rw [HOKk.out.W_eq]; exact g2) (by rw [HOKk.out.word_eq]; exact hword) _ HOKk.out.fit (by omega) x 1 (by omega) (by omega) (by rw [HOKk.out.tot, HOKk.out.W_eq]; omega))
      have HT := Lib.hid ht'
      have HQ := Lib.hid hq'
      have HB := Lib.hid hb'
      have HCH := Lib.hid hch
      clear ht' hq' hb' hch
      go_wp2_with fail
      refine HPUT.out.mono ?_
      rintro e w3 ⟨rfl, rv3, vs3, ht3, hm3⟩
      obtain ⟨k1, k2, k3⟩ := two_left HCH.out HFk.out.1 HQ.out.lt HDk.out hm3
      have HT3 := Lib.hid ht3
      have HQ3 := Lib.hid (HQ.out.chg hm3.chg (fun b hb e => HDk.out b e hb))
      have HB3 := Lib.hid (HB.out.chg hm3.chg HFk.out.2)
      have HF3 := Lib.hid (show (∀ b ∈ fp p2 tp2 rv3 vs3, w.heap.size ≤ b) ∧ bc ∉ fp p2 tp2 rv3 vs3 from ⟨k2, fun e => by
        rcases hm3.fr _ e with h | h
        · exact HFk.out.2 h
        · have := HB.out.lt; omega⟩)
      have HC3 := Lib.hid k1
      have HD3 := Lib.hid k3
      obtain ⟨D1, hD1⟩ : ∃ D1, D1 = Dk.ends x x := ⟨_, rfl⟩
      have HSD := Dk.ends_same x x
      have HO1 := TwD.ends_ok HOKk.out x x
      rw [← hD1] at HSD HO1 HT3 HKS
      have hq4 : RT w3 q qv' qs' D1.W D1.word D1.used D1.rows := by
        obtain ⟨z1, z2, z3, z4, z5⟩ := HSD
        rw [z1, z2, z4, z5]
        exact HQ3.out
      have HRP := Lib.hid (ref21_put w3 q qv' qs' D1 hq4 (by rw [HO1.W_eq]; exact g1) (by rw [HO1.W_eq]; exact g2) (by rw [HO1.word_eq]; exact hword) _ HO1.fit (by omega) x)
      clear ht3 hm3 k1 k2 k3 HPUT HT HQ HB HQ3 hD1 HSD HO1 HDk HFk HCH
      go_wp2_with fail
      refine HRP.out.mono ?_
      rintro e w4 ⟨rfl, qv3, qs3, hq7, hm7⟩
      obtain ⟨k1, k2, k3⟩ := two_left HC3.out HGk.out.1 HT3.out.lt (fun b hb hb2 => HD3.out b hb2 hb) hm7
      have HT7 := Lib.hid (HT3.out.chg hm7.chg (fun b hb e => HD3.out b hb e))
      have HB7 := Lib.hid (HB3.out.chg hm7.chg HGk.out.2)
      have HG7 := Lib.hid (show (∀ b ∈ fpR q qv3 qs3, w.heap.size ≤ b) ∧ bc ∉ fpR q qv3 qs3 from ⟨k2, fun e => by
        rcases hm7.fr _ e with h | h
        · exact HGk.out.2 h
        · have := HB3.out.lt; omega⟩)
      have hqW : RT w4 q qv3 qs3 (D1.putN x 1).W (D1.putN x 1).word (D1.putN x 1).used (D1.putN x 1).rows := hq7
      have HQ7 := Lib.hid hqW
      clear hq7 hm7 hqW HRP
      go_wp2_with fail
      exact ⟨⟨k + 1, rv3, vs3, qv3, qs3, by omega, by go_num, by rw [HKS.out]; exact HT7.out, by rw [HKS.out]; exact HQ7.out, HB7.out, k1, HF3, HG7, Lib.hid (fun b hb hb2 => k3 b hb2 hb)⟩, by simp [intOf]; omega⟩
    · obtain rfl : k = 9 := by omega
      have HOK9 := Lib.hid (TwD.putK_ok g1 HD2.out (show x ≤ 9223372036854775807 by omega) 9)
      have HSA := Lib.hid (law21_same wr p2 tp2 rv' vs' _ ht' q qv' qs' _ _ hq' HOK9.out.fine (by omega))
      have HB := Lib.hid hb'
      have HCH := Lib.hid hch
      clear ht' hq' hb' hch HOK9 HD2
      go_wp2_with fail
      refine HSA.out.mono ?_
      rintro e w2 ⟨rfl, hc2⟩
      have HC2 := Lib.hid (HCH.out.trans hc2)
      have HB2 := Lib.hid (HB.out.chg hc2 (by simp))
      clear HSA HB HCH hc2 HFk HGk HDk
      go_upto_region 17 with (fail)
      go_cut [20] (fun z wx => ∃ b : Bool, z = .bool b ∧ Hid (b = true ↔ (1 ≤ nr ∧ nr ≤ 16 ∧ 0 ≤ used)) ∧ wx = w2)
      case first =>
        by_cases h1 : 1 ≤ nr
        · have d1 : decide ((1 : Int) ≤ (nr : Int)) = true := decide_eq_true (by omega)
          have d1' : decide (1 ≤ nr) = true := decide_eq_true h1
          by_cases h2 : nr ≤ 16
          · have d2 : decide ((nr : Int) ≤ 16) = true := decide_eq_true (by omega)
            have d2' : decide (nr ≤ 16) = true := decide_eq_true h2
            by_cases h3 : 0 ≤ used
            · have d3 : decide (0 ≤ used) = true := decide_eq_true h3
              have HI := Lib.hid (show true = true ↔ (1 ≤ nr ∧ nr ≤ 16 ∧ 0 ≤ used) from ⟨fun _ => ⟨h1, h2, h3⟩, fun _ => rfl⟩)
              go_wp2_with fail
              go_meet
              exact ⟨true, rfl, Lib.hid (by simpa using HI.out), by first | rfl | trivial⟩
            · have d3 : decide (0 ≤ used) = false := decide_eq_false h3
              have HI := Lib.hid (show false = true ↔ (1 ≤ nr ∧ nr ≤ 16 ∧ 0 ≤ used) from ⟨fun h => by simp at h, fun h => absurd h.2.2 h3⟩)
              go_wp2_with fail
              go_meet
              exact ⟨false, rfl, HI, by first | rfl | trivial⟩
          · have d2 : decide ((nr : Int) ≤ 16) = false := decide_eq_false (by omega)
            have d2' : decide (nr ≤ 16) = false := decide_eq_false h2
            have HI := Lib.hid (show false = true ↔ (1 ≤ nr ∧ nr ≤ 16 ∧ 0 ≤ used) from ⟨fun h => by simp at h, fun h => absurd h.2.1 h2⟩)
            go_wp2_with fail
            go_meet
            exact ⟨false, rfl, HI, by first | rfl | trivial⟩
        · have d1 : decide ((1 : Int) ≤ (nr : Int)) = false := decide_eq_false (by omega)
          have d1' : decide (1 ≤ nr) = false := decide_eq_false h1
          have HI := Lib.hid (show false = true ↔ (1 ≤ nr ∧ nr ≤ 16 ∧ 0 ≤ used) from ⟨fun h => by simp at h, fun h => absurd h.1 h1⟩)
          go_wp2_with fail
          go_meet
          exact ⟨false, rfl, HI, by first | rfl | trivial⟩
      case rest =>
        obtain ⟨b0, rfl, HB0, rfl⟩ := hcut
        go_wp2_with fail
        go_loopw [20, 21, 93] (fun t s i wx => ∃ (k S : Nat) (b : Bool), k ≤ nr ∧ i = .int .i64 (k : Nat) ∧ s = .int .u64 (S : Nat) ∧ t = .bool b ∧ S ≤ 73400320 ∧ Hid (S = totR (rws.take k)) ∧ Hid (b = true ↔ (1 ≤ nr ∧ nr ≤ 16 ∧ 0 ≤ used ∧ ∀ j (h : j < rws.length), j < k → rowOk Wn nr j rws[j].length)) ∧ Hid (∀ r ∈ rws.take k, r.length ≤ 70) ∧ wx = wc) (fun _ _ i _ => nr - (intOf i).toNat)
        case atStart => exact ⟨0, 0, b0, Nat.zero_le _, rfl, rfl, rfl, by omega, Lib.hid (by simp [totR, wsum]), Lib.hid (by rw [HB0.out]; exact ⟨fun h => ⟨h.1, h.2.1, h.2.2, fun j _ h2 => by omega⟩, fun h => ⟨h.1, h.2.1, h.2.2.1⟩⟩), Lib.hid (by simp), rfl⟩
        case round =>
          obtain ⟨k, S, b, hk, rfl, rfl, rfl, hS, HS, HP, H70, hwx⟩ := hrel
          subst hwx
          clear HB0
          have c0 := HB2.out.cell 0
          simp only [List.getElem?_toArray, List.getElem?_cons_zero] at c0
          by_cases hlt : k < nr
          · have hkr : k < rws.length := by have := HNR.out; omega
            obtain ⟨g, o, cp, so, sc, hsl, d0⟩ : ∃ g o cp so sc, Value.slice ro nr rc = .slice (some ⟨g, o, none⟩) nr cp ∧ wr.cell? ⟨g, o + k, none⟩ = some (.slice so rws[k].length sc) := by
              have hx := HRR.out wr HC2.out
              obtain ⟨g, o, e1, e2⟩ := hx.top.addr (by omega)
              have hkx : k < xs.length := by rw [hx.len]; exact hkr
              have e3 := hx.rd k hkx hkr
              obtain ⟨so, sc, e4⟩ := e3.shape
              have e5 := e2 k (by omega)
              rw [List.getElem?_eq_getElem hkx, e4] at e5
              exact ⟨g, o, rc, so, sc, by rw [e1], e5⟩
            simp only [Value.slice.injEq, true_and] at hsl
            obtain ⟨rfl, rfl⟩ := hsl
            have HST := Lib.hid (totR_step rws k hkr)
            have HTK := Lib.hid (show rws.take (k + 1) = rws.take k ++ [rws[k]] from List.take_succ_eq_append_getElem hkr)
            have HYES := Lib.hid (show b = true → rowOk Wn nr k rws[k].length → (true = true ↔ (1 ≤ nr ∧ nr ≤ 16 ∧ 0 ≤ used ∧ ∀ j (h : j < rws.length), j < k + 1 → rowOk Wn nr j rws[j].length)) from fun hb h0 => by
              have h1 := HP.out.1 hb
              refine ⟨fun _ => ⟨h1.1, h1.2.1, h1.2.2.1, fun j h h2 => ?_⟩, fun _ => rfl⟩
              rcases Nat.lt_or_ge j k with h3 | h3
              · exact h1.2.2.2 j h h3
              · have : j = k := by omega
                subst this
                exact h0)
            have HNOT := Lib.hid (show (b = true → ¬ rowOk Wn nr k rws[k].length) → (false = true ↔ (1 ≤ nr ∧ nr ≤ 16 ∧ 0 ≤ used ∧ ∀ j (h : j < rws.length), j < k + 1 → rowOk Wn nr j rws[j].length)) from fun hb => ⟨fun h => by simp at h, fun h => absurd (h.2.2.2 k hkr (by omega)) (hb (HP.out.2 ⟨h.1, h.2.1, h.2.2.1, fun j h1 h2 => h.2.2.2 j h1 (by omega)⟩))⟩)
            obtain ⟨m2, hm2⟩ : ∃ m, m = rws[k].length := ⟨_, rfl⟩
            rw [← hm2] at d0 HYES HNOT HST
            by_cases h70 : 70 < m2
            · have d1 : decide ((70 : Int) < (m2 : Int)) = true := decide_eq_true (by omega)
              have d1' : decide (70 < m2) = true := decide_eq_true h70
              clear hm2
              go_wp2_with fail
              go_ret
              exact ⟨rfl, HC2.out⟩
            have d1 : decide ((70 : Int) < (m2 : Int)) = false := decide_eq_false (by omega)
            have d1' : decide (70 < m2) = false := decide_eq_false h70
            have H702 := Lib.hid (show ∀ r ∈ rws.take (k + 1), r.length ≤ 70 from fun r hr => by
              rw [HTK.out] at hr
              rcases List.mem_append.1 hr with hr | hr
              · exact H70.out r hr
              · simp at hr; subst hr; omega)
            obtain ⟨Z, hZ⟩ : ∃ Z, Z = m2 * 2 ^ k := ⟨_, rfl⟩
            have HSZ := Lib.hid (show S + Z = totR (rws.take (k + 1)) from by rw [HST.out, HS.out, hZ, Nat.mul_comm])
            have hSZ : S + Z ≤ 73400320 := by
              rw [HSZ.out]
              have h4 := totR_le (m := 70) (rws.take (k + 1)) H702.out
              have h5 : (2 : Nat) ^ (rws.take (k + 1)).length ≤ 2 ^ 20 := Nat.pow_le_pow_right (by omega) (by simp; omega)
              have h6 : (2 : Nat) ^ 20 = 1048576 := by decide
              have h7 : 70 * 2 ^ (rws.take (k + 1)).length ≤ 70 * 1048576 := Nat.mul_le_mul_left _ (by omega)
              omega
            have hw1 : IntKind.u64.wrap (m2 : Int) = (m2 : Int) := IntWalk.u64_in _ (by omega)
            have hwk : IntKind.u64.wrap (k : Int) = (k : Int) := IntWalk.u64_in _ (by omega)
            have hw2 : IntKind.u64.wrap ((m2 : Int) * (2 : Int) ^ k) = (Z : Int) := by
              have e : ((m2 : Int) * (2 : Int) ^ k) = ((m2 * 2 ^ k : Nat) : Int) := by rw [Int.natCast_mul, Int.natCast_pow]; rfl
              rw [e, ← hZ, IntKind.wrap_u64]; omega
            clear hm2 hZ HST HTK HS H70
            cases b with
            | false =>
              have HN2 := Lib.hid (HNOT.out (fun h => by simp at h))
              clear HNOT HYES HP
              go_wp2_with fail
              exact ⟨⟨k + 1, S + Z, false, by omega, by go_num, by go_num, rfl, hSZ, HSZ, HN2, H702, by first | rfl | trivial⟩, by simp [intOf]; omega⟩
            | true =>
              by_cases hmW : m2 < Wn
              · have d2 : decide ((m2 : Int) < (Wn : Int)) = true := decide_eq_true (by omega)
                have d2' : decide (m2 < Wn) = true := decide_eq_true hmW
                by_cases hk0 : 0 < k
                · have d3 : decide ((0 : Int) < (k : Int)) = true := decide_eq_true (by omega)
                  have d3' : decide (0 < k) = true := decide_eq_true hk0
                  by_cases hk1 : k + 1 = nr
                  · have d4 : ((k : Int) == (nr : Int) - 1) = true := by rw [beq_iff_eq]; omega
                    by_cases hm0 : m2 = 0
                    · have d5 : ((m2 : Int) == 0) = true := by rw [beq_iff_eq]; omega
                      have HN2 := Lib.hid (HNOT.out (fun _ h => h.2 ⟨hk0, hk1, hm0⟩))
                      clear HNOT HYES HP hk0 hk1 hm0
                      go_wp2_with fail
                      exact ⟨⟨k + 1, S + Z, false, by omega, by go_num, by go_num, rfl, hSZ, HSZ, HN2, H702, by first | rfl | trivial⟩, by simp [intOf]; omega⟩
                    · have d5 : ((m2 : Int) == 0) = false := by rw [beq_eq_false_iff_ne]; omega
                      have HN2 := Lib.hid (HYES.out rfl ⟨hmW, fun h => hm0 h.2.2⟩)
                      clear HNOT HYES HP hk0 hk1 hm0
                      go_wp2_with fail
                      exact ⟨⟨k + 1, S + Z, true, by omega, by go_num, by go_num, rfl, hSZ, HSZ, HN2, H702, by first | rfl | trivial⟩, by simp [intOf]; omega⟩
                  · have d4 : ((k : Int) == (nr : Int) - 1) = false := by rw [beq_eq_false_iff_ne]; omega
                    have HN2 := Lib.hid (HYES.out rfl ⟨hmW, fun h => hk1 h.2.1⟩)
                    clear HNOT HYES HP hk0 hk1
                    go_wp2_with fail
                    exact ⟨⟨k + 1, S + Z, true, by omega, by go_num, by go_num, rfl, hSZ, HSZ, HN2, H702, by first | rfl | trivial⟩, by simp [intOf]; omega⟩
                · have d3 : decide ((0 : Int) < (k : Int)) = false := decide_eq_false (by omega)
                  have d3' : decide (0 < k) = false := decide_eq_false hk0
                  have HN2 := Lib.hid (HYES.out rfl ⟨hmW, fun h => hk0 h.1⟩)
                  clear HNOT HYES HP hk0
                  go_wp2_with fail
                  exact ⟨⟨k + 1, S + Z, true, by omega, by go_num, by go_num, rfl, hSZ, HSZ, HN2, H702, by first | rfl | trivial⟩, by simp [intOf]; omega⟩
              · have d2 : decide ((m2 : Int) < (Wn : Int)) = false := decide_eq_false (by omega)
                have d2' : decide (m2 < Wn) = false := decide_eq_false hmW
                have HN2 := Lib.hid (HNOT.out (fun _ h => hmW h.1))
                clear HNOT HYES HP
                go_wp2_with fail
                exact ⟨⟨k + 1, S + Z, false, by omega, by go_num, by go_num, rfl, hSZ, HSZ, HN2, H702, by first | rfl | trivial⟩, by simp [intOf]; omega⟩
          · obtain rfl : k = nr := by omega
            have htk : rws.take k = rws := List.take_of_length_le (by have := HNR.out; omega)
            rw [htk] at HS H70
            have c1 := HB2.out.cell 1
            simp only [List.getElem?_toArray, List.getElem?_cons_zero, List.getElem?_cons_succ] at c1
            obtain ⟨M, hM⟩ : ∃ M, M = Wn * 1024 := ⟨_, rfl⟩
            have hw1 : IntKind.u64.wrap (Wn : Int) = (Wn : Int) := IntWalk.u64_in _ (by omega)
            have hw2 : IntKind.u64.wrap ((Wn : Int) * 1024) = (M : Int) := by rw [hM, IntKind.wrap_u64]; omega
            have HOKL := Lib.hid (show (b = true ∧ S ≤ M ∧ 0 < S) → okL (Wn : Int) rws used 3 4 from fun h => by
              obtain ⟨h1, h2, h3, h4⟩ := HP.out.1 h.1
              have hn := HNR.out
              have hs := HS.out
              exact ⟨HGOOD.out, by omega, by omega, h3, fun j hj => by have := h4 j hj (by omega); rw [hn] at this; exact this, by rw [← hs]; simp only [Int.toNat_natCast]; omega, by omega, fun h0 => by omega⟩)
            have HNOK := Lib.hid (show ¬ (b = true ∧ S ≤ M ∧ 0 < S) → ¬ okL (Wn : Int) rws used 3 4 from fun h h0 => h (by
              have hn := HNR.out
              have hs := HS.out
              have h5 := h0.most
              rw [← hs] at h5
              simp only [Int.toNat_natCast] at h5
              refine ⟨HP.out.2 ⟨by have := h0.n1; omega, by have := h0.n2; omega, h0.used, fun j hj _ => by have := h0.each j hj; rw [← hn] at this; exact this⟩, by omega, ?_⟩
              rcases Nat.eq_zero_or_pos S with h6 | h6
              · have := h0.none (by omega); omega
              · exact h6))
            have hrx := HRR.out _ HC2.out
            have HRX := Lib.hid hrx
            have HLD := Lib.hid (req_load wr (Wn : Int) word ro rc k xs rws hrx (fun r hr => by have := H70.out r hr; omega) (by omega) used 3 4)
            have HBAD := Lib.hid (show ¬ (b = true ∧ S ≤ M ∧ 0 < S) → Calls Try.prog 34 #[.agg #[.int .i64 (Wn : Nat), .int .u64 (word : Nat)], .slice ro k rc, .int .i64 used, .int .i64 3, .int .i64 4] wr fun e w' => e = .returned (.tuple #[.pointer none, .int .i64 1]) ∧ Chg [] wr w' from fun hno => HLD.out.mono fun e w' h => by
              rcases h with ⟨-, h2, h3⟩ | ⟨h1, -⟩
              · exact ⟨h2, h3⟩
              · exact absurd h1 (HNOK.out hno))
            clear htk hrx hM
            cases b with
            | false =>
              go_wp2_with fail
              refine (HBAD.out (by simp)).mono ?_
              rintro e w5 ⟨rfl, hc5⟩
              go_wp2_with fail
              go_ret
              exact ⟨rfl, HC2.out.trans hc5⟩
            | true =>
              by_cases hSM : S ≤ M
              · have d1 : decide ((S : Int) ≤ (M : Int)) = true := decide_eq_true (by omega)
                have d1' : decide (S ≤ M) = true := decide_eq_true hSM
                by_cases hS0 : 0 < S
                · have d2 : decide ((0 : Int) < (S : Int)) = true := decide_eq_true (by omega)
                  have d2' : decide (0 < S) = true := decide_eq_true hS0
                  have HU0 := (HOKL.out ⟨rfl, hSM, hS0⟩).used
                  have HSUM0 := Lib.hid HS.out
                  have HLG := Lib.hid (show Calls Try.prog 34 #[.agg #[.int .i64 (Wn : Nat), .int .u64 (word : Nat)], .slice ro k rc, .int .i64 used, .int .i64 3, .int .i64 4] wr fun e w' => ∃ p3 tp3 rv3 vs3, e = .returned (.tuple #[.pointer (some ⟨p3, 0, none⟩), .int .i64 0]) ∧ Tow w' p3 tp3 rv3 vs3 (TwD.loaded (Wn : Int) word rws used 3 4) ∧ Chg [] wr w' from HLD.out.mono fun e w' h => by
                    rcases h with ⟨h1, -⟩ | ⟨-, p3, tp3, rv3, vs3, h2, h3, h4, -⟩
                    · exact absurd (HOKL.out ⟨rfl, hSM, hS0⟩) h1
                    · exact ⟨p3, tp3, rv3, vs3, h2, h3, h4⟩)
                  have hflat : rws.flatten.length ≤ 100000 := by
                    have h1 : ∀ l : List (List Int), (∀ r ∈ l, r.length ≤ 70) → l.flatten.length ≤ 70 * l.length := by
                      intro l
                      induction l with
                      | nil => simp
                      | cons r l ih =>
                        intro h
                        have h2 := ih (fun q hq => h q (by simp [hq]))
                        have h3 := h r (by simp)
                        simp only [List.flatten_cons, List.length_append, List.length_cons]
                        omega
                    have h2 := h1 rws H70.out
                    have := HNR.out
                    omega
                  have HFLAT := Lib.hid hflat
                  have eS : ((S : Int) == (S : Int)) = true := by simp
                  have eU : (used == used) = true := by simp
                  clear HBAD HLD HOKL HNOK hflat
                  go_wp2_with fail
                  refine HLG.out.mono ?_
                  rintro e w5 ⟨p3, tp3, rv3, vs3, rfl, ht5, hc5⟩
                  have HC5 := Lib.hid (HC2.out.trans hc5)
                  have HT5 := Lib.hid ht5
                  have HTO := Lib.hid (show Calls Try.prog 28 #[.pointer (some ⟨p3, 0, none⟩)] w5 fun e w' => e = .returned (.int .u64 (S : Nat)) ∧ w5 = w' from by rw [HSUM0.out]; exact req_total w5 p3 tp3 rv3 vs3 _ ht5)
                  have HRW := Lib.hid (req_rows w5 p3 tp3 rv3 vs3 _ ht5 HFLAT.out (show rws.length ≤ 100000 by have := HNR.out; omega))
                  have HUS := Lib.hid (fun u (hu : Chg [] w5 u) => show Calls Try.prog 21 #[.pointer (some ⟨p3, 0, none⟩)] u fun e w' => e = .returned (.int .i64 used) ∧ u = w' from by
                    have h := req_used u p3 tp3 rv3 vs3 _ (HT5.out.chg hu (by simp))
                    have e : (((TwD.loaded (Wn : Int) word rws used 3 4).used : Nat) : Int) = used := Int.toNat_of_nonneg HU0
                    rw [e] at h
                    exact h)
                  have HRX5 := Lib.hid (HRX.out.nil hc5)
                  clear ht5 hc5 HLG HU0 HSUM0 HS
                  go_wp2_with fail
                  refine HTO.out.mono ?_
                  rintro e w6 ⟨rfl, rfl⟩
                  go_wp2_with fail
                  refine HRW.out.mono ?_
                  rintro e w6 ⟨ro6, rc6, us6, rfl, ⟨hx1, hx2, -, -⟩, hc6⟩
                  have HX6 := Lib.hid (show RowsR w6 (.slice ro6 k rc6) k us6 rws from ⟨by have h := hx1.rd; rw [show (TwD.loaded (Wn : Int) word rws used 3 4).rows.length = k from HNR.out.symm] at h; exact h, HNR.out, hx2.1, fun j h h' => (hx2.2.1 j h h').rd⟩)
                  have hlk : (TwD.loaded (Wn : Int) word rws used 3 4).rows.length = k := HNR.out.symm
                  have HRX6 := Lib.hid (HRX5.out.nil hc6)
                  have H56 := Lib.hid hc6
                  clear hx1 hx2 hc6 HRX5
                  rw [hlk]
                  clear hlk
                  go_wp2_with fail
                  refine (ref21_same w6 ro6 ro rc6 rc k us6 xs rws HX6.out HRX6.out HFLAT.out (by omega)).mono ?_
                  rintro e w7 ⟨rfl, hc7⟩
                  have H57 := Lib.hid (H56.out.trans hc7)
                  clear hc7
                  go_wp2_with fail
                  refine (HUS.out _ H57.out).mono ?_
                  rintro e w8 ⟨rfl, rfl⟩
                  go_wp2_with fail
                  go_ret
                  exact ⟨rfl, HC5.out.trans H57.out⟩
                · have d2 : decide ((0 : Int) < (S : Int)) = false := decide_eq_false (by omega)
                  have d2' : decide (0 < S) = false := decide_eq_false hS0
                  go_wp2_with fail
                  refine (HBAD.out (fun h => hS0 h.2.2)).mono ?_
                  rintro e w5 ⟨rfl, hc5⟩
                  go_wp2_with fail
                  go_ret
                  exact ⟨rfl, HC2.out.trans hc5⟩
              · have d1 : decide ((S : Int) ≤ (M : Int)) = false := decide_eq_false (by omega)
                have d1' : decide (S ≤ M) = false := decide_eq_false hSM
                go_wp2_with fail
                refine (HBAD.out (fun h => hSM h.2.1)).mono ?_
                rintro e w5 ⟨rfl, hc5⟩
                go_wp2_with fail
                go_ret
                exact ⟨rfl, HC2.out.trans hc5⟩
end Go.Proofs.Ytbaobiniianamaa
