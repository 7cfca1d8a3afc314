/-
  The walks of layer 8 (strip): a row of pairs, and all of them together. Conditions: the form's own reach.
  The walks of layer 8 (strip) at any number of pairs. Conditions: the form's own reach.
-/
import Derived.Test.YtmehcfocfljoeaaGreatDoorSlotsErrorsB5
import Derived.Test.YtmehcfocfljoeaaGreatDoorSlotsErrorsB6
import Derived.Lib.Slices
namespace Go.Proofs.YtmehcfocfljoeaaGreatDoor
open Go.RowKit

set_option maxRecDepth 100000 in
set_option maxHeartbeats 1000000 in
theorem clone_p (w : World) (ao : Option Addr) (cap n : Nat) (l : List Pr) (hrd : Rd w 2 (.slice ao n cap) n (prCells l)) (hl : n ≤ 1000000) :
    Calls Tryz.prog 282 #[.slice ao n cap] w fun e w' => ∃ a3 c3, e = .returned (.slice a3 n c3) ∧ Own w' 286 2 (.slice a3 n c3) n (prCells l) ∧ Chg [] w w' ∧ ∀ b ∈ abl a3, w.heap.size ≤ b := by
  have hu : ∀ (w : World) (a : Option Addr) (n c n' c' : Nat), (binOp .eql 242 (.slice a n c) (.slice none n' c')).run Tryz.prog w = .ok (.bool a.isNone) w := fun w a n c n' c' => Lib.run_eql_slice_nil w _ _ a n c n' c' under_pairs
  cases ao with
  | none =>
    obtain ⟨hx, ao, cp, h0, h1⟩ := hrd
    simp only [Value.slice.injEq] at h0
    obtain ⟨rfl, -, -⟩ := h0
    obtain rfl : n = 0 := by
      rcases h1 with h1 | ⟨_, _, h1, _⟩
      · exact h1
      · simp at h1
    have hxl : l = [] := List.eq_nil_of_length_eq_zero (by rw [prCells_len] at hx; omega)
    subst hxl
    go_enter Tryz.func282, Tryz.ntmps282
    go_wp2
    go_ret
    exact ⟨none, 0, rfl, Own.nil _ _ _, Chg.refl _ _, by simp⟩
  | some a =>
    go_enter Tryz.func282, Tryz.ntmps282
    go_wp2_with (at_builtin; go_must (refine wpList_append_src _ rfl (.tmp 5) (.tmp 6) 242 242 rfl 286 _ 2 16 under_pairs info_pair rfl (by decide) (.slice (some ⟨w.heap.size, 0, none⟩) 0 0) 0 (prCells []) rfl (Own.lit w 286 2 0 #[] rfl (by unfold maxLen; omega)) (.slice (some a) n cap) n (prCells l) rfl (Src.of_rd under_pairs (hrd.alloc _)) (prCells_oneCell _) (by unfold maxLen; omega) (by omega) ?_; intro a5 c5 w2 ho2 hg2 hf2))
    go_ret
    rw [Nat.zero_add] at ho2
    refine ⟨a5, c5, by simp, by simpa [prCells] using ho2, ((Chg.refl [] w).alloc _).trans' hg2 (by simp), fun b hb => ?_⟩
    rcases hf2 b hb with h | h
    · simp at h; omega
    · simp at h; omega


def sptCells (rv : Value) (T : Nat) : Array Value := #[.int .i64 4096, rv, .int .u64 (T : Nat)]
/-- A strip: its own block, and its row. -/
structure Spt (w : World) (s : Nat) (rv : Value) (r : List Pr) : Prop where
  blk : Blk w s (sptCells rv (totP r)) 281
  row : Own w 286 2 rv r.length (prCells r)
def fpT (s : Nat) (rv : Value) : List Nat := s :: blkOf rv
namespace Spt
variable {w w1 : World} {s : Nat} {rv : Value} {r : List Pr}
theorem lt (h : Spt w s rv r) : ∀ b ∈ fpT s rv, b < w.heap.size := by
  intro b hb
  simp only [fpT, List.mem_cons] at hb
  rcases hb with rfl | hb
  · exact h.blk.lt
  · exact h.row.lt b hb
theorem chg {F : List Nat} (h : Spt w s rv r) (k : Chg F w w1) (hF : ∀ b ∈ fpT s rv, b ∉ F) : Spt w1 s rv r :=
  ⟨h.blk.chg k (hF s (by simp [fpT])), h.row.chg k (fun b hb => hF b (by simp [fpT, hb]))⟩
theorem s_rv (h : Spt w s rv r) : s ∉ blkOf rv := h.row.ne_blk h.blk (by decide)
theorem cells (h : Spt w s rv r) : w.cell? ⟨s, 0, none⟩ = some (.int .i64 4096) ∧ w.cell? ⟨s, 1, none⟩ = some rv ∧ w.cell? ⟨s, 2, none⟩ = some (.int .u64 (totP r : Nat)) := ⟨h.blk.cell 0, h.blk.cell 1, h.blk.cell 2⟩
theorem row' (h : Spt w s rv r) {rv2 : Value} {r2 : List Pr} (k : Chg (blkOf rv) w w1) (ho : Own w1 286 2 rv2 r2.length (prCells r2)) (hf : ∀ b ∈ blkOf rv2, b ∈ blkOf rv ∨ w.heap.size ≤ b) (T : Nat) (hT : T = totP r2) :
    Spt ((w1.setCell ⟨s, 1, none⟩ rv2).setCell ⟨s, 2, none⟩ (.int .u64 (T : Nat))) s rv2 r2 ∧ Mv (fpT s rv) w (fpT s rv2) ((w1.setCell ⟨s, 1, none⟩ rv2).setCell ⟨s, 2, none⟩ (.int .u64 (T : Nat))) := by
  subst hT
  have hb := h.blk.chg k h.s_rv
  have k2 : Chg [s] w1 ((w1.setCell ⟨s, 1, none⟩ rv2).setCell ⟨s, 2, none⟩ (.int .u64 (totP r2 : Nat))) := ((Chg.refl _ w1).setCell (a := ⟨s, 1, none⟩) (.inl (by simp)) _).setCell (a := ⟨s, 2, none⟩) (.inl (by simp)) _
  refine ⟨⟨?_, ?_⟩, ?_, ?_⟩
  · exact (hb.setCell 1 rv2).setCell 2 _
  · exact ho.chg k2 (fun b hb2 e => by simp at e; subst e; exact ho.ne_blk hb (by decide) hb2)
  · exact ((k.mono (F1 := fpT s rv) (fun b hb => .inl (by simp [fpT, hb]))).setCell (a := ⟨s, 1, none⟩) (.inl (by simp [fpT])) _).setCell (a := ⟨s, 2, none⟩) (.inl (by simp [fpT])) _
  · intro b hb2
    simp only [fpT, List.mem_cons] at hb2 ⊢
    rcases hb2 with rfl | hb2
    · exact .inl (.inl rfl)
    · rcases hf b hb2 with h1 | h1
      · exact .inl (.inr h1)
      · exact .inr h1
end Spt
theorem find_cnt {l : List Pr} {i : Int} (hr : rises l) : (hasI l i = false ∧ cntI l i = 0) ∨ (hasI l i = true ∧ ∃ h : cntLt l i < l.length, l[cntLt l i].c = cntI l i) := by
  obtain ⟨A, M, B, hp⟩ := parted hr i
  rw [hp.has, hp.cnt]
  rcases hp.mid with hM | ⟨c0, hM⟩
  · exact .inl ⟨by rw [hM]; rfl, by rw [hM]; rfl⟩
  · right
    refine ⟨by rw [hM]; rfl, ?_⟩
    have hn := hp.lt
    have hnl : cntLt l i < l.length := by
      have := congrArg List.length hp.eq
      rw [hM] at this
      simp only [List.length_append, List.length_singleton] at this
      omega
    refine ⟨hnl, ?_⟩
    have hget : l[cntLt l i] = ⟨i, c0⟩ := by
      have e : l = A ++ ⟨i, c0⟩ :: B := by rw [hp.eq, hM]; simp
      simp only [hn]
      simp only [e]
      simp
    rw [hget, hM]
    simp [cntI]

set_option maxRecDepth 100000 in
theorem strip_new (w : World) : Calls Tryz.prog 102 #[.int .i64 4096] w fun e w' => ∃ s, e = .returned (.tuple #[.pointer (some ⟨s, 0, none⟩), .int .i64 0]) ∧ Spt w' s (.slice none 0 0) [] ∧ Chg [] w w' ∧ w.heap.size ≤ s := by
  go_enter Tryz.func102, Tryz.ntmps102
  go_wp2_with fail
  go_ret2
  exact ⟨w.heap.size, rfl, ⟨Blk.alloc_new w _ _, Own.nil _ _ _⟩, (Chg.refl [] w).alloc _, Nat.le_refl _⟩
set_option maxRecDepth 100000 in
theorem strip_total (w : World) (s : Nat) (rv : Value) (r : List Pr) (h : Spt w s rv r) : Calls Tryz.prog 146 #[.pointer (some ⟨s, 0, none⟩)] w fun e w' => e = .returned (.int .u64 (totP r : Nat)) ∧ w = w' := by
  obtain ⟨c0, c1, c2⟩ := h.cells
  go_enter Tryz.func146, Tryz.ntmps146
  go_wp2
  go_ret
  exact ⟨rfl, rfl⟩
set_option maxRecDepth 100000 in
theorem strip_len (w : World) (s : Nat) (rv : Value) (r : List Pr) (h : Spt w s rv r) (n : Nat) (hn : n = r.length) : Calls Tryz.prog 231 #[.pointer (some ⟨s, 0, none⟩)] w fun e w' => e = .returned (.int .i64 (n : Nat)) ∧ w = w' := by
  obtain ⟨c0, c1, c2⟩ := h.cells
  obtain ⟨ro, rc, hrv⟩ := h.row.shape
  subst hrv
  rw [← hn] at c1
  clear hn h
  go_enter Tryz.func231, Tryz.ntmps231
  go_wp2
  go_ret
  exact ⟨rfl, rfl⟩
set_option maxRecDepth 100000 in
theorem strip_pairs (w : World) (s : Nat) (rv : Value) (r : List Pr) (h : Spt w s rv r) (n : Nat) (hn : n = r.length) (hl : n ≤ 1000) : Calls Tryz.prog 281 #[.pointer (some ⟨s, 0, none⟩)] w fun e w' => ∃ a3 c3, e = .returned (.slice a3 n c3) ∧ Own w' 286 2 (.slice a3 n c3) n (prCells r) ∧ Chg [] w w' ∧ ∀ b ∈ abl a3, w.heap.size ≤ b := by
  obtain ⟨c0, c1, c2⟩ := h.cells
  obtain ⟨ro, rc, hrv⟩ := h.row.shape
  subst hrv
  have hrd := h.row.rd
  rw [← hn] at c1 hrd
  have HCL := Lib.hid (clone_p w ro rc n r hrd (by omega))
  clear hn h hrd
  go_enter Tryz.func281, Tryz.ntmps281
  go_wp2_with fail
  refine HCL.out.mono ?_
  rintro e w1 ⟨a3, c3, rfl, h1, h2, h3⟩
  go_wp2_with fail
  go_ret
  exact ⟨a3, c3, rfl, h1, h2, h3⟩
set_option maxRecDepth 100000 in
set_option maxHeartbeats 1000000 in
theorem strip_at (w : World) (s : Nat) (rv : Value) (r : List Pr) (h : Spt w s rv r) (hrs : rises r) (hl : r.length ≤ 1000) (i : Int) : Calls Tryz.prog 287 #[.pointer (some ⟨s, 0, none⟩), .int .i64 i] w fun e w' => e = .returned (.int .u64 (cntI r i : Nat)) ∧ Chg [] w w' := by
  obtain ⟨c0, c1, c2⟩ := h.cells
  obtain ⟨ro, rc, hrv⟩ := h.row.shape
  subst hrv
  have HH := Lib.hid h
  obtain ⟨n, hn⟩ : ∃ n, n = r.length := ⟨_, rfl⟩
  have HN := Lib.hid hn
  have HF := Lib.hid (runs_find w ro rc r i hrs h.row.rd (by omega))
  rw [← hn] at c1 HF
  have hfc := find_cnt (i := i) hrs
  obtain ⟨C, hC⟩ : ∃ C, C = cntI r i := ⟨_, rfl⟩
  rw [← hC] at hfc ⊢
  clear hrs hn hC h hl
  go_enter Tryz.func287, Tryz.ntmps287
  go_wp2_with fail
  refine HF.out.mono ?_
  rintro e w1 ⟨rfl, hc1⟩
  have HC1 := Lib.hid hc1
  rcases hfc with ⟨h1, rfl⟩ | ⟨h1, h2, h3⟩
  · rw [h1]
    clear h1 HF hc1
    generalize cntLt r i = k at *
    go_wp2_with fail
    go_ret
    exact ⟨rfl, HC1.out⟩
  · rw [h1]
    have HH1 := Lib.hid (HH.out.chg hc1 (by simp))
    obtain ⟨b, o, rfl, hcs⟩ := HH1.out.row.rd.addr (by have := HN.out; omega)
    obtain ⟨d0, d1⟩ := pr_at hcs h2
    have e1 := HH1.out.cells.2.1
    rw [h3] at d1
    rw [← HN.out] at e1 h2
    clear h1 h3 HF hc1 hcs d0
    generalize cntLt r i = k at *
    have hkn : (k : Int) < (n : Int) := by omega
    have hk0 : (0 : Int) ≤ (k : Int) := by omega
    go_wp2_with fail
    go_ret
    exact ⟨rfl, HC1.out⟩
set_option maxRecDepth 100000 in
theorem strip_add_zero (w : World) (s : Nat) (i : Int) : Calls Tryz.prog 145 #[.pointer (some ⟨s, 0, none⟩), .int .i64 i, .int .u64 0] w fun e w' => e = .returned (.int .i64 1) ∧ w = w' := by
  go_enter Tryz.func145, Tryz.ntmps145
  go_wp2
  go_ret
  exact ⟨rfl, rfl⟩
set_option maxRecDepth 100000 in
set_option maxHeartbeats 4000000 in
theorem strip_add (w : World) (s : Nat) (rv : Value) (r : List Pr) (h : Spt w s rv r) (hrs : rises r) (hpos : ∀ p ∈ r, 1 ≤ p.c) (hl : r.length ≤ 1000) (i : Int) (c : Nat) (hc1 : 1 ≤ c) (hcm : totP r + c ≤ 9223372036854775807) :
    Calls Tryz.prog 145 #[.pointer (some ⟨s, 0, none⟩), .int .i64 i, .int .u64 (c : Nat)] w fun e w' => e = .returned (.int .i64 0) ∧ ∃ rv', Spt w' s rv' (refAdd r i c) ∧ Mv (fpT s rv) w (fpT s rv') w' := by
  obtain ⟨c0, c1, c2⟩ := h.cells
  obtain ⟨ro, rc, hrv⟩ := h.row.shape
  subst hrv
  obtain ⟨n, hn⟩ : ∃ n, n = r.length := ⟨_, rfl⟩
  obtain ⟨T, hT⟩ : ∃ T, T = totP r := ⟨_, rfl⟩
  obtain ⟨S, hS⟩ : ∃ S, S = T + c := ⟨_, rfl⟩
  have HPL := Lib.hid (fun u b0 hb0 => wide_plus2 u T c (by omega) (by omega) b0 hb0)
  have e : plusV [T, c] = .tuple #[.int .u64 (S : Nat), .bool true] := by
    have e0 : [T, c].sum = S := by simp [hS]
    unfold plusV
    rw [e0, if_pos (by omega)]
  rw [e] at HPL
  have HFI := Lib.hid (fun u (hu : Chg [] w u) => runs_find u ro rc r i hrs (h.row.chg hu (by simp)).rd (by omega))
  have HAD := Lib.hid (fun u (hu : Chg [] w u) => runs_add u ro rc r i c hrs (h.row.chg hu (by simp)) hl (fun p hp => by have := mem_tot hp; omega) (by omega))
  rw [← add_same hrs hpos] at HAD
  have HH := Lib.hid h
  have HCE := Lib.hid (fun u (hu : Chg [] w u) => show u.cell? ⟨s, 0, none⟩ = some (.int .i64 4096) ∧ u.cell? ⟨s, 1, none⟩ = some (.slice ro n rc) ∧ u.cell? ⟨s, 2, none⟩ = some (.int .u64 (T : Nat)) from by
    obtain ⟨q0, q1, q2⟩ := (h.chg hu (by simp)).cells
    rw [← hn] at q1
    rw [← hT] at q2
    exact ⟨q0, q1, q2⟩)
  have HTR := Lib.hid (show S = totP (refAdd r i c) from by rw [refAdd_tot hrs, hS, hT])
  have HN := Lib.hid hn
  rw [← hn] at HAD HFI c1
  rw [← hT] at c2
  have hn1 : n ≤ 1000 := by omega
  have d0 : ((c : Int) == 0) = false := by rw [beq_eq_false_iff_ne]; omega
  have d1 : decide ((4096 : Int) ≤ (n : Int)) = false := decide_eq_false (by omega)
  have d1' : decide (4096 ≤ n) = false := decide_eq_false (by omega)
  generalize cntLt r i = k at *
  generalize hasI r i = B at *
  obtain ⟨R, hR⟩ : ∃ R, R = refAdd r i c := ⟨_, rfl⟩
  rw [← hR] at HAD HTR ⊢
  clear h hrs hpos hl hcm hn hT hS e hR hc1
  go_enter Tryz.func145, Tryz.ntmps145
  go_wp2_with fail
  refine (HPL.out _ _ rfl).mono ?_
  rintro e w1 ⟨rfl, rfl⟩
  have HC1 := Lib.hid ((Chg.refl [] w).alloc (.cells #[.int .u64 (T : Nat), .int .u64 (c : Nat)] 23))
  clear HPL c0 c1 c2
  generalize w.alloc (.cells #[.int .u64 (T : Nat), .int .u64 (c : Nat)] 23) = w1 at *
  obtain ⟨c0, c1, c2⟩ := HCE.out _ HC1.out
  go_wp2_with fail
  refine (HFI.out _ HC1.out).mono ?_
  rintro e w2 ⟨rfl, hc2⟩
  have HC2 := Lib.hid (HC1.out.trans hc2)
  clear hc2 HC1 HFI c0 c1 c2
  obtain ⟨c0, c1, c2⟩ := HCE.out _ HC2.out
  cases B with
  | true =>
    go_wp2
    go_quiet (fail)
    go_wp2_with fail
    have HC3 := Lib.hid (show Chg [] w (w2.drewN nq) from by with_reducible (repeat (first | exact HC2.out | apply Chg.drew | apply Chg.drewN)))
    refine (HAD.out _ HC3.out).mono ?_
    rintro e w3 ⟨a3, c3, rfl, ho3, hc3, hf3⟩
    have hk : Chg (blkOf (.slice ro r.length rc)) w w3 := (HC3.out.nil).trans (by simpa using hc3)
    have hsz := HC3.out.size
    have hb3 := HH.out.blk.chg hk HH.out.s_rv
    have f1 := hb3.free 1
    have f2 := hb3.free 2
    have g1 : w3.cell? ⟨s, 1, none⟩ = some (.slice ro n rc) := by rw [HN.out]; exact hb3.cell 1
    have g2 : w3.cell? ⟨s, 2, none⟩ = some (.int .u64 (totP r : Nat)) := hb3.cell 2
    have HR := Lib.hid (HH.out.row' (w1 := w3) (rv2 := .slice a3 R.length c3) (r2 := R) hk ho3 (fun b hb => by
      rcases hf3 b (by simpa using hb) with h | h
      · exact .inl (by simpa using h)
      · exact .inr (Nat.le_trans hsz h)) S HTR.out)
    clear hk hsz hb3 ho3 hc3 hf3 HAD HTR c0 c1 c2
    go_wp2_with fail
    go_ret
    exact ⟨rfl, _, HR.out.1, HR.out.2⟩
  | false =>
    go_wp2
    go_quiet (fail)
    go_wp2_with fail
    have HC3 := Lib.hid (show Chg [] w (w2.drewN nq) from by with_reducible (repeat (first | exact HC2.out | apply Chg.drew | apply Chg.drewN)))
    refine (HAD.out _ HC3.out).mono ?_
    rintro e w3 ⟨a3, c3, rfl, ho3, hc3, hf3⟩
    have hk : Chg (blkOf (.slice ro r.length rc)) w w3 := (HC3.out.nil).trans (by simpa using hc3)
    have hsz := HC3.out.size
    have hb3 := HH.out.blk.chg hk HH.out.s_rv
    have f1 := hb3.free 1
    have f2 := hb3.free 2
    have g1 : w3.cell? ⟨s, 1, none⟩ = some (.slice ro n rc) := by rw [HN.out]; exact hb3.cell 1
    have g2 : w3.cell? ⟨s, 2, none⟩ = some (.int .u64 (totP r : Nat)) := hb3.cell 2
    have HR := Lib.hid (HH.out.row' (w1 := w3) (rv2 := .slice a3 R.length c3) (r2 := R) hk ho3 (fun b hb => by
      rcases hf3 b (by simpa using hb) with h | h
      · exact .inl (by simpa using h)
      · exact .inr (Nat.le_trans hsz h)) S HTR.out)
    clear hk hsz hb3 ho3 hc3 hf3 HAD HTR c0 c1 c2
    go_wp2_with fail
    go_ret
    exact ⟨rfl, _, HR.out.1, HR.out.2⟩
end Go.Proofs.YtmehcfocfljoeaaGreatDoor

namespace Go.Proofs.YtmehcfocfljoeaaGreatDoor
open Go.RowKit

def stmCells (most : Int) (rv : Value) (T : Nat) : Array Value := #[.int .i64 most, rv, .int .u64 (T : Nat)]
/-- A strip: its own block, and its row. -/
structure StM (w : World) (s : Nat) (most : Int) (rv : Value) (r : List Pr) : Prop where
  blk : Blk w s (stmCells most rv (totP r)) 281
  row : Own w 286 2 rv r.length (prCells r)
namespace StM
variable {w w1 : World} {s : Nat} {most : Int} {rv : Value} {r : List Pr}
theorem lt (h : StM w s most rv r) : ∀ b ∈ fpT s rv, b < w.heap.size := by
  intro b hb
  simp only [fpT, List.mem_cons] at hb
  rcases hb with rfl | hb
  · exact h.blk.lt
  · exact h.row.lt b hb
theorem chg {F : List Nat} (h : StM w s most rv r) (k : Chg F w w1) (hF : ∀ b ∈ fpT s rv, b ∉ F) : StM w1 s most rv r :=
  ⟨h.blk.chg k (hF s (by simp [fpT])), h.row.chg k (fun b hb => hF b (by simp [fpT, hb]))⟩
theorem s_rv (h : StM w s most rv r) : s ∉ blkOf rv := h.row.ne_blk h.blk (by decide)
theorem cells (h : StM w s most rv r) : w.cell? ⟨s, 0, none⟩ = some (.int .i64 most) ∧ w.cell? ⟨s, 1, none⟩ = some rv ∧ w.cell? ⟨s, 2, none⟩ = some (.int .u64 (totP r : Nat)) := ⟨h.blk.cell 0, h.blk.cell 1, h.blk.cell 2⟩
theorem row' (h : StM w s most rv r) {rv2 : Value} {r2 : List Pr} (k : Chg (blkOf rv) w w1) (ho : Own w1 286 2 rv2 r2.length (prCells r2)) (hf : ∀ b ∈ blkOf rv2, b ∈ blkOf rv ∨ w.heap.size ≤ b) (T : Nat) (hT : T = totP r2) :
    StM ((w1.setCell ⟨s, 1, none⟩ rv2).setCell ⟨s, 2, none⟩ (.int .u64 (T : Nat))) s most rv2 r2 ∧ Mv (fpT s rv) w (fpT s rv2) ((w1.setCell ⟨s, 1, none⟩ rv2).setCell ⟨s, 2, none⟩ (.int .u64 (T : Nat))) := by
  subst hT
  have hb := h.blk.chg k h.s_rv
  have k2 : Chg [s] w1 ((w1.setCell ⟨s, 1, none⟩ rv2).setCell ⟨s, 2, none⟩ (.int .u64 (totP r2 : Nat))) := ((Chg.refl _ w1).setCell (a := ⟨s, 1, none⟩) (.inl (by simp)) _).setCell (a := ⟨s, 2, none⟩) (.inl (by simp)) _
  refine ⟨⟨?_, ?_⟩, ?_, ?_⟩
  · exact (hb.setCell 1 rv2).setCell 2 _
  · exact ho.chg k2 (fun b hb2 e => by simp at e; subst e; exact ho.ne_blk hb (by decide) hb2)
  · exact ((k.mono (F1 := fpT s rv) (fun b hb => .inl (by simp [fpT, hb]))).setCell (a := ⟨s, 1, none⟩) (.inl (by simp [fpT])) _).setCell (a := ⟨s, 2, none⟩) (.inl (by simp [fpT])) _
  · intro b hb2
    simp only [fpT, List.mem_cons] at hb2 ⊢
    rcases hb2 with rfl | hb2
    · exact .inl (.inl rfl)
    · rcases hf b hb2 with h1 | h1
      · exact .inl (.inr h1)
      · exact .inr h1
end StM
/-- What New answers. -/
def NewSt (w w' : World) (most : Int) (e : Ending) : Prop :=
  (¬ (1 ≤ most ∧ most ≤ 4096) ∧ e = .returned (.tuple #[.pointer none, .int .i64 1]) ∧ Chg [] w w') ∨
  ((1 ≤ most ∧ most ≤ 4096) ∧ ∃ s, e = .returned (.tuple #[.pointer (some ⟨s, 0, none⟩), .int .i64 0]) ∧ StM w' s most (.slice none 0 0) [] ∧ Chg [] w w' ∧ w.heap.size ≤ s)
set_option maxRecDepth 100000 in
theorem stm_new (w : World) (most : Int) : Calls Tryz.prog 102 #[.int .i64 most] w fun e w' => NewSt w w' most e := by
  by_cases h : 1 ≤ most ∧ most ≤ 4096
  · have d1 : decide (most < 1) = false := decide_eq_false (by omega)
    have d2 : decide ((4096 : Int) < most) = false := decide_eq_false (by omega)
    have H := Lib.hid h
    clear h
    go_enter Tryz.func102, Tryz.ntmps102
    go_wp2
    go_ret2
    exact .inr ⟨H.out, _, rfl, ⟨Blk.alloc_new _ _ _, Own.nil _ _ _⟩, (Chg.refl [] w).alloc _, Nat.le_refl _⟩
  · have H := Lib.hid h
    by_cases h1 : most < 1
    · have d1 : decide (most < 1) = true := decide_eq_true h1
      clear h h1
      go_enter Tryz.func102, Tryz.ntmps102
      go_wp2
      go_ret2
      exact .inl ⟨H.out, rfl, Chg.refl _ _⟩
    · have d1 : decide (most < 1) = false := decide_eq_false h1
      have d2 : decide ((4096 : Int) < most) = true := decide_eq_true (by omega)
      clear h h1
      go_enter Tryz.func102, Tryz.ntmps102
      go_wp2
      go_ret2
      exact .inl ⟨H.out, rfl, Chg.refl _ _⟩
set_option maxRecDepth 100000 in
theorem stm_total (w : World) (s : Nat) (most : Int) (rv : Value) (r : List Pr) (h : StM w s most rv r) : Calls Tryz.prog 146 #[.pointer (some ⟨s, 0, none⟩)] w fun e w' => e = .returned (.int .u64 (totP r : Nat)) ∧ w = w' := by
  obtain ⟨c0, c1, c2⟩ := h.cells
  go_enter Tryz.func146, Tryz.ntmps146
  go_wp2
  go_ret
  exact ⟨rfl, rfl⟩
set_option maxRecDepth 100000 in
theorem stm_len (w : World) (s : Nat) (most : Int) (rv : Value) (r : List Pr) (h : StM w s most rv r) (n : Nat) (hn : n = r.length) : Calls Tryz.prog 231 #[.pointer (some ⟨s, 0, none⟩)] w fun e w' => e = .returned (.int .i64 (n : Nat)) ∧ w = w' := by
  obtain ⟨c0, c1, c2⟩ := h.cells
  obtain ⟨ro, rc, hrv⟩ := h.row.shape
  subst hrv
  rw [← hn] at c1
  clear hn h
  go_enter Tryz.func231, Tryz.ntmps231
  go_wp2
  go_ret
  exact ⟨rfl, rfl⟩
set_option maxRecDepth 100000 in
theorem stm_pairs (w : World) (s : Nat) (most : Int) (rv : Value) (r : List Pr) (h : StM w s most rv r) (n : Nat) (hn : n = r.length) (hl : n ≤ 5000) : Calls Tryz.prog 281 #[.pointer (some ⟨s, 0, none⟩)] w fun e w' => ∃ a3 c3, e = .returned (.slice a3 n c3) ∧ Own w' 286 2 (.slice a3 n c3) n (prCells r) ∧ Chg [] w w' ∧ ∀ b ∈ abl a3, w.heap.size ≤ b := by
  obtain ⟨c0, c1, c2⟩ := h.cells
  obtain ⟨ro, rc, hrv⟩ := h.row.shape
  subst hrv
  have hrd := h.row.rd
  rw [← hn] at c1 hrd
  have HCL := Lib.hid (clone_p w ro rc n r hrd (by omega))
  clear hn h hrd
  go_enter Tryz.func281, Tryz.ntmps281
  go_wp2_with fail
  refine HCL.out.mono ?_
  rintro e w1 ⟨a3, c3, rfl, h1, h2, h3⟩
  go_wp2_with fail
  go_ret
  exact ⟨a3, c3, rfl, h1, h2, h3⟩
set_option maxRecDepth 100000 in
set_option maxHeartbeats 1000000 in
theorem stm_at (w : World) (s : Nat) (most : Int) (rv : Value) (r : List Pr) (h : StM w s most rv r) (hrs : rises r) (hl : r.length ≤ 5000) (i : Int) : Calls Tryz.prog 287 #[.pointer (some ⟨s, 0, none⟩), .int .i64 i] w fun e w' => e = .returned (.int .u64 (cntI r i : Nat)) ∧ Chg [] w w' := by
  obtain ⟨c0, c1, c2⟩ := h.cells
  obtain ⟨ro, rc, hrv⟩ := h.row.shape
  subst hrv
  have HH := Lib.hid h
  obtain ⟨n, hn⟩ : ∃ n, n = r.length := ⟨_, rfl⟩
  have HN := Lib.hid hn
  have HF := Lib.hid (runs_find w ro rc r i hrs h.row.rd (by omega))
  rw [← hn] at c1 HF
  have hfc := find_cnt (i := i) hrs
  obtain ⟨C, hC⟩ : ∃ C, C = cntI r i := ⟨_, rfl⟩
  rw [← hC] at hfc ⊢
  clear hrs hn hC h hl
  go_enter Tryz.func287, Tryz.ntmps287
  go_wp2_with fail
  refine HF.out.mono ?_
  rintro e w1 ⟨rfl, hc1⟩
  have HC1 := Lib.hid hc1
  rcases hfc with ⟨h1, rfl⟩ | ⟨h1, h2, h3⟩
  · rw [h1]
    clear h1 HF hc1
    generalize cntLt r i = k at *
    go_wp2_with fail
    go_ret
    exact ⟨rfl, HC1.out⟩
  · rw [h1]
    have HH1 := Lib.hid (HH.out.chg hc1 (by simp))
    obtain ⟨b, o, rfl, hcs⟩ := HH1.out.row.rd.addr (by have := HN.out; omega)
    obtain ⟨d0, d1⟩ := pr_at hcs h2
    have e1 := HH1.out.cells.2.1
    rw [h3] at d1
    rw [← HN.out] at e1 h2
    clear h1 h3 HF hc1 hcs d0
    generalize cntLt r i = k at *
    have hkn : (k : Int) < (n : Int) := by omega
    have hk0 : (0 : Int) ≤ (k : Int) := by omega
    go_wp2_with fail
    go_ret
    exact ⟨rfl, HC1.out⟩
set_option maxRecDepth 100000 in
theorem stm_add_zero (w : World) (s : Nat) (i : Int) : Calls Tryz.prog 145 #[.pointer (some ⟨s, 0, none⟩), .int .i64 i, .int .u64 0] w fun e w' => e = .returned (.int .i64 1) ∧ w = w' := by
  go_enter Tryz.func145, Tryz.ntmps145
  go_wp2
  go_ret
  exact ⟨rfl, rfl⟩
set_option maxRecDepth 100000 in
set_option maxHeartbeats 4000000 in
theorem stm_add (w : World) (s : Nat) (most : Int) (rv : Value) (r : List Pr) (h : StM w s most rv r) (hrs : rises r) (hpos : ∀ p ∈ r, 1 ≤ p.c) (hl : r.length ≤ 5000) (i : Int) (c : Nat) (hc1 : 1 ≤ c) (hcm : totP r + c ≤ 9223372036854775807) (hroom : hasI r i = true ∨ (r.length : Int) < most) :
    Calls Tryz.prog 145 #[.pointer (some ⟨s, 0, none⟩), .int .i64 i, .int .u64 (c : Nat)] w fun e w' => e = .returned (.int .i64 0) ∧ ∃ rv', StM w' s most rv' (refAdd r i c) ∧ Mv (fpT s rv) w (fpT s rv') w' := by
  obtain ⟨c0, c1, c2⟩ := h.cells
  obtain ⟨ro, rc, hrv⟩ := h.row.shape
  subst hrv
  obtain ⟨n, hn⟩ : ∃ n, n = r.length := ⟨_, rfl⟩
  obtain ⟨T, hT⟩ : ∃ T, T = totP r := ⟨_, rfl⟩
  obtain ⟨S, hS⟩ : ∃ S, S = T + c := ⟨_, rfl⟩
  have HPL := Lib.hid (fun u b0 hb0 => wide_plus2 u T c (by omega) (by omega) b0 hb0)
  have e : plusV [T, c] = .tuple #[.int .u64 (S : Nat), .bool true] := by
    have e0 : [T, c].sum = S := by simp [hS]
    unfold plusV
    rw [e0, if_pos (by omega)]
  rw [e] at HPL
  have HFI := Lib.hid (fun u (hu : Chg [] w u) => runs_find u ro rc r i hrs (h.row.chg hu (by simp)).rd (by omega))
  have HAD := Lib.hid (fun u (hu : Chg [] w u) => runs_addL u ro rc r i c hrs (h.row.chg hu (by simp)) (by omega) (fun p hp => by have := mem_tot hp; omega) (by omega))
  rw [← add_same hrs hpos] at HAD
  have HH := Lib.hid h
  have HCE := Lib.hid (fun u (hu : Chg [] w u) => show u.cell? ⟨s, 0, none⟩ = some (.int .i64 most) ∧ u.cell? ⟨s, 1, none⟩ = some (.slice ro n rc) ∧ u.cell? ⟨s, 2, none⟩ = some (.int .u64 (T : Nat)) from by
    obtain ⟨q0, q1, q2⟩ := (h.chg hu (by simp)).cells
    rw [← hn] at q1
    rw [← hT] at q2
    exact ⟨q0, q1, q2⟩)
  have HTR := Lib.hid (show S = totP (refAdd r i c) from by rw [refAdd_tot hrs, hS, hT])
  have HN := Lib.hid hn
  rw [← hn] at HAD HFI c1
  rw [← hT] at c2
  have hn1 : n ≤ 5000 := by omega
  have d0 : ((c : Int) == 0) = false := by rw [beq_eq_false_iff_ne]; omega
  have HRM := Lib.hid (show hasI r i = true ∨ (n : Int) < most from by rw [hn]; exact hroom)
  generalize cntLt r i = k at *
  generalize hasI r i = B at *
  clear hroom
  obtain ⟨R, hR⟩ : ∃ R, R = refAdd r i c := ⟨_, rfl⟩
  rw [← hR] at HAD HTR ⊢
  clear h hrs hpos hl hcm hn hT hS e hR hc1
  go_enter Tryz.func145, Tryz.ntmps145
  go_wp2_with fail
  refine (HPL.out _ _ rfl).mono ?_
  rintro e w1 ⟨rfl, rfl⟩
  have HC1 := Lib.hid ((Chg.refl [] w).alloc (.cells #[.int .u64 (T : Nat), .int .u64 (c : Nat)] 23))
  clear HPL c0 c1 c2
  generalize w.alloc (.cells #[.int .u64 (T : Nat), .int .u64 (c : Nat)] 23) = w1 at *
  obtain ⟨c0, c1, c2⟩ := HCE.out _ HC1.out
  go_wp2_with fail
  refine (HFI.out _ HC1.out).mono ?_
  rintro e w2 ⟨rfl, hc2⟩
  have HC2 := Lib.hid (HC1.out.trans hc2)
  clear hc2 HC1 HFI c0 c1 c2
  obtain ⟨c0, c1, c2⟩ := HCE.out _ HC2.out
  cases B with
  | true =>
    go_wp2
    go_quiet (fail)
    go_wp2_with fail
    have HC3 := Lib.hid (show Chg [] w (w2.drewN nq) from by with_reducible (repeat (first | exact HC2.out | apply Chg.drew | apply Chg.drewN)))
    refine (HAD.out _ HC3.out).mono ?_
    rintro e w3 ⟨a3, c3, rfl, ho3, hc3, hf3⟩
    have hk : Chg (blkOf (.slice ro r.length rc)) w w3 := (HC3.out.nil).trans (by simpa using hc3)
    have hsz := HC3.out.size
    have hb3 := HH.out.blk.chg hk HH.out.s_rv
    have f1 := hb3.free 1
    have f2 := hb3.free 2
    have g1 : w3.cell? ⟨s, 1, none⟩ = some (.slice ro n rc) := by rw [HN.out]; exact hb3.cell 1
    have g2 : w3.cell? ⟨s, 2, none⟩ = some (.int .u64 (totP r : Nat)) := hb3.cell 2
    have HR := Lib.hid (HH.out.row' (w1 := w3) (rv2 := .slice a3 R.length c3) (r2 := R) hk ho3 (fun b hb => by
      rcases hf3 b (by simpa using hb) with h | h
      · exact .inl (by simpa using h)
      · exact .inr (Nat.le_trans hsz h)) S HTR.out)
    clear hk hsz hb3 ho3 hc3 hf3 HAD HTR c0 c1 c2
    go_wp2_with fail
    go_ret
    exact ⟨rfl, _, HR.out.1, HR.out.2⟩
  | false =>
    have d1 : decide (most ≤ (n : Int)) = false := decide_eq_false (by rcases HRM.out with h | h; (exact absurd h (by decide)); omega)
    go_wp2
    go_quiet (fail)
    go_wp2_with fail
    have HC3 := Lib.hid (show Chg [] w (w2.drewN nq) from by with_reducible (repeat (first | exact HC2.out | apply Chg.drew | apply Chg.drewN)))
    refine (HAD.out _ HC3.out).mono ?_
    rintro e w3 ⟨a3, c3, rfl, ho3, hc3, hf3⟩
    have hk : Chg (blkOf (.slice ro r.length rc)) w w3 := (HC3.out.nil).trans (by simpa using hc3)
    have hsz := HC3.out.size
    have hb3 := HH.out.blk.chg hk HH.out.s_rv
    have f1 := hb3.free 1
    have f2 := hb3.free 2
    have g1 : w3.cell? ⟨s, 1, none⟩ = some (.slice ro n rc) := by rw [HN.out]; exact hb3.cell 1
    have g2 : w3.cell? ⟨s, 2, none⟩ = some (.int .u64 (totP r : Nat)) := hb3.cell 2
    have HR := Lib.hid (HH.out.row' (w1 := w3) (rv2 := .slice a3 R.length c3) (r2 := R) hk ho3 (fun b hb => by
      rcases hf3 b (by simpa using hb) with h | h
      · exact .inl (by simpa using h)
      · exact .inr (Nat.le_trans hsz h)) S HTR.out)
    clear hk hsz hb3 ho3 hc3 hf3 HAD HTR c0 c1 c2
    go_wp2_with fail
    go_ret
    exact ⟨rfl, _, HR.out.1, HR.out.2⟩
end Go.Proofs.YtmehcfocfljoeaaGreatDoor
