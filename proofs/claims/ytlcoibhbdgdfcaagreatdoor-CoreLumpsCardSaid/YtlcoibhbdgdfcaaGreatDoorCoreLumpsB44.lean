/-
  The walk of runs.Add. Conditions: the form's own reach.
  The walks of layer 8 (strip): a row of pairs, and all of them together. Conditions: the form's own reach.
-/
import Derived.Test.YtlcoibhbdgdfcaaGreatDoorCoreLumpsB3
import Derived.Test.YtlcoibhbdgdfcaaGreatDoorCoreLumpsB41
import Derived.Test.YtlcoibhbdgdfcaaGreatDoorCoreLumpsB43
import Derived.Test.YtlcoibhbdgdfcaaGreatDoorCoreLumpsB42
import Derived.Test.YtlcoibhbdgdfcaaGreatDoorCoreLumpsB28
import Derived.Lib.Slices
namespace Go.Proofs.YtlcoibhbdgdfcaaGreatDoor
open Go.RowKit

theorem Own.below {w : World} {e : TypeId} {size n cap : Nat} {ao : Option Addr} {xs : List Value} (h : Own w e size (.slice ao n cap) n xs) : ∀ b ∈ abl ao, b < w.heap.size := by
  obtain ⟨_, ⟨h1, _⟩ | ⟨g, o, cp, cur, h1, hg, _⟩⟩ := h
  · simp only [Value.slice.injEq] at h1
    obtain ⟨rfl, _⟩ := h1
    simp
  · simp only [Value.slice.injEq] at h1
    obtain ⟨rfl, _⟩ := h1
    intro b hb
    simp at hb
    subst hb
    exact lt_of_block hg
theorem prCells_set (l : List Pr) (n : Nat) (hn : n < l.length) (c : Nat) : prCells (l.set n ⟨l[n].i, c⟩) = (prCells l).set (n * 2 + 1) (.int .u64 c) := by
  induction l generalizing n with
  | nil => simp at hn
  | cons p l ih =>
    cases n with
    | zero => simp [prCells, Pr.cells]
    | succ n =>
      have := ih n (by simpa using hn)
      simp only [prCells, List.set_cons_succ, List.map_cons, List.flatten_cons, List.getElem_cons_succ] at this ⊢
      rw [this, show (n + 1) * 2 + 1 = (n * 2 + 1) + 2 from by omega]
      simp [Pr.cells]

set_option maxRecDepth 100000 in
set_option maxHeartbeats 1000000 in
theorem runs_add (w : World) (ao : Option Addr) (cap : Nat) (l : List Pr) (i : Int) (c : Nat) (hrs : rises l) (ho : Own w 226 2 (.slice ao l.length cap) l.length (prCells l)) (hl : l.length ≤ 1000) (hm : ∀ p ∈ l, p.c + c ≤ 9223372036854775807) (hc : c ≤ 9223372036854775807) :
    Calls Tryz.prog 122 #[.slice ao l.length cap, .int .i64 i, .int .u64 c] w fun e w' => ∃ a3 c3, e = .returned (.slice a3 (addV l i c).length c3) ∧
      Own w' 226 2 (.slice a3 (addV l i c).length c3) (addV l i c).length (prCells (addV l i c)) ∧ Chg (abl ao) w w' ∧ ∀ b ∈ abl a3, b ∈ abl ao ∨ w.heap.size ≤ b := by
  obtain ⟨A, M, B, hp⟩ := parted hrs i
  have HP := Lib.hid hp
  have HF := Lib.hid (runs_find w ao cap l i hrs ho.rd (by omega))
  have HM := Lib.hid hm
  clear hp hrs hm
  go_enter Tryz.func122, Tryz.ntmps122
  go_wp2_with fail
  refine HF.out.mono ?_
  rintro e w1 ⟨rfl, hc1⟩
  have ho1 := ho.chg hc1 (by simp)
  have hsz := hc1.size
  by_cases h0 : c = 0
  · subst h0
    have HE := Lib.hid (show addV l i 0 = l from if_pos rfl)
    go_wp2
    go_ret
    rw [HE.out]
    exact ⟨ao, cap, rfl, ho1, hc1.nil, fun b hb => .inl hb⟩
  have h0b : ((c : Int) == 0) = false := beq_eq_false_iff_ne.2 (by omega)
  have hn : cntLt l i = A.length := HP.out.lt
  have hh : hasI l i = !M.isEmpty := HP.out.has
  have hat : cntLt l i ≤ l.length := by
    have := congrArg List.length HP.out.eq
    simp only [List.length_append] at this
    omega
  rcases HP.out.mid with hM | ⟨c0, hM⟩
  · have hhf : hasI l i = false := by rw [hh, hM]; rfl
    have HE := Lib.hid (show addV l i c = l.take (cntLt l i) ++ [⟨i, c⟩] ++ l.drop (cntLt l i) from by rw [addV, if_neg h0, hhf]; rfl)
    rw [hhf]
    clear hh hn h0 hhf
    generalize cntLt l i = n at *
    have hbl := ho1.below
    go_wp2_with fail
    refine (insert_pair (w1.alloc (.cells #[.int .i64 i, .int .u64 c] 226)) ao cap l n hat ⟨i, c⟩ w1.heap.size (by omega) (ho1.alloc _) (Blk.alloc_new w1 _ _) (fun hb => by have := hbl _ hb; omega)).mono ?_
    rintro e w2 ⟨a3, c3, rfl, ho2, hc2, hf2⟩
    have hlen : (addV l i c).length = l.length + 1 := by rw [HE.out]; simp; omega
    go_wp2
    go_ret
    refine ⟨a3, c3, by rw [hlen]; rfl, by rw [hlen, HE.out]; exact ho2, ((hc1.alloc _).nil).trans hc2, fun b hb => ?_⟩
    rcases hf2 b hb with h | h
    · exact .inl h
    · right; simp at h; omega
  · have hhf : hasI l i = true := by rw [hh, hM]; rfl
    have hnl : cntLt l i < l.length := by
      have := congrArg List.length HP.out.eq
      rw [hM] at this
      simp only [List.length_append, List.length_singleton] at this
      omega
    have hget : l[cntLt l i] = ⟨i, c0⟩ := by
      have e : l = A ++ ⟨i, c0⟩ :: B := by rw [HP.out.eq, hM]; simp
      simp only [hn]
      simp only [e]
      simp
    have hcm := HM.out l[cntLt l i] (List.getElem_mem _)
    have HE := Lib.hid (show addV l i c = l.set (cntLt l i) ⟨l[cntLt l i].i, l[cntLt l i].c + c⟩ from by
      rw [addV, if_neg h0, hhf, if_pos rfl, show l.getD (cntLt l i) default = l[cntLt l i] from by simp [List.getD, hnl], hget])
    have HS := Lib.hid (prCells_set l (cntLt l i) hnl (l[cntLt l i].c + c))
    rw [hhf]
    clear hh hn h0 hhf hget
    generalize cntLt l i = n at *
    obtain ⟨b, o, rfl, hcs⟩ := ho1.rd.addr (by omega)
    obtain ⟨d0, d1⟩ := pr_at hcs hnl
    have hfz := ho1.free (o + n * 2 + 1)
    have hn0 : (0 : Int) ≤ (n : Int) := by omega
    have hnl2 : (n : Int) < (l.length : Int) := by omega
    have HO := Lib.hid (ho1.set (n * 2 + 1) (.int .u64 ((l[n].c + c : Nat) : Int)))
    rw [← HS.out, ← HE.out] at HO
    have hlen : (addV l i c).length = l.length := by rw [HE.out, List.length_set]
    have HL := Lib.hid hlen
    have HC := Lib.hid (Chg.setCell (hc1.nil (F := abl (some ⟨b, o, none⟩))) (a := ⟨b, o + n * 2 + 1, none⟩) (.inl (by simp)) (.int .u64 ((l[n].c + c : Nat) : Int)))
    have hw : (l[n].c : Int) + (c : Int) = ((l[n].c + c : Nat) : Int) := by omega
    generalize l[n] = p at *
    generalize p.c + c = s at *
    go_wp2
    go_ret
    rw [HL.out]
    exact ⟨_, _, rfl, by have := HO.out; simpa [HL.out, Nat.add_assoc] using this, HC.out, fun b hb => .inl hb⟩
end Go.Proofs.YtlcoibhbdgdfcaaGreatDoor

namespace Go.Proofs.YtlcoibhbdgdfcaaGreatDoor
open Go.RowKit

set_option maxRecDepth 100000 in
set_option maxHeartbeats 1000000 in
theorem clone_p (w : World) (ao : Option Addr) (cap n : Nat) (l : List Pr) (hrd : Rd w 2 (.slice ao n cap) n (prCells l)) (hl : n ≤ 1000000) :
    Calls Tryz.prog 227 #[.slice ao n cap] w fun e w' => ∃ a3 c3, e = .returned (.slice a3 n c3) ∧ Own w' 226 2 (.slice a3 n c3) n (prCells l) ∧ Chg [] w w' ∧ ∀ b ∈ abl a3, w.heap.size ≤ b := by
  have hu : ∀ (w : World) (a : Option Addr) (n c n' c' : Nat), (binOp .eql 177 (.slice a n c) (.slice none n' c')).run Tryz.prog w = .ok (.bool a.isNone) w := fun w a n c n' c' => Lib.run_eql_slice_nil w _ _ a n c n' c' under_pairs
  cases ao with
  | none =>
    obtain ⟨hx, ao, cp, h0, h1⟩ := hrd
    simp only [Value.slice.injEq] at h0
    obtain ⟨rfl, -, -⟩ := h0
    obtain rfl : n = 0 := by
      rcases h1 with h1 | ⟨_, _, h1, _⟩
      · exact h1
      · simp at h1
    have hxl : l = [] := List.eq_nil_of_length_eq_zero (by rw [prCells_len] at hx; omega)
    subst hxl
    go_enter Tryz.func227, Tryz.ntmps227
    go_wp2
    go_ret
    exact ⟨none, 0, rfl, Own.nil _ _ _, Chg.refl _ _, by simp⟩
  | some a =>
    go_enter Tryz.func227, Tryz.ntmps227
    go_wp2_with (at_builtin; go_must (refine wpList_append_src _ rfl (.tmp 5) (.tmp 6) 177 177 rfl 226 _ 2 16 under_pairs info_pair rfl (by decide) (.slice (some ⟨w.heap.size, 0, none⟩) 0 0) 0 (prCells []) rfl (Own.lit w 226 2 0 #[] rfl (by unfold maxLen; omega)) (.slice (some a) n cap) n (prCells l) rfl (Src.of_rd under_pairs (hrd.alloc _)) (prCells_oneCell _) (by unfold maxLen; omega) (by omega) ?_; intro a5 c5 w2 ho2 hg2 hf2))
    go_ret
    rw [Nat.zero_add] at ho2
    refine ⟨a5, c5, by simp, by simpa [prCells] using ho2, ((Chg.refl [] w).alloc _).trans' hg2 (by simp), fun b hb => ?_⟩
    rcases hf2 b hb with h | h
    · simp at h; omega
    · simp at h; omega


def sptCells (rv : Value) (T : Nat) : Array Value := #[.int .i64 4096, rv, .int .u64 (T : Nat)]
/-- A strip: its own block, and its row. -/
structure Spt (w : World) (s : Nat) (rv : Value) (r : List Pr) : Prop where
  blk : Blk w s (sptCells rv (totP r)) 257
  row : Own w 226 2 rv r.length (prCells r)
def fpT (s : Nat) (rv : Value) : List Nat := s :: blkOf rv
namespace Spt
variable {w w1 : World} {s : Nat} {rv : Value} {r : List Pr}
theorem lt (h : Spt w s rv r) : ∀ b ∈ fpT s rv, b < w.heap.size := by
  intro b hb
  simp only [fpT, List.mem_cons] at hb
  rcases hb with rfl | hb
  · exact h.blk.lt
  · exact h.row.lt b hb
theorem chg {F : List Nat} (h : Spt w s rv r) (k : Chg F w w1) (hF : ∀ b ∈ fpT s rv, b ∉ F) : Spt w1 s rv r :=
  ⟨h.blk.chg k (hF s (by simp [fpT])), h.row.chg k (fun b hb => hF b (by simp [fpT, hb]))⟩
theorem s_rv (h : Spt w s rv r) : s ∉ blkOf rv := h.row.ne_blk h.blk (by decide)
theorem cells (h : Spt w s rv r) : w.cell? ⟨s, 0, none⟩ = some (.int .i64 4096) ∧ w.cell? ⟨s, 1, none⟩ = some rv ∧ w.cell? ⟨s, 2, none⟩ = some (.int .u64 (totP r : Nat)) := ⟨h.blk.cell 0, h.blk.cell 1, h.blk.cell 2⟩
theorem row' (h : Spt w s rv r) {rv2 : Value} {r2 : List Pr} (k : Chg (blkOf rv) w w1) (ho : Own w1 226 2 rv2 r2.length (prCells r2)) (hf : ∀ b ∈ blkOf rv2, b ∈ blkOf rv ∨ w.heap.size ≤ b) (T : Nat) (hT : T = totP r2) :
    Spt ((w1.setCell ⟨s, 1, none⟩ rv2).setCell ⟨s, 2, none⟩ (.int .u64 (T : Nat))) s rv2 r2 ∧ Mv (fpT s rv) w (fpT s rv2) ((w1.setCell ⟨s, 1, none⟩ rv2).setCell ⟨s, 2, none⟩ (.int .u64 (T : Nat))) := by
  subst hT
  have hb := h.blk.chg k h.s_rv
  have k2 : Chg [s] w1 ((w1.setCell ⟨s, 1, none⟩ rv2).setCell ⟨s, 2, none⟩ (.int .u64 (totP r2 : Nat))) := ((Chg.refl _ w1).setCell (a := ⟨s, 1, none⟩) (.inl (by simp)) _).setCell (a := ⟨s, 2, none⟩) (.inl (by simp)) _
  refine ⟨⟨?_, ?_⟩, ?_, ?_⟩
  · exact (hb.setCell 1 rv2).setCell 2 _
  · exact ho.chg k2 (fun b hb2 e => by simp at e; subst e; exact ho.ne_blk hb (by decide) hb2)
  · exact ((k.mono (F1 := fpT s rv) (fun b hb => .inl (by simp [fpT, hb]))).setCell (a := ⟨s, 1, none⟩) (.inl (by simp [fpT])) _).setCell (a := ⟨s, 2, none⟩) (.inl (by simp [fpT])) _
  · intro b hb2
    simp only [fpT, List.mem_cons] at hb2 ⊢
    rcases hb2 with rfl | hb2
    · exact .inl (.inl rfl)
    · rcases hf b hb2 with h1 | h1
      · exact .inl (.inr h1)
      · exact .inr h1
end Spt
theorem find_cnt {l : List Pr} {i : Int} (hr : rises l) : (hasI l i = false ∧ cntI l i = 0) ∨ (hasI l i = true ∧ ∃ h : cntLt l i < l.length, l[cntLt l i].c = cntI l i) := by
  obtain ⟨A, M, B, hp⟩ := parted hr i
  rw [hp.has, hp.cnt]
  rcases hp.mid with hM | ⟨c0, hM⟩
  · exact .inl ⟨by rw [hM]; rfl, by rw [hM]; rfl⟩
  · right
    refine ⟨by rw [hM]; rfl, ?_⟩
    have hn := hp.lt
    have hnl : cntLt l i < l.length := by
      have := congrArg List.length hp.eq
      rw [hM] at this
      simp only [List.length_append, List.length_singleton] at this
      omega
    refine ⟨hnl, ?_⟩
    have hget : l[cntLt l i] = ⟨i, c0⟩ := by
      have e : l = A ++ ⟨i, c0⟩ :: B := by rw [hp.eq, hM]; simp
      simp only [hn]
      simp only [e]
      simp
    rw [hget, hM]
    simp [cntI]

set_option maxRecDepth 100000 in
theorem strip_new (w : World) : Calls Tryz.prog 90 #[.int .i64 4096] w fun e w' => ∃ s, e = .returned (.tuple #[.pointer (some ⟨s, 0, none⟩), .int .i64 0]) ∧ Spt w' s (.slice none 0 0) [] ∧ Chg [] w w' ∧ w.heap.size ≤ s := by
  go_enter Tryz.func90, Tryz.ntmps90
  go_wp2_with fail
  go_ret2
  exact ⟨w.heap.size, rfl, ⟨Blk.alloc_new w _ _, Own.nil _ _ _⟩, (Chg.refl [] w).alloc _, Nat.le_refl _⟩
set_option maxRecDepth 100000 in
theorem strip_total (w : World) (s : Nat) (rv : Value) (r : List Pr) (h : Spt w s rv r) : Calls Tryz.prog 100 #[.pointer (some ⟨s, 0, none⟩)] w fun e w' => e = .returned (.int .u64 (totP r : Nat)) ∧ w = w' := by
  obtain ⟨c0, c1, c2⟩ := h.cells
  go_enter Tryz.func100, Tryz.ntmps100
  go_wp2
  go_ret
  exact ⟨rfl, rfl⟩
set_option maxRecDepth 100000 in
theorem strip_len (w : World) (s : Nat) (rv : Value) (r : List Pr) (h : Spt w s rv r) (n : Nat) (hn : n = r.length) : Calls Tryz.prog 160 #[.pointer (some ⟨s, 0, none⟩)] w fun e w' => e = .returned (.int .i64 (n : Nat)) ∧ w = w' := by
  obtain ⟨c0, c1, c2⟩ := h.cells
  obtain ⟨ro, rc, hrv⟩ := h.row.shape
  subst hrv
  rw [← hn] at c1
  clear hn h
  go_enter Tryz.func160, Tryz.ntmps160
  go_wp2
  go_ret
  exact ⟨rfl, rfl⟩
set_option maxRecDepth 100000 in
theorem strip_pairs (w : World) (s : Nat) (rv : Value) (r : List Pr) (h : Spt w s rv r) (n : Nat) (hn : n = r.length) (hl : n ≤ 1000) : Calls Tryz.prog 226 #[.pointer (some ⟨s, 0, none⟩)] w fun e w' => ∃ a3 c3, e = .returned (.slice a3 n c3) ∧ Own w' 226 2 (.slice a3 n c3) n (prCells r) ∧ Chg [] w w' ∧ ∀ b ∈ abl a3, w.heap.size ≤ b := by
  obtain ⟨c0, c1, c2⟩ := h.cells
  obtain ⟨ro, rc, hrv⟩ := h.row.shape
  subst hrv
  have hrd := h.row.rd
  rw [← hn] at c1 hrd
  have HCL := Lib.hid (clone_p w ro rc n r hrd (by omega))
  clear hn h hrd
  go_enter Tryz.func226, Tryz.ntmps226
  go_wp2_with fail
  refine HCL.out.mono ?_
  rintro e w1 ⟨a3, c3, rfl, h1, h2, h3⟩
  go_wp2_with fail
  go_ret
  exact ⟨a3, c3, rfl, h1, h2, h3⟩
set_option maxRecDepth 100000 in
set_option maxHeartbeats 1000000 in
theorem strip_at (w : World) (s : Nat) (rv : Value) (r : List Pr) (h : Spt w s rv r) (hrs : rises r) (hl : r.length ≤ 1000) (i : Int) : Calls Tryz.prog 232 #[.pointer (some ⟨s, 0, none⟩), .int .i64 i] w fun e w' => e = .returned (.int .u64 (cntI r i : Nat)) ∧ Chg [] w w' := by
  obtain ⟨c0, c1, c2⟩ := h.cells
  obtain ⟨ro, rc, hrv⟩ := h.row.shape
  subst hrv
  have HH := Lib.hid h
  obtain ⟨n, hn⟩ : ∃ n, n = r.length := ⟨_, rfl⟩
  have HN := Lib.hid hn
  have HF := Lib.hid (runs_find w ro rc r i hrs h.row.rd (by omega))
  rw [← hn] at c1 HF
  have hfc := find_cnt (i := i) hrs
  obtain ⟨C, hC⟩ : ∃ C, C = cntI r i := ⟨_, rfl⟩
  rw [← hC] at hfc ⊢
  clear hrs hn hC h hl
  go_enter Tryz.func232, Tryz.ntmps232
  go_wp2_with fail
  refine HF.out.mono ?_
  rintro e w1 ⟨rfl, hc1⟩
  have HC1 := Lib.hid hc1
  rcases hfc with ⟨h1, rfl⟩ | ⟨h1, h2, h3⟩
  · rw [h1]
    clear h1 HF hc1
    generalize cntLt r i = k at *
    go_wp2_with fail
    go_ret
    exact ⟨rfl, HC1.out⟩
  · rw [h1]
    have HH1 := Lib.hid (HH.out.chg hc1 (by simp))
    obtain ⟨b, o, rfl, hcs⟩ := HH1.out.row.rd.addr (by have := HN.out; omega)
    obtain ⟨d0, d1⟩ := pr_at hcs h2
    have e1 := HH1.out.cells.2.1
    rw [h3] at d1
    rw [← HN.out] at e1 h2
    clear h1 h3 HF hc1 hcs d0
    generalize cntLt r i = k at *
    have hkn : (k : Int) < (n : Int) := by omega
    have hk0 : (0 : Int) ≤ (k : Int) := by omega
    go_wp2_with fail
    go_ret
    exact ⟨rfl, HC1.out⟩
set_option maxRecDepth 100000 in
theorem strip_add_zero (w : World) (s : Nat) (i : Int) : Calls Tryz.prog 99 #[.pointer (some ⟨s, 0, none⟩), .int .i64 i, .int .u64 0] w fun e w' => e = .returned (.int .i64 1) ∧ w = w' := by
  go_enter Tryz.func99, Tryz.ntmps99
  go_wp2
  go_ret
  exact ⟨rfl, rfl⟩
set_option maxRecDepth 100000 in
set_option maxHeartbeats 4000000 in
theorem strip_add (w : World) (s : Nat) (rv : Value) (r : List Pr) (h : Spt w s rv r) (hrs : rises r) (hpos : ∀ p ∈ r, 1 ≤ p.c) (hl : r.length ≤ 1000) (i : Int) (c : Nat) (hc1 : 1 ≤ c) (hcm : totP r + c ≤ 9223372036854775807) :
    Calls Tryz.prog 99 #[.pointer (some ⟨s, 0, none⟩), .int .i64 i, .int .u64 (c : Nat)] w fun e w' => e = .returned (.int .i64 0) ∧ ∃ rv', Spt w' s rv' (refAdd r i c) ∧ Mv (fpT s rv) w (fpT s rv') w' := by
  obtain ⟨c0, c1, c2⟩ := h.cells
  obtain ⟨ro, rc, hrv⟩ := h.row.shape
  subst hrv
  obtain ⟨n, hn⟩ : ∃ n, n = r.length := ⟨_, rfl⟩
  obtain ⟨T, hT⟩ : ∃ T, T = totP r := ⟨_, rfl⟩
  obtain ⟨S, hS⟩ : ∃ S, S = T + c := ⟨_, rfl⟩
  have HPL := Lib.hid (fun u b0 hb0 => wide_plus2 u T c (by omega) (by omega) b0 hb0)
  have e : plusV [T, c] = .tuple #[.int .u64 (S : Nat), .bool true] := by
    have e0 : [T, c].sum = S := by simp [hS]
    unfold plusV
    rw [e0, if_pos (by omega)]
  rw [e] at HPL
  have HFI := Lib.hid (fun u (hu : Chg [] w u) => runs_find u ro rc r i hrs (h.row.chg hu (by simp)).rd (by omega))
  have HAD := Lib.hid (fun u (hu : Chg [] w u) => runs_add u ro rc r i c hrs (h.row.chg hu (by simp)) hl (fun p hp => by have := mem_tot hp; omega) (by omega))
  rw [← add_same hrs hpos] at HAD
  have HH := Lib.hid h
  have HCE := Lib.hid (fun u (hu : Chg [] w u) => show u.cell? ⟨s, 0, none⟩ = some (.int .i64 4096) ∧ u.cell? ⟨s, 1, none⟩ = some (.slice ro n rc) ∧ u.cell? ⟨s, 2, none⟩ = some (.int .u64 (T : Nat)) from by
    obtain ⟨q0, q1, q2⟩ := (h.chg hu (by simp)).cells
    rw [← hn] at q1
    rw [← hT] at q2
    exact ⟨q0, q1, q2⟩)
  have HTR := Lib.hid (show S = totP (refAdd r i c) from by rw [refAdd_tot hrs, hS, hT])
  have HN := Lib.hid hn
  rw [← hn] at HAD HFI c1
  rw [← hT] at c2
  have hn1 : n ≤ 1000 := by omega
  have d0 : ((c : Int) == 0) = false := by rw [beq_eq_false_iff_ne]; omega
  have d1 : decide ((4096 : Int) ≤ (n : Int)) = false := decide_eq_false (by omega)
  have d1' : decide (4096 ≤ n) = false := decide_eq_false (by omega)
  generalize cntLt r i = k at *
  generalize hasI r i = B at *
  obtain ⟨R, hR⟩ : ∃ R, R = refAdd r i c := ⟨_, rfl⟩
  rw [← hR] at HAD HTR ⊢
  clear h hrs hpos hl hcm hn hT hS e hR hc1
  go_enter Tryz.func99, Tryz.ntmps99
  go_wp2_with fail
  refine (HPL.out _ _ rfl).mono ?_
  rintro e w1 ⟨rfl, rfl⟩
  have HC1 := Lib.hid ((Chg.refl [] w).alloc (.cells #[.int .u64 (T : Nat), .int .u64 (c : Nat)] 25))
  clear HPL c0 c1 c2
  generalize w.alloc (.cells #[.int .u64 (T : Nat), .int .u64 (c : Nat)] 25) = w1 at *
  obtain ⟨c0, c1, c2⟩ := HCE.out _ HC1.out
  go_wp2_with fail
  refine (HFI.out _ HC1.out).mono ?_
  rintro e w2 ⟨rfl, hc2⟩
  have HC2 := Lib.hid (HC1.out.trans hc2)
  clear hc2 HC1 HFI c0 c1 c2
  obtain ⟨c0, c1, c2⟩ := HCE.out _ HC2.out
  cases B with
  | true =>
    go_wp2
    go_quiet (fail)
    go_wp2_with fail
    have HC3 := Lib.hid (show Chg [] w (w2.drewN nq) from by with_reducible (repeat (first | exact HC2.out | apply Chg.drew | apply Chg.drewN)))
    refine (HAD.out _ HC3.out).mono ?_
    rintro e w3 ⟨a3, c3, rfl, ho3, hc3, hf3⟩
    have hk : Chg (blkOf (.slice ro r.length rc)) w w3 := (HC3.out.nil).trans (by simpa using hc3)
    have hsz := HC3.out.size
    have hb3 := HH.out.blk.chg hk HH.out.s_rv
    have f1 := hb3.free 1
    have f2 := hb3.free 2
    have g1 : w3.cell? ⟨s, 1, none⟩ = some (.slice ro n rc) := by rw [HN.out]; exact hb3.cell 1
    have g2 : w3.cell? ⟨s, 2, none⟩ = some (.int .u64 (totP r : Nat)) := hb3.cell 2
    have HR := Lib.hid (HH.out.row' (w1 := w3) (rv2 := .slice a3 R.length c3) (r2 := R) hk ho3 (fun b hb => by
      rcases hf3 b (by simpa using hb) with h | h
      · exact .inl (by simpa using h)
      · exact .inr (Nat.le_trans hsz h)) S HTR.out)
    clear hk hsz hb3 ho3 hc3 hf3 HAD HTR c0 c1 c2
    go_wp2_with fail
    go_ret
    exact ⟨rfl, _, HR.out.1, HR.out.2⟩
  | false =>
    go_wp2
    go_quiet (fail)
    go_wp2_with fail
    have HC3 := Lib.hid (show Chg [] w (w2.drewN nq) from by with_reducible (repeat (first | exact HC2.out | apply Chg.drew | apply Chg.drewN)))
    refine (HAD.out _ HC3.out).mono ?_
    rintro e w3 ⟨a3, c3, rfl, ho3, hc3, hf3⟩
    have hk : Chg (blkOf (.slice ro r.length rc)) w w3 := (HC3.out.nil).trans (by simpa using hc3)
    have hsz := HC3.out.size
    have hb3 := HH.out.blk.chg hk HH.out.s_rv
    have f1 := hb3.free 1
    have f2 := hb3.free 2
    have g1 : w3.cell? ⟨s, 1, none⟩ = some (.slice ro n rc) := by rw [HN.out]; exact hb3.cell 1
    have g2 : w3.cell? ⟨s, 2, none⟩ = some (.int .u64 (totP r : Nat)) := hb3.cell 2
    have HR := Lib.hid (HH.out.row' (w1 := w3) (rv2 := .slice a3 R.length c3) (r2 := R) hk ho3 (fun b hb => by
      rcases hf3 b (by simpa using hb) with h | h
      · exact .inl (by simpa using h)
      · exact .inr (Nat.le_trans hsz h)) S HTR.out)
    clear hk hsz hb3 ho3 hc3 hf3 HAD HTR c0 c1 c2
    go_wp2_with fail
    go_ret
    exact ⟨rfl, _, HR.out.1, HR.out.2⟩
end Go.Proofs.YtlcoibhbdgdfcaaGreatDoor
