/-
  The document's sketch by comparisons in the heap; its Total and limit. Conditions: the form's own reach.
  The walk of the document's Flush (layer 19). Conditions: the form's own reach.
  The walk of the document's Put (layer 19). Conditions: the form's own reach.
-/
import Derived.Test.YtkcldhimjnehdaaGkPut
import Derived.Test.YtkcldhimjnehdaaRefTup1
import Derived.Test.YtkcldhimjnehdaaRefTimes
import Derived.Test.YtkcldhimjnehdaaRefOver
import Derived.Test.YtkcldhimjnehdaaRefIns
import Derived.Test.YtkcldhimjnehdaaRefSq
import Derived.Test.YtkcldhimjnehdaaPlainMsort
namespace Go.Proofs.Ytkcldhimjnehdaa
open Go.RowKit

/-- The document's sketch: its own block, its spots, and the values that wait. -/
structure RG (w : World) (p : Nat) (sv wv : Value) (D : GkD) : Prop where
  blk : Blk w p #[.int .u64 (D.num : Nat), .int .u64 (D.den : Nat), sv, wv] 90
  spots : Own w 108 3 sv D.row.length (spCells (spF 0 D.row))
  wait : Own w 2 1 wv D.waits.length (ints D.waits)
def fpS (p : Nat) (sv wv : Value) : List Nat := p :: (blkOf sv ++ blkOf wv)
namespace RG
variable {w w1 : World} {p : Nat} {sv wv : Value} {D : GkD}
theorem lt (h : RG w p sv wv D) : ∀ b ∈ fpS p sv wv, b < w.heap.size := by
  intro b hb
  simp only [fpS, List.mem_cons, List.mem_append] at hb
  rcases hb with rfl | hb | hb
  · exact h.blk.lt
  · exact h.spots.lt b hb
  · exact h.wait.lt b hb
theorem chg {F : List Nat} (h : RG w p sv wv D) (k : Chg F w w1) (hF : ∀ b ∈ fpS p sv wv, b ∉ F) : RG w1 p sv wv D :=
  ⟨h.blk.chg k (hF p (by simp [fpS])), h.spots.chg k (fun b hb => hF b (by simp [fpS, hb])), h.wait.chg k (fun b hb => hF b (by simp [fpS, hb]))⟩
theorem p_sv (h : RG w p sv wv D) : p ∉ blkOf sv := h.spots.ne_blk h.blk (by decide)
theorem p_wv (h : RG w p sv wv D) : p ∉ blkOf wv := h.wait.ne_blk h.blk (by decide)
theorem sv_wv (h : RG w p sv wv D) : ∀ b ∈ blkOf sv, b ∉ blkOf wv := h.spots.apart h.wait (by decide)
theorem cells (h : RG w p sv wv D) : w.cell? ⟨p, 0, none⟩ = some (.int .u64 (D.num : Nat)) ∧ w.cell? ⟨p, 1, none⟩ = some (.int .u64 (D.den : Nat)) ∧ w.cell? ⟨p, 2, none⟩ = some sv ∧ w.cell? ⟨p, 3, none⟩ = some wv :=
  ⟨h.blk.cell 0, h.blk.cell 1, h.blk.cell 2, h.blk.cell 3⟩
end RG
set_option maxRecDepth 100000 in
set_option maxHeartbeats 1000000 in
theorem ref19_total (w : World) (p : Nat) (sv wv : Value) (D : GkD) (h : RG w p sv wv D) (hf : FineT D.row D.vals.length) (hl : D.row.length ≤ 30000) (hn : D.total ≤ 30000) :
    Calls Try.prog 61 #[.pointer (some ⟨p, 0, none⟩)] w fun e w' => e = .returned (.int .u64 (D.total : Nat)) ∧ Chg [] w w' := by
  obtain ⟨so, sc, hsv⟩ := h.spots.shape
  obtain ⟨wo, wc, hwv⟩ := h.wait.shape
  subst hsv hwv
  obtain ⟨-, -, c2, c3⟩ := h.cells
  have hsl : (spF 0 D.row).length = D.row.length := spF_len 0 D.row
  obtain ⟨V, hV⟩ : ∃ V, V = D.vals.length := ⟨_, rfl⟩
  obtain ⟨m, hm⟩ : ∃ m, m = D.waits.length := ⟨_, rfl⟩
  have hts : totS (spF 0 D.row) = V := by rw [totS_spF0, hf.total, hV]
  have htt : D.total = V + m := by rw [hV, hm]; rfl
  have HT := Lib.hid (fun u (hu : Chg [] w u) => ref18_total u so sc (spF 0 D.row) (by rw [hsl]; exact (h.spots.chg hu (by simp)).rd) (by omega))
  obtain ⟨n, hn0⟩ : ∃ n, n = D.row.length := ⟨_, rfl⟩
  rw [hsl, hts, ← hn0] at HT
  rw [← hn0] at c2
  rw [← hm] at c3
  rw [htt] at hn ⊢
  have hw1 : IntKind.u64.wrap (m : Int) = (m : Int) := IntWalk.u64_in _ (by omega)
  have hw2 : IntKind.u64.wrap ((V : Int) + (m : Int)) = ((V + m : Nat) : Int) := by rw [IntKind.wrap_u64]; omega
  clear h hf hl hV hm hts htt hn0 hsl
  go_enter Try.func61, Try.ntmps61
  go_wp2_with fail
  go_quiet (first | (go_at_call 68; exact (HT.out _ (by with_reducible (repeat (first | exact Chg.refl _ _ | apply Chg.drew | apply Chg.drewN)))).mono fun e w' ⟨he, hw⟩ => ⟨he, _, hw.symm⟩))
  go_wp2_with fail
  go_ret
  refine ⟨rfl, ?_⟩
  with_reducible (repeat (first | exact Chg.refl _ _ | apply Chg.drew | apply Chg.drewN))

set_option maxRecDepth 100000 in
set_option maxHeartbeats 2000000 in
theorem ref19_limit (w : World) (num den n L : Nat) (hg : goodK num den = true) (hn : n < 9223372036854775808) (hL : L = limG num den n) :
    Calls Try.prog 67 #[.agg #[.int .u64 (num : Nat), .int .u64 (den : Nat)], .int .u64 (n : Nat)] w fun e w' => e = .returned (.int .u64 (L : Nat)) ∧ Chg [] w w' := by
  obtain ⟨g1, g2, g3⟩ := goodK_of hg
  have hc := (Chg.refl [] w).alloc (.cells #[.int .u64 num, .int .u64 den] 25)
  have hbx := Blk.alloc_new w #[.int .u64 num, .int .u64 den] 25
  have c0 := hbx.cell 0
  have c1 := hbx.cell 1
  have HB := Lib.hid hbx
  have HC := Lib.hid hc
  obtain ⟨N, hN⟩ : ∃ N, N = 2 * num * n := ⟨_, rfl⟩
  have hND : N ≤ den * n := by rw [hN]; exact Nat.mul_le_mul_right n (by omega)
  have hD64 : den * n < den * 18446744073709551616 := Nat.mul_lt_mul_of_pos_left (by omega) (by omega)
  have HT := Lib.hid (fun u => ref01_times u (2 * num) n N (by rw [hN]) (by omega) (by omega))
  have HO := Lib.hid (fun u => ref01_over u (N / 18446744073709551616) (N % 18446744073709551616) den N (by omega) (by
    have : N < 18446744073709551616 * 18446744073709551616 := Nat.lt_of_le_of_lt hND (Nat.lt_of_lt_of_le hD64 (Nat.mul_le_mul_right _ (by omega)))
    omega) (Nat.mod_lt _ (by omega)) (by omega))
  have e : overV N den = .tuple #[.int .u64 (N / den : Nat), .int .u64 (N % den : Nat), .bool true] := if_pos (by omega)
  rw [e] at HO
  have HL := Lib.hid (show L = max (N / den) 1 from by rw [hL, limG, hN])
  have hw : IntKind.u64.wrap (2 * (num : Int)) = ((2 * num : Nat) : Int) := by rw [IntKind.wrap_u64]; omega
  generalize N / den = Q at *
  generalize N % den = Rm at *
  generalize N / 18446744073709551616 = hi at *
  generalize N % 18446744073709551616 = lo at *
  obtain ⟨nn, hnn⟩ : ∃ z, z = 2 * num := ⟨_, rfl⟩
  rw [← hnn] at HT hw
  clear hc hbx hg hL hN hND hD64 e hnn
  go_enter Try.func67, Try.ntmps67
  go_wp2_with fail
  go_cut [5] (fun a wx => a = .int .u64 (Q : Nat) ∧ Chg [] w wx)
  case first =>
    go_region_with (first | (go_at_call 13; refine (HT.out _).mono ?_; rintro e w1 ⟨rfl, hc1⟩; (have h1w : Chg [] w w1 := Chg.trans (by with_reducible (repeat (first | exact HC.out | apply Chg.drew))) hc1); (have hb1 := Blk.chg (by first | exact HB.out | exact HB.out.drew) hc1 (by simp)); have q0 := hb1.cell 0; have q1 := hb1.cell 1) | (go_at_call 12; refine (HO.out _).mono ?_; rintro e w2 ⟨rfl, hc2⟩))
    all_goals
      go_wp2_with fail
      go_meet
      exact ⟨rfl, h1w.trans hc2⟩
  case rest =>
    obtain ⟨rfl, hc1⟩ := hcut
    go_wp2_with fail
    go_ret
    rw [HL.out]
    refine ⟨?_, hc1⟩
    rw [show ((max Q 1 : Nat) : Int) = max (Q : Int) 1 from by omega]
    rfl
end Go.Proofs.Ytkcldhimjnehdaa

namespace Go.Proofs.Ytkcldhimjnehdaa
open Go.RowKit

theorem enters_rlimit : ∀ (args : Array Value) (w : World), (callFunc 67 args).run Try.prog w = .ok (.enter 67 args) w := enters_of Try.func67 (by kernel_rfl) rfl
theorem enters_rsqueeze : ∀ (args : Array Value) (w : World), (callFunc 65 args).run Try.prog w = .ok (.enter 65 args) w := enters_of Try.func65 (by kernel_rfl) rfl

namespace RG
variable {w w1 : World} {p : Nat} {sv wv : Value} {D : GkD}
theorem spots' (h : RG w p sv wv D) {sv2 : Value} {r : List Tp} {E : GkD} (k : Chg [] w w1) (ho : Own w1 108 3 sv2 r.length (spCells (spF 0 r))) (hE : E.num = D.num ∧ E.den = D.den ∧ E.row = r ∧ E.waits = D.waits) :
    RG (w1.setCell ⟨p, 2, none⟩ sv2) p sv2 wv E := by
  obtain ⟨e1, e2, e4, e5⟩ := hE
  have hb := h.blk.chg k (by simp)
  have k2 : Chg [p] w1 (w1.setCell ⟨p, 2, none⟩ sv2) := (Chg.refl _ w1).setCell (a := ⟨p, 2, none⟩) (.inl (by simp)) _
  refine ⟨?_, ?_, ?_⟩
  · rw [e1, e2]
    exact hb.setCell 2 sv2
  · rw [e4]
    exact ho.chg k2 (fun b hb2 e => by simp at e; subst e; exact ho.ne_blk hb (by decide) hb2)
  · rw [e5]
    exact (h.wait.chg k (by simp)).chg k2 (fun b hb2 e => by simp at e; subst e; exact h.p_wv hb2)
theorem nowait (h : RG w p sv wv D) {E : GkD} (hE : E.num = D.num ∧ E.den = D.den ∧ E.row = D.row ∧ E.waits = []) :
    RG (w.setCell ⟨p, 3, none⟩ (.slice none 0 0)) p sv (.slice none 0 0) E := by
  obtain ⟨e1, e2, e4, e5⟩ := hE
  have k2 : Chg [p] w (w.setCell ⟨p, 3, none⟩ (.slice none 0 0)) := (Chg.refl _ w).setCell (a := ⟨p, 3, none⟩) (.inl (by simp)) _
  refine ⟨?_, ?_, ?_⟩
  · rw [e1, e2]
    exact h.blk.setCell 3 _
  · rw [e4]
    exact h.spots.chg k2 (fun b hb2 e => by simp at e; subst e; exact h.p_sv hb2)
  · rw [e5]
    exact Own.nil _ _ _
end RG

set_option maxRecDepth 100000 in
set_option maxHeartbeats 8000000 in
set_option linter.unusedSimpArgs false in
theorem ref19_flush (wI : World) (sp : Nat) (sv wv : Value) (D : GkD) (h : RG wI sp sv wv D) (hok : D.ok') (hg : goodK D.num D.den = true) (hn : D.total ≤ 30000) :
    Calls Try.prog 62 #[.pointer (some ⟨sp, 0, none⟩)] wI fun e w' => e = .returned (.tuple #[]) ∧ ∃ sv' wv', RG w' sp sv' wv' D.flush ∧ Chg [sp] wI w' ∧ (∀ b ∈ blkOf sv', b ∈ blkOf sv ∨ wI.heap.size ≤ b) ∧ (∀ b ∈ blkOf wv', b ∈ blkOf wv) := by
  have HG := Lib.hid h
  obtain ⟨-, -, -, c3⟩ := h.cells
  obtain ⟨wo, wc0, hwv⟩ := h.wait.shape
  subst hwv
  obtain ⟨l, hl⟩ : ∃ l, l = D.waits := ⟨_, rfl⟩
  rw [← hl] at c3 HG ⊢
  have HL := Lib.hid hl
  by_cases h0 : l.length = 0
  · have hnil : D.waits = [] := by rw [← hl]; exact List.eq_nil_of_length_eq_zero h0
    have HFL := Lib.hid (show D.flush = D from if_pos hnil)
    have hz : ((l.length : Int) == 0) = true := by rw [beq_iff_eq]; omega
    clear h hnil hl hok hg hn h0
    go_enter Try.func62, Try.ntmps62
    go_wp2_with fail
    refine bodyPost_ret (results_none rfl _ _ _) rfl ?_
    rw [HFL.out]
    exact ⟨rfl, _, _, HG.out, Chg.refl _ _, fun b hb => .inl hb, fun b hb => hb⟩
  · have hz : ((l.length : Int) == 0) = false := by rw [beq_eq_false_iff_ne]; omega
    have HNE := Lib.hid (show D.waits ≠ [] from fun e => h0 (by rw [hl, e]; rfl))
    have hl16 : l.length ≤ 16 := by rw [hl]; exact hok.few
    obtain ⟨ws, hws⟩ : ∃ ws, ws = sortL D.waits := ⟨_, rfl⟩
    have hwl : ws.length = l.length := by rw [hws, (sort_ok _).2.2, hl]
    have HWS := Lib.hid (show sortL l = ws from by rw [hws, hl])
    have HWL := Lib.hid hwl
    obtain ⟨L, hL⟩ : ∃ L, L = limG D.num D.den D.total := ⟨_, rfl⟩
    have HFL := Lib.hid (show D.flush = ⟨D.num, D.den, sqT L (insAll D.row ws), D.vals ++ ws, []⟩ from by rw [GkD.flush, if_neg HNE.out, hws, hL])
    have HFP := Lib.hid (fun k => insAll_fine (GkD.limG_pos D.num D.den D.total) (ws.take k) (r := D.row) (A := D.vals) ⟨hok.fine, hok.placed, hok.len, Nat.le_refl _⟩ (fun p hp => Nat.le_trans (hok.tight p hp) (limG_mono (by unfold GkD.total; omega))))
    have hvl : D.vals.length + l.length ≤ 30000 := by have := hn; unfold GkD.total at this; rw [hl]; omega
    have HLT := Lib.hid (fun u => ref19_limit u D.num D.den D.total L hg (by omega) hL)
    have HTO := Lib.hid (ref19_total wI sp sv _ D h hok.fine (by have := hok.len; omega) hn)
    obtain ⟨N, hN⟩ : ∃ N, N = D.total := ⟨_, rfl⟩
    rw [← hN] at HLT HTO
    clear h hok hg hn hws hwl hL hl h0 hN
    go_enter Try.func62, Try.ntmps62
    go_wp2_with fail
    refine HTO.out.mono ?_
    rintro e w ⟨rfl, hcI⟩
    have HCI := Lib.hid hcI
    have HGW := Lib.hid (HG.out.chg hcI (by simp))
    have HR := Lib.hid (show Rd w 1 (.slice wo l.length wc0) l.length (ints l) from by have h := HGW.out.wait.rd; rw [← HL.out] at h; exact h)
    obtain ⟨-, -, -, c3'⟩ := HGW.out.cells
    clear hcI HTO c3
    go_wp2_with fail
    go_loopw [3, 22] (fun out j wx => ∃ (k : Nat) (F : List Int) (a3 : Option Addr) (c3 : Nat), k ≤ l.length ∧ j = .int .i64 (k : Nat) ∧ out = .slice a3 F.length c3 ∧ Hid (F = sortL (l.take k)) ∧ Hid (F.length = k) ∧ Hid (up F) ∧
      Own wx 2 1 (.slice a3 F.length c3) F.length (ints F) ∧ Chg [] w wx ∧ ∀ b ∈ abl a3, w.heap.size ≤ b) (fun _ j _ => l.length - (intOf j).toNat)
    case atStart => exact ⟨0, [], none, 0, Nat.zero_le _, rfl, rfl, Lib.hid rfl, Lib.hid rfl, Lib.hid (fun j k _ hk => by simp at hk), Own.nil _ _ _, Chg.refl _ _, by simp [abl]⟩
    case round =>
      obtain ⟨k, F, a3, c3, hk, rfl, rfl, HF, hFk, HU, ho, hch, hab⟩ := hrel
      by_cases hlt : k < l.length
      · have hr1 := HR.out.chg hch (by simp)
        obtain ⟨b, o, rfl, hcs⟩ := hr1.addr (by omega)
        have c0 := ints_at hcs k hlt
        have HS := Lib.hid (sort_step l k hlt)
        have hsz := hch.size
        have hFl : F.length ≤ 1000 := by have := hFk.out; omega
        generalize l[k] = p at *
        clear hcs hr1
        go_wp2
        have HP := Lib.hid (up_parted HU.out p)
        go_loopw [6] (fun i wx => ∃ j : Nat, j ≤ upL F p ∧ i = .int .i64 (j : Nat) ∧ wr = wx) (fun i _ => F.length - (intOf i).toNat)
        case atStart => exact ⟨0, Nat.zero_le _, rfl, rfl⟩
        case round =>
          obtain ⟨j, hj, rfl, rfl⟩ := hrel
          have hU3 := HP.out.2.2
          by_cases hju : j < upL F p
          · have hjl : j < F.length := by omega
            obtain ⟨g, o2, rfl, hcf⟩ := ho.rd.addr (by omega)
            have c1 := ints_at hcf j hjl
            have hle : decide (F[j] ≤ p) = true := decide_eq_true ((up_lt HU.out p j hjl).2 hju)
            have hjd : decide ((j : Int) < (F.length : Int)) = true := decide_eq_true (by omega)
            have hj0 : (0 : Int) ≤ (j : Int) := by omega
            clear hcf
            generalize F[j] = y at *
            go_wp2
            exact ⟨⟨j + 1, by omega, by go_num, trivial⟩, by simp [intOf]; omega⟩
          · obtain rfl : j = upL F p := by omega
            by_cases hjl : upL F p < F.length
            · obtain ⟨g, o2, rfl, hcf⟩ := ho.rd.addr (by omega)
              have c1 := ints_at hcf (upL F p) hjl
              have hle : decide (F[upL F p] ≤ p) = false := decide_eq_false (fun h => by have := (up_lt HU.out p _ hjl).1 h; omega)
              have hjd : decide (((upL F p : Nat) : Int) < (F.length : Int)) = true := decide_eq_true (by omega)
              have hj0 : (0 : Int) ≤ ((upL F p : Nat) : Int) := by omega
              clear hcf
              generalize F[upL F p] = y at *
              go_wp2
              have hFc : F.length ≤ c3 := by
                obtain ⟨_, ⟨hv, _⟩ | ⟨_, _, cp, _, hv, _, hnc, _⟩⟩ := ho
                · simp at hv
                · simp only [Value.slice.injEq] at hv
                  omega
              have hcu : ¬ (c3 = upL F p) := by omega
              have huc : upL F p ≤ c3 := by omega
              have hu0 : (0 : Int) ≤ ((upL F p : Nat) : Int) := by omega
              have hul : ((upL F p : Nat) : Int) ≤ (F.length : Int) := by omega
              have rd1 : Rd wr 1 (.slice (some ⟨g, o2, none⟩) (upL F p) c3) (upL F p) (ints (F.take (upL F p))) := ⟨by rw [ints_length, List.length_take]; omega, _, _, rfl, .inr ⟨_, _, rfl, fun j hj => by
                rw [ho.cells j (by omega), ints_take _ _ _ (by omega)]⟩⟩
              have rd2 : Rd wr 1 (.slice (some ⟨g, o2 + upL F p, none⟩) (F.length - upL F p) (c3 - upL F p)) (F.length - upL F p) (ints (F.drop (upL F p))) := ⟨by rw [ints_length, List.length_drop]; omega, _, _, rfl, .inr ⟨_, _, rfl, fun j hj => by
                rw [Nat.add_assoc, ho.cells (upL F p + j) (by omega), ints_drop]⟩⟩
              generalize hu : upL F p = u at *
              have HPUT := Lib.hid (show put1 F p = F.take u ++ [p] ++ F.drop u from by rw [put1, hu])
              have HLN := Lib.hid (show (put1 F p).length = u + 1 + (F.length - u) from by rw [HPUT.out]; simp; omega)
              have RDii : Rd ((wr.alloc (.cells #[] 2)).alloc (.cells #[.int .i64 p] 2)) 1 (.slice (some ⟨wr.heap.size + 1, 0, none⟩) 1 1) 1 (ints [p]) := by
                have := Rd.lit1 (wr.alloc (.cells #[] 2)) (.int .i64 p) 2 1
                simpa [ints] using this
              have RDiii : Rd (wr.alloc (.cells #[.int .i64 p] 2)) 1 (.slice (some ⟨wr.heap.size, 0, none⟩) 1 1) 1 (ints [p]) := Rd.lit1 wr (.int .i64 p) 2 1
              have OWiii : Own ((wr.alloc (.cells #[.int .i64 p] 2)).alloc (.cells #[] 2)) 2 1 (.slice (some ⟨wr.heap.size + 1, 0, none⟩) 0 0) 0 [] := by
                have := Own.lit (wr.alloc (.cells #[.int .i64 p] 2)) 2 1 0 #[] rfl (by decide)
                simpa using this
              go_region_law (first
                | (refine step_append_src rfl (.tmp 40) (.tmp 43) 61 61 rfl 2 _ 1 8 under_ints info_i64 rfl (by decide) _ 0 [] rfl (by first | exact (Own.lit wr 2 1 0 #[] rfl (by decide)).drew | exact ((Own.lit wr 2 1 0 #[] rfl (by decide)).alloc _).drew | exact OWiii.drew) _ u (ints (F.take u)) rfl (Src.of_rd under_ints (rd1.chg (F := []) (by with_reducible (repeat (first | exact Chg.refl _ _ | assumption | apply Chg.drew | apply Chg.alloc))) (by simp))) (ints_oneCell _) (by unfold maxLen; omega) (by omega) ?_; intro a5 c5 w5 ho5 hg5 hf5
                   have ho5' : Own w5 2 1 (.slice a5 u c5) u (ints (F.take u)) := by simpa using ho5
                   have hk5 : Chg [] wr w5 := Chg.trans' (by with_reducible (repeat (first | exact Chg.refl _ _ | assumption | apply Chg.drew | apply Chg.alloc))) hg5 (fun b hb => .inr (by simp [Act.eval] at hb; omega))
                   have hb5 : ∀ b ∈ abl a5, wr.heap.size ≤ b := fun b hb => by rcases hf5 b hb with h | h <;> (simp [Act.eval] at h; omega))
                | (refine step_append_src rfl (.tmp 44) (.tmp 46) 61 61 rfl 2 _ 1 8 under_ints info_i64 rfl (by decide) (.slice a5 u c5) u (ints (F.take u)) rfl (by first | exact ho5' | exact ho5'.alloc _) _ 1 (ints [p]) rfl (Src.of_rd under_ints (by first | exact Rd.lit1 w5 (.int .i64 p) 2 1 | exact Rd.chg (Rd.chg (F := []) RDii (by with_reducible (repeat (first | exact Chg.refl _ _ | assumption | apply Chg.drew | apply Chg.alloc))) (by simp)) hg5 (by simp [Act.eval]) | exact Rd.chg (Rd.chg (F := []) RDiii (by with_reducible (repeat (first | exact Chg.refl _ _ | assumption | apply Chg.drew | apply Chg.alloc))) (by simp)) hg5 (by simp [Act.eval]))) (ints_oneCell _) (by unfold maxLen; omega) (by omega) ?_; intro a6 c6 w6 ho6 hg6 hf6
                   have hk6 : Chg [] wr w6 := Chg.trans' (by with_reducible (repeat (first | exact Chg.refl _ _ | assumption | apply Chg.drew | apply Chg.alloc))) hg6 (fun b hb => .inr (hb5 b (by simpa using hb)))
                   have hb6 : ∀ b ∈ abl a6, wr.heap.size ≤ b := fun b hb => by
                     have := hk5.size
                     rcases hf6 b hb with h | h
                     · exact hb5 b (by simpa using h)
                     · first | (simp at h; omega) | omega)
                | (refine step_append_src rfl (.tmp 47) (.tmp 50) 61 61 rfl 2 _ 1 8 under_ints info_i64 rfl (by decide) (.slice a6 (u + 1) c6) (u + 1) (ints (F.take u) ++ ints [p]) rfl ho6 _ (F.length - u) (ints (F.drop u)) rfl (Src.of_rd under_ints (rd2.chg hk6 (by simp))) (ints_oneCell _) (by unfold maxLen; omega) (by omega) ?_; intro a7 c7 w7 ho7 hg7 hf7
                   have hk7 : Chg [] wr w7 := Chg.trans' hk6 hg7 (fun b hb => .inr (hb6 b (by simpa using hb)))
                   have hb7 : ∀ b ∈ abl a7, wr.heap.size ≤ b := fun b hb => by
                     have := hk6.size
                     rcases hf7 b hb with h | h
                     · exact hb6 b (by simpa using h)
                     · omega))
              all_goals
                go_wp2
                exact ⟨⟨k + 1, put1 F p, a7, c7, by omega, by go_num, by rw [HLN.out], Lib.hid (by rw [HS.out, ← HF.out]), Lib.hid (by have := HLN.out; have := hFk.out; omega), Lib.hid (put1_up HU.out p), by rw [HLN.out, HPUT.out]; simpa [ints_append, ints] using ho7, hch.trans hk7, fun b hb => by have := hb7 b hb; omega⟩, by simp [intOf]; omega⟩
            · have hjd : decide (((upL F p : Nat) : Int) < (F.length : Int)) = false := decide_eq_false (by omega)
              have hue := Lib.hid (show upL F p = F.length from by omega)
              obtain ⟨_, ⟨hv0, h0⟩ | ⟨g, o2, cp, cur, hv1, _, hFc, _⟩⟩ := id ho
              · obtain rfl : F = [] := List.eq_nil_of_length_eq_zero h0
                simp only [Value.slice.injEq] at hv0
                obtain ⟨rfl, _, rfl⟩ := hv0
                have HPUT := Lib.hid (show put1 [] p = [p] from rfl)
                have HLN := Lib.hid (show (put1 [] p).length = 1 from rfl)
                have hz : upL [] p = 0 := rfl
                clear hjl hju hjd hU3 hj HP
                go_wp2
                have rd1 : Rd wr 1 (.slice none 0 0) 0 (ints []) := ⟨rfl, _, _, rfl, .inl rfl⟩
                have rd2 : Rd wr 1 (.slice none 0 0) 0 (ints []) := ⟨rfl, _, _, rfl, .inl rfl⟩
                have RDii : Rd ((wr.alloc (.cells #[] 2)).alloc (.cells #[.int .i64 p] 2)) 1 (.slice (some ⟨wr.heap.size + 1, 0, none⟩) 1 1) 1 (ints [p]) := by
                  have := Rd.lit1 (wr.alloc (.cells #[] 2)) (.int .i64 p) 2 1
                  simpa [ints] using this
                have RDiii : Rd (wr.alloc (.cells #[.int .i64 p] 2)) 1 (.slice (some ⟨wr.heap.size, 0, none⟩) 1 1) 1 (ints [p]) := Rd.lit1 wr (.int .i64 p) 2 1
                have OWiii : Own ((wr.alloc (.cells #[.int .i64 p] 2)).alloc (.cells #[] 2)) 2 1 (.slice (some ⟨wr.heap.size + 1, 0, none⟩) 0 0) 0 [] := by
                  have := Own.lit (wr.alloc (.cells #[.int .i64 p] 2)) 2 1 0 #[] rfl (by decide)
                  simpa using this
                go_region_law (first
                  | (refine step_append_src rfl (.tmp 40) (.tmp 43) 61 61 rfl 2 _ 1 8 under_ints info_i64 rfl (by decide) _ 0 [] rfl (by first | exact (Own.lit wr 2 1 0 #[] rfl (by decide)).drew | exact ((Own.lit wr 2 1 0 #[] rfl (by decide)).alloc _).drew | exact OWiii.drew) _ (0) (ints []) rfl (Src.of_rd under_ints (rd1.chg (F := []) (by with_reducible (repeat (first | exact Chg.refl _ _ | assumption | apply Chg.drew | apply Chg.alloc))) (by simp))) (ints_oneCell _) (by unfold maxLen; omega) (by omega) ?_; intro a5 c5 w5 ho5 hg5 hf5
                     have ho5' : Own w5 2 1 (.slice a5 0 c5) (0) (ints []) := by simpa using ho5
                     have hk5 : Chg [] wr w5 := Chg.trans' (by with_reducible (repeat (first | exact Chg.refl _ _ | assumption | apply Chg.drew | apply Chg.alloc))) hg5 (fun b hb => .inr (by simp [Act.eval] at hb; omega))
                     have hb5 : ∀ b ∈ abl a5, wr.heap.size ≤ b := fun b hb => by rcases hf5 b hb with h | h <;> (simp [Act.eval] at h; omega))
                  | (refine step_append_src rfl (.tmp 44) (.tmp 46) 61 61 rfl 2 _ 1 8 under_ints info_i64 rfl (by decide) (.slice a5 0 c5) (0) (ints []) rfl (by first | exact ho5' | exact ho5'.alloc _) _ 1 (ints [p]) rfl (Src.of_rd under_ints (by first | exact Rd.lit1 w5 (.int .i64 p) 2 1 | exact Rd.chg (Rd.chg (F := []) RDii (by with_reducible (repeat (first | exact Chg.refl _ _ | assumption | apply Chg.drew | apply Chg.alloc))) (by simp)) hg5 (by simp [Act.eval]) | exact Rd.chg (Rd.chg (F := []) RDiii (by with_reducible (repeat (first | exact Chg.refl _ _ | assumption | apply Chg.drew | apply Chg.alloc))) (by simp)) hg5 (by simp [Act.eval]))) (ints_oneCell _) (by unfold maxLen; omega) (by omega) ?_; intro a6 c6 w6 ho6 hg6 hf6
                     have hk6 : Chg [] wr w6 := Chg.trans' (by with_reducible (repeat (first | exact Chg.refl _ _ | assumption | apply Chg.drew | apply Chg.alloc))) hg6 (fun b hb => .inr (hb5 b (by simpa using hb)))
                     have hb6 : ∀ b ∈ abl a6, wr.heap.size ≤ b := fun b hb => by
                       have := hk5.size
                       rcases hf6 b hb with h | h
                       · exact hb5 b (by simpa using h)
                       · first | (simp at h; omega) | omega)
                  | (refine step_append_src rfl (.tmp 47) (.tmp 50) 61 61 rfl 2 _ 1 8 under_ints info_i64 rfl (by decide) (.slice a6 (1) c6) (1) (ints [] ++ ints [p]) rfl ho6 _ (0) (ints []) rfl (Src.of_rd under_ints (rd2.chg hk6 (by simp))) (ints_oneCell _) (by unfold maxLen; omega) (by omega) ?_; intro a7 c7 w7 ho7 hg7 hf7
                     have hk7 : Chg [] wr w7 := Chg.trans' hk6 hg7 (fun b hb => .inr (hb6 b (by simpa using hb)))
                     have hb7 : ∀ b ∈ abl a7, wr.heap.size ≤ b := fun b hb => by
                       have := hk6.size
                       rcases hf7 b hb with h | h
                       · exact hb6 b (by simpa using h)
                       · omega))
                all_goals
                  go_wp2
                  exact ⟨⟨k + 1, put1 [] p, a7, c7, by omega, by go_num, by rw [HLN.out], Lib.hid (by rw [HS.out, ← HF.out]), Lib.hid (by have := HLN.out; have := hFk.out; omega), Lib.hid (put1_up HU.out p), by rw [HLN.out, HPUT.out]; simpa [ints_append, ints] using ho7, hch.trans hk7, fun b hb => by have := hb7 b hb; omega⟩, by simp [intOf]; omega⟩
              · simp only [Value.slice.injEq, true_and] at hv1
                obtain ⟨rfl, rfl⟩ := hv1
                by_cases hcu : c3 = F.length
                · subst hcu
                  have HPUT := Lib.hid (show put1 F p = F ++ [p] from by rw [put1, hue.out]; simp)
                  have HLN := Lib.hid (show (put1 F p).length = F.length + 1 from by rw [HPUT.out]; simp)
                  have hz := hue.out
                  clear hjl hju hjd hU3 hj HP
                  rw [hz]
                  go_wp2
                  have rd1 := ho.rd
                  have rd2 : Rd wr 1 (.slice (some ⟨g, o2, none⟩) 0 0) 0 (ints []) := ⟨rfl, _, _, rfl, .inl rfl⟩
                  have RDii : Rd ((wr.alloc (.cells #[] 2)).alloc (.cells #[.int .i64 p] 2)) 1 (.slice (some ⟨wr.heap.size + 1, 0, none⟩) 1 1) 1 (ints [p]) := by
                    have := Rd.lit1 (wr.alloc (.cells #[] 2)) (.int .i64 p) 2 1
                    simpa [ints] using this
                  have RDiii : Rd (wr.alloc (.cells #[.int .i64 p] 2)) 1 (.slice (some ⟨wr.heap.size, 0, none⟩) 1 1) 1 (ints [p]) := Rd.lit1 wr (.int .i64 p) 2 1
                  have OWiii : Own ((wr.alloc (.cells #[.int .i64 p] 2)).alloc (.cells #[] 2)) 2 1 (.slice (some ⟨wr.heap.size + 1, 0, none⟩) 0 0) 0 [] := by
                    have := Own.lit (wr.alloc (.cells #[.int .i64 p] 2)) 2 1 0 #[] rfl (by decide)
                    simpa using this
                  go_region_law (first
                    | (refine step_append_src rfl (.tmp 40) (.tmp 43) 61 61 rfl 2 _ 1 8 under_ints info_i64 rfl (by decide) _ 0 [] rfl (by first | exact (Own.lit wr 2 1 0 #[] rfl (by decide)).drew | exact ((Own.lit wr 2 1 0 #[] rfl (by decide)).alloc _).drew | exact OWiii.drew) _ (F.length) (ints F) rfl (Src.of_rd under_ints (rd1.chg (F := []) (by with_reducible (repeat (first | exact Chg.refl _ _ | assumption | apply Chg.drew | apply Chg.alloc))) (by simp))) (ints_oneCell _) (by unfold maxLen; omega) (by omega) ?_; intro a5 c5 w5 ho5 hg5 hf5
                       have ho5' : Own w5 2 1 (.slice a5 F.length c5) (F.length) (ints F) := by simpa using ho5
                       have hk5 : Chg [] wr w5 := Chg.trans' (by with_reducible (repeat (first | exact Chg.refl _ _ | assumption | apply Chg.drew | apply Chg.alloc))) hg5 (fun b hb => .inr (by simp [Act.eval] at hb; omega))
                       have hb5 : ∀ b ∈ abl a5, wr.heap.size ≤ b := fun b hb => by rcases hf5 b hb with h | h <;> (simp [Act.eval] at h; omega))
                    | (refine step_append_src rfl (.tmp 44) (.tmp 46) 61 61 rfl 2 _ 1 8 under_ints info_i64 rfl (by decide) (.slice a5 F.length c5) (F.length) (ints F) rfl (by first | exact ho5' | exact ho5'.alloc _) _ 1 (ints [p]) rfl (Src.of_rd under_ints (by first | exact Rd.lit1 w5 (.int .i64 p) 2 1 | exact Rd.chg (Rd.chg (F := []) RDii (by with_reducible (repeat (first | exact Chg.refl _ _ | assumption | apply Chg.drew | apply Chg.alloc))) (by simp)) hg5 (by simp [Act.eval]) | exact Rd.chg (Rd.chg (F := []) RDiii (by with_reducible (repeat (first | exact Chg.refl _ _ | assumption | apply Chg.drew | apply Chg.alloc))) (by simp)) hg5 (by simp [Act.eval]))) (ints_oneCell _) (by unfold maxLen; omega) (by omega) ?_; intro a6 c6 w6 ho6 hg6 hf6
                       have hk6 : Chg [] wr w6 := Chg.trans' (by with_reducible (repeat (first | exact Chg.refl _ _ | assumption | apply Chg.drew | apply Chg.alloc))) hg6 (fun b hb => .inr (hb5 b (by simpa using hb)))
                       have hb6 : ∀ b ∈ abl a6, wr.heap.size ≤ b := fun b hb => by
                         have := hk5.size
                         rcases hf6 b hb with h | h
                         · exact hb5 b (by simpa using h)
                         · first | (simp at h; omega) | omega)
                    | (refine step_append_src rfl (.tmp 47) (.tmp 50) 61 61 rfl 2 _ 1 8 under_ints info_i64 rfl (by decide) (.slice a6 (F.length + 1) c6) (F.length + 1) (ints F ++ ints [p]) rfl ho6 _ (0) (ints []) rfl (Src.of_rd under_ints (rd2.chg hk6 (by simp))) (ints_oneCell _) (by unfold maxLen; omega) (by omega) ?_; intro a7 c7 w7 ho7 hg7 hf7
                       have hk7 : Chg [] wr w7 := Chg.trans' hk6 hg7 (fun b hb => .inr (hb6 b (by simpa using hb)))
                       have hb7 : ∀ b ∈ abl a7, wr.heap.size ≤ b := fun b hb => by
                         have := hk6.size
                         rcases hf7 b hb with h | h
                         · exact hb6 b (by simpa using h)
                         · omega))
                  all_goals
                    go_wp2
                    exact ⟨⟨k + 1, put1 F p, a7, c7, by omega, by go_num, by rw [HLN.out], Lib.hid (by rw [HS.out, ← HF.out]), Lib.hid (by have := HLN.out; have := hFk.out; omega), Lib.hid (put1_up HU.out p), by rw [HLN.out, HPUT.out]; simpa [ints_append, ints] using ho7, hch.trans hk7, fun b hb => by have := hb7 b hb; omega⟩, by simp [intOf]; omega⟩
                · have hue2 := hue.out
                  have hcu : ¬ (c3 = upL F p) := by omega
                  have huc : upL F p ≤ c3 := by omega
                  clear hue2
                  go_wp2
                  have hu0 : (0 : Int) ≤ ((upL F p : Nat) : Int) := by omega
                  have hul : ((upL F p : Nat) : Int) ≤ (F.length : Int) := by omega
                  have rd1 : Rd wr 1 (.slice (some ⟨g, o2, none⟩) (upL F p) c3) (upL F p) (ints (F.take (upL F p))) := ⟨by rw [ints_length, List.length_take]; omega, _, _, rfl, .inr ⟨_, _, rfl, fun j hj => by
                    rw [ho.cells j (by omega), ints_take _ _ _ (by omega)]⟩⟩
                  have rd2 : Rd wr 1 (.slice (some ⟨g, o2 + upL F p, none⟩) (F.length - upL F p) (c3 - upL F p)) (F.length - upL F p) (ints (F.drop (upL F p))) := ⟨by rw [ints_length, List.length_drop]; omega, _, _, rfl, .inr ⟨_, _, rfl, fun j hj => by
                    rw [Nat.add_assoc, ho.cells (upL F p + j) (by omega), ints_drop]⟩⟩
                  generalize hu : upL F p = u at *
                  have HPUT := Lib.hid (show put1 F p = F.take u ++ [p] ++ F.drop u from by rw [put1, hu])
                  have HLN := Lib.hid (show (put1 F p).length = u + 1 + (F.length - u) from by rw [HPUT.out]; simp; omega)
                  have RDii : Rd ((wr.alloc (.cells #[] 2)).alloc (.cells #[.int .i64 p] 2)) 1 (.slice (some ⟨wr.heap.size + 1, 0, none⟩) 1 1) 1 (ints [p]) := by
                    have := Rd.lit1 (wr.alloc (.cells #[] 2)) (.int .i64 p) 2 1
                    simpa [ints] using this
                  have RDiii : Rd (wr.alloc (.cells #[.int .i64 p] 2)) 1 (.slice (some ⟨wr.heap.size, 0, none⟩) 1 1) 1 (ints [p]) := Rd.lit1 wr (.int .i64 p) 2 1
                  have OWiii : Own ((wr.alloc (.cells #[.int .i64 p] 2)).alloc (.cells #[] 2)) 2 1 (.slice (some ⟨wr.heap.size + 1, 0, none⟩) 0 0) 0 [] := by
                    have := Own.lit (wr.alloc (.cells #[.int .i64 p] 2)) 2 1 0 #[] rfl (by decide)
                    simpa using this
                  go_region_law (first
                    | (refine step_append_src rfl (.tmp 40) (.tmp 43) 61 61 rfl 2 _ 1 8 under_ints info_i64 rfl (by decide) _ 0 [] rfl (by first | exact (Own.lit wr 2 1 0 #[] rfl (by decide)).drew | exact ((Own.lit wr 2 1 0 #[] rfl (by decide)).alloc _).drew | exact OWiii.drew) _ u (ints (F.take u)) rfl (Src.of_rd under_ints (rd1.chg (F := []) (by with_reducible (repeat (first | exact Chg.refl _ _ | assumption | apply Chg.drew | apply Chg.alloc))) (by simp))) (ints_oneCell _) (by unfold maxLen; omega) (by omega) ?_; intro a5 c5 w5 ho5 hg5 hf5
                       have ho5' : Own w5 2 1 (.slice a5 u c5) u (ints (F.take u)) := by simpa using ho5
                       have hk5 : Chg [] wr w5 := Chg.trans' (by with_reducible (repeat (first | exact Chg.refl _ _ | assumption | apply Chg.drew | apply Chg.alloc))) hg5 (fun b hb => .inr (by simp [Act.eval] at hb; omega))
                       have hb5 : ∀ b ∈ abl a5, wr.heap.size ≤ b := fun b hb => by rcases hf5 b hb with h | h <;> (simp [Act.eval] at h; omega))
                    | (refine step_append_src rfl (.tmp 44) (.tmp 46) 61 61 rfl 2 _ 1 8 under_ints info_i64 rfl (by decide) (.slice a5 u c5) u (ints (F.take u)) rfl (by first | exact ho5' | exact ho5'.alloc _) _ 1 (ints [p]) rfl (Src.of_rd under_ints (by first | exact Rd.lit1 w5 (.int .i64 p) 2 1 | exact Rd.chg (Rd.chg (F := []) RDii (by with_reducible (repeat (first | exact Chg.refl _ _ | assumption | apply Chg.drew | apply Chg.alloc))) (by simp)) hg5 (by simp [Act.eval]) | exact Rd.chg (Rd.chg (F := []) RDiii (by with_reducible (repeat (first | exact Chg.refl _ _ | assumption | apply Chg.drew | apply Chg.alloc))) (by simp)) hg5 (by simp [Act.eval]))) (ints_oneCell _) (by unfold maxLen; omega) (by omega) ?_; intro a6 c6 w6 ho6 hg6 hf6
                       have hk6 : Chg [] wr w6 := Chg.trans' (by with_reducible (repeat (first | exact Chg.refl _ _ | assumption | apply Chg.drew | apply Chg.alloc))) hg6 (fun b hb => .inr (hb5 b (by simpa using hb)))
                       have hb6 : ∀ b ∈ abl a6, wr.heap.size ≤ b := fun b hb => by
                         have := hk5.size
                         rcases hf6 b hb with h | h
                         · exact hb5 b (by simpa using h)
                         · first | (simp at h; omega) | omega)
                    | (refine step_append_src rfl (.tmp 47) (.tmp 50) 61 61 rfl 2 _ 1 8 under_ints info_i64 rfl (by decide) (.slice a6 (u + 1) c6) (u + 1) (ints (F.take u) ++ ints [p]) rfl ho6 _ (F.length - u) (ints (F.drop u)) rfl (Src.of_rd under_ints (rd2.chg hk6 (by simp))) (ints_oneCell _) (by unfold maxLen; omega) (by omega) ?_; intro a7 c7 w7 ho7 hg7 hf7
                       have hk7 : Chg [] wr w7 := Chg.trans' hk6 hg7 (fun b hb => .inr (hb6 b (by simpa using hb)))
                       have hb7 : ∀ b ∈ abl a7, wr.heap.size ≤ b := fun b hb => by
                         have := hk6.size
                         rcases hf7 b hb with h | h
                         · exact hb6 b (by simpa using h)
                         · omega))
                  all_goals
                    go_wp2
                    exact ⟨⟨k + 1, put1 F p, a7, c7, by omega, by go_num, by rw [HLN.out], Lib.hid (by rw [HS.out, ← HF.out]), Lib.hid (by have := HLN.out; have := hFk.out; omega), Lib.hid (put1_up HU.out p), by rw [HLN.out, HPUT.out]; simpa [ints_append, ints] using ho7, hch.trans hk7, fun b hb => by have := hb7 b hb; omega⟩, by simp [intOf]; omega⟩
      · obtain rfl : k = l.length := by omega
        rw [List.take_length] at HF
        have hFw : F = ws := by rw [HF.out, HWS.out]
        have HO := Lib.hid (show Own wr 2 1 (.slice a3 F.length c3) F.length (ints F) from ho)
        have HFW := Lib.hid hFw
        have hFl : F.length ≤ 16 := by have := hFk.out; omega
        have HCR := Lib.hid (HCI.out.trans hch)
        have HGR := Lib.hid (HGW.out.chg hch (by simp))
        have hsI := HCI.out.size
        have HAB := Lib.hid (show ∀ b ∈ abl a3, wI.heap.size ≤ b from fun b hb => by have := hab b hb; omega)
        clear hFw ho hch HF hFk HU HR hab c3'
        go_wp2_with fail
        go_loopw [55] (fun i wx => ∃ (j : Nat) (sv' : Value), j ≤ F.length ∧ i = .int .i64 (j : Nat) ∧ RG wx sp sv' (.slice wo l.length wc0) ⟨D.num, D.den, insAll D.row (ws.take j), D.vals, D.waits⟩ ∧ Own wx 2 1 (.slice a3 F.length c3) F.length (ints F) ∧ Chg [sp] wI wx ∧ ∀ b ∈ blkOf sv', b ∈ blkOf sv ∨ wI.heap.size ≤ b) (fun i _ => F.length - (intOf i).toNat)
        case atStart => exact ⟨0, sv, Nat.zero_le _, rfl, HGR.out, HO.out, HCR.out.nil, fun b hb => .inl hb⟩
        case round =>
          clear HO HGR
          obtain ⟨j, sv', hj, rfl, hgk, hof, hchS, hsvf⟩ := hrel
          obtain ⟨e0, e1, e2, e3⟩ := hgk.cells
          have f2 := hgk.blk.free 2
          by_cases hjl : j < F.length
          · have hjw : j < ws.length := by rw [← HFW.out]; exact hjl
            obtain ⟨g, o, rfl, hcs⟩ := hof.rd.addr (by omega)
            have y0 := ints_at (l := F) (fun j hj => hcs j hj) j hjl
            have HST := Lib.hid (show insAll D.row (ws.take (j + 1)) = ins1 (insAll D.row (ws.take j)) F[j] from by rw [insAll_step D.row ws j hjw]; congr 1; simp only [HFW.out])
            obtain ⟨hf1, hf2⟩ := HFP.out j
            obtain ⟨ro, rc, hrv⟩ := hgk.spots.shape
            subst hrv
            have hin := hf1.fine
            have hal : (D.vals ++ ws.take j).length = D.vals.length + j := by simp; omega
            simp only [hal] at hin hf1
            have hle := hf1.len
            simp only at hle
            have hsl : (spF 0 (insAll D.row (ws.take j))).length = (insAll D.row (ws.take j)).length := spF_len 0 _
            have hbd : ∀ s ∈ spF 0 (insAll D.row (ws.take j)), s.lo ≤ 4611686018427387904 ∧ s.hi ≤ 4611686018427387904 := fun s hs => by
              have h1 := hin.high s hs
              have h2 := (spF_ge 0 _ s hs).2
              omega
            have hgs := hgk.spots
            have hcap : (insAll D.row (ws.take j)).length ≤ rc := Own.le_cap' hgs
            have HIN := Lib.hid (ref18_insert wr ro rc (spF 0 (insAll D.row (ws.take j))) F[j] (spF_sorted 0 hin.up) (by rw [hsl]; exact hgs.rd) (by rw [hsl]; exact hcap) (by rw [hsl]; omega) hbd)
            rw [upSp_spF, ← insert_same _ _ _ (upT_le _ _) hin.pos, hsl] at HIN
            rw [show insT (insAll D.row (ws.take j)) F[j] (upT (insAll D.row (ws.take j)) F[j]) = insAll D.row (ws.take (j + 1)) from HST.out.symm] at HIN
            have HLI := Lib.hid (show (insAll D.row (ws.take (j + 1))).length = (insAll D.row (ws.take j)).length + 1 from by rw [HST.out]; exact insT_len _ _ _ (upT_le _ _))
            obtain ⟨n0, hn0⟩ : ∃ n, n = (insAll D.row (ws.take j)).length := ⟨_, rfl⟩
            have e2' : wr.cell? ⟨sp, 2, none⟩ = some (.slice ro n0 rc) := by rw [hn0]; exact e2
            rw [← hn0] at HIN HLI
            have HGK := Lib.hid hgk
            have HOF := Lib.hid hof
            have HCS := Lib.hid hchS
            have HSF := Lib.hid hsvf
            clear hcs hf1 hf2 hin hle hal e2 hn0 hsl hbd hgs hcap hgk hof hchS hsvf HST
            generalize F[j] = y at *
            go_wp2_with fail
            refine HIN.out.mono ?_
            rintro e w3 ⟨a5, c5, rfl, ho5, hc5, hf5⟩
            have hb5 := HGK.out.blk.chg hc5 (by simp)
            have f25 := hb5.free 2
            have c25 := hb5.cell 2
            simp only [List.getElem?_toArray, List.getElem?_cons_zero, List.getElem?_cons_succ] at c25
            have HN1 := Lib.hid (HGK.out.spots' (w1 := w3) (sv2 := .slice a5 (n0 + 1) c5) (r := insAll D.row (ws.take (j + 1))) (E := ⟨D.num, D.den, insAll D.row (ws.take (j + 1)), D.vals, D.waits⟩) hc5 (by rw [HLI.out]; exact ho5) ⟨rfl, rfl, rfl, rfl⟩)
            have k2 : Chg [sp] w3 (w3.setCell ⟨sp, 2, none⟩ (.slice a5 (n0 + 1) c5)) := (Chg.refl _ w3).setCell (a := ⟨sp, 2, none⟩) (.inl (by simp)) _
            have hspo : sp ∉ blkOf (.slice (some ⟨g, o, none⟩) F.length c3) := fun e => HOF.out.ne_blk HGK.out.blk (by decide) e
            have HN2 := Lib.hid ((HOF.out.chg hc5 (by simp)).chg k2 (fun b hb e => by simp only [List.mem_singleton] at e; subst e; exact hspo hb))
            have HN3 := Lib.hid ((HCS.out.trans hc5.nil).trans k2)
            have hs3 := HCS.out.size
            have HN4 := Lib.hid (show ∀ b ∈ blkOf (.slice a5 (n0 + 1) c5), b ∈ blkOf sv ∨ wI.heap.size ≤ b from fun b hb => .inr (by have := hf5 b (by simpa using hb); omega))
            clear ho5 hc5 hf5 k2 hspo
            go_wp2_with fail
            exact ⟨⟨j + 1, _, by omega, by go_num, HN1.out, HN2.out, HN3.out, HN4.out⟩, by simp [intOf]; omega⟩
          · obtain rfl : j = F.length := by omega
            have htk : ws.take F.length = ws := List.take_of_length_le (by rw [HFW.out]; omega)
            rw [htk] at hgk
            have hf := (HFP.out F.length).1
            rw [htk] at hf
            have f3 := hgk.blk.free 3
            have HGN := Lib.hid (hgk.nowait (E := ⟨D.num, D.den, insAll D.row ws, D.vals ++ ws, []⟩) ⟨rfl, rfl, rfl, rfl⟩)
            have HCN := Lib.hid (hchS.setCell (a := ⟨sp, 3, none⟩) (.inl (by simp)) (.slice none 0 0))
            have HSF := Lib.hid hsvf
            have HFF := Lib.hid hf
            have hlenf : (insAll D.row ws).length ≤ 30000 := by
              have h1 := hf.len
              simp only [List.length_append] at h1
              have := HWL.out
              omega
            clear hgk hof hchS hsvf hf e0 e1 e2 htk
            go_wp2_with fail
            generalize wr.setCell ⟨sp, 3, none⟩ (.slice none 0 0) = w5 at *
            obtain ⟨e0, e1, e2, e3'⟩ := HGN.out.cells
            obtain ⟨ro, rc, hrv⟩ := HGN.out.spots.shape
            subst hrv
            obtain ⟨n0, hn0⟩ : ∃ n, n = (insAll D.row ws).length := ⟨_, rfl⟩
            have e2' : w5.cell? ⟨sp, 2, none⟩ = some (.slice ro n0 rc) := by rw [hn0]; exact e2
            have hsl : (spF 0 (insAll D.row ws)).length = n0 := by rw [hn0]; exact spF_len 0 _
            have HSQ := Lib.hid (fun u (hu : Chg [] w5 u) => ref18_squeeze u ro rc (spF 0 (insAll D.row ws)) n0 L hsl.symm (spF_pw 0 _) (by have h := (HGN.out.spots.chg hu (by simp)).rd; rw [hn0]; exact h) (by omega) (fun s hs => by
              have h1 := HFF.out.fine.high s hs
              have h2 : (D.vals ++ ws).length ≤ 30000 := by rw [List.length_append]; have := HWL.out; omega
              simp only at h1
              omega))
            rw [← squeeze_same, spF_len] at HSQ
            have hS0 : w5.cell? ⟨sp, 2, none⟩ = some (.slice ro n0 rc) ∧ w5.cell? ⟨sp, 0, none⟩ = some (.int .u64 (D.num : Nat)) ∧ w5.cell? ⟨sp, 1, none⟩ = some (.int .u64 (D.den : Nat)) := ⟨e2', e0, e1⟩
            clear e2 hn0 e0 e1 e2' e3 e3' f2 f3 hlenf hsl
            refine startG (S := fun wx => wx.cell? ⟨sp, 2, none⟩ = some (.slice ro n0 rc) ∧ wx.cell? ⟨sp, 0, none⟩ = some (.int .u64 (D.num : Nat)) ∧ wx.cell? ⟨sp, 1, none⟩ = some (.int .u64 (D.den : Nat))) (st := 14) (by kernel_rfl) hS0 (fun hHeld => ?_)
            refine takeP (i := 0) (v := ?vz0) rfl (by kernel_rfl) (by kernel_rfl) (by kernel_rfl) (by decide) (fun _ _ _ h => h) (Or.inl ⟨by rfl, ?yz0⟩) hS0 ?rz0
            case yz0 => (intro w _; go_simp; first | done | with_reducible rfl)
            try simp only [Act.put, List.setIfInBounds_toArray, List.set_cons_zero, List.set_cons_succ]
            refine takeP (i := 1) (v := ?vz1) rfl (by kernel_rfl) (by kernel_rfl) (by kernel_rfl) (by decide) (fun _ _ _ h => h) (Or.inl ⟨by rfl, ?yz1⟩) hS0 ?rz1
            case yz1 => (intro w _; go_simp; first | done | with_reducible rfl)
            try simp only [Act.put, List.setIfInBounds_toArray, List.set_cons_zero, List.set_cons_succ]
            refine takeP (i := 2) (v := ?vz2) rfl (by kernel_rfl) (by kernel_rfl) (by kernel_rfl) (by decide) (fun _ _ _ h => h) (Or.inl ⟨by rfl, ?yz2⟩) hS0 ?rz2
            case yz2 => (intro w _; go_simp; first | done | with_reducible rfl)
            try simp only [Act.put, List.setIfInBounds_toArray, List.set_cons_zero, List.set_cons_succ]
            refine takeP (i := 3) (v := ?vz3) rfl (by kernel_rfl) (by kernel_rfl) (by kernel_rfl) (by decide) (fun _ _ _ h => h) (Or.inl ⟨by rfl, ?yz3⟩) hS0 ?rz3
            case yz3 => (intro w _; go_simp; first | done | with_reducible rfl)
            try simp only [Act.put, List.setIfInBounds_toArray, List.set_cons_zero, List.set_cons_succ]
            refine takeG (i := 4) (v := ?vz4) rfl (by kernel_rfl) (by kernel_rfl) (by kernel_rfl) (by decide) (by kernel_rfl) (by kernel_rfl) (fun _ _ _ h => h) (Or.inl ⟨by rfl, ?yz4⟩) hS0 ?rz4
            case yz4 => (intro w hSw; (try dsimp only at hSw); go_simp; first | done | with_reducible rfl)
            try simp only [Act.put, List.setIfInBounds_toArray, List.set_cons_zero, List.set_cons_succ]
            refine takeP (i := 5) (v := ?vz5) rfl (by kernel_rfl) (by kernel_rfl) (by kernel_rfl) (by decide) (fun _ _ _ h => h) (Or.inl ⟨by rfl, ?yz5⟩) hS0 ?rz5
            case yz5 => (intro w _; go_simp; first | done | with_reducible rfl)
            try simp only [Act.put, List.setIfInBounds_toArray, List.set_cons_zero, List.set_cons_succ]
            refine takeP (i := 6) (v := ?vz6) rfl (by kernel_rfl) (by kernel_rfl) (by kernel_rfl) (by decide) (fun _ _ _ h => h) (Or.inl ⟨by rfl, ?yz6⟩) hS0 ?rz6
            case yz6 => (intro w _; go_simp; first | done | with_reducible rfl)
            try simp only [Act.put, List.setIfInBounds_toArray, List.set_cons_zero, List.set_cons_succ]
            refine takeP (i := 7) (v := ?vz7) rfl (by kernel_rfl) (by kernel_rfl) (by kernel_rfl) (by decide) (fun _ _ _ h => h) (Or.inl ⟨by rfl, ?yz7⟩) hS0 ?rz7
            case yz7 => (intro w _; go_simp; first | done | with_reducible rfl)
            try simp only [Act.put, List.setIfInBounds_toArray, List.set_cons_zero, List.set_cons_succ]
            refine takeG (i := 8) (v := ?vz8) rfl (by kernel_rfl) (by kernel_rfl) (by kernel_rfl) (by decide) (by kernel_rfl) (by kernel_rfl) (fun _ _ _ h => h) (Or.inl ⟨by rfl, ?yz8⟩) hS0 ?rz8
            case yz8 => (intro w hSw; (try dsimp only at hSw); go_simp; first | done | with_reducible rfl)
            try simp only [Act.put, List.setIfInBounds_toArray, List.set_cons_zero, List.set_cons_succ]
            refine takeP (i := 9) (v := ?vz9) rfl (by kernel_rfl) (by kernel_rfl) (by kernel_rfl) (by decide) (fun _ _ _ h => h) (Or.inl ⟨by rfl, ?yz9⟩) hS0 ?rz9
            case yz9 => (intro w _; go_simp; first | done | with_reducible rfl)
            try simp only [Act.put, List.setIfInBounds_toArray, List.set_cons_zero, List.set_cons_succ]
            refine readyG (rs := [10]) (by kernel_rfl) (by simp) (consG rfl (fun K hK => ?_) nilG)
            refine step_calls rfl 67 _ _ rfl enters_rlimit _ #[.agg #[.int .u64 (D.num : Nat), .int .u64 (D.den : Nat)], .int .u64 (N : Nat)] (by simp [Act.eval, Act.put]) (HLT.out _) ?_; rintro e w6 ⟨rfl, hc6⟩; refine ⟨_, rfl, ?_⟩
            have H56 := Lib.hid (((Chg.refl [] w5).drew).trans hc6)
            have hS6 : w6.cell? ⟨sp, 2, none⟩ = some (.slice ro n0 rc) ∧ w6.cell? ⟨sp, 0, none⟩ = some (.int .u64 (D.num : Nat)) ∧ w6.cell? ⟨sp, 1, none⟩ = some (.int .u64 (D.den : Nat)) := ⟨H56.out.cell hS0.1 (by simp), H56.out.cell hS0.2.1 (by simp), H56.out.cell hS0.2.2 (by simp)⟩
            clear hc6
            refine hK.out _ _ (fun _ _ => hS6) (fun hHeld => ?_)
            clear hK K hHeld
            try simp only [Act.put, List.setIfInBounds_toArray, List.set_cons_zero, List.set_cons_succ]
            refine readyG (rs := [11]) (by kernel_rfl) (by simp) (consG rfl (fun K hK => ?_) nilG)
            refine step_calls rfl 65 _ _ rfl enters_rsqueeze _ #[.slice ro n0 rc, .int .u64 (L : Nat)] (by simp [Act.eval, Act.put]) (HSQ.out w6 H56.out) ?_; rintro e w7 ⟨a7, c7, rfl, ho7, hc7, hf7⟩; refine ⟨_, rfl, ?_⟩
            have HO7 := Lib.hid ho7
            have H57 := Lib.hid (H56.out.trans hc7)
            have HF7 := Lib.hid (show ∀ b ∈ abl a7, w5.heap.size ≤ b from fun b hb => Nat.le_trans H56.out.size (hf7 b hb))
            have hS7 : w7.cell? ⟨sp, 2, none⟩ = some (.slice ro n0 rc) ∧ w7.cell? ⟨sp, 0, none⟩ = some (.int .u64 (D.num : Nat)) ∧ w7.cell? ⟨sp, 1, none⟩ = some (.int .u64 (D.den : Nat)) := ⟨hc7.cell hS6.1 (by simp), hc7.cell hS6.2.1 (by simp), hc7.cell hS6.2.2 (by simp)⟩
            have f7 := (HGN.out.blk.chg H57.out (by simp)).free 2
            clear ho7 hc7 hf7
            refine hK.out _ _ (fun _ _ => hS7) (fun hHeld => ?_)
            clear hK K hHeld
            try simp only [Act.put, List.setIfInBounds_toArray, List.set_cons_zero, List.set_cons_succ]
            refine takeP (i := 12) (v := ?vz12) rfl (by kernel_rfl) (by kernel_rfl) (by kernel_rfl) (by decide) (fun _ _ _ h => h) (Or.inl ⟨by rfl, ?yz12⟩) hS7 ?rz12
            case yz12 => (intro w _; go_simp; first | done | with_reducible rfl)
            try simp only [Act.put, List.setIfInBounds_toArray, List.set_cons_zero, List.set_cons_succ]
            refine takeP (i := 13) (v := ?vz13) rfl (by kernel_rfl) (by kernel_rfl) (by kernel_rfl) (by decide) (fun _ _ _ h => h) (Or.inl ⟨by rfl, ?yz13⟩) hS7 ?rz13
            case yz13 => (intro w _; go_simp; first | done | with_reducible rfl)
            try simp only [Act.put, List.setIfInBounds_toArray, List.set_cons_zero, List.set_cons_succ]
            refine readyG (rs := [14]) (by kernel_rfl) (by simp) (consG rfl (fun K hK => ?_) nilG)
            go_simp
            refine hK.out _ _ (fun h => absurd rfl h) (fun hHeld => ?_)
            clear hK K hHeld
            try simp only [Act.put, List.setIfInBounds_toArray, List.set_cons_zero, List.set_cons_succ]
            refine doneG (by kernel_rfl) ?_ _
            have HR1 := Lib.hid (HGN.out.spots' (w1 := w7) (sv2 := .slice a7 (sqT L (insAll D.row ws)).length c7) (r := sqT L (insAll D.row ws)) (E := ⟨D.num, D.den, sqT L (insAll D.row ws), D.vals ++ ws, []⟩) H57.out HO7.out ⟨rfl, rfl, rfl, rfl⟩)
            have hsz5 := HCN.out.size
            have HR2 := Lib.hid ((HCN.out.trans (Chg.nil H57.out)).setCell (a := ⟨sp, 2, none⟩) (.inl (by simp)) (.slice a7 (sqT L (insAll D.row ws)).length c7))
            go_end0
            rw [HFL.out]
            exact ⟨rfl, _, _, HR1.out, HR2.out, fun b hb => .inr (by have := HF7.out b (by simpa using hb); omega), by simp⟩
end Go.Proofs.Ytkcldhimjnehdaa

namespace Go.Proofs.Ytkcldhimjnehdaa
open Go.RowKit

theorem RG.add {w w1 : World} {p : Nat} {sv wv wv2 : Value} {D : GkD} {x : Int} (h : RG w p sv wv D) (k : Chg (blkOf wv) w w1) (ho : Own w1 2 1 wv2 (D.waits.length + 1) (ints D.waits ++ ints [x])) (hf : ∀ b ∈ blkOf wv2, b ∈ blkOf wv ∨ w.heap.size ≤ b) :
    RG (w1.setCell ⟨p, 3, none⟩ wv2) p sv wv2 (D.wait x) ∧ Mv (fpS p sv wv) w (fpS p sv wv2) (w1.setCell ⟨p, 3, none⟩ wv2) := by
  have hb := h.blk.chg k h.p_wv
  have k2 : Chg [p] w1 (w1.setCell ⟨p, 3, none⟩ wv2) := (Chg.refl _ w1).setCell (a := ⟨p, 3, none⟩) (.inl (by simp)) _
  have hw1 := h.spots.chg k (fun b hb e => h.sv_wv b hb e)
  refine ⟨⟨?_, ?_, ?_⟩, ?_, ?_⟩
  · exact hb.setCell 3 wv2
  · exact hw1.chg k2 (fun b hb2 e => by simp at e; subst e; exact h.p_sv hb2)
  · have e1 : (D.wait x).waits.length = D.waits.length + 1 := by simp [GkD.wait]
    have e2 : ints (D.wait x).waits = ints D.waits ++ ints [x] := by simp [GkD.wait, ints]
    rw [e1, e2]
    exact ho.chg k2 (fun b hb2 e => by simp at e; subst e; exact ho.ne_blk hb (by decide) hb2)
  · exact (k.mono (F1 := fpS p sv wv) (fun b hb => .inl (by simp [fpS, hb]))).setCell (a := ⟨p, 3, none⟩) (.inl (by simp [fpS])) _
  · intro b hb2
    simp only [fpS, List.mem_cons, List.mem_append] at hb2 ⊢
    rcases hb2 with rfl | hb2 | hb2
    · exact .inl (.inl rfl)
    · exact .inl (.inr (.inl hb2))
    · rcases hf b hb2 with h1 | h1
      · exact .inl (.inr (.inr h1))
      · exact .inr h1
theorem RG.mv {w w1 : World} {p : Nat} {sv wv sv' wv' : Value} (k : Chg [p] w w1) (h1 : ∀ b ∈ blkOf sv', b ∈ blkOf sv ∨ w.heap.size ≤ b) (h2 : ∀ b ∈ blkOf wv', b ∈ blkOf wv) : Mv (fpS p sv wv) w (fpS p sv' wv') w1 :=
  ⟨k.mono (fun b hb => .inl (by simp at hb; subst hb; simp [fpS])), fun b hb => by
    simp only [fpS, List.mem_cons, List.mem_append] at hb ⊢
    rcases hb with rfl | hb | hb
    · exact .inl (.inl rfl)
    · rcases h1 b hb with h | h
      · exact .inl (.inr (.inl h))
      · exact .inr h
    · exact .inl (.inr (.inr (h2 b hb)))⟩

set_option maxRecDepth 100000 in
set_option maxHeartbeats 4000000 in
theorem ref19_put (w : World) (p : Nat) (sv wv : Value) (D : GkD) (h : RG w p sv wv D) (hok : D.ok) (hg : goodK D.num D.den = true) (x : Int) (n : Nat) (h2 : n ≤ 1024) (hn : D.total + n ≤ 30000) :
    Calls Try.prog 37 #[.pointer (some ⟨p, 0, none⟩), .int .i64 x, .int .i64 (n : Nat)] w fun e w' => e = .returned (.tuple #[]) ∧ ∃ sv' wv', RG w' p sv' wv' (D.putN x n) ∧ Mv (fpS p sv wv) w (fpS p sv' wv') w' := by
  have HG := Lib.hid h
  have HOK := Lib.hid (fun k => D.putN_same x k)
  have HOO := Lib.hid (fun k => GkD.putN_ok hok x k)
  have HGD := Lib.hid hg
  have HNT := Lib.hid hn
  clear h hok hg hn
  go_enter Try.func37, Try.ntmps37
  go_wp2_with fail
  go_loopw [6] (fun i wx => ∃ (k : Nat) (sv' wv' : Value), k ≤ n ∧ i = .int .i64 (k : Nat) ∧ RG wx p sv' wv' (D.putN x k) ∧ Mv (fpS p sv wv) w (fpS p sv' wv') wx) (fun i _ => n - (intOf i).toNat)
  case atStart => exact ⟨0, sv, wv, Nat.zero_le _, rfl, HG.out, Mv.refl _ _⟩
  case round =>
    clear HG
    obtain ⟨k, sv', wv', hk, rfl, hgk, hmv⟩ := hrel
    by_cases hlt : k < n
    · obtain ⟨c0, c1, c2, c3⟩ := hgk.cells
      obtain ⟨wo, wc, hwv⟩ := hgk.wait.shape
      have hS := HOK.out k
      have hO := HOO.out k
      have HPS := Lib.hid (show D.putN x (k + 1) = (D.putN x k).put1 x from rfl)
      have hTK : (D.putN x k).total ≤ 29999 := by have := HNT.out; omega
      generalize D.putN x k = Dk at *
      obtain ⟨m, hm⟩ : ∃ m, m = Dk.waits.length := ⟨_, rfl⟩
      subst hwv
      have hm16 : m < 16 := by have := hO.few; omega
      have hgw := hgk.wait
      have hgk' := hgk
      rw [← hm] at c3 hgw hgk'
      have HGK := Lib.hid hgk'
      have HMV := Lib.hid (show Mv (fpS p sv wv) w (fpS p sv' (.slice wo m wc)) wr from by have h := hmv; rw [← hm] at h; exact h)
      have HOW := Lib.hid hgw
      have HO := Lib.hid hO
      have HSD := Lib.hid hS
      have HM := Lib.hid hm
      have HTK := Lib.hid hTK
      have hrd : Rd (wr.alloc (.cells #[.int .i64 x] 2)) 1 (.slice (some ⟨wr.heap.size, 0, none⟩) 1 1) 1 (ints [x]) := Rd.lit1 wr (.int .i64 x) 2 1
      clear hgk hgk' hmv hgw hO hS hm hTK
      by_cases h16 : m + 1 = 16
      · have d3 : ((m : Int) + 1 == 16) = true := by rw [beq_iff_eq]; omega
        have HP1 := Lib.hid (show Dk.put1 x = (Dk.wait x).flush from by rw [GkD.put1, if_pos]; simp [GkD.wait]; have := HM.out; omega)
        clear h16
        go_wp2_with (at_builtin; go_must (refine wpList_append_src _ rfl (.tmp 16) (.tmp 18) 61 61 rfl 2 _ 1 8 under_ints info_i64 rfl (by decide) (.slice wo m wc) m (ints Dk.waits) rfl (HOW.out.alloc _) (.slice (some ⟨wr.heap.size, 0, none⟩) 1 1) 1 (ints [x]) rfl (Src.of_rd under_ints hrd) (ints_oneCell _) (by unfold maxLen; omega) (by omega) ?_; intro a5 c5 w7 ho7 hg7 hf7; have hgr : Chg (blkOf (.slice wo m wc)) wr w7 := ((Chg.refl (blkOf (.slice wo m wc)) wr).alloc (.cells #[.int .i64 x] 2)).trans' hg7 (fun b hb => .inl hb); have hb7 := HGK.out.blk.chg hgr HGK.out.p_wv; have f37 := hb7.free 3; have c37 : w7.cell? ⟨p, 3, none⟩ = some (.slice wo m wc) := hb7.cell 3))
        have hadd := HGK.out.add (x := x) hgr (wv2 := .slice a5 (m + 1) c5) (by have h := ho7; rw [HM.out] at h ⊢; exact h) (fun b hb => by
          rcases hf7 b (by simpa using hb) with h | h
          · exact .inl h
          · simp at h; exact .inr (by omega))
        have HA1 := Lib.hid hadd.1
        have HA2 := Lib.hid hadd.2
        clear hadd
        have hwl : (Dk.wait x).waits.length = m + 1 := by simp [GkD.wait, HM.out]
        refine (ref19_flush _ p sv' _ (Dk.wait x) HA1.out ⟨HO.out.fine, HO.out.placed, HO.out.len, by omega, HO.out.tight⟩ (by show goodK Dk.num Dk.den = true; rw [HSD.out.1, HSD.out.2.1]; exact HGD.out) (by
          have h := HTK.out
          have h3 : (Dk.wait x).total = Dk.total + 1 := by simp [GkD.wait, GkD.total]; omega
          omega)).mono ?_
        rintro e w8 ⟨rfl, sv8, wv8, hg8, hc8, hs8, hw8⟩
        have HG8 := Lib.hid hg8
        have HM8 := Lib.hid (HA2.out.trans (RG.mv hc8 hs8 hw8))
        clear hg8 hc8 hs8 hw8 hwl
        go_wp2_with fail
        exact ⟨⟨k + 1, _, _, by omega, by go_num, by rw [HPS.out, HP1.out]; exact HG8.out, HMV.out.trans HM8.out⟩, by simp [intOf]; omega⟩
      · have d3 : ((m : Int) + 1 == 16) = false := by rw [beq_eq_false_iff_ne]; omega
        have HP1 := Lib.hid (show Dk.put1 x = Dk.wait x from by rw [GkD.put1, if_neg]; simp [GkD.wait]; have := HM.out; omega)
        go_wp2_with (at_builtin; go_must (refine wpList_append_src _ rfl (.tmp 16) (.tmp 18) 61 61 rfl 2 _ 1 8 under_ints info_i64 rfl (by decide) (.slice wo m wc) m (ints Dk.waits) rfl (HOW.out.alloc _) (.slice (some ⟨wr.heap.size, 0, none⟩) 1 1) 1 (ints [x]) rfl (Src.of_rd under_ints hrd) (ints_oneCell _) (by unfold maxLen; omega) (by omega) ?_; intro a5 c5 w7 ho7 hg7 hf7; have hgr : Chg (blkOf (.slice wo m wc)) wr w7 := ((Chg.refl (blkOf (.slice wo m wc)) wr).alloc (.cells #[.int .i64 x] 2)).trans' hg7 (fun b hb => .inl hb); have hb7 := HGK.out.blk.chg hgr HGK.out.p_wv; have f37 := hb7.free 3; have c37 : w7.cell? ⟨p, 3, none⟩ = some (.slice wo m wc) := hb7.cell 3))
        have hadd := HGK.out.add (x := x) hgr (wv2 := .slice a5 (m + 1) c5) (by have h := ho7; rw [HM.out] at h ⊢; exact h) (fun b hb => by
          rcases hf7 b (by simpa using hb) with h | h
          · exact .inl h
          · simp at h; exact .inr (by omega))
        have HA1 := Lib.hid hadd.1
        have HA2 := Lib.hid hadd.2
        clear hadd
        exact ⟨⟨k + 1, _, _, by omega, by go_num, by rw [HPS.out, HP1.out]; exact HA1.out, HMV.out.trans HA2.out⟩, by simp [intOf]; omega⟩
    · obtain rfl : k = n := by omega
      have HE := Lib.hid hgk
      have HEM := Lib.hid hmv
      clear hgk hmv
      go_wp2_with fail
      go_end0
      exact ⟨rfl, _, _, HE.out, HEM.out⟩
end Go.Proofs.Ytkcldhimjnehdaa
