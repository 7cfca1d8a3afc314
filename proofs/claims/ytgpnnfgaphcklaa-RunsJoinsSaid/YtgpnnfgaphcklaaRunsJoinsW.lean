/-
  The walk of the law RunsJoins. Conditions: the form's own reach.
-/
import Derived.Test.YtgpnnfgaphcklaaRunsJoin
import Derived.Test.YtgpnnfgaphcklaaRefRuns
import Derived.Test.YtgpnnfgaphcklaaRefSame
namespace Go.Proofs.Ytgpnnfgaphcklaa
open Go.RowKit

theorem under_rows : Try.prog.underlying 89 = some (.slice 45) := by kernel_rfl
theorem info_row : (Try.prog.info? 45).map (fun i => (i.zero, i.size, i.bytes)) = some (some (.slice none 0 0), 1, 24) := by kernel_rfl
theorem rwV_oneCell (rs : List Rw) : ∀ y ∈ rwV rs, y.oneCell' = true := by
  intro y hy
  simp only [rwV, List.mem_map] at hy
  obtain ⟨u, _, rfl⟩ := hy
  rfl
def wasB (rs : List Rw) : List UInt8 := (rs.map fun r => putB r.l).flatten
theorem wasB_step (rs : List Rw) (k : Nat) (h : k < rs.length) : wasB (rs.take (k + 1)) = wasB (rs.take k) ++ putB rs[k].l := by
  rw [wasB, List.take_succ_eq_append_getElem h, List.map_append, List.flatten_append]
  simp only [List.map_cons, List.map_nil, List.flatten_cons, List.flatten_nil, List.append_nil]
  rfl
theorem putB_len2 (l : List Pr) (hok : ∀ p ∈ l, p.ok) (hl : l.length ≤ 40) : (putB l).length ≤ 810 := by
  have h1 := bodyTo_len l hok l.length (Nat.le_refl _)
  have h2 := natB_len10 (n := l.length) (by omega)
  rw [putB, List.length_append]
  omega
theorem rev_step (rs : List Rw) (k : Nat) (h : k < rs.length) : rs.reverse.take (k + 1) = rs.reverse.take k ++ [rs[rs.length - 1 - k]] := by
  rw [List.take_succ_eq_append_getElem (by simpa using h), List.getElem_reverse]
theorem flat_rev (rs : List Rw) : addAll (flatR rs.reverse) [] = addAll (flatR rs) [] := by
  rw [flatR, List.map_reverse, addAll_reverse]
  rfl

theorem runs_joinL (w : World) (ro : Option Addr) (rc : Nat) (rs : List Rw) (n : Nat) (hn : n = rs.length) (L : List Pr) (hL : addAll (flatR rs) [] = L) (hr : Rd w 1 (.slice ro n rc) n (rwV rs)) (hin : ∀ r ∈ rs, Rd w 2 r.v r.l.length (prCells r.l)) (hc : ∀ r ∈ rs, r.l.length ≤ 40 ∧ ∀ p ∈ r.l, p.c ≤ 1099511627776) (hl : rs.length ≤ 10) :
    Calls Try.prog 56 #[.slice ro n rc] w fun e w' => ∃ a3 c3, e = .returned (.slice a3 L.length c3) ∧ Own w' 47 2 (.slice a3 L.length c3) L.length (prCells L) ∧ Chg [] w w' ∧ ∀ b ∈ abl a3, w.heap.size ≤ b := by
  subst hn hL
  exact runs_join w ro rc rs hr hin hc hl

set_option maxRecDepth 100000 in
set_option maxHeartbeats 2000000 in
theorem law_RunsJoins (w : World) (ro : Option Addr) (rc : Nat) (rs : List Rw) (hr : Rd w 1 (.slice ro rs.length rc) rs.length (rwV rs)) (hin : ∀ q ∈ rs, Rd w 2 q.v q.l.length (prCells q.l) ∧ ∀ i ∈ q.l, i.ok) :
    Calls Try.prog 18 #[.slice ro rs.length rc] w fun e w' => e = .returned (.bool true) ∧ Chg [] w w' := by
  have HR := Lib.hid hr
  have HI := Lib.hid hin
  clear hr hin
  go_enter Try.func18, Try.ntmps18
  go_wp2_with fail
  refine (law06_alive w).mono ?_
  rintro e w1 ⟨rfl, hc1⟩
  by_cases h10 : 10 < rs.length
  · have hd : decide ((10 : Int) < (rs.length : Int)) = true := decide_eq_true (by omega)
    go_wp2
    go_ret
    exact ⟨rfl, hc1⟩
  have hd : decide ((10 : Int) < (rs.length : Int)) = false := decide_eq_false (by omega)
  have hr10 : rs.length ≤ 10 := by omega
  clear h10
  go_wp2
  go_loopw [3, 4, 5, 22] (fun want back was j wx => ∃ (k n : Nat) (L : List Pr) (wa ba : Option Addr) (wc bc : Nat) (S : List UInt8), k ≤ rs.length ∧ j = .int .i64 (k : Nat) ∧ want = .slice wa L.length wc ∧ back = .slice ba k bc ∧ was = .string ⟨S.toArray⟩ ∧
    Hid (L = addAll (flatR (rs.take k)) []) ∧ Hid (Fine L n) ∧ n ≤ 40 * k ∧ Hid (S = wasB (rs.take k)) ∧ S.length ≤ 810 * k ∧ Hid (∀ r ∈ rs.take k, r.l.length ≤ 40 ∧ ∀ p ∈ r.l, p.c ≤ 1099511627776) ∧
    Own wx 47 2 (.slice wa L.length wc) L.length (prCells L) ∧ Own wx 45 1 (.slice ba k bc) k (rwV (rs.reverse.take k)) ∧ Chg [] w wx ∧
    (∀ b ∈ abl wa, w.heap.size ≤ b) ∧ (∀ b ∈ abl ba, w.heap.size ≤ b) ∧ (∀ b ∈ abl wa, b ∉ abl ba)) (fun _ _ _ j _ => rs.length - (intOf j).toNat)
  case atStart => exact ⟨0, 0, [], none, none, 0, 0, [], Nat.zero_le _, rfl, rfl, rfl, rfl, Lib.hid rfl, Lib.hid Fine.nil, by omega, Lib.hid rfl, by simp, Lib.hid (by simp), Own.nil _ _ _, Own.nil _ _ _, hc1, by simp [abl], by simp [abl], by simp [abl]⟩
  case round =>
    obtain ⟨k, n, L, wa, ba, wc, bc, S, hk, rfl, rfl, rfl, rfl, HL, HF, hn, HS, hSl, HC, how, hob, hch, hwa, hba, hdj⟩ := hrel
    by_cases hlt : k < rs.length
    · have hr1 := HR.out.chg hch (by simp)
      obtain ⟨b, o, rfl, hcs⟩ := hr1.addr (by omega)
      have c0 := rw_at hcs k hlt
      have HST := Lib.hid (flatR_step rs k hlt)
      have HWS := Lib.hid (wasB_step rs k hlt)
      have HRV := Lib.hid (rev_step rs k hlt)
      have HTK := Lib.hid (List.take_succ_eq_append_getElem hlt)
      have HRI := Lib.hid (HI.out rs[k] (List.getElem_mem _)).1
      have HOK := Lib.hid (HI.out rs[k] (List.getElem_mem _)).2
      generalize rs[k] = r at *
      obtain ⟨rao, rcap, q⟩ := r
      simp only [Rw.v] at c0 HRI HOK HST HWS HTK
      clear hcs hr1
      by_cases hq40 : 40 < q.length
      · have hd : decide ((40 : Int) < (q.length : Int)) = true := decide_eq_true (by omega)
        go_wp2
        go_ret
        exact ⟨rfl, hch⟩
      have hdq : decide ((40 : Int) < (q.length : Int)) = false := decide_eq_false (by omega)
      have hq : q.length ≤ 40 := by omega
      clear hq40
      go_wp2_with fail
      refine (ref06_good wr rao rcap q HOK.out (HRI.out.chg hch (by simp)) (by omega)).mono ?_
      rintro e w2 ⟨rfl, hc2⟩
      have hch2 := hch.trans hc2
      have how2 := how.chg hc2 (by simp)
      have hob2 := hob.chg hc2 (by simp)
      clear how hob
      generalize goodP q = g
      cases g
      · go_wp2
        go_ret
        exact ⟨rfl, hch2⟩
      have hbb := hob2.below
      go_wp2
      go_loopw [3, 37] (fun want j wx => ∃ (m : Nat) (L2 : List Pr) (a4 : Option Addr) (c4 : Nat), m ≤ q.length ∧ j = .int .i64 (m : Nat) ∧ want = .slice a4 L2.length c4 ∧ Hid (L2 = addAll (flatR (rs.take k) ++ q.take m) []) ∧ Hid (Fine L2 (n + m)) ∧ Hid (∀ p ∈ q.take m, p.c ≤ 1099511627776) ∧
        Own wx 47 2 (.slice a4 L2.length c4) L2.length (prCells L2) ∧ Chg [] w2 wx ∧ (∀ b ∈ abl a4, w.heap.size ≤ b) ∧ (∀ b ∈ abl a4, b ∉ abl ba)) (fun _ j _ => q.length - (intOf j).toNat)
      case atStart => exact ⟨0, L, wa, wc, Nat.zero_le _, rfl, rfl, Lib.hid (by rw [HL.out]; simp), Lib.hid HF.out, Lib.hid (by simp), how2, Chg.refl _ _, hwa, hdj⟩
      case round =>
        obtain ⟨m, L2, a4, c4, hm, rfl, rfl, HL2, HF2, HCM, ho4, hch4, ha4, hd4⟩ := hrel
        have hchw := hch2.trans hch4
        by_cases hlt2 : m < q.length
        · have hr1 := HRI.out.chg hchw (by simp)
          obtain ⟨b2, o2, rfl, hcs⟩ := hr1.addr (by omega)
          obtain ⟨d0, d1⟩ := pr_at hcs hlt2
          have HS2 := Lib.hid (List.take_succ_eq_append_getElem hlt2)
          have hbx := Blk.alloc_new wr #[.int .i64 q[m].i, .int .u64 q[m].c] 47
          have hch5 := hch4.alloc (.cells #[.int .i64 q[m].i, .int .u64 q[m].c] 47)
          have hchw5 := hchw.alloc (.cells #[.int .i64 q[m].i, .int .u64 q[m].c] 47)
          have e0 := hbx.cell 0
          have e1 := hbx.cell 1
          have hsz := hchw.size
          have hsz4 := hch4.size
          have ho5 := ho4.alloc (.cells #[.int .i64 q[m].i, .int .u64 q[m].c] 47)
          generalize q[m] = p at *
          clear hcs hr1 ho4
          by_cases hbig : 1099511627776 < p.c
          · have hbg : decide ((1099511627776 : Int) < (p.c : Int)) = true := decide_eq_true (by omega)
            clear hbig
            go_wp2
            go_ret
            exact ⟨rfl, hchw5⟩
          have hbg : decide ((1099511627776 : Int) < (p.c : Int)) = false := decide_eq_false (by omega)
          have HPC := Lib.hid (show p.c ≤ 1099511627776 by omega)
          clear hbig
          have HN := Lib.hid (HF2.out.step p.i p.c HPC.out)
          have HADD := Lib.hid (ref06_add (wr.alloc (.cells #[.int .i64 p.i, .int .u64 p.c] 47)) a4 c4 L2 p.i p.c ho5.rd (by have := HF2.out.len; omega) (HF2.out.small (by omega)) (by have := HPC.out; omega))
          go_wp2_with fail
          refine HADD.out.mono ?_
          rintro e w5 ⟨a5, c5, rfl, ho6, hc6, hf6⟩
          have HNEW := Lib.hid (show refAdd L2 p.i p.c = addAll (flatR (rs.take k) ++ q.take (m + 1)) [] from by rw [HS2.out, ← List.append_assoc, addAll_snoc, ← HL2.out])
          have HCN := Lib.hid (show ∀ p' ∈ q.take (m + 1), p'.c ≤ 1099511627776 from by
            rw [HS2.out]
            intro p' hp'
            rcases List.mem_append.1 hp' with h | h
            · exact HCM.out p' h
            · rw [List.mem_singleton] at h; subst h; exact HPC.out)
          generalize refAdd L2 p.i p.c = N at *
          go_wp2
          refine ⟨⟨m + 1, N, a5, c5, by omega, by go_num, rfl, HNEW, HN, HCN, ho6, hch5.trans hc6, ?_, ?_⟩, by simp [intOf]; omega⟩
          · intro b hb
            have := hf6 b hb
            simp at this
            omega
          · intro b hb hb2
            have h1 := hf6 b hb
            have h2 := hbb b hb2
            simp at h1
            omega
        · obtain rfl : m = q.length := by omega
          rw [List.take_length] at HL2 HCM
          have hob4 := hob2.chg hch4 (by simp)
          have hr2 := HR.out.chg hchw (by simp)
          obtain ⟨b', o', hbo, hcs⟩ := hr2.addr (by omega)
          simp only [Option.some.injEq, Addr.mk.injEq, and_true] at hbo
          obtain ⟨rfl, rfl⟩ := hbo
          have c1 := rw_at hcs (rs.length - 1 - k) (by omega)
          have hix : (rs.length : Int) - 1 - (k : Int) = ((rs.length - 1 - k : Nat) : Int) := by omega
          have hix0 : (0 : Int) ≤ ((rs.length - 1 - k : Nat) : Int) := by omega
          have hix1 : ((rs.length - 1 - k : Nat) : Int) < (rs.length : Int) := by omega
          generalize rs[rs.length - 1 - k] = r2 at *
          generalize rs.length - 1 - k = ix at *
          obtain ⟨tao, tcap, tq⟩ := r2
          simp only at c1
          have hrd : Rd (wr.alloc (.cells #[.slice tao tq.length tcap] 45)) 1 (.slice (some ⟨wr.heap.size, 0, none⟩) 1 1) 1 (rwV [⟨tao, tcap, tq⟩]) := Rd.lit1 wr (.slice tao tq.length tcap) 45 1
          have HPL := Lib.hid (putB_len2 q HOK.out hq)
          clear hcs hr2 hob2 how2
          go_wp2_with (at_builtin; go_must (refine wpList_append_src _ rfl (.tmp 51) (.tmp 60) 89 89 rfl 45 _ 1 24 under_rows info_row rfl (by decide) (.slice ba k bc) k (rwV (rs.reverse.take k)) rfl (hob4.alloc _) (.slice (some ⟨wr.heap.size, 0, none⟩) 1 1) 1 (rwV [⟨tao, tcap, tq⟩]) rfl (Src.of_rd under_rows hrd) (rwV_oneCell _) (by unfold maxLen; omega) (by omega) ?_; intro a6 c6 w6 ho6 hg6 hf6))
          have hch6 : Chg [] w w6 := (hchw.alloc _).trans' hg6 (fun b hb => .inr (hba b (by simpa using hb)))
          have how6 := (ho4.alloc (.cells #[.slice tao tq.length tcap] 45)).chg hg6 (fun b hb => by simpa using hd4 b (by simpa using hb))
          have hwb := ho4.below
          have hszr := hchw.size
          have hbk6 : ∀ b ∈ abl a6, w.heap.size ≤ b ∧ (b ∈ abl ba ∨ wr.heap.size ≤ b) := fun b hb => by
            rcases hf6 b hb with h | h
            · exact ⟨hba b (by simpa using h), .inl (by simpa using h)⟩
            · simp at h; exact ⟨by omega, .inr (by omega)⟩
          clear ho4 hob4 hrd hg6 hf6
          refine (ref06_bytes w6 rao rcap q HOK.out (HRI.out.chg hch6 (by simp)) (by omega)).mono ?_
          rintro e w7 ⟨rfl, hc7⟩
          have hpl := HPL.out
          generalize putB q = P at *
          have hcat : ¬ 9223372036854775807 < S.length + P.length := by omega
          go_wp2
          refine ⟨⟨k + 1, n + q.length, L2, a4, a6, c4, c6, S ++ P, by omega, by go_num, rfl, by simp, by simp [ByteArray.mk_append_mk], Lib.hid (by rw [HST.out]; exact HL2.out), HF2, by omega, Lib.hid (by rw [HWS.out, ← HS.out]), by rw [List.length_append]; omega, ?_, how6.chg hc7 (by simp), ?_, hch6.trans hc7, ha4, fun b hb => (hbk6 b hb).1, ?_⟩, by simp [intOf]; omega⟩
          · refine Lib.hid ?_
            rw [HTK.out]
            intro r' hr'
            rcases List.mem_append.1 hr' with h | h
            · exact HC.out r' h
            · rw [List.mem_singleton] at h; subst h; exact ⟨hq, HCM.out⟩
          · rw [HRV.out]
            have := ho6.chg hc7 (by simp)
            simpa [rwV] using this
          · intro b hb hb2
            rcases (hbk6 b hb2).2 with h | h
            · exact hd4 b hb h
            · have := hwb b hb; omega
    · obtain rfl : k = rs.length := by omega
      rw [List.take_length] at HL HS HC
      have hrv : rs.reverse.take rs.length = rs.reverse := List.take_of_length_le (by simp)
      rw [hrv] at hob
      have HJ1 := Lib.hid (runs_joinL wr ro rc rs rs.length rfl L HL.out.symm (HR.out.chg hch (by simp)) (fun r hr => (HI.out r hr).1.chg hch (by simp)) HC.out hr10)
      go_wp2_with fail
      refine HJ1.out.mono ?_
      rintro e w2 ⟨a5, c5, rfl, ho5, hc2, hf5⟩
      have hch2 := hch.trans hc2
      have how2 := how.chg hc2 (by simp)
      have hob2 := hob.chg hc2 (by simp)
      have HJ2 := Lib.hid (runs_joinL w2 ba bc rs.reverse rs.length (by simp) L (by rw [flat_rev]; exact HL.out.symm) hob2.rd (fun r hr => (HI.out r (by simpa using hr)).1.chg hch2 (by simp)) (fun r hr => HC.out r (by simpa using hr)) (by simpa using hr10))
      clear HJ1
      go_wp2_with fail
      refine HJ2.out.mono ?_
      rintro e w3 ⟨a6, c6, rfl, ho6, hc3, hf6⟩
      have hch3 := hch2.trans hc3
      have how3 := how2.chg hc3 (by simp)
      have ho53 := ho5.chg hc3 (by simp)
      have hLl : L.length ≤ 400 := by have := HF.out.len; omega
      clear HJ2 ho5 how2 how hob hob2 hc3 hc2 hch hch2
      go_wp2
      go_loopw [12, 73] (fun s j wx => ∃ (k : Nat) (S2 : List UInt8), k ≤ rs.length ∧ j = .int .i64 (k : Nat) ∧ s = .string ⟨S2.toArray⟩ ∧ Hid (S2 = wasB (rs.take k)) ∧ S2.length ≤ 810 * k ∧ Chg [] w3 wx) (fun _ j _ => rs.length - (intOf j).toNat)
      case atStart => exact ⟨0, [], Nat.zero_le _, rfl, rfl, Lib.hid rfl, by simp, Chg.refl _ _⟩
      case round =>
        obtain ⟨k, S2, hk2, rfl, rfl, HS2, hSl2, hch4⟩ := hrel
        have hchw := hch3.trans hch4
        by_cases hlt3 : k < rs.length
        · have hr1 := HR.out.chg hchw (by simp)
          obtain ⟨b, o, rfl, hcs⟩ := hr1.addr (by omega)
          have c0 := rw_at hcs k hlt3
          have HWS := Lib.hid (wasB_step rs k hlt3)
          have HRI := Lib.hid (HI.out rs[k] (List.getElem_mem _)).1
          have HOK := Lib.hid (HI.out rs[k] (List.getElem_mem _)).2
          have HCK := Lib.hid (HC.out rs[k] (List.getElem_mem _)).1
          generalize rs[k] = r at *
          obtain ⟨rao, rcap, q⟩ := r
          simp only [Rw.v] at c0 HRI HOK HWS HCK
          clear hcs hr1
          have HPL := Lib.hid (putB_len2 q HOK.out HCK.out)
          go_wp2_with fail
          refine (ref06_bytes wr rao rcap q HOK.out (HRI.out.chg hchw (by simp)) (by have := HCK.out; omega)).mono ?_
          rintro e w7 ⟨rfl, hc7⟩
          have hpl := HPL.out
          generalize putB q = P at *
          have hcat : ¬ 9223372036854775807 < S2.length + P.length := by omega
          go_wp2
          exact ⟨⟨k + 1, S2 ++ P, by omega, by go_num, by simp [ByteArray.mk_append_mk], Lib.hid (by rw [HWS.out, ← HS2.out]), by rw [List.length_append]; omega, hch4.trans hc7⟩, by simp [intOf]; omega⟩
        · obtain rfl : k = rs.length := by omega
          rw [List.take_length] at HS2
          obtain rfl : S2 = S := by rw [HS2.out, HS.out]
          have how4 := how3.chg hch4 (by simp)
          have ho54 := ho53.chg hch4 (by simp)
          have ho64 := ho6.chg hch4 (by simp)
          go_wp2_with fail
          refine (ref06_same wr a5 c5 wa wc L ho54.rd how4.rd (by omega)).mono ?_
          rintro e w8 ⟨rfl, hc8⟩
          go_wp2_with fail
          refine (ref06_same w8 a6 c6 wa wc L (ho64.chg hc8 (by simp)).rd (how4.chg hc8 (by simp)).rd (by omega)).mono ?_
          rintro e w9 ⟨rfl, hc9⟩
          go_wp2
          go_ret
          exact ⟨by simp, (hchw.trans hc8).trans hc9⟩
end Go.Proofs.Ytgpnnfgaphcklaa
