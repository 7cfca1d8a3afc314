/-
  The walk of the law RunsAdds. Conditions: the form's own reach.
-/
import Derived.Test.YtgpnnfgaphcklaaRunsAlive
import Derived.Test.YtgpnnfgaphcklaaRunsAdd
import Derived.Test.YtgpnnfgaphcklaaRefAdd
import Derived.Test.YtgpnnfgaphcklaaRefSame
namespace Go.Proofs.Ytgpnnfgaphcklaa
open Go.RowKit

/-- A row of additions, one by one. -/
def addAll (ps L : List Pr) : List Pr := ps.foldl (fun L p => refAdd L p.i p.c) L
theorem addAll_step (ps L : List Pr) (k : Nat) (h : k < ps.length) : addAll (ps.take (k + 1)) L = refAdd (addAll (ps.take k) L) ps[k].i ps[k].c := by
  rw [List.take_succ_eq_append_getElem h, addAll, List.foldl_append]
  rfl
structure Fine (L : List Pr) (k : Nat) : Prop where
  rises : rises L
  pos : ∀ p ∈ L, 1 ≤ p.c
  max : ∀ p ∈ L, p.c ≤ k * 1099511627776
  len : L.length ≤ k
theorem Fine.nil : Fine [] 0 := ⟨fun j k _ hk => by simp at hk, by simp, by simp, by simp⟩
theorem Fine.step {L : List Pr} {k : Nat} (h : Fine L k) (i : Int) (c : Nat) (hc : c ≤ 1099511627776) : Fine (refAdd L i c) (k + 1) :=
  ⟨refAdd_rises h.rises c, refAdd_pos h.pos c, fun p hp => by have := refAdd_max h.rises h.max c p hp; omega, by have := refAdd_len (i := i) h.rises c; have := h.len; omega⟩
theorem Fine.small {L : List Pr} {k : Nat} (h : Fine L k) (hk : k ≤ 400) : ∀ p ∈ L, p.c ≤ 1125899906842624 := fun p hp => by
  have h1 := h.max p hp
  have h2 : k * 1099511627776 ≤ 400 * 1099511627776 := Nat.mul_le_mul_right _ hk
  omega
theorem cntLt_step (l : List Pr) (i : Int) (k : Nat) (h : k < l.length) : cntLt (l.take (k + 1)) i = cntLt (l.take k) i + if l[k].i < i then 1 else 0 := by
  rw [List.take_succ_eq_append_getElem h, cntLt, List.countP_append]
  simp [cntLt, List.countP_cons]
theorem hasI_step (l : List Pr) (i : Int) (k : Nat) (h : k < l.length) : hasI (l.take (k + 1)) i = (hasI (l.take k) i || l[k].i == i) := by
  rw [List.take_succ_eq_append_getElem h, hasI, List.any_append]
  simp [hasI]

set_option maxRecDepth 100000 in
set_option maxHeartbeats 2000000 in
theorem law_RunsAdds (w : World) (ao : Option Addr) (cap : Nat) (l : List Pr) (_hok : ∀ p ∈ l, p.ok) (hr : Rd w 2 (.slice ao l.length cap) l.length (prCells l)) (_ho : Old w.heap.size (.slice ao l.length cap) l.length) (hl : l.length * 16 ≤ 140737488351232) (other : Int) (_h0 : -9223372036854775808 ≤ other) (_h1 : other < 9223372036854775808) :
    Calls Try.prog 17 #[.slice ao l.length cap, .int .i64 other] w fun e w' => e = .returned (.bool true) ∧ Chg [] w w' := by
  clear _ho _h0 _h1 _hok
  go_enter Try.func17, Try.ntmps17
  go_wp2_with fail
  refine (law06_alive w).mono ?_
  rintro e w1 ⟨rfl, hc1⟩
  by_cases h60 : 60 < l.length
  · have hd : decide ((60 : Int) < (l.length : Int)) = true := decide_eq_true (by omega)
    go_wp2
    go_ret
    exact ⟨rfl, hc1⟩
  have hd : decide ((60 : Int) < (l.length : Int)) = false := decide_eq_false (by omega)
  have hl60 : l.length ≤ 60 := by omega
  have HR := Lib.hid hr
  clear hr hl h60
  go_wp2
  go_loopw [5, 6, 22] (fun got want j wx => ∃ (k : Nat) (L : List Pr) (ga wa : Option Addr) (gc wc : Nat), k ≤ l.length ∧ j = .int .i64 (k : Nat) ∧ got = .slice ga L.length gc ∧ want = .slice wa L.length wc ∧ Hid (Fine L k) ∧
    Own wx 47 2 (.slice ga L.length gc) L.length (prCells L) ∧ Own wx 47 2 (.slice wa L.length wc) L.length (prCells L) ∧ Chg [] w wx ∧
    (∀ b ∈ abl ga, w.heap.size ≤ b) ∧ (∀ b ∈ abl wa, w.heap.size ≤ b) ∧ (∀ b ∈ abl ga, b ∉ abl wa)) (fun _ _ j _ => l.length - (intOf j).toNat)
  case atStart => exact ⟨0, [], none, none, 0, 0, Nat.zero_le _, rfl, rfl, rfl, Lib.hid Fine.nil, Own.nil _ _ _, Own.nil _ _ _, hc1, by simp [abl], by simp [abl], by simp [abl]⟩
  case round =>
    obtain ⟨k, L, ga, wa, gc, wc, hk, rfl, rfl, rfl, HF, hog, how, hch, hga, hwa, hdj⟩ := hrel
    by_cases hlt : k < l.length
    · have hr1 := HR.out.chg hch (by simp)
      obtain ⟨b, o, rfl, hcs⟩ := hr1.addr (by omega)
      obtain ⟨c0, c1⟩ := pr_at hcs hlt
      have hbx := Blk.alloc_new wr #[.int .i64 l[k].i, .int .u64 l[k].c] 47
      have hch2 := hch.alloc (.cells #[.int .i64 l[k].i, .int .u64 l[k].c] 47)
      have e0 := hbx.cell 0
      have e1 := hbx.cell 1
      have hsz := hch.size
      have hog2 := hog.alloc (.cells #[.int .i64 l[k].i, .int .u64 l[k].c] 47)
      have how2 := how.alloc (.cells #[.int .i64 l[k].i, .int .u64 l[k].c] 47)
      have hgb := hog.below
      have hwb := how.below
      generalize l[k] = p at *
      clear hcs hr1 hog how
      by_cases hbig : 1099511627776 < p.c
      · have hbb : decide ((1099511627776 : Int) < (p.c : Int)) = true := decide_eq_true (by omega)
        clear hbig
        go_wp2
        go_ret
        exact ⟨rfl, hch2⟩
      have hbb : decide ((1099511627776 : Int) < (p.c : Int)) = false := decide_eq_false (by omega)
      have HN := Lib.hid (HF.out.step p.i p.c (by omega))
      have hsame := add_same HF.out.rises HF.out.pos (i := p.i) p.c
      have HADD := Lib.hid (runs_add (wr.alloc (.cells #[.int .i64 p.i, .int .u64 p.c] 47)) ga gc L p.i p.c HF.out.rises hog2 (by have := HF.out.len; omega) (HF.out.small (by omega)) (by omega))
      rw [← hsame] at HADD
      clear hsame
      have HLEN := Lib.hid HF.out.len
      have HSM := Lib.hid (HF.out.small (k := k) (by omega))
      have HBG := Lib.hid hbig
      clear hbig
      go_wp2_with fail
      refine HADD.out.mono ?_
      rintro e w2 ⟨a3, c3, rfl, ho3, hc3, hf3⟩
      have hdjw : ∀ b ∈ blkOf (.slice wa L.length wc), b ∉ abl ga := fun b hb hb2 => hdj b hb2 (by simpa using hb)
      have how3 := how2.chg hc3 hdjw
      have hbx3 := Blk.chg hbx hc3 (fun hb => by have := hgb _ hb; omega)
      have e2 := hbx3.cell 0
      have e3 := hbx3.cell 1
      have hs3 := hc3.size
      have hch3 := hch2.trans' hc3 (fun b hb => .inr (hga b hb))
      have h3b := ho3.below
      clear e0 e1 how2 hog2 hbx
      go_wp2_with fail
      refine (ref06_add w2 wa wc L p.i p.c how3.rd (by have := HLEN.out; omega) HSM.out (by have := HBG.out; omega)).mono ?_
      rintro e w3 ⟨a4, c4, rfl, ho4, hc4, hf4⟩
      have ho34 := ho3.chg hc4 (by simp)
      have hch4 := hch3.trans hc4
      have hNl : (refAdd L p.i p.c).length ≤ 61 := by have := HN.out.len; omega
      generalize refAdd L p.i p.c = N at *
      clear hbx3 e2 e3 ho3 how3
      go_wp2_with fail
      refine (ref06_same w3 a3 c3 a4 c4 N ho34.rd ho4.rd (by omega)).mono ?_
      rintro e w4 ⟨rfl, hc5⟩
      go_wp2
      refine ⟨⟨k + 1, N, a3, a4, c3, c4, by omega, by go_num, rfl, rfl, HN, ho34.chg hc5 (by simp), ho4.chg hc5 (by simp), hch4.trans hc5, ?_, ?_, ?_⟩, by simp [intOf]; omega⟩
      · intro b hb
        rcases hf3 b hb with h | h
        · exact hga b h
        · simp at h; omega
      · intro b hb
        have := hf4 b hb
        have := hch3.size
        omega
      · intro b hb hb2
        have h1 := h3b b hb
        have h2 := hf4 b hb2
        omega
    · obtain rfl : k = l.length := by omega
      have HFI := Lib.hid (runs_find wr ga gc L other HF.out.rises hog.rd (by have := HF.out.len; omega))
      have hLl : L.length ≤ 60 := by have := HF.out.len; omega
      have hchr := hch
      go_wp2_with fail
      refine HFI.out.mono ?_
      rintro e w2 ⟨rfl, hc2⟩
      have how2 := how.chg hc2 (by simp)
      have hch2 := hch.trans hc2
      clear hog how hchr hga hwa hdj hch
      go_wp2
      go_loopw [11, 12, 54] (fun n b j wx => ∃ k : Nat, k ≤ L.length ∧ j = .int .i64 (k : Nat) ∧ n = .int .i64 (cntLt (L.take k) other : Nat) ∧ b = .bool (hasI (L.take k) other) ∧ Chg [] w2 wx) (fun _ _ j _ => L.length - (intOf j).toNat)
      case atStart => exact ⟨0, Nat.zero_le _, rfl, rfl, rfl, Chg.refl _ _⟩
      case round =>
        obtain ⟨k, hk, rfl, rfl, rfl, hch⟩ := hrel
        by_cases hlt : k < L.length
        · have hr1 := how2.rd.chg hch (by simp)
          obtain ⟨b, o, rfl, hcs⟩ := hr1.addr (by omega)
          obtain ⟨c0, c1⟩ := pr_at hcs hlt
          have hbx := Blk.alloc_new wr #[.int .i64 L[k].i, .int .u64 L[k].c] 47
          have hch3 := hch.alloc (.cells #[.int .i64 L[k].i, .int .u64 L[k].c] 47)
          have e0 := hbx.cell 0
          have e1 := hbx.cell 1
          have HC := Lib.hid (cntLt_step L other k hlt)
          have HH := Lib.hid (hasI_step L other k hlt)
          have hnk : cntLt (L.take k) other ≤ k := by
            have := List.countP_le_length (p := fun p : Pr => decide (p.i < other)) (l := L.take k)
            rw [List.length_take] at this
            rw [cntLt]
            omega
          generalize L[k] = p at *
          generalize cntLt (L.take k) other = n at *
          generalize hasI (L.take k) other = hb at *
          clear hcs hr1 hbx hch
          by_cases hi : p.i < other
          · have hib : decide (p.i < other) = true := decide_eq_true hi
            have hne : (p.i == other) = false := beq_eq_false_iff_ne.2 (by omega)
            rw [if_pos hi] at HC
            rw [hne, Bool.or_false] at HH
            clear hi
            cases hb
            · go_wp2
              exact ⟨⟨k + 1, by omega, by go_num, by rw [HC.out]; go_num, by rw [HH.out], hch3⟩, by simp [intOf]; omega⟩
            · go_wp2
              exact ⟨⟨k + 1, by omega, by go_num, by rw [HC.out]; go_num, by rw [HH.out], hch3⟩, by simp [intOf]; omega⟩
          · have hib : decide (p.i < other) = false := decide_eq_false hi
            rw [if_neg hi, Nat.add_zero] at HC
            clear hi
            generalize hq : (p.i == other) = q at *
            cases hb
            · rw [Bool.false_or] at HH
              go_wp2
              exact ⟨⟨k + 1, by omega, by go_num, by rw [HC.out]; rfl, by rw [HH.out], hch3⟩, by simp [intOf]; omega⟩
            · rw [Bool.true_or] at HH
              go_wp2
              exact ⟨⟨k + 1, by omega, by go_num, by rw [HC.out]; rfl, by rw [HH.out], hch3⟩, by simp [intOf]; omega⟩
        · obtain rfl : k = L.length := by omega
          rw [List.take_length]
          go_wp2
          go_ret
          exact ⟨by simp, hch2.trans hch⟩
end Go.Proofs.Ytgpnnfgaphcklaa
