/-
  The walk of runs.Join. Conditions: the form's own reach.
-/
import Derived.Test.YtgpnnfgaphcklaaPlainJoin
namespace Go.Proofs.Ytgpnnfgaphcklaa
open Go.RowKit

/-- A row, and where it lies. -/
structure Rw where
  ao : Option Addr
  cap : Nat
  l : List Pr
def Rw.v (r : Rw) : Value := .slice r.ao r.l.length r.cap
def rwV (rs : List Rw) : List Value := rs.map Rw.v
@[simp] theorem rwV_length (rs : List Rw) : (rwV rs).length = rs.length := by simp [rwV]
theorem rw_at {w : World} {b o : Nat} {rs : List Rw} (hc : ∀ j, j < rs.length * 1 → w.cell? ⟨b, o + j, none⟩ = (rwV rs)[j]?) (k : Nat) (h : k < rs.length) : w.cell? ⟨b, o + k, none⟩ = some (.slice rs[k].ao rs[k].l.length rs[k].cap) := by
  rw [hc k (by omega)]
  simp [rwV, h, Rw.v]
def flatR (rs : List Rw) : List Pr := (rs.map fun r => r.l).flatten
theorem flatR_step (rs : List Rw) (k : Nat) (h : k < rs.length) : flatR (rs.take (k + 1)) = flatR (rs.take k) ++ rs[k].l := by
  rw [flatR, List.take_succ_eq_append_getElem h, List.map_append, List.flatten_append]
  simp only [List.map_cons, List.map_nil, List.flatten_cons, List.flatten_nil, List.append_nil]
  rfl
theorem addAll_snoc (ps : List Pr) (p : Pr) (L : List Pr) : addAll (ps ++ [p]) L = refAdd (addAll ps L) p.i p.c := by
  rw [addAll_append]; rfl

set_option maxRecDepth 100000 in
set_option maxHeartbeats 2000000 in
theorem runs_join (w : World) (ro : Option Addr) (rc : Nat) (rs : List Rw) (hr : Rd w 1 (.slice ro rs.length rc) rs.length (rwV rs)) (hin : ∀ r ∈ rs, Rd w 2 r.v r.l.length (prCells r.l)) (hc : ∀ r ∈ rs, r.l.length ≤ 40 ∧ ∀ p ∈ r.l, p.c ≤ 1099511627776) (hl : rs.length ≤ 10) :
    Calls Try.prog 56 #[.slice ro rs.length rc] w fun e w' => ∃ a3 c3, e = .returned (.slice a3 (addAll (flatR rs) []).length c3) ∧
      Own w' 47 2 (.slice a3 (addAll (flatR rs) []).length c3) (addAll (flatR rs) []).length (prCells (addAll (flatR rs) [])) ∧ Chg [] w w' ∧ ∀ b ∈ abl a3, w.heap.size ≤ b := by
  have HR := Lib.hid hr
  have HI := Lib.hid hin
  have HC := Lib.hid hc
  clear hr hin hc
  go_enter Try.func56, Try.ntmps56
  go_wp2
  go_loopw [3, 10] (fun out j wx => ∃ (k n : Nat) (L : List Pr) (a3 : Option Addr) (c3 : Nat), k ≤ rs.length ∧ j = .int .i64 (k : Nat) ∧ out = .slice a3 L.length c3 ∧ Hid (L = addAll (flatR (rs.take k)) []) ∧ Hid (Fine L n) ∧ n ≤ 40 * k ∧
    Own wx 47 2 (.slice a3 L.length c3) L.length (prCells L) ∧ Chg [] w wx ∧ ∀ b ∈ abl a3, w.heap.size ≤ b) (fun _ j _ => rs.length - (intOf j).toNat)
  case atStart => exact ⟨0, 0, [], none, 0, Nat.zero_le _, rfl, rfl, Lib.hid rfl, Lib.hid Fine.nil, by omega, Own.nil _ _ _, Chg.refl _ _, by simp [abl]⟩
  case round =>
    obtain ⟨k, n, L, a3, c3, hk, rfl, rfl, HL, HF, hn, ho, hch, hab⟩ := hrel
    by_cases hlt : k < rs.length
    · have hr1 := HR.out.chg hch (by simp)
      obtain ⟨b, o, rfl, hcs⟩ := hr1.addr (by omega)
      have c0 := rw_at hcs k hlt
      have HS := Lib.hid (flatR_step rs k hlt)
      have HRI := Lib.hid (HI.out rs[k] (List.getElem_mem _))
      have HCI := Lib.hid (HC.out rs[k] (List.getElem_mem _))
      generalize rs[k] = r at *
      obtain ⟨rao, rcap, q⟩ := r
      simp only [Rw.v] at c0 HRI HCI HS
      clear hcs hr1
      have hq40 := HCI.out.1
      go_wp2
      go_loopw [3, 16] (fun out j wx => ∃ (m : Nat) (L2 : List Pr) (a4 : Option Addr) (c4 : Nat), m ≤ q.length ∧ j = .int .i64 (m : Nat) ∧ out = .slice a4 L2.length c4 ∧ Hid (L2 = addAll (flatR (rs.take k) ++ q.take m) []) ∧ Hid (Fine L2 (n + m)) ∧
        Own wx 47 2 (.slice a4 L2.length c4) L2.length (prCells L2) ∧ Chg [] w wx ∧ ∀ b ∈ abl a4, w.heap.size ≤ b) (fun _ j _ => q.length - (intOf j).toNat)
      case atStart => exact ⟨0, L, a3, c3, Nat.zero_le _, rfl, rfl, Lib.hid (by rw [HL.out]; simp), Lib.hid HF.out, ho, hch, hab⟩
      case round =>
        obtain ⟨m, L2, a4, c4, hm, rfl, rfl, HL2, HF2, ho2, hch2, hab2⟩ := hrel
        by_cases hlt2 : m < q.length
        · have hr1 := HRI.out.chg hch2 (by simp)
          obtain ⟨b2, o2, rfl, hcs⟩ := hr1.addr (by omega)
          obtain ⟨d0, d1⟩ := pr_at hcs hlt2
          have HS2 := Lib.hid (List.take_succ_eq_append_getElem hlt2)
          have hbx := Blk.alloc_new wr #[.int .i64 q[m].i, .int .u64 q[m].c] 47
          have hch3 := hch2.alloc (.cells #[.int .i64 q[m].i, .int .u64 q[m].c] 47)
          have e0 := hbx.cell 0
          have e1 := hbx.cell 1
          have hsz := hch2.size
          have ho3 := ho2.alloc (.cells #[.int .i64 q[m].i, .int .u64 q[m].c] 47)
          have hpc := HCI.out.2 q[m] (List.getElem_mem _)
          generalize q[m] = p at *
          clear hcs hr1 ho2
          have HN := Lib.hid (HF2.out.step p.i p.c hpc)
          have hsame := add_same HF2.out.rises HF2.out.pos (i := p.i) p.c
          have HADD := Lib.hid (runs_add (wr.alloc (.cells #[.int .i64 p.i, .int .u64 p.c] 47)) a4 c4 L2 p.i p.c HF2.out.rises ho3 (by have := HF2.out.len; omega) (HF2.out.small (by omega)) (by omega))
          rw [← hsame] at HADD
          clear hsame
          go_wp2_with fail
          refine HADD.out.mono ?_
          rintro e w2 ⟨a5, c5, rfl, ho5, hc5, hf5⟩
          have HNEW := Lib.hid (show refAdd L2 p.i p.c = addAll (flatR (rs.take k) ++ q.take (m + 1)) [] from by rw [HS2.out, ← List.append_assoc, addAll_snoc, ← HL2.out])
          have hab5 : ∀ b ∈ abl a5, w.heap.size ≤ b := fun b hb => by
            rcases hf5 b hb with h | h
            · exact hab2 b h
            · simp at h; omega
          generalize refAdd L2 p.i p.c = N at *
          go_wp2
          exact ⟨⟨m + 1, N, a5, c5, by omega, by go_num, rfl, HNEW, HN, ho5, hch3.trans' hc5 (fun b hb => .inr (hab2 b hb)), hab5⟩, by simp [intOf]; omega⟩
        · obtain rfl : m = q.length := by omega
          rw [List.take_length, ← HS.out] at HL2
          go_wp2
          exact ⟨⟨k + 1, n + q.length, L2, a4, c4, by omega, by go_num, rfl, HL2, HF2, by omega, ho2, hch2, hab2⟩, by simp [intOf]; omega⟩
    · obtain rfl : k = rs.length := by omega
      rw [List.take_length] at HL
      go_wp2
      go_ret
      rw [← HL.out]
      exact ⟨a3, c3, rfl, ho, hch, hab⟩
end Go.Proofs.Ytgpnnfgaphcklaa
