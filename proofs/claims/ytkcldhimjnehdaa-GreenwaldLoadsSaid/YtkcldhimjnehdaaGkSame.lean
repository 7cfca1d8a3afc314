/-
  The walk of the statements' plain (layer 19). Conditions: the form's own reach.
  The walk of the law's same. Conditions: the form's own reach.
-/
import Derived.Test.YtkcldhimjnehdaaRefTup1
import Derived.Test.YtkcldhimjnehdaaTupShared
import Derived.Test.YtkcldhimjnehdaaRefGkPut
import Derived.Test.YtkcldhimjnehdaaGkRow
import Derived.Test.YtkcldhimjnehdaaRefSame18
namespace Go.Proofs.Ytkcldhimjnehdaa
open Go.RowKit

set_option maxRecDepth 100000 in
set_option maxHeartbeats 1000000 in
theorem law19_plain (w : World) (ao : Option Addr) (cap : Nat) (l : List Tp) (n : Nat) (hn : n = l.length) (hr : Rd w 3 (.slice ao n cap) n (tpCells l)) (hl : n ≤ 100000) :
    Calls Try.prog 59 #[.slice ao n cap] w fun e w' => ∃ a3 c3, e = .returned (.slice a3 n c3) ∧
      Own w' 121 3 (.slice a3 n c3) n (tpCells l) ∧ Chg [] w w' ∧ ∀ b ∈ abl a3, w.heap.size ≤ b := by
  have HR := Lib.hid hr
  have HN := Lib.hid hn
  clear hr hn
  go_enter Try.func59, Try.ntmps59
  go_wp2
  go_loopw [3, 8] (fun out i wx => ∃ (k : Nat) (a3 : Option Addr) (c3 : Nat), k ≤ n ∧ i = .int .i64 (k : Nat) ∧ out = .slice a3 k c3 ∧
    Own wx 121 3 (.slice a3 k c3) k (tpCells (l.take k)) ∧ Chg [] w wx ∧ Hid (∀ b ∈ abl a3, w.heap.size ≤ b)) (fun _ i _ => n - (intOf i).toNat)
  case atStart => exact ⟨0, none, 0, Nat.zero_le _, rfl, rfl, Own.nil _ _ _, Chg.refl _ _, Lib.hid (by simp [abl])⟩
  case round =>
    obtain ⟨k, a3, c3, hk, rfl, rfl, ho, hch, HA⟩ := hrel
    by_cases hlt : k < n
    · have hr1 := HR.out.chg hch (by simp)
      obtain ⟨b, o, rfl, hc⟩ := hr1.addr (by omega)
      have hkl : k < l.length := by have := HN.out; omega
      obtain ⟨c0, c1, c2⟩ := tp_at (l := l) (fun j hj => hc j (by rw [← HN.out] at hj; exact hj)) hkl
      have HSS := Lib.hid (List.take_succ_eq_append_getElem hkl)
      generalize l[k] = p at *
      have HCX := Lib.hid ((hch.alloc (.cells #[.int .i64 p.x, .int .u64 p.st, .int .u64 p.sl] 28)).alloc (.cells #[.int .i64 p.x, .int .u64 p.st, .int .u64 p.sl] 121))
      have hsz := hch.size
      have hrd : Rd ((wr.alloc (.cells #[.int .i64 p.x, .int .u64 p.st, .int .u64 p.sl] 28)).alloc (.cells #[.int .i64 p.x, .int .u64 p.st, .int .u64 p.sl] 121)) 3 (.slice (some ⟨wr.heap.size + 1, 0, none⟩) 1 1) 1 (tpCells [p]) := by
        have := Rd.lit (wr.alloc (.cells #[.int .i64 p.x, .int .u64 p.st, .int .u64 p.sl] 28)) #[.int .i64 p.x, .int .u64 p.st, .int .u64 p.sl] 121 3 1 1 rfl
        rw [World.size_alloc] at this
        exact this
      clear hc hr1
      go_wp2_with (at_builtin; go_must (refine wpList_append_src _ rfl (.tmp 12) (.tmp 14) 104 104 rfl 121 _ 3 24 under_tuples2 info_tuple2 rfl (by decide) (.slice a3 k c3) k (tpCells (l.take k)) rfl ((ho.alloc _).alloc _) (.slice (some ⟨wr.heap.size + 1, 0, none⟩) 1 1) 1 (tpCells [p]) rfl (Src.of_rd under_tuples2 hrd) (tpCells_oneCell _) (by unfold maxLen; omega) (by omega) ?_; intro a7 c7 w7 ho7 hg7 hf7))
      refine ⟨⟨k + 1, a7, c7, by omega, by go_num, rfl, by rw [HSS.out, tpCells_append]; exact ho7, HCX.out.trans' hg7 (fun b hb => .inr (HA.out b (by simpa using hb))), Lib.hid (fun b hb => ?_)⟩, by simp [intOf]; omega⟩
      rcases hf7 b hb with h | h
      · exact HA.out b (by simpa using h)
      · simp at h; omega
    · obtain rfl : k = n := by omega
      rw [HN.out, List.take_length, ← HN.out] at ho
      go_wp2
      go_ret
      exact ⟨a3, c3, rfl, ho, hch, HA.out⟩
end Go.Proofs.Ytkcldhimjnehdaa

namespace Go.Proofs.Ytkcldhimjnehdaa
open Go.RowKit

theorem enters_splain : ∀ (args : Array Value) (w : World), (callFunc 59 args).run Try.prog w = .ok (.enter 59 args) w := enters_of Try.func59 (by kernel_rfl) rfl
theorem enters_srow : ∀ (args : Array Value) (w : World), (callFunc 60 args).run Try.prog w = .ok (.enter 60 args) w := enters_of Try.func60 (by kernel_rfl) rfl
theorem enters_ssame : ∀ (args : Array Value) (w : World), (callFunc 58 args).run Try.prog w = .ok (.enter 58 args) w := enters_of Try.func58 (by kernel_rfl) rfl
theorem enters_stotal : ∀ (args : Array Value) (w : World), (callFunc 22 args).run Try.prog w = .ok (.enter 22 args) w := enters_of Try.func22 (by kernel_rfl) rfl
theorem enters_srtotal : ∀ (args : Array Value) (w : World), (callFunc 61 args).run Try.prog w = .ok (.enter 61 args) w := enters_of Try.func61 (by kernel_rfl) rfl

set_option maxRecDepth 100000 in
set_option maxHeartbeats 8000000 in
theorem law19_same (w : World) (p : Nat) (rv wv : Value) (D : GkD) (h : Gk w p rv wv D) (q : Nat) (sv yv : Value) (k : RG w q sv yv D) (hok : D.ok) (hn : D.total ≤ 30000) :
    Calls Try.prog 33 #[.pointer (some ⟨p, 0, none⟩), .pointer (some ⟨q, 0, none⟩)] w fun e w' => e = .returned (.bool true) ∧ Chg [] w w' := by
  obtain ⟨so, sc, hsv⟩ := k.spots.shape
  obtain ⟨yo, yc, hyv⟩ := k.wait.shape
  subst hsv hyv
  have hfi := hok.fine
  have hvl : D.vals.length ≤ D.total := Nat.le_add_right _ _
  have hrl := hok.len
  have h16 := hok.few
  obtain ⟨n, hnn⟩ : ∃ n, n = D.row.length := ⟨_, rfl⟩
  obtain ⟨m, hm⟩ : ∃ m, m = D.waits.length := ⟨_, rfl⟩
  obtain ⟨N, hN⟩ : ∃ N, N = D.total := ⟨_, rfl⟩
  have hn3 : n ≤ 30000 := by omega
  have hm3 : m ≤ 15 := by omega
  have HRO := Lib.hid (gk_row w p rv wv D h n m hnn hm (by omega) (by omega))
  have HPL := Lib.hid (fun u ao cap hr => law19_plain u ao cap D.row n hnn hr (by omega))
  have HRR := Lib.hid (fun u (hu : Chg [] w u) => ref18_row u so sc D.row n hnn (by have h := (k.spots.chg hu (by simp)).rd; rw [hnn]; exact h) (by omega) (fun s hs => by have := hfi.high s hs; omega))
  have HSA := Lib.hid (fun u ao cap bo cbp ha hb => ref18_same u ao cap bo cbp D.row n hnn ha hb (by omega))
  have HTO := Lib.hid (fun u (hu : Chg [] w u) => show Calls Try.prog 22 #[.pointer (some ⟨p, 0, none⟩)] u fun e w' => e = .returned (.int .u64 (N : Nat)) ∧ u = w' from by rw [hN]; exact gk_total u p rv wv D (h.chg hu (by simp)))
  have HRT := Lib.hid (fun u (hu : Chg [] w u) => show Calls Try.prog 61 #[.pointer (some ⟨q, 0, none⟩)] u fun e w' => e = .returned (.int .u64 (N : Nat)) ∧ Chg [] u w' from by rw [hN]; exact ref19_total u q _ _ D (k.chg hu (by simp)) hfi (by omega) (by omega))
  have hKC := Lib.hid (fun u (hu : Chg [] w u) => show u.cell? ⟨q, 1 + 1, none⟩ = some (.slice so n sc) ∧ u.cell? ⟨q, 1 + 2, none⟩ = some (.slice yo m yc) from by
    have hc := (k.chg hu (by simp)).cells
    rw [hnn, hm]
    exact ⟨hc.2.2.1, hc.2.2.2⟩)
  have HYR := Lib.hid (fun u (hu : Chg [] w u) => show Rd u 1 (.slice yo m yc) m (ints D.waits) from by have h := (k.wait.chg hu (by simp)).rd; rw [hm]; exact h)
  have HM := Lib.hid hm
  have eN : ((N : Int) == (N : Int)) = true := by simp
  have eN2 : ((N : Int) != (N : Int)) = false := by simp
  have em : ((m : Int) != (m : Int)) = false := by simp
  clear h k hok hn hfi hvl hrl h16 hnn hm hN
  go_enter Try.func33, Try.ntmps33
  go_wp2_with fail
  refine HRO.out.mono ?_
  rintro e w1 ⟨a1, c1, a2, c2, rfl, ho1, ho2, hc1, -, -⟩
  have HC1 := Lib.hid hc1
  have HO1 := Lib.hid ho1.rd
  have HO2 := Lib.hid ho2.rd
  clear hc1 ho1 ho2 HRO
  go_upto_region 2 with (fail)
  have hK0 := hKC.out _ HC1.out.drew
  refine startG (S := fun wx => wx.cell? ⟨q, 1 + 1, none⟩ = some (.slice so n sc) ∧ wx.cell? ⟨q, 1 + 2, none⟩ = some (.slice yo m yc)) (st := 6) (by kernel_rfl) hK0 (fun hHeld => ?_)
  refine takeP (i := 0) (v := ?vz0) rfl (by kernel_rfl) (by kernel_rfl) (by kernel_rfl) (by decide) (fun _ _ _ h => h) (Or.inl ⟨by rfl, ?yz0⟩) hK0 ?rz0
  case yz0 => (intro w _; go_simp; first | done | with_reducible rfl)
  try simp only [Act.put, List.setIfInBounds_toArray, List.set_cons_zero, List.set_cons_succ]
  refine takeP (i := 2) (v := ?vz2) rfl (by kernel_rfl) (by kernel_rfl) (by kernel_rfl) (by decide) (fun _ _ _ h => h) (Or.inl ⟨by rfl, ?yz2⟩) hK0 ?rz2
  case yz2 => (intro w _; go_simp; first | done | with_reducible rfl)
  try simp only [Act.put, List.setIfInBounds_toArray, List.set_cons_zero, List.set_cons_succ]
  refine takeP (i := 3) (v := ?vz3) rfl (by kernel_rfl) (by kernel_rfl) (by kernel_rfl) (by decide) (fun _ _ _ h => h) (Or.inl ⟨by rfl, ?yz3⟩) hK0 ?rz3
  case yz3 => (intro w _; go_simp; first | done | with_reducible rfl)
  try simp only [Act.put, List.setIfInBounds_toArray, List.set_cons_zero, List.set_cons_succ]
  refine takeP (i := 4) (v := ?vz4) rfl (by kernel_rfl) (by kernel_rfl) (by kernel_rfl) (by decide) (fun _ _ _ h => h) (Or.inl ⟨by rfl, ?yz4⟩) hK0 ?rz4
  case yz4 => (intro w _; go_simp; first | done | with_reducible rfl)
  try simp only [Act.put, List.setIfInBounds_toArray, List.set_cons_zero, List.set_cons_succ]
  refine takeG (i := 5) (v := ?vz5) rfl (by kernel_rfl) (by kernel_rfl) (by kernel_rfl) (by decide) (by kernel_rfl) (by kernel_rfl) (fun _ _ _ h => h) (Or.inl ⟨by rfl, ?yz5⟩) hK0 ?rz5
  case yz5 => (intro w hSw; (try dsimp only at hSw); go_simp; first | done | with_reducible rfl)
  try simp only [Act.put, List.setIfInBounds_toArray, List.set_cons_zero, List.set_cons_succ]
  refine readyG (rs := [1]) (by kernel_rfl) (by simp) (consG rfl (fun K hK => ?_) nilG)
  refine step_calls rfl 59 _ _ rfl enters_splain _ #[.slice a1 n c1] (by simp [Act.eval]) (HPL.out _ a1 c1 (HO1.out.chg ((Chg.refl [] w1).drew) (by simp))) ?_; rintro e w2 ⟨a3, c3, rfl, ho3, hc3, -⟩; refine ⟨_, rfl, ?_⟩
  have HC2 := Lib.hid (HC1.out.drew.trans hc3)
  have H12 := Lib.hid (((Chg.refl [] w1).drew).trans hc3)
  have HO3 := Lib.hid ho3.rd
  have hK2 := hKC.out w2 HC2.out
  clear ho3 hc3
  refine hK.out _ _ (fun _ _ => hK2) (fun hHeld => ?_)
  clear hK K hHeld
  try simp only [Act.put, List.setIfInBounds_toArray, List.set_cons_zero, List.set_cons_succ]
  refine readyG (rs := [6]) (by kernel_rfl) (by simp) (consG rfl (fun K hK => ?_) nilG)
  refine step_calls rfl 60 _ _ rfl enters_srow _ #[.slice so n sc] (by simp [Act.eval]) (HRR.out _ HC2.out) ?_; rintro e w3 ⟨a4, c4, rfl, ho4, hc4, -⟩; refine ⟨_, rfl, ?_⟩
  have HC3 := Lib.hid (HC2.out.trans hc4)
  have H13 := Lib.hid (H12.out.trans hc4)
  have HO4 := Lib.hid ho4.rd
  have HO3' := Lib.hid (HO3.out.chg hc4 (by simp))
  have hK3 := hKC.out w3 HC3.out
  clear ho4 hc4
  refine hK.out _ _ (fun h => absurd rfl h) (fun hHeld => ?_)
  clear hK K hHeld
  try simp only [Act.put, List.setIfInBounds_toArray, List.set_cons_zero, List.set_cons_succ]
  refine readyG (rs := [7]) (by kernel_rfl) (by simp) (consG rfl (fun K hK => ?_) nilG)
  refine step_calls rfl 58 _ _ rfl enters_ssame _ #[.slice a3 n c3, .slice a4 n c4] (by simp [Act.eval]) (HSA.out w3 a3 c3 a4 c4 HO3'.out HO4.out) ?_; rintro e w4 ⟨rfl, hc5⟩; refine ⟨_, rfl, ?_⟩
  have HC4 := Lib.hid (HC3.out.trans hc5)
  have H14 := Lib.hid (H13.out.trans hc5)
  have hK4 := hKC.out w4 HC4.out
  clear hc5
  refine hK.out _ _ (fun _ h => absurd h (by decide)) (fun hHeld => ?_)
  clear hK K hHeld
  try simp only [Act.put, List.setIfInBounds_toArray, List.set_cons_zero, List.set_cons_succ]
  refine takeP (i := 8) (v := ?vz8) rfl (by kernel_rfl) (by kernel_rfl) (by kernel_rfl) (by decide) (fun _ _ _ h => h) (Or.inl ⟨by rfl, ?yz8⟩) hK4 ?rz8
  case yz8 => (intro w _; go_simp; first | done | with_reducible rfl)
  try simp only [Act.put, List.setIfInBounds_toArray, List.set_cons_zero, List.set_cons_succ]
  refine takeP (i := 9) (v := ?vz9) rfl (by kernel_rfl) (by kernel_rfl) (by kernel_rfl) (by decide) (fun _ _ _ h => h) (Or.inl ⟨by rfl, ?yz9⟩) hK4 ?rz9
  case yz9 => (intro w _; go_simp; first | done | with_reducible rfl)
  try simp only [Act.put, List.setIfInBounds_toArray, List.set_cons_zero, List.set_cons_succ]
  refine takeP (i := 10) (v := ?vz10) rfl (by kernel_rfl) (by kernel_rfl) (by kernel_rfl) (by decide) (fun _ _ _ h => h) (Or.inl ⟨by rfl, ?yz10⟩) hK4 ?rz10
  case yz10 => (intro w _; go_simp; first | done | with_reducible rfl)
  try simp only [Act.put, List.setIfInBounds_toArray, List.set_cons_zero, List.set_cons_succ]
  refine takeP (i := 11) (v := ?vz11) rfl (by kernel_rfl) (by kernel_rfl) (by kernel_rfl) (by decide) (fun _ _ _ h => h) (Or.inl ⟨by rfl, ?yz11⟩) hK4 ?rz11
  case yz11 => (intro w _; go_simp; first | done | with_reducible rfl)
  try simp only [Act.put, List.setIfInBounds_toArray, List.set_cons_zero, List.set_cons_succ]
  refine takeP (i := 12) (v := ?vz12) rfl (by kernel_rfl) (by kernel_rfl) (by kernel_rfl) (by decide) (fun _ _ _ h => h) (Or.inl ⟨by rfl, ?yz12⟩) hK4 ?rz12
  case yz12 => (intro w _; go_simp; first | done | with_reducible rfl)
  try simp only [Act.put, List.setIfInBounds_toArray, List.set_cons_zero, List.set_cons_succ]
  refine takeP (i := 13) (v := ?vz13) rfl (by kernel_rfl) (by kernel_rfl) (by kernel_rfl) (by decide) (fun _ _ _ h => h) (Or.inl ⟨by rfl, ?yz13⟩) hK4 ?rz13
  case yz13 => (intro w _; go_simp; first | done | with_reducible rfl)
  try simp only [Act.put, List.setIfInBounds_toArray, List.set_cons_zero, List.set_cons_succ]
  refine takeP (i := 14) (v := ?vz14) rfl (by kernel_rfl) (by kernel_rfl) (by kernel_rfl) (by decide) (fun _ _ _ h => h) (Or.inl ⟨by rfl, ?yz14⟩) hK4 ?rz14
  case yz14 => (intro w _; go_simp; first | done | with_reducible rfl)
  try simp only [Act.put, List.setIfInBounds_toArray, List.set_cons_zero, List.set_cons_succ]
  refine readyG (rs := [15]) (by kernel_rfl) (by simp) (consG rfl (fun K hK => ?_) nilG)
  go_simp
  refine hK.out _ _ (fun _ h => absurd h (by decide)) (fun hHeld => ?_)
  clear hK K hHeld
  try simp only [Act.put, List.setIfInBounds_toArray, List.set_cons_zero, List.set_cons_succ]
  refine takeP (i := 16) (v := ?vz16) rfl (by kernel_rfl) (by kernel_rfl) (by kernel_rfl) (by decide) (fun _ _ _ h => h) (Or.inl ⟨by rfl, ?yz16⟩) hK4 ?rz16
  case yz16 => (intro w _; go_simp; first | done | with_reducible rfl)
  try simp only [Act.put, List.setIfInBounds_toArray, List.set_cons_zero, List.set_cons_succ]
  refine takeP (i := 17) (v := ?vz17) rfl (by kernel_rfl) (by kernel_rfl) (by kernel_rfl) (by decide) (fun _ _ _ h => h) (Or.inl ⟨by rfl, ?yz17⟩) hK4 ?rz17
  case yz17 => (intro w _; go_simp; first | done | with_reducible rfl)
  try simp only [Act.put, List.setIfInBounds_toArray, List.set_cons_zero, List.set_cons_succ]
  refine takeP (i := 18) (v := ?vz18) rfl (by kernel_rfl) (by kernel_rfl) (by kernel_rfl) (by decide) (fun _ _ _ h => h) (Or.inl ⟨by rfl, ?yz18⟩) hK4 ?rz18
  case yz18 => (intro w _; go_simp; first | done | with_reducible rfl)
  try simp only [Act.put, List.setIfInBounds_toArray, List.set_cons_zero, List.set_cons_succ]
  refine takeP (i := 19) (v := ?vz19) rfl (by kernel_rfl) (by kernel_rfl) (by kernel_rfl) (by decide) (fun _ _ _ h => h) (Or.inl ⟨by rfl, ?yz19⟩) hK4 ?rz19
  case yz19 => (intro w _; go_simp; first | done | with_reducible rfl)
  try simp only [Act.put, List.setIfInBounds_toArray, List.set_cons_zero, List.set_cons_succ]
  refine takeP (i := 20) (v := ?vz20) rfl (by kernel_rfl) (by kernel_rfl) (by kernel_rfl) (by decide) (fun _ _ _ h => h) (Or.inl ⟨by rfl, ?yz20⟩) hK4 ?rz20
  case yz20 => (intro w _; go_simp; first | done | with_reducible rfl)
  try simp only [Act.put, List.setIfInBounds_toArray, List.set_cons_zero, List.set_cons_succ]
  refine takeP (i := 22) (v := ?vz22) rfl (by kernel_rfl) (by kernel_rfl) (by kernel_rfl) (by decide) (fun _ _ _ h => h) (Or.inl ⟨by rfl, ?yz22⟩) hK4 ?rz22
  case yz22 => (intro w _; go_simp; first | done | with_reducible rfl)
  try simp only [Act.put, List.setIfInBounds_toArray, List.set_cons_zero, List.set_cons_succ]
  refine readyG (rs := [21]) (by kernel_rfl) (by simp) (consG rfl (fun K hK => ?_) nilG)
  refine step_callsG (by rfl) 22 _ _ rfl enters_stotal _ #[.pointer (some ⟨p, 0, none⟩)] (by simp [Act.eval]) (HTO.out _ HC4.out) ?_; rintro e wq ⟨rfl, rfl⟩; refine ⟨_, rfl, ?_⟩
  refine hK.out _ _ (fun _ h => absurd h (by decide)) (fun hHeld => ?_)
  clear hK K hHeld
  try simp only [Act.put, List.setIfInBounds_toArray, List.set_cons_zero, List.set_cons_succ]
  refine readyG (rs := [23]) (by kernel_rfl) (by simp) (consG rfl (fun K hK => ?_) nilG)
  refine step_callsG (by rfl) 61 _ _ rfl enters_srtotal _ #[.pointer (some ⟨q, 0, none⟩)] (by simp [Act.eval]) (HRT.out _ HC4.out) ?_; rintro e w5 ⟨rfl, hc6⟩; refine ⟨_, rfl, ?_⟩
  have HC5 := Lib.hid (HC4.out.trans hc6)
  have H15 := Lib.hid (H14.out.trans hc6)
  have hK5 := hKC.out w5 HC5.out
  clear hc6
  refine hK.out _ _ (fun _ h => absurd h (by decide)) (fun hHeld => ?_)
  clear hK K hHeld
  try simp only [Act.put, List.setIfInBounds_toArray, List.set_cons_zero, List.set_cons_succ]
  refine takeP (i := 24) (v := ?vz24) rfl (by kernel_rfl) (by kernel_rfl) (by kernel_rfl) (by decide) (fun _ _ _ h => h) (Or.inl ⟨by rfl, ?yz24⟩) hK5 ?rz24
  case yz24 => (intro w _; go_simp; first | done | with_reducible rfl)
  try simp only [Act.put, List.setIfInBounds_toArray, List.set_cons_zero, List.set_cons_succ]
  refine takeP (i := 25) (v := ?vz25) rfl (by kernel_rfl) (by kernel_rfl) (by kernel_rfl) (by decide) (fun _ _ _ h => h) (Or.inl ⟨by rfl, ?yz25⟩) hK5 ?rz25
  case yz25 => (intro w _; go_simp; first | done | with_reducible rfl)
  try simp only [Act.put, List.setIfInBounds_toArray, List.set_cons_zero, List.set_cons_succ]
  refine doneG (by kernel_rfl) ?_ _
  clear hK0 hK2 hK3 hK4 hK5
  go_wp2
  go_loopw [41] (fun i wx => ∃ k : Nat, k ≤ m ∧ i = .int .i64 (k : Nat) ∧ Chg [] w5 wx) (fun i _ => m - (intOf i).toNat)
  case atStart => exact ⟨0, Nat.zero_le _, rfl, Chg.refl _ _⟩
  case round =>
    obtain ⟨k, hk, rfl, hch⟩ := hrel
    by_cases hlt : k < m
    · have hkl : k < D.waits.length := by have := HM.out; omega
      obtain ⟨b, o, rfl, hcc⟩ := (HO2.out.chg (H15.out.trans hch) (by simp)).addr (by omega)
      obtain ⟨b2, o2, hyo, hcc2⟩ := (HYR.out wr (HC5.out.trans hch)).addr (by omega)
      rw [HM.out] at hcc hcc2
      have d0 := ints_at hcc k hkl
      have d1 := ints_at hcc2 k hkl
      have q1 := (hKC.out wr (HC5.out.trans hch)).2
      subst hyo
      generalize D.waits[k] = v at *
      have ev : (v != v) = false := by simp
      have HCH := Lib.hid hch
      clear hcc hcc2 hch
      go_wp2
      go_quiet (fail)
      go_wp2
      exact ⟨⟨k + 1, by omega, by go_num, HCH.out.drewN _⟩, by simp [intOf]; omega⟩
    · obtain rfl : k = m := by omega
      have HE := Lib.hid (HC5.out.trans hch)
      clear hch
      go_wp2_with fail
      go_ret
      exact ⟨rfl, HE.out⟩
end Go.Proofs.Ytkcldhimjnehdaa
