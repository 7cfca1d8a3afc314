/-
  The walks of flushed and Join (layer 19). Conditions: the form's own reach.
  The walk of the document's Join (layer 19). Conditions: the form's own reach.
  A sketch and what it must be, side by side; both joined with another such pair. Conditions: the form's own reach.
-/
import Derived.Test.YtkcldhimjnehdaaGkNil
import Derived.Test.YtkcldhimjnehdaaTupMerge
import Derived.Test.YtkcldhimjnehdaaRefGkPut
import Derived.Test.YtkcldhimjnehdaaRefMerge
import Derived.Test.YtkcldhimjnehdaaPlainMerged
import Derived.Test.YtkcldhimjnehdaaGkBuild
namespace Go.Proofs.Ytkcldhimjnehdaa
open Go.RowKit

theorem enters_jclt : ∀ (args : Array Value) (w : World), (callFunc 52 args).run Try.prog w = .ok (.enter 52 args) w := enters_of Try.func52 (by kernel_rfl) rfl
theorem enters_jcli : ∀ (args : Array Value) (w : World), (callFunc 53 args).run Try.prog w = .ok (.enter 53 args) w := enters_of Try.func53 (by kernel_rfl) rfl
theorem enters_jfl : ∀ (args : Array Value) (w : World), (callFunc 64 args).run Try.prog w = .ok (.enter 64 args) w := enters_of Try.func64 (by kernel_rfl) rfl
theorem enters_jmrg : ∀ (args : Array Value) (w : World), (callFunc 63 args).run Try.prog w = .ok (.enter 63 args) w := enters_of Try.func63 (by kernel_rfl) rfl
theorem enters_jplus : ∀ (args : Array Value) (w : World), (callFunc 41 args).run Try.prog w = .ok (.enter 41 args) w := enters_of Try.func41 (by kernel_rfl) rfl

set_option maxRecDepth 100000 in
set_option maxHeartbeats 4000000 in
theorem gk_flushed (w : World) (p : Nat) (rv wv : Value) (D : GkD) (h : Gk w p rv wv D) (hok : D.ok) (hg : goodK D.num D.den = true) (hn : D.total ≤ 30000) :
    Calls Try.prog 64 #[.pointer (some ⟨p, 0, none⟩)] w fun e w' => ∃ a c, e = .returned (.slice a D.flush.row.length c) ∧ Own w' 28 3 (.slice a D.flush.row.length c) D.flush.row.length (tpCells D.flush.row) ∧ Chg [] w w' ∧ ∀ b ∈ abl a, w.heap.size ≤ b := by
  obtain ⟨ro, rc, hrv⟩ := h.row.shape
  obtain ⟨wo, wc, hwv⟩ := h.wait.shape
  subst hrv hwv
  have HG := Lib.hid h
  have HFL := Lib.hid (fun u q rv' wv' (hu : Gk u q rv' wv' D) => gk_flush u q rv' wv' D hu ⟨hok.fine, hok.placed, hok.len, by have := hok.few; omega, hok.tight⟩ hg hn)
  have hvl := hok.len
  have h16 := hok.few
  obtain ⟨n, hnn⟩ : ∃ n, n = D.row.length := ⟨_, rfl⟩
  obtain ⟨m, hm⟩ : ∃ m, m = D.waits.length := ⟨_, rfl⟩
  obtain ⟨T, hT⟩ : ∃ T, T = D.total := ⟨_, rfl⟩
  have hnb : n ≤ 30000 := by unfold GkD.total at hn; omega
  have HN := Lib.hid hnn
  have HM := Lib.hid hm
  have HT := Lib.hid hT
  have HCT := Lib.hid (fun u (hu : Chg [] w u) => clone_t u ro rc n D.row (by have h1 := (HG.out.chg hu (by simp)).row.rd; rw [← hnn] at h1; exact h1) (by omega))
  have HCI := Lib.hid (fun u (hu : Chg [] w u) => clone_i u wo wc m D.waits (by have h1 := (HG.out.chg hu (by simp)).wait.rd; rw [← hm] at h1; exact h1) (by omega))
  have HS := Lib.hid (fun wx (hu : Chg [] w wx) => show Chg [] w wx ∧ wx.cell? ⟨p, 0, none⟩ = some (.int .u64 (D.num : Nat)) ∧ wx.cell? ⟨p, 1, none⟩ = some (.int .u64 (D.den : Nat)) ∧ wx.cell? ⟨p, 2, none⟩ = some (.slice ro n rc) ∧ wx.cell? ⟨p, 3, none⟩ = some (.slice wo m wc) ∧ wx.cell? ⟨p, 4, none⟩ = some (.int .u64 (T : Nat)) from by
    obtain ⟨q0, q1, q2, q3, q4⟩ := (HG.out.chg hu (by simp)).cells
    rw [hnn, hm, hT]
    exact ⟨hu, q0, q1, q2, q3, q4⟩)
  obtain ⟨E, hE⟩ : ∃ E, E = D.flush := ⟨_, rfl⟩
  obtain ⟨N, hN⟩ : ∃ N, N = E.row.length := ⟨_, rfl⟩
  rw [← hE] at HFL ⊢
  rw [← hN]
  have HNL := Lib.hid hN
  clear h hok hg hn hvl hnn hm hT hE hN
  go_enter Try.func64, Try.ntmps64
  go_upto_region 1 with (fail)
  have hSS := HS.out w.drew (Chg.refl [] w).drew
  refine startG (S := fun wx => Chg [] w wx ∧ wx.cell? ⟨p, 0, none⟩ = some (.int .u64 (D.num : Nat)) ∧ wx.cell? ⟨p, 1, none⟩ = some (.int .u64 (D.den : Nat)) ∧ wx.cell? ⟨p, 2, none⟩ = some (.slice ro n rc) ∧ wx.cell? ⟨p, 3, none⟩ = some (.slice wo m wc) ∧ wx.cell? ⟨p, 4, none⟩ = some (.int .u64 (T : Nat))) (st := 20) (by kernel_rfl) hSS (fun hHeld => ?_)
  refine takeP (i := 0) (v := ?vz0) rfl (by kernel_rfl) (by kernel_rfl) (by kernel_rfl) (by decide) (fun _ _ _ h => h) (Or.inl ⟨by rfl, ?yz0⟩) hSS ?rz0
  case yz0 => (intro w _; go_simp; first | done | with_reducible rfl)
  try simp only [Act.put, List.setIfInBounds_toArray, List.set_cons_zero, List.set_cons_succ]
  refine takeP (i := 1) (v := ?vz1) rfl (by kernel_rfl) (by kernel_rfl) (by kernel_rfl) (by decide) (fun _ _ _ h => h) (Or.inl ⟨by rfl, ?yz1⟩) hSS ?rz1
  case yz1 => (intro w _; go_simp; first | done | with_reducible rfl)
  try simp only [Act.put, List.setIfInBounds_toArray, List.set_cons_zero, List.set_cons_succ]
  refine takeP (i := 2) (v := ?vz2) rfl (by kernel_rfl) (by kernel_rfl) (by kernel_rfl) (by decide) (fun _ _ _ h => h) (Or.inl ⟨by rfl, ?yz2⟩) hSS ?rz2
  case yz2 => (intro w _; go_simp; first | done | with_reducible rfl)
  try simp only [Act.put, List.setIfInBounds_toArray, List.set_cons_zero, List.set_cons_succ]
  refine takeG (i := 3) (v := ?vz3) rfl (by kernel_rfl) (by kernel_rfl) (by kernel_rfl) (by decide) (by kernel_rfl) (by kernel_rfl) (fun _ _ _ h => h) (Or.inl ⟨by rfl, ?yz3⟩) hSS ?rz3
  case yz3 => (intro w hSw; (try dsimp only at hSw); go_simp; first | done | with_reducible rfl)
  try simp only [Act.put, List.setIfInBounds_toArray, List.set_cons_zero, List.set_cons_succ]
  refine takeP (i := 4) (v := ?vz4) rfl (by kernel_rfl) (by kernel_rfl) (by kernel_rfl) (by decide) (fun _ _ _ h => h) (Or.inl ⟨by rfl, ?yz4⟩) hSS ?rz4
  case yz4 => (intro w _; go_simp; first | done | with_reducible rfl)
  try simp only [Act.put, List.setIfInBounds_toArray, List.set_cons_zero, List.set_cons_succ]
  refine takeP (i := 5) (v := ?vz5) rfl (by kernel_rfl) (by kernel_rfl) (by kernel_rfl) (by decide) (fun _ _ _ h => h) (Or.inl ⟨by rfl, ?yz5⟩) hSS ?rz5
  case yz5 => (intro w _; go_simp; first | done | with_reducible rfl)
  try simp only [Act.put, List.setIfInBounds_toArray, List.set_cons_zero, List.set_cons_succ]
  refine takeP (i := 6) (v := ?vz6) rfl (by kernel_rfl) (by kernel_rfl) (by kernel_rfl) (by decide) (fun _ _ _ h => h) (Or.inl ⟨by rfl, ?yz6⟩) hSS ?rz6
  case yz6 => (intro w _; go_simp; first | done | with_reducible rfl)
  try simp only [Act.put, List.setIfInBounds_toArray, List.set_cons_zero, List.set_cons_succ]
  refine takeG (i := 7) (v := ?vz7) rfl (by kernel_rfl) (by kernel_rfl) (by kernel_rfl) (by decide) (by kernel_rfl) (by kernel_rfl) (fun _ _ _ h => h) (Or.inl ⟨by rfl, ?yz7⟩) hSS ?rz7
  case yz7 => (intro w hSw; (try dsimp only at hSw); go_simp; first | done | with_reducible rfl)
  try simp only [Act.put, List.setIfInBounds_toArray, List.set_cons_zero, List.set_cons_succ]
  refine takeP (i := 9) (v := ?vz9) rfl (by kernel_rfl) (by kernel_rfl) (by kernel_rfl) (by decide) (fun _ _ _ h => h) (Or.inl ⟨by rfl, ?yz9⟩) hSS ?rz9
  case yz9 => (intro w _; go_simp; first | done | with_reducible rfl)
  try simp only [Act.put, List.setIfInBounds_toArray, List.set_cons_zero, List.set_cons_succ]
  refine takeP (i := 10) (v := ?vz10) rfl (by kernel_rfl) (by kernel_rfl) (by kernel_rfl) (by decide) (fun _ _ _ h => h) (Or.inl ⟨by rfl, ?yz10⟩) hSS ?rz10
  case yz10 => (intro w _; go_simp; first | done | with_reducible rfl)
  try simp only [Act.put, List.setIfInBounds_toArray, List.set_cons_zero, List.set_cons_succ]
  refine takeP (i := 11) (v := ?vz11) rfl (by kernel_rfl) (by kernel_rfl) (by kernel_rfl) (by decide) (fun _ _ _ h => h) (Or.inl ⟨by rfl, ?yz11⟩) hSS ?rz11
  case yz11 => (intro w _; go_simp; first | done | with_reducible rfl)
  try simp only [Act.put, List.setIfInBounds_toArray, List.set_cons_zero, List.set_cons_succ]
  refine takeG (i := 12) (v := ?vz12) rfl (by kernel_rfl) (by kernel_rfl) (by kernel_rfl) (by decide) (by kernel_rfl) (by kernel_rfl) (fun _ _ _ h => h) (Or.inl ⟨by rfl, ?yz12⟩) hSS ?rz12
  case yz12 => (intro w hSw; (try dsimp only at hSw); go_simp; first | done | with_reducible rfl)
  try simp only [Act.put, List.setIfInBounds_toArray, List.set_cons_zero, List.set_cons_succ]
  refine takeP (i := 14) (v := ?vz14) rfl (by kernel_rfl) (by kernel_rfl) (by kernel_rfl) (by decide) (fun _ _ _ h => h) (Or.inl ⟨by rfl, ?yz14⟩) hSS ?rz14
  case yz14 => (intro w _; go_simp; first | done | with_reducible rfl)
  try simp only [Act.put, List.setIfInBounds_toArray, List.set_cons_zero, List.set_cons_succ]
  refine takeP (i := 15) (v := ?vz15) rfl (by kernel_rfl) (by kernel_rfl) (by kernel_rfl) (by decide) (fun _ _ _ h => h) (Or.inl ⟨by rfl, ?yz15⟩) hSS ?rz15
  case yz15 => (intro w _; go_simp; first | done | with_reducible rfl)
  try simp only [Act.put, List.setIfInBounds_toArray, List.set_cons_zero, List.set_cons_succ]
  refine takeP (i := 16) (v := ?vz16) rfl (by kernel_rfl) (by kernel_rfl) (by kernel_rfl) (by decide) (fun _ _ _ h => h) (Or.inl ⟨by rfl, ?yz16⟩) hSS ?rz16
  case yz16 => (intro w _; go_simp; first | done | with_reducible rfl)
  try simp only [Act.put, List.setIfInBounds_toArray, List.set_cons_zero, List.set_cons_succ]
  refine takeG (i := 17) (v := ?vz17) rfl (by kernel_rfl) (by kernel_rfl) (by kernel_rfl) (by decide) (by kernel_rfl) (by kernel_rfl) (fun _ _ _ h => h) (Or.inl ⟨by rfl, ?yz17⟩) hSS ?rz17
  case yz17 => (intro w hSw; (try dsimp only at hSw); go_simp; first | done | with_reducible rfl)
  try simp only [Act.put, List.setIfInBounds_toArray, List.set_cons_zero, List.set_cons_succ]
  refine readyG (rs := [8]) (by kernel_rfl) (by simp) (consG rfl (fun K hK => ?_) nilG)
  refine step_calls rfl 52 _ _ rfl enters_jclt _ #[.slice ro n rc] (by simp [Act.eval]) (HCT.out _ hSS.1) ?_; rintro e w1 ⟨a1, c1, rfl, ho1, hc1, hf1⟩; refine ⟨_, rfl, ?_⟩
  have hS1 := HS.out _ (hSS.1.trans hc1)
  have HO1 := Lib.hid ho1
  have HF1 := Lib.hid (show ∀ b ∈ abl a1, w.heap.size ≤ b from hf1)
  clear ho1 hc1 hf1
  refine hK.out _ _ (fun _ _ => hS1) (fun hHeld => ?_)
  clear hK K hHeld
  try simp only [Act.put, List.setIfInBounds_toArray, List.set_cons_zero, List.set_cons_succ]
  refine readyG (rs := [13]) (by kernel_rfl) (by simp) (consG rfl (fun K hK => ?_) nilG)
  refine step_calls rfl 53 _ _ rfl enters_jcli _ #[.slice wo m wc] (by simp [Act.eval]) (HCI.out _ hS1.1) ?_; rintro e w2 ⟨a2, c2, rfl, ho2, hc2, hf2⟩; refine ⟨_, rfl, ?_⟩
  have hS2 := HS.out _ (hS1.1.trans hc2)
  have HO2 := Lib.hid ho2
  have HO12 := Lib.hid (HO1.out.chg hc2 (by simp))
  have HF2 := Lib.hid (show ∀ b ∈ abl a2, w.heap.size ≤ b from fun b hb => Nat.le_trans hS1.1.size (hf2 b hb))
  clear ho2 hc2 hf2 HO1 hS1
  refine hK.out _ _ (fun _ _ => hS2) (fun hHeld => ?_)
  clear hK K hHeld
  try simp only [Act.put, List.setIfInBounds_toArray, List.set_cons_zero, List.set_cons_succ]
  refine takeP (i := 18) (v := ?vz18) rfl (by kernel_rfl) (by kernel_rfl) (by kernel_rfl) (by decide) (fun _ _ _ h => h) (Or.inl ⟨by rfl, ?yz18⟩) hS2 ?rz18
  case yz18 => (intro w _; go_simp; first | done | with_reducible rfl)
  try simp only [Act.put, List.setIfInBounds_toArray, List.set_cons_zero, List.set_cons_succ]
  refine readyG (rs := [19]) (by kernel_rfl) (by simp) (consG rfl (fun K hK => ?_) nilG)
  go_simp
  have hS3 := HS.out _ (hS2.1.alloc (.cells #[.int .u64 (D.num : Nat), .int .u64 (D.den : Nat), .slice a1 n c1, .slice a2 m c2, .int .u64 (T : Nat)] 93))
  refine hK.out _ _ (fun _ _ => hS3) (fun hHeld => ?_)
  clear hK K hHeld
  try simp only [Act.put, List.setIfInBounds_toArray, List.set_cons_zero, List.set_cons_succ]
  refine readyG (rs := [20]) (by kernel_rfl) (by simp) (consG rfl (fun K hK => ?_) nilG)
  go_simp
  refine hK.out _ _ (fun h => absurd rfl h) (fun hHeld => ?_)
  clear hK K hHeld
  try simp only [Act.put, List.setIfInBounds_toArray, List.set_cons_zero, List.set_cons_succ]
  refine doneG (by kernel_rfl) ?_ _
  have HB := Lib.hid (Blk.alloc_new w2 #[.int .u64 (D.num : Nat), .int .u64 (D.den : Nat), .slice a1 n c1, .slice a2 m c2, .int .u64 (T : Nat)] 93)
  have HOA := Lib.hid (HO12.out.alloc (.cells #[.int .u64 (D.num : Nat), .int .u64 (D.den : Nat), .slice a1 n c1, .slice a2 m c2, .int .u64 (T : Nat)] 93))
  have HOB := Lib.hid (HO2.out.alloc (.cells #[.int .u64 (D.num : Nat), .int .u64 (D.den : Nat), .slice a1 n c1, .slice a2 m c2, .int .u64 (T : Nat)] 93))
  have HC3 := Lib.hid hS3.1
  obtain ⟨q, hq⟩ : ∃ q, q = w2.heap.size := ⟨_, rfl⟩
  have HQ := Lib.hid (show w.heap.size ≤ q from by rw [hq]; exact hS2.1.size)
  rw [← hq] at HB ⊢
  clear hSS hS2 hS3 hq HO12 HO2 HCT HCI HS
  generalize w2.alloc (.cells #[.int .u64 (D.num : Nat), .int .u64 (D.den : Nat), .slice a1 n c1, .slice a2 m c2, .int .u64 (T : Nat)] 93) = w3 at *
  have HG3 := Lib.hid (show Gk w3 q (.slice a1 n c1) (.slice a2 m c2) D from ⟨by rw [gkCells, ← HT.out]; exact HB.out, by rw [← HN.out]; exact HOA.out, by rw [← HM.out]; exact HOB.out⟩)
  clear HB HOA HOB
  go_wp2_with fail
  refine (HFL.out _ q _ _ HG3.out).mono ?_
  rintro e w4 ⟨rfl, rv2, wv2, ht4, hm4⟩
  obtain ⟨ro2, rc2, hrv2⟩ := ht4.row.shape
  subst hrv2
  have HFR := Lib.hid (show ∀ b ∈ fpK q (.slice a1 n c1) (.slice a2 m c2), w.heap.size ≤ b from fun b hb => by
    simp only [fpK, List.mem_cons, List.mem_append] at hb
    rcases hb with rfl | hb | hb
    · exact HQ.out
    · exact HF1.out b (by simpa using hb)
    · exact HF2.out b (by simpa using hb))
  have HC4 := Lib.hid (HC3.out.trans' hm4.chg (fun b hb => .inr (HFR.out b hb)))
  have HO4 := Lib.hid ht4.row
  have HF4 := Lib.hid (show ∀ b ∈ abl ro2, w.heap.size ≤ b from fun b hb => by
    rcases hm4.fr b (by simp [fpK, hb]) with h | h
    · exact HFR.out b h
    · exact Nat.le_trans HC3.out.size h)
  obtain ⟨-, -, c2, -, -⟩ := ht4.cells
  clear ht4 hm4 HFL HG3
  rw [← HNL.out] at c2 HO4
  go_wp2_with fail
  go_ret
  exact ⟨ro2, rc2, rfl, HO4.out, HC4.out, HF4.out⟩
theorem limG_le {num den n : Nat} (hg : goodK num den = true) : limG num den n ≤ n + 1 := by
  obtain ⟨h1, h2, h3⟩ := goodK_of hg
  unfold limG
  have : 2 * num * n / den ≤ n := by
    refine Nat.div_le_of_le_mul ?_
    exact Nat.mul_le_mul_right n (by omega)
  omega
/-- The number is stored anew. -/
theorem Gk.total' {w : World} {p : Nat} {rv wv : Value} {D E : GkD} (h : Gk w p rv wv D) (hE : E.num = D.num ∧ E.den = D.den ∧ E.row = D.row ∧ E.waits = D.waits) (T : Nat) (hT : T = E.total) :
    Gk (w.setCell ⟨p, 4, none⟩ (.int .u64 (T : Nat))) p rv wv E ∧ Mv (fpK p rv wv) w (fpK p rv wv) (w.setCell ⟨p, 4, none⟩ (.int .u64 (T : Nat))) := by
  obtain ⟨e1, e2, e4, e5⟩ := hE
  subst hT
  have k2 : Chg [p] w (w.setCell ⟨p, 4, none⟩ (.int .u64 (E.total : Nat))) := (Chg.refl _ w).setCell (a := ⟨p, 4, none⟩) (.inl (by simp)) _
  refine ⟨⟨?_, ?_, ?_⟩, k2.mono (fun b hb => .inl (by simp at hb; subst hb; simp [fpK])), fun b hb => .inl hb⟩
  · have h2 := h.blk.setCell 4 (.int .u64 (E.total : Nat))
    unfold gkCells at h2 ⊢
    rw [e1, e2]
    exact h2
  · rw [e4]
    exact h.row.chg k2 (fun b hb2 e => by simp at e; subst e; exact h.p_rv hb2)
  · rw [e5]
    exact h.wait.chg k2 (fun b hb2 e => by simp at e; subst e; exact h.p_wv hb2)
set_option maxRecDepth 100000 in
set_option maxHeartbeats 8000000 in
theorem gk_join (w : World) (p : Nat) (rv wv : Value) (D : GkD) (h : Gk w p rv wv D) (hok : D.ok) (hg : goodK D.num D.den = true) (q : Nat) (sv yv : Value) (O : GkD) (k : Gk w q sv yv O) (hok2 : O.ok) (hpar : O.num = D.num ∧ O.den = D.den) (hn : D.total + O.total ≤ 30000) (hd : ∀ b ∈ fpK p rv wv, b ∉ fpK q sv yv) :
    Calls Try.prog 38 #[.pointer (some ⟨p, 0, none⟩), .pointer (some ⟨q, 0, none⟩)] w fun e w' => e = .returned (.int .i64 0) ∧ ∃ rv' wv', Gk w' p rv' wv' (D.join O) ∧ Mv (fpK p rv wv) w (fpK p rv' wv') w' := by
  obtain ⟨c0, c1, -, -, -⟩ := h.cells
  obtain ⟨d0, d1, -, -, -⟩ := k.cells
  have hnq := ratio_neq (D.num : Nat) (O.num : Nat) (D.den : Nat) (O.den : Nat)
  rw [hpar.1] at hnq d0
  rw [hpar.2] at hnq d1
  have hnf : (!((D.num : Int) == (D.num : Int) && (D.den : Int) == (D.den : Int))) = false := by simp
  rw [hnf] at hnq
  obtain ⟨T, hT⟩ : ∃ T, T = D.total := ⟨_, rfl⟩
  obtain ⟨T2, hT2⟩ : ∃ T, T = O.total := ⟨_, rfl⟩
  rw [← hT, ← hT2] at hn
  obtain ⟨S, hS⟩ : ∃ S, S = T + T2 := ⟨_, rfl⟩
  have HPL := Lib.hid (fun (u : World) (b0 : Nat) (hr : Rd u 1 (.slice (some ⟨b0, 0, none⟩) 2 2) 2 [.int .u64 (T : Nat), .int .u64 (T2 : Nat)]) => wide_plus u (some ⟨b0, 0, none⟩) 2 [T, T2] (by simp; omega) hr (by simp))
  have epl : plusV [T, T2] = .tuple #[.int .u64 ((S : Nat) : Int), .bool true] := by
    have e0 : [T, T2].sum = S := by simp [hS]
    unfold plusV
    rw [e0, if_pos (by omega)]
  rw [epl] at HPL
  have HG := Lib.hid h
  have HK := Lib.hid k
  have HS := Lib.hid (fun wx (hu : Chg [] w wx) => show Chg [] w wx ∧ wx.cell? ⟨p, 4, none⟩ = some (.int .u64 (T : Nat)) ∧ wx.cell? ⟨q, 4, none⟩ = some (.int .u64 (T2 : Nat)) from by
    obtain ⟨-, -, -, -, q4⟩ := (HG.out.chg hu (by simp)).cells
    obtain ⟨-, -, -, -, r4⟩ := (HK.out.chg hu (by simp)).cells
    rw [hT, hT2]
    exact ⟨hu, q4, r4⟩)
  have HT := Lib.hid hT
  have HT2 := Lib.hid hT2
  have HOK := Lib.hid hok
  have HOK2 := Lib.hid hok2
  have HGD := Lib.hid hg
  have HPAR := Lib.hid hpar
  have HD := Lib.hid hd
  have HSS := Lib.hid hS
  have hS3 : S ≤ 30000 := by omega
  obtain ⟨R1, hR1⟩ : ∃ R, R = D.flush.row := ⟨_, rfl⟩
  obtain ⟨R2, hR2⟩ : ∃ R, R = O.flush.row := ⟨_, rfl⟩
  have HR1 := Lib.hid hR1
  have HR2 := Lib.hid hR2
  obtain ⟨L, hL⟩ : ∃ L, L = limG D.num D.den S := ⟨_, rfl⟩
  have HL := Lib.hid hL
  have HLM := Lib.hid (fun u => show Calls Try.prog 15 #[.agg #[.int .u64 (D.num : Nat), .int .u64 (D.den : Nat)], .int .u64 (S : Nat)] u fun e w' => e = .returned (.int .u64 (L : Nat)) ∧ Chg [] u w' from by
    obtain ⟨g1, g2, g3⟩ := goodK_of hg
    have h2 := tup_limit u D.num D.den S (by omega) (by omega) (by omega)
    rw [limT_eq hg (by omega), ← hL] at h2
    exact h2)
  have HFD := Lib.hid (fun u (hu : Gk u q sv yv O) => show Calls Try.prog 64 #[.pointer (some ⟨q, 0, none⟩)] u fun e w' => ∃ a c, e = .returned (.slice a R2.length c) ∧ Own w' 28 3 (.slice a R2.length c) R2.length (tpCells R2) ∧ Chg [] u w' ∧ ∀ b ∈ abl a, u.heap.size ≤ b from by
    rw [hR2]
    exact gk_flushed u q sv yv O hu hok2 (by rw [hpar.1, hpar.2]; exact hg) (by omega))
  have HFL := Lib.hid (fun u (hu : Gk u p rv wv D) => gk_flush u p rv wv D hu ⟨hok.fine, hok.placed, hok.len, by have := hok.few; omega, hok.tight⟩ hg (by omega))
  have HMR : Hid (∀ (u : World) (ao : Option Addr) (cap : Nat) (bo : Option Addr) (bcap : Nat), Rd u 3 (.slice ao R1.length cap) R1.length (tpCells R1) → Rd u 3 (.slice bo R2.length bcap) R2.length (tpCells R2) →
      Calls Try.prog 63 #[.slice ao R1.length cap, .slice bo R2.length bcap] u fun e w' => ∃ a3 c3, e = .returned (.slice a3 (mrgT R1 R2).length c3) ∧
        Own w' 28 3 (.slice a3 (mrgT R1 R2).length c3) (mrgT R1 R2).length (tpCells (mrgT R1 R2)) ∧ Chg [] u w' ∧ ∀ b ∈ abl a3, u.heap.size ≤ b) ∧
      Hid (∃ N, FineT (mrgT R1 R2) N ∧ N ≤ 30000 ∧ (mrgT R1 R2).length ≤ 100000) := by
    have a := GkD.flush_ok0 hok
    have b := GkD.flush_ok0 hok2
    obtain ⟨-, -, a3, a4⟩ := D.flush_same
    obtain ⟨-, -, b3, b4⟩ := O.flush_same
    have ha : D.flush.vals.length = T := by rw [hT, ← a3, GkD.total, a4]; rfl
    have hb : O.flush.vals.length = T2 := by rw [hT2, ← b3, GkD.total, b4]; rfl
    have af := a.fine
    have bf := b.fine
    have al := a.len
    have bl := b.len
    have m1 := (merged a.fine b.fine a.placed b.placed).1
    rw [List.length_append, ha, hb] at m1
    rw [ha, ← hR1] at af al
    rw [hb, ← hR2] at bf bl
    rw [← hR1, ← hR2] at m1
    refine ⟨Lib.hid fun u ao cap bo bcap h1 h2 => tup_merge u ao cap R1 bo bcap R2 af.up bf.up h1 h2 (by omega) (by omega) (fun p hp q hq => ⟨bf.pos q hq, ?_⟩) (fun p hp q hq => ⟨af.pos q hq, ?_⟩), Lib.hid ⟨_, m1, by omega, by rw [mrgT_len]; omega⟩⟩
    · have := af.bound p hp; have := bf.bound q hq; omega
    · have := bf.bound p hp; have := af.bound q hq; omega
  obtain ⟨HMR, HMF⟩ := HMR
  obtain ⟨M, hM⟩ : ∃ M, M = mrgT R1 R2 := ⟨_, rfl⟩
  rw [← hM] at HMR HMF
  have HM := Lib.hid hM
  clear h k hok hok2 hg hpar hd hT hT2 epl hnf hS hn hR1 hR2 hL hM
  go_enter Try.func38, Try.ntmps38
  go_wp2
  go_quiet (fail)
  go_upto_region 5 with (fail)
  have hSS := HS.out (w.drewN nq).drew (by with_reducible (repeat (first | exact Chg.refl _ _ | apply Chg.drew | apply Chg.drewN)))
  refine startG (S := fun wx => Chg [] w wx ∧ wx.cell? ⟨p, 4, none⟩ = some (.int .u64 (T : Nat)) ∧ wx.cell? ⟨q, 4, none⟩ = some (.int .u64 (T2 : Nat))) (st := 14) (by kernel_rfl) hSS (fun hHeld => ?_)
  refine takeP (i := 0) (v := ?va0) rfl (by kernel_rfl) (by kernel_rfl) (by kernel_rfl) (by decide) (fun _ _ _ h => h) (Or.inl ⟨by rfl, ?ya0⟩) hSS ?ra0
  case ya0 => (intro w _; go_simp; first | done | with_reducible rfl)
  try simp only [Act.put, List.setIfInBounds_toArray, List.set_cons_zero, List.set_cons_succ]
  refine takeP (i := 1) (v := ?va1) rfl (by kernel_rfl) (by kernel_rfl) (by kernel_rfl) (by decide) (fun _ _ _ h => h) (Or.inl ⟨by rfl, ?ya1⟩) hSS ?ra1
  case ya1 => (intro w _; go_simp; first | done | with_reducible rfl)
  try simp only [Act.put, List.setIfInBounds_toArray, List.set_cons_zero, List.set_cons_succ]
  refine takeP (i := 2) (v := ?va2) rfl (by kernel_rfl) (by kernel_rfl) (by kernel_rfl) (by decide) (fun _ _ _ h => h) (Or.inl ⟨by rfl, ?ya2⟩) hSS ?ra2
  case ya2 => (intro w _; go_simp; first | done | with_reducible rfl)
  try simp only [Act.put, List.setIfInBounds_toArray, List.set_cons_zero, List.set_cons_succ]
  refine takeG (i := 3) (v := ?va3) rfl (by kernel_rfl) (by kernel_rfl) (by kernel_rfl) (by decide) (by kernel_rfl) (by kernel_rfl) (fun _ _ _ h => h) (Or.inl ⟨by rfl, ?ya3⟩) hSS ?ra3
  case ya3 => (intro w hSw; (try dsimp only at hSw); go_simp; first | done | with_reducible rfl)
  try simp only [Act.put, List.setIfInBounds_toArray, List.set_cons_zero, List.set_cons_succ]
  refine takeP (i := 4) (v := ?va4) rfl (by kernel_rfl) (by kernel_rfl) (by kernel_rfl) (by decide) (fun _ _ _ h => h) (Or.inl ⟨by rfl, ?ya4⟩) hSS ?ra4
  case ya4 => (intro w _; go_simp; first | done | with_reducible rfl)
  try simp only [Act.put, List.setIfInBounds_toArray, List.set_cons_zero, List.set_cons_succ]
  refine takeP (i := 5) (v := ?va5) rfl (by kernel_rfl) (by kernel_rfl) (by kernel_rfl) (by decide) (fun _ _ _ h => h) (Or.inl ⟨by rfl, ?ya5⟩) hSS ?ra5
  case ya5 => (intro w _; go_simp; first | done | with_reducible rfl)
  try simp only [Act.put, List.setIfInBounds_toArray, List.set_cons_zero, List.set_cons_succ]
  refine takeP (i := 6) (v := ?va6) rfl (by kernel_rfl) (by kernel_rfl) (by kernel_rfl) (by decide) (fun _ _ _ h => h) (Or.inl ⟨by rfl, ?ya6⟩) hSS ?ra6
  case ya6 => (intro w _; go_simp; first | done | with_reducible rfl)
  try simp only [Act.put, List.setIfInBounds_toArray, List.set_cons_zero, List.set_cons_succ]
  refine takeG (i := 7) (v := ?va7) rfl (by kernel_rfl) (by kernel_rfl) (by kernel_rfl) (by decide) (by kernel_rfl) (by kernel_rfl) (fun _ _ _ h => h) (Or.inl ⟨by rfl, ?ya7⟩) hSS ?ra7
  case ya7 => (intro w hSw; (try dsimp only at hSw); go_simp; first | done | with_reducible rfl)
  try simp only [Act.put, List.setIfInBounds_toArray, List.set_cons_zero, List.set_cons_succ]
  refine readyG (rs := [8]) (by kernel_rfl) (by simp) (consG rfl (fun K hK => ?_) nilG)
  go_simp
  have HR1_1 := Lib.hid ((Rd.lit (w.drewN nq) #[.int .u64 (T : Nat), .int .u64 (T2 : Nat)] 23 1 2 2 rfl).chg ((Chg.refl [] _).drew) (by simp))
  have hS1 := HS.out (((w.drewN nq).alloc (.cells #[.int .u64 (T : Nat), .int .u64 (T2 : Nat)] 23)).drew) (by with_reducible (repeat (first | exact Chg.refl _ _ | apply Chg.drew | apply Chg.alloc | apply Chg.drewN)))
  refine hK.out _ _ (fun _ _ => hS1) (fun hHeld => ?_)
  clear hK K hHeld
  try simp only [Act.put, List.setIfInBounds_toArray, List.set_cons_zero, List.set_cons_succ]
  refine readyG (rs := [9]) (by kernel_rfl) (by simp) (consG rfl (fun K hK => ?_) nilG)
  refine step_calls rfl 41 _ _ rfl enters_jplus _ #[.slice (some ⟨(w.drewN nq).heap.size, 0, none⟩) 2 2] (by simp [Act.eval]) (HPL.out _ _ HR1_1.out) ?_; rintro e wq ⟨rfl, rfl⟩; refine ⟨_, rfl, ?_⟩
  refine hK.out _ _ (fun _ _ => hS1) (fun hHeld => ?_)
  clear hK K hHeld
  try simp only [Act.put, List.setIfInBounds_toArray, List.set_cons_zero, List.set_cons_succ]
  refine takeP (i := 10) (v := ?va10) rfl (by kernel_rfl) (by kernel_rfl) (by kernel_rfl) (by decide) (fun _ _ _ h => h) (Or.inl ⟨by rfl, ?ya10⟩) hS1 ?ra10
  case ya10 => (intro w _; go_simp; first | done | with_reducible rfl)
  try simp only [Act.put, List.setIfInBounds_toArray, List.set_cons_zero, List.set_cons_succ]
  refine takeP (i := 11) (v := ?va11) rfl (by kernel_rfl) (by kernel_rfl) (by kernel_rfl) (by decide) (fun _ _ _ h => h) (Or.inl ⟨by rfl, ?ya11⟩) hS1 ?ra11
  case ya11 => (intro w _; go_simp; first | done | with_reducible rfl)
  try simp only [Act.put, List.setIfInBounds_toArray, List.set_cons_zero, List.set_cons_succ]
  refine takeP (i := 12) (v := ?va12) rfl (by kernel_rfl) (by kernel_rfl) (by kernel_rfl) (by decide) (fun _ _ _ h => h) (Or.inl ⟨by rfl, ?ya12⟩) hS1 ?ra12
  case ya12 => (intro w _; go_simp; first | done | with_reducible rfl)
  try simp only [Act.put, List.setIfInBounds_toArray, List.set_cons_zero, List.set_cons_succ]
  refine takeP (i := 13) (v := ?va13) rfl (by kernel_rfl) (by kernel_rfl) (by kernel_rfl) (by decide) (fun _ _ _ h => h) (Or.inl ⟨by rfl, ?ya13⟩) hS1 ?ra13
  case ya13 => (intro w _; go_simp; first | done | with_reducible rfl)
  try simp only [Act.put, List.setIfInBounds_toArray, List.set_cons_zero, List.set_cons_succ]
  refine readyG (rs := [14]) (by kernel_rfl) (by simp) (consG rfl (fun K hK => ?_) nilG)
  go_simp
  refine hK.out _ _ (fun h => absurd rfl h) (fun hHeld => ?_)
  clear hK K hHeld
  try simp only [Act.put, List.setIfInBounds_toArray, List.set_cons_zero, List.set_cons_succ]
  refine doneG (by kernel_rfl) ?_ _
  have H5 := Lib.hid (show Chg [] w ((w.drewN (nq + 1)).alloc (.cells #[.int .u64 (T : Nat), .int .u64 (T2 : Nat)] 23)) from by with_reducible (repeat (first | exact Chg.refl _ _ | apply Chg.drew | apply Chg.alloc | apply Chg.drewN)))
  clear hSS hS1 HR1_1 hnq c0 c1 d0 d1 HPL HS
  generalize (w.drewN (nq + 1)).alloc (.cells #[.int .u64 (T : Nat), .int .u64 (T2 : Nat)] 23) = w5 at *
  go_wp2_with fail
  refine (HFL.out _ (HG.out.chg H5.out (by simp))).mono ?_
  rintro e w6 ⟨rfl, rv1, wv1, ht6, hm6⟩
  obtain ⟨ro1, rc1, hrv1⟩ := ht6.row.shape
  subst hrv1
  rw [← HR1.out] at ht6 hm6
  have HT6 := Lib.hid ht6
  have HM6 := Lib.hid ((Mv.of_chg (F := fpK p rv wv) H5.out.nil).trans hm6)
  have HK6 := Lib.hid ((HK.out.chg H5.out (by simp)).chg hm6.chg (fun b hb e => HD.out b e hb))
  have HS := Lib.hid (fun wx (hu : Chg [] w6 wx) => show Chg [] w6 wx ∧ wx.cell? ⟨p, 2, none⟩ = some (.slice ro1 R1.length rc1) from ⟨hu, (HT6.out.chg hu (by simp)).cells.2.2.1⟩)
  clear ht6 hm6 HFL HG HK
  go_upto_region 9 with (fail)
  have hSS := HS.out w6.drew (Chg.refl [] w6).drew
  refine startG (S := fun wx => Chg [] w6 wx ∧ wx.cell? ⟨p, 2, none⟩ = some (.slice ro1 R1.length rc1)) (st := 7) (by kernel_rfl) hSS (fun hHeld => ?_)
  refine takeP (i := 0) (v := ?vb0) rfl (by kernel_rfl) (by kernel_rfl) (by kernel_rfl) (by decide) (fun _ _ _ h => h) (Or.inl ⟨by rfl, ?yb0⟩) hSS ?rb0
  case yb0 => (intro w _; go_simp; first | done | with_reducible rfl)
  try simp only [Act.put, List.setIfInBounds_toArray, List.set_cons_zero, List.set_cons_succ]
  refine takeP (i := 1) (v := ?vb1) rfl (by kernel_rfl) (by kernel_rfl) (by kernel_rfl) (by decide) (fun _ _ _ h => h) (Or.inl ⟨by rfl, ?yb1⟩) hSS ?rb1
  case yb1 => (intro w _; go_simp; first | done | with_reducible rfl)
  try simp only [Act.put, List.setIfInBounds_toArray, List.set_cons_zero, List.set_cons_succ]
  refine takeP (i := 2) (v := ?vb2) rfl (by kernel_rfl) (by kernel_rfl) (by kernel_rfl) (by decide) (fun _ _ _ h => h) (Or.inl ⟨by rfl, ?yb2⟩) hSS ?rb2
  case yb2 => (intro w _; go_simp; first | done | with_reducible rfl)
  try simp only [Act.put, List.setIfInBounds_toArray, List.set_cons_zero, List.set_cons_succ]
  refine takeG (i := 3) (v := ?vb3) rfl (by kernel_rfl) (by kernel_rfl) (by kernel_rfl) (by decide) (by kernel_rfl) (by kernel_rfl) (fun _ _ _ h => h) (Or.inl ⟨by rfl, ?yb3⟩) hSS ?rb3
  case yb3 => (intro w hSw; (try dsimp only at hSw); go_simp; first | done | with_reducible rfl)
  try simp only [Act.put, List.setIfInBounds_toArray, List.set_cons_zero, List.set_cons_succ]
  refine takeP (i := 4) (v := ?vb4) rfl (by kernel_rfl) (by kernel_rfl) (by kernel_rfl) (by decide) (fun _ _ _ h => h) (Or.inl ⟨by rfl, ?yb4⟩) hSS ?rb4
  case yb4 => (intro w _; go_simp; first | done | with_reducible rfl)
  try simp only [Act.put, List.setIfInBounds_toArray, List.set_cons_zero, List.set_cons_succ]
  refine readyG (rs := [5]) (by kernel_rfl) (by simp) (consG rfl (fun K hK => ?_) nilG)
  refine step_calls rfl 64 _ _ rfl enters_jfl _ #[.pointer (some ⟨q, 0, none⟩)] (by simp [Act.eval]) (HFD.out _ (HK6.out.chg hSS.1 (by simp))) ?_; rintro e w7 ⟨a7, c7, rfl, ho7, hc7, hf7⟩; refine ⟨_, rfl, ?_⟩
  have hS1 := HS.out _ (hSS.1.trans hc7)
  have HO7 := Lib.hid ho7
  clear ho7 hc7 hf7
  refine hK.out _ _ (fun _ _ => hS1) (fun hHeld => ?_)
  clear hK K hHeld
  try simp only [Act.put, List.setIfInBounds_toArray, List.set_cons_zero, List.set_cons_succ]
  refine readyG (rs := [6]) (by kernel_rfl) (by simp) (consG rfl (fun K hK => ?_) nilG)
  refine step_calls rfl 63 _ _ rfl enters_jmrg _ #[.slice ro1 R1.length rc1, .slice a7 R2.length c7] (by simp [Act.eval]) (HMR.out _ _ _ _ _ (by have h2 := (HT6.out.chg hS1.1 (by simp)).row.rd; rw [← HR1.out] at h2; exact h2) HO7.out.rd) ?_; rintro e w8 ⟨a8, c8, rfl, ho8, hc8, hf8⟩; refine ⟨_, rfl, ?_⟩
  have hS2 := HS.out _ (hS1.1.trans hc8)
  have HO8 := Lib.hid ho8
  have HF8 := Lib.hid (show ∀ b ∈ abl a8, w6.heap.size ≤ b from fun b hb => Nat.le_trans hS1.1.size (hf8 b hb))
  clear ho8 hc8 hf8
  refine hK.out _ _ (fun _ _ => hS2) (fun hHeld => ?_)
  clear hK K hHeld
  try simp only [Act.put, List.setIfInBounds_toArray, List.set_cons_zero, List.set_cons_succ]
  refine readyG (rs := [7]) (by kernel_rfl) (by simp) (consG rfl (fun K hK => ?_) nilG)
  go_simp
  refine hK.out _ _ (fun h => absurd rfl h) (fun hHeld => ?_)
  clear hK K hHeld
  try simp only [Act.put, List.setIfInBounds_toArray, List.set_cons_zero, List.set_cons_succ]
  refine doneG (by kernel_rfl) ?_ _
  have H68 := Lib.hid hS2.1
  clear hSS hS1 hS2 HS HMR HFD HO7
  obtain ⟨c0, c1, -, -, -⟩ := (HT6.out.chg H68.out (by simp)).cells
  rw [D.flush_same.1] at c0
  rw [D.flush_same.2.1] at c1
  go_wp2_with fail
  refine (HLM.out _).mono ?_
  rintro e w9 ⟨rfl, hc9⟩
  have H69 := Lib.hid (H68.out.trans hc9)
  have HO9 := Lib.hid (HO8.out.chg hc9 (by simp))
  clear hc9 c0 c1 HLM H68 HO8
  obtain ⟨N, hf1, hf2, hf3⟩ := HMF.out
  have HSQ := Lib.hid (tup_squeeze w9 a8 c8 M L N (by have := HL.out; have h2 : limG D.num D.den S ≤ S + 1 := limG_le HGD.out; omega) hf1 (by omega) hf3 HO9.out)
  clear hf1 hf2 hf3
  go_wp2_with fail
  refine HSQ.out.mono ?_
  rintro e wa ⟨rfl, hoa, hca⟩
  have H6a := Lib.hid (H69.out.trans' hca (fun b hb => .inr (HF8.out b hb)))
  have HOA := Lib.hid hoa
  have hba := (HT6.out.chg H6a.out (by simp)).blk
  have fa2 := hba.free 2
  have fa4 := hba.free 4
  obtain ⟨-, -, ca2, -, ca4⟩ := (HT6.out.chg H6a.out (by simp)).cells
  clear hoa hca hba HSQ HO9 H69
  go_wp2_with fail
  go_ret
  obtain ⟨hr1, hr2⟩ := HT6.out.row' (w1 := wa) (rv2 := .slice a8 (sqT L M).length c8) (r := sqT L M) (E := { D.flush with row := sqT L M }) H6a.out.nil HOA.out (fun b hb => .inr (HF8.out b (by simpa using hb))) ⟨rfl, rfl, rfl, rfl, rfl⟩
  obtain ⟨f1, f2, f3, f4⟩ := D.flush_same
  obtain ⟨j1, j2, j3⟩ := GkD.join_same HOK.out HOK2.out
  have hrow : (D.join O).row = sqT L M := by
    show sqT (limG D.num D.den (D.total + O.total)) (mrgT D.flush.row O.flush.row) = sqT L M
    rw [HL.out, HM.out, HSS.out, HT.out, HT2.out, HR1.out, HR2.out]
  obtain ⟨ht1, ht2⟩ := hr1.total' (E := D.join O) ⟨by rw [j1]; exact f1.symm, by rw [j2]; exact f2.symm, hrow, f4.symm⟩ S (by rw [j3, HSS.out, HT.out, HT2.out])
  exact ⟨rfl, _, _, ht1, HM6.out.trans (hr2.trans ht2)⟩
end Go.Proofs.Ytkcldhimjnehdaa

namespace Go.Proofs.Ytkcldhimjnehdaa
open Go.RowKit

theorem enters_rjmrg : ∀ (args : Array Value) (w : World), (callFunc 66 args).run Try.prog w = .ok (.enter 66 args) w := enters_of Try.func66 (by kernel_rfl) rfl
theorem enters_rjtot : ∀ (args : Array Value) (w : World), (callFunc 68 args).run Try.prog w = .ok (.enter 68 args) w := enters_of Try.func68 (by kernel_rfl) rfl
theorem spF_pos : ∀ {r : List Tp}, (∀ p ∈ r, 1 ≤ p.st) → ∀ {n : Nat}, ∀ s ∈ spF n r, 1 ≤ s.hi
  | [], _, _, s, hs => by simp [spF] at hs
  | p :: r, h, n, s, hs => by
    rw [spF] at hs
    rcases List.mem_cons.1 hs with rfl | hs
    · have := h p (by simp)
      show 1 ≤ n + p.st + p.sl
      omega
    · exact spF_pos (fun q hq => h q (by simp [hq])) s hs
set_option maxRecDepth 100000 in
set_option maxHeartbeats 8000000 in
theorem ref19_join (w : World) (p : Nat) (sv wv : Value) (D : GkD) (h : RG w p sv wv D) (hok : D.ok) (hg : goodK D.num D.den = true) (q : Nat) (uv yv : Value) (O : GkD) (k : RG w q uv yv O) (hok2 : O.ok) (hpar : O.num = D.num ∧ O.den = D.den) (hn : D.total + O.total ≤ 30000) (hd : ∀ b ∈ fpS p sv wv, b ∉ fpS q uv yv) :
    Calls Try.prog 39 #[.pointer (some ⟨p, 0, none⟩), .pointer (some ⟨q, 0, none⟩)] w fun e w' => e = .returned (.tuple #[]) ∧ ∃ sv' wv', RG w' p sv' wv' (D.join O) ∧ Chg [p] w w' ∧ Mv (fpS p sv wv) w (fpS p sv' wv') w' := by
  obtain ⟨T, hT⟩ : ∃ T, T = D.total := ⟨_, rfl⟩
  obtain ⟨T2, hT2⟩ : ∃ T, T = O.total := ⟨_, rfl⟩
  rw [← hT, ← hT2] at hn
  obtain ⟨S, hS⟩ : ∃ S, S = T + T2 := ⟨_, rfl⟩
  obtain ⟨ou, cu, huv⟩ := k.spots.shape
  obtain ⟨oy, cy, hyv⟩ := k.wait.shape
  obtain ⟨nu, hnu⟩ : ∃ n, n = O.row.length := ⟨_, rfl⟩
  obtain ⟨ny, hny⟩ : ∃ n, n = O.waits.length := ⟨_, rfl⟩
  rw [← hnu] at huv
  rw [← hny] at hyv
  clear hnu hny
  subst huv hyv
  have HG := Lib.hid h
  have HK := Lib.hid k
  have HS := Lib.hid (fun wx (hu : Chg [] w wx) => show Chg [] w wx ∧ wx.cell? ⟨q, 0, none⟩ = some (.int .u64 (D.num : Nat)) ∧ wx.cell? ⟨q, 1, none⟩ = some (.int .u64 (D.den : Nat)) ∧ wx.cell? ⟨q, 2, none⟩ = some (.slice ou nu cu) ∧ wx.cell? ⟨q, 3, none⟩ = some (.slice oy ny cy) from by
    obtain ⟨r0, r1, r2, r3⟩ := (HK.out.chg hu (by simp)).cells
    rw [hpar.1] at r0
    rw [hpar.2] at r1
    exact ⟨hu, r0, r1, r2, r3⟩)
  have HPAR := Lib.hid hpar
  have HD := Lib.hid hd
  have HSS := Lib.hid hS
  have HT := Lib.hid hT
  have HT2 := Lib.hid hT2
  have HOK := Lib.hid hok
  have HOK2 := Lib.hid hok2
  have hS3 : S ≤ 30000 := by omega
  obtain ⟨R1, hR1⟩ : ∃ R, R = D.flush.row := ⟨_, rfl⟩
  obtain ⟨R2, hR2⟩ : ∃ R, R = O.flush.row := ⟨_, rfl⟩
  have HR1 := Lib.hid hR1
  have HR2 := Lib.hid hR2
  obtain ⟨L, hL⟩ : ∃ L, L = limG D.num D.den S := ⟨_, rfl⟩
  have HL := Lib.hid hL
  have HLM := Lib.hid (fun u => ref19_limit u D.num D.den S L hg (by omega) hL)
  have HFO := Lib.hid (fun u c (hu : RG u c (.slice ou nu cu) (.slice oy ny cy) O) => ref19_flush u c _ _ O hu ⟨hok2.fine, hok2.placed, hok2.len, by have := hok2.few; omega, hok2.tight⟩ (by rw [hpar.1, hpar.2]; exact hg) (by omega))
  have HFL := Lib.hid (fun u (hu : RG u p sv wv D) => ref19_flush u p sv wv D hu ⟨hok.fine, hok.placed, hok.len, by have := hok.few; omega, hok.tight⟩ hg (by omega))
  have HMF : Hid (totS (spF 0 R1) = T ∧ totS (spF 0 R2) = T2 ∧ spF 0 (mrgT R1 R2) = mrgS 0 0 (spF 0 R1) (spF 0 R2) ∧ (∀ s ∈ spF 0 (mrgT R1 R2), s.hi ≤ 30000) ∧
      (∀ s ∈ spF 0 R1, s.lo ≤ 4611686018427387904 ∧ s.hi ≤ 4611686018427387904 ∧ 1 ≤ s.hi) ∧ (∀ s ∈ spF 0 R2, s.lo ≤ 4611686018427387904 ∧ s.hi ≤ 4611686018427387904 ∧ 1 ≤ s.hi) ∧ R1.length ≤ T ∧ R2.length ≤ T2) := by
    have a := GkD.flush_ok0 hok
    have b := GkD.flush_ok0 hok2
    obtain ⟨-, -, a3, a4⟩ := D.flush_same
    obtain ⟨-, -, b3, b4⟩ := O.flush_same
    have ha : D.flush.vals.length = T := by rw [hT, ← a3, GkD.total, a4]; rfl
    have hb : O.flush.vals.length = T2 := by rw [hT2, ← b3, GkD.total, b4]; rfl
    have m1 := (merged a.fine b.fine a.placed b.placed).1
    rw [List.length_append, ha, hb] at m1
    have af := a.fine
    have bf := b.fine
    have al := a.len
    have bl := b.len
    rw [ha, ← hR1] at af al
    rw [hb, ← hR2] at bf bl
    rw [← hR1, ← hR2] at m1
    have hlo : ∀ (R : List Tp) (n : Nat), FineT R n → n ≤ 30000 → ∀ s ∈ spF 0 R, s.lo ≤ 4611686018427387904 ∧ s.hi ≤ 4611686018427387904 ∧ 1 ≤ s.hi := fun R n hf hn s hs => by
      have h1 := hf.high s hs
      have h2 := (spF_lohi 0 R s hs).2
      have h3 := spF_pos hf.pos s hs
      omega
    exact Lib.hid ⟨by rw [totS_spF0, af.total], by rw [totS_spF0, bf.total], mrg_same R1 R2 0 0 af.pos bf.pos, fun s hs => by have := m1.high s hs; omega, hlo R1 T af (by omega), hlo R2 T2 bf (by omega), al, bl⟩
  obtain ⟨M, hM⟩ : ∃ M, M = mrgT R1 R2 := ⟨_, rfl⟩
  rw [← hM] at HMF
  have HM := Lib.hid hM
  have hlt := h.blk.lt
  have HPL := Lib.hid hlt
  clear h k hok hok2 hg hpar hd hT hT2 hS hn hR1 hR2 hL hM hlt
  go_enter Try.func39, Try.ntmps39
  go_upto_region 0 with (fail)
  have hSS := HS.out w.drew (Chg.refl [] w).drew
  refine startG (S := fun wx => Chg [] w wx ∧ wx.cell? ⟨q, 0, none⟩ = some (.int .u64 (D.num : Nat)) ∧ wx.cell? ⟨q, 1, none⟩ = some (.int .u64 (D.den : Nat)) ∧ wx.cell? ⟨q, 2, none⟩ = some (.slice ou nu cu) ∧ wx.cell? ⟨q, 3, none⟩ = some (.slice oy ny cy)) (st := 14) (by kernel_rfl) hSS (fun hHeld => ?_)
  refine takeP (i := 0) (v := ?va0) rfl (by kernel_rfl) (by kernel_rfl) (by kernel_rfl) (by decide) (fun _ _ _ h => h) (Or.inl ⟨by rfl, ?ya0⟩) hSS ?ra0
  case ya0 => (intro w _; go_simp; first | done | with_reducible rfl)
  try simp only [Act.put, List.setIfInBounds_toArray, List.set_cons_zero, List.set_cons_succ]
  refine takeP (i := 1) (v := ?va1) rfl (by kernel_rfl) (by kernel_rfl) (by kernel_rfl) (by decide) (fun _ _ _ h => h) (Or.inl ⟨by rfl, ?ya1⟩) hSS ?ra1
  case ya1 => (intro w _; go_simp; first | done | with_reducible rfl)
  try simp only [Act.put, List.setIfInBounds_toArray, List.set_cons_zero, List.set_cons_succ]
  refine takeP (i := 2) (v := ?va2) rfl (by kernel_rfl) (by kernel_rfl) (by kernel_rfl) (by decide) (fun _ _ _ h => h) (Or.inl ⟨by rfl, ?ya2⟩) hSS ?ra2
  case ya2 => (intro w _; go_simp; first | done | with_reducible rfl)
  try simp only [Act.put, List.setIfInBounds_toArray, List.set_cons_zero, List.set_cons_succ]
  refine takeG (i := 3) (v := ?va3) rfl (by kernel_rfl) (by kernel_rfl) (by kernel_rfl) (by decide) (by kernel_rfl) (by kernel_rfl) (fun _ _ _ h => h) (Or.inl ⟨by rfl, ?ya3⟩) hSS ?ra3
  case ya3 => (intro w hSw; (try dsimp only at hSw); go_simp; first | done | with_reducible rfl)
  try simp only [Act.put, List.setIfInBounds_toArray, List.set_cons_zero, List.set_cons_succ]
  refine takeP (i := 4) (v := ?va4) rfl (by kernel_rfl) (by kernel_rfl) (by kernel_rfl) (by decide) (fun _ _ _ h => h) (Or.inl ⟨by rfl, ?ya4⟩) hSS ?ra4
  case ya4 => (intro w _; go_simp; first | done | with_reducible rfl)
  try simp only [Act.put, List.setIfInBounds_toArray, List.set_cons_zero, List.set_cons_succ]
  refine takeP (i := 5) (v := ?va5) rfl (by kernel_rfl) (by kernel_rfl) (by kernel_rfl) (by decide) (fun _ _ _ h => h) (Or.inl ⟨by rfl, ?ya5⟩) hSS ?ra5
  case ya5 => (intro w _; go_simp; first | done | with_reducible rfl)
  try simp only [Act.put, List.setIfInBounds_toArray, List.set_cons_zero, List.set_cons_succ]
  refine takeP (i := 6) (v := ?va6) rfl (by kernel_rfl) (by kernel_rfl) (by kernel_rfl) (by decide) (fun _ _ _ h => h) (Or.inl ⟨by rfl, ?ya6⟩) hSS ?ra6
  case ya6 => (intro w _; go_simp; first | done | with_reducible rfl)
  try simp only [Act.put, List.setIfInBounds_toArray, List.set_cons_zero, List.set_cons_succ]
  refine takeG (i := 7) (v := ?va7) rfl (by kernel_rfl) (by kernel_rfl) (by kernel_rfl) (by decide) (by kernel_rfl) (by kernel_rfl) (fun _ _ _ h => h) (Or.inl ⟨by rfl, ?ya7⟩) hSS ?ra7
  case ya7 => (intro w hSw; (try dsimp only at hSw); go_simp; first | done | with_reducible rfl)
  try simp only [Act.put, List.setIfInBounds_toArray, List.set_cons_zero, List.set_cons_succ]
  refine takeP (i := 8) (v := ?va8) rfl (by kernel_rfl) (by kernel_rfl) (by kernel_rfl) (by decide) (fun _ _ _ h => h) (Or.inl ⟨by rfl, ?ya8⟩) hSS ?ra8
  case ya8 => (intro w _; go_simp; first | done | with_reducible rfl)
  try simp only [Act.put, List.setIfInBounds_toArray, List.set_cons_zero, List.set_cons_succ]
  refine takeP (i := 9) (v := ?va9) rfl (by kernel_rfl) (by kernel_rfl) (by kernel_rfl) (by decide) (fun _ _ _ h => h) (Or.inl ⟨by rfl, ?ya9⟩) hSS ?ra9
  case ya9 => (intro w _; go_simp; first | done | with_reducible rfl)
  try simp only [Act.put, List.setIfInBounds_toArray, List.set_cons_zero, List.set_cons_succ]
  refine takeP (i := 10) (v := ?va10) rfl (by kernel_rfl) (by kernel_rfl) (by kernel_rfl) (by decide) (fun _ _ _ h => h) (Or.inl ⟨by rfl, ?ya10⟩) hSS ?ra10
  case ya10 => (intro w _; go_simp; first | done | with_reducible rfl)
  try simp only [Act.put, List.setIfInBounds_toArray, List.set_cons_zero, List.set_cons_succ]
  refine takeG (i := 11) (v := ?va11) rfl (by kernel_rfl) (by kernel_rfl) (by kernel_rfl) (by decide) (by kernel_rfl) (by kernel_rfl) (fun _ _ _ h => h) (Or.inl ⟨by rfl, ?ya11⟩) hSS ?ra11
  case ya11 => (intro w hSw; (try dsimp only at hSw); go_simp; first | done | with_reducible rfl)
  try simp only [Act.put, List.setIfInBounds_toArray, List.set_cons_zero, List.set_cons_succ]
  refine takeP (i := 12) (v := ?va12) rfl (by kernel_rfl) (by kernel_rfl) (by kernel_rfl) (by decide) (fun _ _ _ h => h) (Or.inl ⟨by rfl, ?ya12⟩) hSS ?ra12
  case ya12 => (intro w _; go_simp; first | done | with_reducible rfl)
  try simp only [Act.put, List.setIfInBounds_toArray, List.set_cons_zero, List.set_cons_succ]
  refine readyG (rs := [13]) (by kernel_rfl) (by simp) (consG rfl (fun K hK => ?_) nilG)
  go_simp
  have hS1 := HS.out ((w.alloc (.cells #[.int .u64 (D.num : Nat), .int .u64 (D.den : Nat), .slice ou nu cu, .slice oy ny cy] 90)).drew) (by with_reducible (repeat (first | exact Chg.refl _ _ | apply Chg.drew | apply Chg.alloc | apply Chg.drewN)))
  refine hK.out _ _ (fun _ _ => hS1) (fun hHeld => ?_)
  clear hK K hHeld
  try simp only [Act.put, List.setIfInBounds_toArray, List.set_cons_zero, List.set_cons_succ]
  refine readyG (rs := [14]) (by kernel_rfl) (by simp) (consG rfl (fun K hK => ?_) nilG)
  go_simp
  refine hK.out _ _ (fun h => absurd rfl h) (fun hHeld => ?_)
  clear hK K hHeld
  try simp only [Act.put, List.setIfInBounds_toArray, List.set_cons_zero, List.set_cons_succ]
  refine doneG (by kernel_rfl) ?_ _
  obtain ⟨c, hc⟩ : ∃ c, c = w.heap.size := ⟨_, rfl⟩
  have HBK := Lib.hid ((Blk.alloc_new w #[.int .u64 (D.num : Nat), .int .u64 (D.den : Nat), .slice ou nu cu, .slice oy ny cy] 90).chg ((Chg.refl [] _).drew) (by simp))
  have HC1 := Lib.hid (((Chg.refl [] w).alloc (.cells #[.int .u64 (D.num : Nat), .int .u64 (D.den : Nat), .slice ou nu cu, .slice oy ny cy] 90)).drew)
  have HCQ := Lib.hid (show p < c from by rw [hc]; exact HPL.out)
  have HCS := Lib.hid (show c = w.heap.size from hc)
  rw [← hc] at HBK ⊢
  clear hSS hS1 HS hc
  generalize (w.alloc (.cells #[.int .u64 (D.num : Nat), .int .u64 (D.den : Nat), .slice ou nu cu, .slice oy ny cy] 90)).drew = w1 at *
  have HK1 := Lib.hid (HK.out.chg HC1.out (by simp))
  have HO1 := Lib.hid (show RG w1 c (.slice ou nu cu) (.slice oy ny cy) O from ⟨by rw [HPAR.out.1, HPAR.out.2]; exact HBK.out, HK1.out.spots, HK1.out.wait⟩)
  go_wp2_with fail
  refine (HFO.out _ _ HO1.out).mono ?_
  rintro e w2 ⟨rfl, uv2, yv2, hk2, hc2, hu2, hy2⟩
  have HK2 := Lib.hid hk2
  have H02 := Lib.hid (HC1.out.trans' hc2 (fun b hb => .inr (by simp at hb; subst hb; rw [HCS.out]; exact Nat.le_refl _)))
  have HPX := Lib.hid (show p ∉ fpS c uv2 yv2 from fun hb => by
    simp only [fpS, List.mem_cons, List.mem_append] at hb
    have h1 := HCQ.out
    rcases hb with hb | hb | hb
    · omega
    · rcases hu2 p hb with h2 | h2
      · exact HD.out p (by simp [fpS]) (by simp only [fpS, List.mem_cons, List.mem_append]; exact .inr (.inl h2))
      · have := HC1.out.size
        have := HPL.out
        omega
    · exact HD.out p (by simp [fpS]) (by simp only [fpS, List.mem_cons, List.mem_append]; exact .inr (.inr (hy2 p hb))))
  clear hk2 hc2 hu2 hy2 HFO HO1 HK1 HBK HC1
  go_wp2_with fail
  refine (HFL.out _ (HG.out.chg H02.out (by simp))).mono ?_
  rintro e w3 ⟨rfl, sv3, wv3, hg3, hc3, hs3, hw3⟩
  have HG3 := Lib.hid hg3
  have H03 := Lib.hid ((H02.out.nil (F := [p])).trans hc3)
  have HM3 := Lib.hid ((Mv.of_chg (F := fpS p sv wv) H02.out.nil).trans (RG.mv hc3 hs3 hw3))
  have HK3 := Lib.hid (HK2.out.chg hc3 (fun b hb e => by simp at e; subst e; exact HPX.out hb))
  clear hg3 hc3 hs3 hw3 HFL HG HK2 H02
  obtain ⟨so, sc, hsv⟩ := HG3.out.spots.shape
  obtain ⟨uo, uc, huv⟩ := HK3.out.spots.shape
  subst hsv huv
  obtain ⟨m1, m2, m3, m4, m5, m6, m7, m8⟩ := HMF.out
  have hss := HSS.out
  obtain ⟨n1, hn1⟩ : ∃ n, n = R1.length := ⟨_, rfl⟩
  obtain ⟨n2, hn2⟩ : ∃ n, n = R2.length := ⟨_, rfl⟩
  have HS := Lib.hid (fun wx (hu : Chg [] w3 wx) => show Chg [] w3 wx ∧ wx.cell? ⟨p, 0, none⟩ = some (.int .u64 (D.num : Nat)) ∧ wx.cell? ⟨p, 1, none⟩ = some (.int .u64 (D.den : Nat)) ∧ wx.cell? ⟨p, 2, none⟩ = some (.slice so n1 sc) ∧ wx.cell? ⟨c, 2, none⟩ = some (.slice uo n2 uc) from by
    obtain ⟨q0, q1, q2, -⟩ := (HG3.out.chg hu (by simp)).cells
    obtain ⟨-, -, r2, -⟩ := (HK3.out.chg hu (by simp)).cells
    rw [D.flush_same.1] at q0
    rw [D.flush_same.2.1] at q1
    rw [← HR1.out, ← hn1] at q2
    rw [← HR2.out, ← hn2] at r2
    exact ⟨hu, q0, q1, q2, r2⟩)
  have HRA := Lib.hid (fun wx (hu : Chg [] w3 wx) => show Rd wx 3 (.slice so n1 sc) n1 (spCells (spF 0 R1)) ∧ Rd wx 3 (.slice uo n2 uc) n2 (spCells (spF 0 R2)) from by
    have h1 := (HG3.out.chg hu (by simp)).spots.rd
    have h2 := (HK3.out.chg hu (by simp)).spots.rd
    rw [← HR1.out, ← hn1] at h1
    rw [← HR2.out, ← hn2] at h2
    exact ⟨h1, h2⟩)
  have HMR := Lib.hid (fun wx (hu : Chg [] w3 wx) => ref18_merge wx so sc (spF 0 R1) uo uc (spF 0 R2) n1 n2 (by rw [spF_len]; exact hn1) (by rw [spF_len]; exact hn2) (HRA.out wx hu).1 (HRA.out wx hu).2 (by omega) (by omega) m5 m6)
  have HT1 := Lib.hid (fun wx (hu : Chg [] w3 wx) => ref18_total' wx so sc (spF 0 R1) n1 (by rw [spF_len]; exact hn1) (HRA.out wx hu).1 (by omega))
  have HT3 := Lib.hid (fun wx (hu : Chg [] w3 wx) => ref18_total' wx uo uc (spF 0 R2) n2 (by rw [spF_len]; exact hn2) (HRA.out wx hu).2 (by omega))
  rw [m1] at HT1
  rw [m2] at HT3
  rw [← m3] at HMR
  have hml : (spF 0 M).length = n1 + n2 := by rw [spF_len, HM.out, mrgT_len, hn1, hn2]
  have HSQ := Lib.hid (fun wx ao cp (hr : Rd wx 3 (.slice ao (n1 + n2) cp) (n1 + n2) (spCells (spF 0 M))) => ref18_squeeze wx ao cp (spF 0 M) (n1 + n2) L hml.symm (spF_pw 0 M) hr (by omega) (fun s hs => by have := m4 s hs; omega))
  rw [← squeeze_same, spF_len] at HSQ
  have hsum : IntKind.u64.wrap ((T : Int) + (T2 : Int)) = (S : Int) := by have := HSS.out; rw [IntKind.wrap_u64]; omega
  obtain ⟨K1, hK1⟩ : ∃ k, k = (sqT L M).length := ⟨_, rfl⟩
  rw [← hK1] at HSQ
  have HK1 := Lib.hid hK1
  have f2 := (HG3.out.blk).free 2
  have HFR := Lib.hid (fun wx (hu : Chg [] w3 wx) => (HG3.out.chg hu (by simp)).blk.free 2)
  clear m1 m2 m3 m4 m5 m6 m7 m8 hn1 hn2 hml hK1 HMF hss
  go_upto_region 3 with (fail)
  have hSS := HS.out w3.drew (Chg.refl [] w3).drew
  refine startG (S := fun wx => Chg [] w3 wx ∧ wx.cell? ⟨p, 0, none⟩ = some (.int .u64 (D.num : Nat)) ∧ wx.cell? ⟨p, 1, none⟩ = some (.int .u64 (D.den : Nat)) ∧ wx.cell? ⟨p, 2, none⟩ = some (.slice so n1 sc) ∧ wx.cell? ⟨c, 2, none⟩ = some (.slice uo n2 uc)) (st := 29) (by kernel_rfl) hSS (fun hHeld => ?_)
  refine takeP (i := 0) (v := ?vb0) rfl (by kernel_rfl) (by kernel_rfl) (by kernel_rfl) (by decide) (fun _ _ _ h => h) (Or.inl ⟨by rfl, ?yb0⟩) hSS ?rb0
  case yb0 => (intro w _; go_simp; first | done | with_reducible rfl)
  try simp only [Act.put, List.setIfInBounds_toArray, List.set_cons_zero, List.set_cons_succ]
  refine takeP (i := 1) (v := ?vb1) rfl (by kernel_rfl) (by kernel_rfl) (by kernel_rfl) (by decide) (fun _ _ _ h => h) (Or.inl ⟨by rfl, ?yb1⟩) hSS ?rb1
  case yb1 => (intro w _; go_simp; first | done | with_reducible rfl)
  try simp only [Act.put, List.setIfInBounds_toArray, List.set_cons_zero, List.set_cons_succ]
  refine takeP (i := 2) (v := ?vb2) rfl (by kernel_rfl) (by kernel_rfl) (by kernel_rfl) (by decide) (fun _ _ _ h => h) (Or.inl ⟨by rfl, ?yb2⟩) hSS ?rb2
  case yb2 => (intro w _; go_simp; first | done | with_reducible rfl)
  try simp only [Act.put, List.setIfInBounds_toArray, List.set_cons_zero, List.set_cons_succ]
  refine takeP (i := 3) (v := ?vb3) rfl (by kernel_rfl) (by kernel_rfl) (by kernel_rfl) (by decide) (fun _ _ _ h => h) (Or.inl ⟨by rfl, ?yb3⟩) hSS ?rb3
  case yb3 => (intro w _; go_simp; first | done | with_reducible rfl)
  try simp only [Act.put, List.setIfInBounds_toArray, List.set_cons_zero, List.set_cons_succ]
  refine takeG (i := 4) (v := ?vb4) rfl (by kernel_rfl) (by kernel_rfl) (by kernel_rfl) (by decide) (by kernel_rfl) (by kernel_rfl) (fun _ _ _ h => h) (Or.inl ⟨by rfl, ?yb4⟩) hSS ?rb4
  case yb4 => (intro w hSw; (try dsimp only at hSw); go_simp; first | done | with_reducible rfl)
  try simp only [Act.put, List.setIfInBounds_toArray, List.set_cons_zero, List.set_cons_succ]
  refine takeP (i := 5) (v := ?vb5) rfl (by kernel_rfl) (by kernel_rfl) (by kernel_rfl) (by decide) (fun _ _ _ h => h) (Or.inl ⟨by rfl, ?yb5⟩) hSS ?rb5
  case yb5 => (intro w _; go_simp; first | done | with_reducible rfl)
  try simp only [Act.put, List.setIfInBounds_toArray, List.set_cons_zero, List.set_cons_succ]
  refine takeP (i := 6) (v := ?vb6) rfl (by kernel_rfl) (by kernel_rfl) (by kernel_rfl) (by decide) (fun _ _ _ h => h) (Or.inl ⟨by rfl, ?yb6⟩) hSS ?rb6
  case yb6 => (intro w _; go_simp; first | done | with_reducible rfl)
  try simp only [Act.put, List.setIfInBounds_toArray, List.set_cons_zero, List.set_cons_succ]
  refine takeP (i := 7) (v := ?vb7) rfl (by kernel_rfl) (by kernel_rfl) (by kernel_rfl) (by decide) (fun _ _ _ h => h) (Or.inl ⟨by rfl, ?yb7⟩) hSS ?rb7
  case yb7 => (intro w _; go_simp; first | done | with_reducible rfl)
  try simp only [Act.put, List.setIfInBounds_toArray, List.set_cons_zero, List.set_cons_succ]
  refine takeG (i := 8) (v := ?vb8) rfl (by kernel_rfl) (by kernel_rfl) (by kernel_rfl) (by decide) (by kernel_rfl) (by kernel_rfl) (fun _ _ _ h => h) (Or.inl ⟨by rfl, ?yb8⟩) hSS ?rb8
  case yb8 => (intro w hSw; (try dsimp only at hSw); go_simp; first | done | with_reducible rfl)
  try simp only [Act.put, List.setIfInBounds_toArray, List.set_cons_zero, List.set_cons_succ]
  refine takeP (i := 10) (v := ?vb10) rfl (by kernel_rfl) (by kernel_rfl) (by kernel_rfl) (by decide) (fun _ _ _ h => h) (Or.inl ⟨by rfl, ?yb10⟩) hSS ?rb10
  case yb10 => (intro w _; go_simp; first | done | with_reducible rfl)
  try simp only [Act.put, List.setIfInBounds_toArray, List.set_cons_zero, List.set_cons_succ]
  refine takeP (i := 11) (v := ?vb11) rfl (by kernel_rfl) (by kernel_rfl) (by kernel_rfl) (by decide) (fun _ _ _ h => h) (Or.inl ⟨by rfl, ?yb11⟩) hSS ?rb11
  case yb11 => (intro w _; go_simp; first | done | with_reducible rfl)
  try simp only [Act.put, List.setIfInBounds_toArray, List.set_cons_zero, List.set_cons_succ]
  refine takeP (i := 12) (v := ?vb12) rfl (by kernel_rfl) (by kernel_rfl) (by kernel_rfl) (by decide) (fun _ _ _ h => h) (Or.inl ⟨by rfl, ?yb12⟩) hSS ?rb12
  case yb12 => (intro w _; go_simp; first | done | with_reducible rfl)
  try simp only [Act.put, List.setIfInBounds_toArray, List.set_cons_zero, List.set_cons_succ]
  refine takeG (i := 13) (v := ?vb13) rfl (by kernel_rfl) (by kernel_rfl) (by kernel_rfl) (by decide) (by kernel_rfl) (by kernel_rfl) (fun _ _ _ h => h) (Or.inl ⟨by rfl, ?yb13⟩) hSS ?rb13
  case yb13 => (intro w hSw; (try dsimp only at hSw); go_simp; first | done | with_reducible rfl)
  try simp only [Act.put, List.setIfInBounds_toArray, List.set_cons_zero, List.set_cons_succ]
  refine takeP (i := 14) (v := ?vb14) rfl (by kernel_rfl) (by kernel_rfl) (by kernel_rfl) (by decide) (fun _ _ _ h => h) (Or.inl ⟨by rfl, ?yb14⟩) hSS ?rb14
  case yb14 => (intro w _; go_simp; first | done | with_reducible rfl)
  try simp only [Act.put, List.setIfInBounds_toArray, List.set_cons_zero, List.set_cons_succ]
  refine takeP (i := 15) (v := ?vb15) rfl (by kernel_rfl) (by kernel_rfl) (by kernel_rfl) (by decide) (fun _ _ _ h => h) (Or.inl ⟨by rfl, ?yb15⟩) hSS ?rb15
  case yb15 => (intro w _; go_simp; first | done | with_reducible rfl)
  try simp only [Act.put, List.setIfInBounds_toArray, List.set_cons_zero, List.set_cons_succ]
  refine takeP (i := 16) (v := ?vb16) rfl (by kernel_rfl) (by kernel_rfl) (by kernel_rfl) (by decide) (fun _ _ _ h => h) (Or.inl ⟨by rfl, ?yb16⟩) hSS ?rb16
  case yb16 => (intro w _; go_simp; first | done | with_reducible rfl)
  try simp only [Act.put, List.setIfInBounds_toArray, List.set_cons_zero, List.set_cons_succ]
  refine takeG (i := 17) (v := ?vb17) rfl (by kernel_rfl) (by kernel_rfl) (by kernel_rfl) (by decide) (by kernel_rfl) (by kernel_rfl) (fun _ _ _ h => h) (Or.inl ⟨by rfl, ?yb17⟩) hSS ?rb17
  case yb17 => (intro w hSw; (try dsimp only at hSw); go_simp; first | done | with_reducible rfl)
  try simp only [Act.put, List.setIfInBounds_toArray, List.set_cons_zero, List.set_cons_succ]
  refine takeP (i := 19) (v := ?vb19) rfl (by kernel_rfl) (by kernel_rfl) (by kernel_rfl) (by decide) (fun _ _ _ h => h) (Or.inl ⟨by rfl, ?yb19⟩) hSS ?rb19
  case yb19 => (intro w _; go_simp; first | done | with_reducible rfl)
  try simp only [Act.put, List.setIfInBounds_toArray, List.set_cons_zero, List.set_cons_succ]
  refine takeP (i := 20) (v := ?vb20) rfl (by kernel_rfl) (by kernel_rfl) (by kernel_rfl) (by decide) (fun _ _ _ h => h) (Or.inl ⟨by rfl, ?yb20⟩) hSS ?rb20
  case yb20 => (intro w _; go_simp; first | done | with_reducible rfl)
  try simp only [Act.put, List.setIfInBounds_toArray, List.set_cons_zero, List.set_cons_succ]
  refine takeP (i := 21) (v := ?vb21) rfl (by kernel_rfl) (by kernel_rfl) (by kernel_rfl) (by decide) (fun _ _ _ h => h) (Or.inl ⟨by rfl, ?yb21⟩) hSS ?rb21
  case yb21 => (intro w _; go_simp; first | done | with_reducible rfl)
  try simp only [Act.put, List.setIfInBounds_toArray, List.set_cons_zero, List.set_cons_succ]
  refine takeG (i := 22) (v := ?vb22) rfl (by kernel_rfl) (by kernel_rfl) (by kernel_rfl) (by decide) (by kernel_rfl) (by kernel_rfl) (fun _ _ _ h => h) (Or.inl ⟨by rfl, ?yb22⟩) hSS ?rb22
  case yb22 => (intro w hSw; (try dsimp only at hSw); go_simp; first | done | with_reducible rfl)
  try simp only [Act.put, List.setIfInBounds_toArray, List.set_cons_zero, List.set_cons_succ]
  refine readyG (rs := [9]) (by kernel_rfl) (by simp) (consG rfl (fun K hK => ?_) nilG)
  refine step_calls rfl 66 _ _ rfl enters_rjmrg _ #[.slice so n1 sc, .slice uo n2 uc] (by simp [Act.eval]) (HMR.out _ hSS.1) ?_; rintro e w4 ⟨a4, c4, rfl, ho4, hc4, hf4⟩; refine ⟨_, rfl, ?_⟩
  have hS4 := HS.out _ (hSS.1.trans hc4)
  have HO4 := Lib.hid ho4
  clear ho4 hc4 hf4 HMR
  refine hK.out _ _ (fun _ _ => hS4) (fun hHeld => ?_)
  clear hK K hHeld
  try simp only [Act.put, List.setIfInBounds_toArray, List.set_cons_zero, List.set_cons_succ]
  refine readyG (rs := [18]) (by kernel_rfl) (by simp) (consG rfl (fun K hK => ?_) nilG)
  refine step_calls rfl 68 _ _ rfl enters_rjtot _ #[.slice so n1 sc] (by simp [Act.eval]) (HT1.out _ hS4.1) ?_; rintro e wq ⟨rfl, rfl⟩; refine ⟨_, rfl, ?_⟩
  refine hK.out _ _ (fun _ _ => hS4) (fun hHeld => ?_)
  clear hK K hHeld
  try simp only [Act.put, List.setIfInBounds_toArray, List.set_cons_zero, List.set_cons_succ]
  refine readyG (rs := [23]) (by kernel_rfl) (by simp) (consG rfl (fun K hK => ?_) nilG)
  refine step_calls rfl 68 _ _ rfl enters_rjtot _ #[.slice uo n2 uc] (by simp [Act.eval]) (HT3.out _ hS4.1) ?_; rintro e wq ⟨rfl, rfl⟩; refine ⟨_, rfl, ?_⟩
  refine hK.out _ _ (fun _ _ => hS4) (fun hHeld => ?_)
  clear hK K hHeld
  try simp only [Act.put, List.setIfInBounds_toArray, List.set_cons_zero, List.set_cons_succ]
  refine takeP (i := 24) (v := ?vb24) rfl (by kernel_rfl) (by kernel_rfl) (by kernel_rfl) (by decide) (fun _ _ _ h => h) (Or.inl ⟨by rfl, ?yb24⟩) hS4 ?rb24
  case yb24 => (intro w _; go_simp; first | done | with_reducible rfl)
  try simp only [Act.put, List.setIfInBounds_toArray, List.set_cons_zero, List.set_cons_succ]
  refine readyG (rs := [25]) (by kernel_rfl) (by simp) (consG rfl (fun K hK => ?_) nilG)
  refine step_calls rfl 67 _ _ rfl enters_rlimit _ #[.agg #[.int .u64 (D.num : Nat), .int .u64 (D.den : Nat)], .int .u64 (S : Nat)] (by simp [Act.eval]) (HLM.out _) ?_; rintro e w5 ⟨rfl, hc5⟩; refine ⟨_, rfl, ?_⟩
  have hS5 := HS.out _ (hS4.1.trans hc5)
  have HO5 := Lib.hid (HO4.out.chg hc5 (by simp))
  clear hc5 HO4
  refine hK.out _ _ (fun _ _ => hS5) (fun hHeld => ?_)
  clear hK K hHeld
  try simp only [Act.put, List.setIfInBounds_toArray, List.set_cons_zero, List.set_cons_succ]
  refine readyG (rs := [26]) (by kernel_rfl) (by simp) (consG rfl (fun K hK => ?_) nilG)
  refine step_calls rfl 65 _ _ rfl enters_rsqueeze _ #[.slice a4 (n1 + n2) c4, .int .u64 (L : Nat)] (by simp [Act.eval]) (HSQ.out _ _ _ HO5.out.rd) ?_; rintro e w6 ⟨a6, c6, rfl, ho6, hc6, hf6⟩; refine ⟨_, rfl, ?_⟩
  have hf36 := hS5.1.size
  have HF6 := Lib.hid (show ∀ b ∈ abl a6, w3.heap.size ≤ b from fun b hb => Nat.le_trans hf36 (hf6 b hb))
  have hS6 := HS.out _ (hS5.1.trans hc6)
  have HO6 := Lib.hid ho6
  have f26 := HFR.out _ hS6.1
  clear ho6 hc6 hf6 hf36 HO5
  refine hK.out _ _ (fun _ _ => hS6) (fun hHeld => ?_)
  clear hK K hHeld
  try simp only [Act.put, List.setIfInBounds_toArray, List.set_cons_zero, List.set_cons_succ]
  refine takeP (i := 27) (v := ?vb27) rfl (by kernel_rfl) (by kernel_rfl) (by kernel_rfl) (by decide) (fun _ _ _ h => h) (Or.inl ⟨by rfl, ?yb27⟩) hS6 ?rb27
  case yb27 => (intro w _; go_simp; first | done | with_reducible rfl)
  try simp only [Act.put, List.setIfInBounds_toArray, List.set_cons_zero, List.set_cons_succ]
  refine takeP (i := 28) (v := ?vb28) rfl (by kernel_rfl) (by kernel_rfl) (by kernel_rfl) (by decide) (fun _ _ _ h => h) (Or.inl ⟨by rfl, ?yb28⟩) hS6 ?rb28
  case yb28 => (intro w _; go_simp; first | done | with_reducible rfl)
  try simp only [Act.put, List.setIfInBounds_toArray, List.set_cons_zero, List.set_cons_succ]
  refine readyG (rs := [29]) (by kernel_rfl) (by simp) (consG rfl (fun K hK => ?_) nilG)
  go_simp
  refine hK.out _ _ (fun h => absurd rfl h) (fun hHeld => ?_)
  clear hK K hHeld
  try simp only [Act.put, List.setIfInBounds_toArray, List.set_cons_zero, List.set_cons_succ]
  refine doneG (by kernel_rfl) ?_ _
  have HR8 := Lib.hid (HG3.out.spots' (w1 := w6) (sv2 := .slice a6 K1 c6) (r := sqT L M) (E := D.join O) hS6.1 (by rw [← HK1.out]; exact HO6.out) (by
    obtain ⟨f1, f2, f3, f4⟩ := D.flush_same
    refine ⟨f1.symm, f2.symm, ?_, f4.symm⟩
    show sqT (limG D.num D.den (D.total + O.total)) (mrgT D.flush.row O.flush.row) = sqT L M
    rw [HL.out, HM.out, HSS.out, HT.out, HT2.out, HR1.out, HR2.out]))
  have k6 := (hS6.1.nil (F := [p])).setCell (a := ⟨p, 2, none⟩) (.inl (by simp)) (.slice a6 K1 c6)
  have HR9 := Lib.hid (H03.out.trans k6)
  have HM9 := Lib.hid (HM3.out.trans (RG.mv (sv' := .slice a6 K1 c6) (wv' := wv3) k6 (fun b hb => .inr (HF6.out b (by simpa using hb))) (fun b hb => hb)))
  go_end0
  exact ⟨rfl, _, _, HR8.out, HR9.out, HM9.out⟩
end Go.Proofs.Ytkcldhimjnehdaa

namespace Go.Proofs.Ytkcldhimjnehdaa
open Go.RowKit

def fp2 (p : Nat) (rv wv : Value) (q : Nat) (sv yv : Value) : List Nat := fpK p rv wv ++ fpS q sv yv
/-- A sketch, and the document's, apart. -/
structure PrG (w : World) (p : Nat) (rv wv : Value) (q : Nat) (sv yv : Value) (D E : GkD) : Prop where
  gk : Gk w p rv wv D
  rg : RG w q sv yv E
  dis : ∀ b ∈ fpK p rv wv, b ∉ fpS q sv yv
namespace PrG
variable {w w1 : World} {p q : Nat} {rv wv sv yv : Value} {D E : GkD}
theorem lt (h : PrG w p rv wv q sv yv D E) : ∀ b ∈ fp2 p rv wv q sv yv, b < w.heap.size := by
  intro b hb
  rcases List.mem_append.1 hb with hb | hb
  · exact h.gk.lt b hb
  · exact h.rg.lt b hb
theorem chg {F : List Nat} (h : PrG w p rv wv q sv yv D E) (k : Chg F w w1) (hF : ∀ b ∈ fp2 p rv wv q sv yv, b ∉ F) : PrG w1 p rv wv q sv yv D E :=
  ⟨h.gk.chg k (fun b hb => hF b (List.mem_append.2 (.inl hb))), h.rg.chg k (fun b hb => hF b (List.mem_append.2 (.inr hb))), h.dis⟩
end PrG
theorem Mv.away {F F' G : List Nat} {w w' : World} (h : Mv F w F' w') (hG : ∀ b ∈ G, b < w.heap.size) (hd : ∀ b ∈ F, b ∉ G) : ∀ b ∈ F', b ∉ G := fun b hb e => by
  rcases h.fr b hb with h1 | h1
  · exact hd b h1 e
  · have := hG b e
    omega
theorem Mv.low {F F' : List Nat} {w w' : World} (h : Mv F w F' w') {L : Nat} (hL : L ≤ w.heap.size) (hF : ∀ b ∈ F, L ≤ b) : ∀ b ∈ F', L ≤ b := fun b hb => by
  rcases h.fr b hb with h1 | h1
  · exact hF b h1
  · omega

theorem pr_gkjoin (w : World) (p : Nat) (rv wv : Value) (q : Nat) (sv yv : Value) (D E : GkD) (x : PrG w p rv wv q sv yv D E) (hok : D.ok) (hg : goodK D.num D.den = true)
    (p2 : Nat) (rv2 wv2 : Value) (q2 : Nat) (sv2 yv2 : Value) (O V : GkD) (y : PrG w p2 rv2 wv2 q2 sv2 yv2 O V) (hok2 : O.ok) (hpar : O.num = D.num ∧ O.den = D.den) (hn : D.total + O.total ≤ 30000)
    (hd : ∀ b ∈ fp2 p rv wv q sv yv, b ∉ fp2 p2 rv2 wv2 q2 sv2 yv2) :
    Calls Try.prog 38 #[.pointer (some ⟨p, 0, none⟩), .pointer (some ⟨p2, 0, none⟩)] w fun e w' => e = .returned (.int .i64 0) ∧ ∃ rv' wv', PrG w' p rv' wv' q sv yv (D.join O) E ∧ Mv (fp2 p rv wv q sv yv) w (fp2 p rv' wv' q sv yv) w' := by
  refine (gk_join w p rv wv D x.gk hok hg p2 rv2 wv2 O y.gk hok2 hpar hn (fun b hb e => hd b (List.mem_append.2 (.inl hb)) (List.mem_append.2 (.inl e)))).mono ?_
  rintro e w' ⟨rfl, rv', wv', h1, h2⟩
  refine ⟨rfl, rv', wv', ⟨h1, x.rg.chg h2.chg (fun b hb e => x.dis b e hb), h2.away x.rg.lt x.dis⟩, h2.chg.mono (fun b hb => .inl (List.mem_append.2 (.inl hb))), fun b hb => ?_⟩
  rcases List.mem_append.1 hb with hb | hb
  · rcases h2.fr b hb with h | h
    · exact .inl (List.mem_append.2 (.inl h))
    · exact .inr h
  · exact .inl (List.mem_append.2 (.inr hb))
theorem pr_refjoin (w : World) (p : Nat) (rv wv : Value) (q : Nat) (sv yv : Value) (D E : GkD) (x : PrG w p rv wv q sv yv D E) (hok : E.ok) (hg : goodK E.num E.den = true)
    (p2 : Nat) (rv2 wv2 : Value) (q2 : Nat) (sv2 yv2 : Value) (O V : GkD) (y : PrG w p2 rv2 wv2 q2 sv2 yv2 O V) (hok2 : V.ok) (hpar : V.num = E.num ∧ V.den = E.den) (hn : E.total + V.total ≤ 30000)
    (hd : ∀ b ∈ fp2 p rv wv q sv yv, b ∉ fp2 p2 rv2 wv2 q2 sv2 yv2) :
    Calls Try.prog 39 #[.pointer (some ⟨q, 0, none⟩), .pointer (some ⟨q2, 0, none⟩)] w fun e w' => e = .returned (.tuple #[]) ∧ ∃ sv' yv', PrG w' p rv wv q sv' yv' D (E.join V) ∧ Mv (fp2 p rv wv q sv yv) w (fp2 p rv wv q sv' yv') w' := by
  refine (ref19_join w q sv yv E x.rg hok hg q2 sv2 yv2 V y.rg hok2 hpar hn (fun b hb e => hd b (List.mem_append.2 (.inr hb)) (List.mem_append.2 (.inr e)))).mono ?_
  rintro e w' ⟨rfl, sv', yv', h1, -, h2⟩
  refine ⟨rfl, sv', yv', ⟨x.gk.chg h2.chg (fun b hb e => x.dis b hb e), h1, fun b hb e => h2.away x.gk.lt (fun b hb e => x.dis b e hb) b e hb⟩, h2.chg.mono (fun b hb => .inl (List.mem_append.2 (.inr hb))), fun b hb => ?_⟩
  rcases List.mem_append.1 hb with hb | hb
  · exact .inl (List.mem_append.2 (.inl hb))
  · rcases h2.fr b hb with h | h
    · exact .inl (List.mem_append.2 (.inr h))
    · exact .inr h
/-- What build tells, as a pair. -/
def BuildP (w w' : World) (num den : Nat) (l : List Vl) (e : Ending) : Prop :=
  ∃ (pv qv : Value) (B : Bool), e = .returned (.tuple #[pv, qv, .bool B]) ∧ Chg [] w w' ∧ Hid (B = false ∨ (B = true ∧ okG l num den ∧ ∃ p rv wv q sv yv, pv = .pointer (some ⟨p, 0, none⟩) ∧ qv = .pointer (some ⟨q, 0, none⟩) ∧
    PrG w' p rv wv q sv yv (valsG num den l) (valsG num den l) ∧ ∀ b ∈ fp2 p rv wv q sv yv, w.heap.size ≤ b))
theorem BuildP.of {w w' : World} {num den : Nat} {l : List Vl} {e : Ending} (h : BuildK w w' num den l e) : BuildP w w' num den l e := by
  rcases h with ⟨hbad, rfl, hc2⟩ | ⟨hok, p, rv, wv, q, sv, yv, rfl, ht, hq, hc2, hf, hg, hd⟩
  · exact ⟨_, _, false, rfl, hc2, Lib.hid (.inl rfl)⟩
  · refine ⟨_, _, true, rfl, hc2, Lib.hid (.inr ⟨rfl, hok, p, rv, wv, q, sv, yv, rfl, rfl, ⟨ht, hq, hd⟩, fun b hb => ?_⟩)⟩
    rcases List.mem_append.1 hb with hb | hb
    · exact hf b hb
    · exact hg b hb
end Go.Proofs.Ytkcldhimjnehdaa
