/-
  The walk of what suite writes of a tower. Conditions: the form's own reach.
-/
import Derived.Test.YtlcoibhbdgdfcaaGreatDoorCoreCoinsB27
import Derived.Test.YtlcoibhbdgdfcaaGreatDoorCoreCoinsB29
import Derived.Test.YtlcoibhbdgdfcaaGreatDoorCoreCoinsB6
import Derived.Test.YtlcoibhbdgdfcaaGreatDoorCoreCoinsB24
import Derived.Test.YtlcoibhbdgdfcaaGreatDoorCoreCoinsB30
namespace Go.Proofs.YtlcoibhbdgdfcaaGreatDoor
open Go.RowKit

theorem enters_wconfig : ∀ (args : Array Value) (w : World), (callFunc 372 args).run Tryz.prog w = .ok (.enter 372 args) w := enters_of Tryz.func372 (by kernel_rfl) rfl
theorem enters_wused : ∀ (args : Array Value) (w : World), (callFunc 373 args).run Tryz.prog w = .ok (.enter 373 args) w := enters_of Tryz.func373 (by kernel_rfl) rfl
theorem enters_wnat : ∀ (args : Array Value) (w : World), (callFunc 69 args).run Tryz.prog w = .ok (.enter 69 args) w := enters_of Tryz.func69 (by kernel_rfl) rfl

theorem fa_cfg0 (u : World) (a b : Int) : (Instr.field 165 (.agg #[.int .i64 a, .int .u64 b]) 0).run Tryz.prog u = .ok (.int .i64 a) u := by kernel_rfl
theorem fa_cfg1 (u : World) (a b : Int) : (Instr.field 165 (.agg #[.int .i64 a, .int .u64 b]) 1).run Tryz.prog u = .ok (.int .u64 b) u := by kernel_rfl
set_option maxRecDepth 100000 in
set_option maxHeartbeats 1000000 in
theorem req_Ends0 (w : World) (p tp : Nat) (rv : Value) (vs : List Value) (D : TwD) (ht : Tow w p tp rv vs D) (lo hi : Int) (B : Bool) (hlo : lo = D.lo) (hhi : hi = D.hi) (hB : B = decide (0 < D.total)) :
    Calls Tryz.prog 336 #[.pointer (some ⟨p, 0, none⟩)] w fun e w' => e = .returned (.tuple #[.int .i64 lo, .int .i64 hi, .bool B]) ∧ Chg [] w w' := by
  obtain ⟨-, -, -, -, c4, c5, c6⟩ := ht.cells
  by_cases hl : D.total = 0
  · rw [TwD.lo, if_pos hl] at hlo
    rw [TwD.hi, if_pos hl] at hhi
    have hB' : B = false := by rw [hB]; simp; exact hl
    subst hlo hhi hB'
    rw [hl] at c4
    clear hB
    go_enter Tryz.func336, Tryz.ntmps336
    go_wp2
    refine bodyPost_ret (v := .tuple #[.int .i64 0, .int .i64 0, .bool false]) (by simp [results, Tryz.results336, go_sem]) rfl ?_
    exact ⟨rfl, Chg.refl _ _⟩
  · rw [TwD.lo, if_neg hl] at hlo
    rw [TwD.hi, if_neg hl] at hhi
    have d0 : ((D.total : Int) == 0) = false := by rw [beq_eq_false_iff_ne]; omega
    have hBt : B = true := by rw [hB]; simp; omega
    rw [← hlo] at c5
    rw [← hhi] at c6
    subst hBt
    clear hB hlo hhi
    go_enter Tryz.func336, Tryz.ntmps336
    go_wp2
    go_quiet (fail)
    go_wp2
    refine bodyPost_ret (v := .tuple #[.int .i64 lo, .int .i64 hi, .bool true]) (by simp [results, Tryz.results336, go_sem]) rfl ?_
    exact ⟨rfl, (Chg.refl [] w).drewN _⟩
theorem flatMap_take {α : Type} (f : α → List UInt8) (l : List α) (k : Nat) (h : k < l.length) : (l.take (k + 1)).flatMap f = (l.take k).flatMap f ++ f l[k] := by
  rw [List.take_succ_eq_append_getElem h, List.flatMap_append]; simp
theorem flatMap_take_len (l : List (List Int)) (h : ∀ q ∈ l, q.length ≤ 64 ∧ ∀ x ∈ q, InR x) (k : Nat) : ((l.take k).flatMap rowB).length ≤ 642 * l.length := by
  have h1 := rowsB_len l h
  have h3 : ((l.take k).flatMap rowB).length ≤ (l.flatMap rowB).length := by
    conv => rhs; rw [← List.take_append_drop k l, List.flatMap_append, List.length_append]
    omega
  omega
/-- The head of what is written of a tower. -/
def headReq (D : TwD) : List UInt8 := natB D.W ++ (natB D.word ++ (natB (D.used % 64) ++ (natB (zig D.lo) ++ (natB (zig D.hi) ++ natB D.rows.length))))
theorem putReq_eq (D : TwD) : putReq D = headReq D ++ D.rows.flatMap rowB := by simp [putReq, headReq]

set_option maxRecDepth 100000 in
set_option maxHeartbeats 4000000 in
theorem req_write (w : World) (p tp : Nat) (rv : Value) (vs : List Value) (D : TwD) (ht : Tow w p tp rv vs D) (hD : D.allQ InR) (hW : D.W ≤ 64) (hword : D.word < 18446744073709551616) (hR : D.rows.length ≤ 1000) (hr64 : ∀ r ∈ D.rows, r.length ≤ 64) (hU : D.used ≤ 1000000000)
    (q : Nat) (F : List Nat) (l : List UInt8) (hl : l.length ≤ 1000) (hql : Qul w q F l) :
    Calls Tryz.prog 368 #[.agg #[.pointer (some ⟨p, 0, none⟩)], .pointer (some ⟨q, 0, none⟩)] w fun e w' => e = .returned (.tuple #[]) ∧ ∃ F', Qul w' q F' (l ++ putReq D) ∧ Mv F w F' w' := by
  have hN : D.rows.flatten.length ≤ 100000 := by
    have : ∀ l : List (List Int), (∀ r ∈ l, r.length ≤ 64) → l.flatten.length ≤ 64 * l.length := by
      intro l
      induction l with
      | nil => simp
      | cons x l ih =>
        intro h
        have h1 := ih (fun y hy => h y (by simp [hy]))
        have h2 := h x (by simp)
        simp only [List.flatten_cons, List.length_append, List.length_cons]
        omega
    have := this _ hr64
    omega
  have HT := Lib.hid (fun u (hu : Chg [] w u) => ht.chg hu (by simp))
  have HQL := Lib.hid (fun u (hu : Chg [] w u) => hql.chg hu (by simp))
  have HLO := Lib.hid hD.lo
  have HHI := Lib.hid hD.hi
  have HRQ := Lib.hid (fun r hr => (⟨hr64 r hr, hD.rows r hr⟩ : r.length ≤ 64 ∧ ∀ x ∈ r, InR x))
  obtain ⟨lo, hlo⟩ : ∃ x, x = D.lo := ⟨_, rfl⟩
  obtain ⟨hi, hhi⟩ : ∃ x, x = D.hi := ⟨_, rfl⟩
  obtain ⟨B, hB⟩ : ∃ x, x = decide (0 < D.total) := ⟨_, rfl⟩
  obtain ⟨n, hn⟩ : ∃ x, x = D.rows.length := ⟨_, rfl⟩
  have HEN := Lib.hid (fun u (hu : Chg [] w u) => req_Ends0 u p tp rv vs D (HT.out u hu) lo hi B hlo hhi hB)
  have HRW := Lib.hid (fun u (hu : Chg [] w u) => req_rows u p tp rv vs D (HT.out u hu) hN (by omega))
  have HCF := Lib.hid (fun u (hu : Chg [] w u) => req_config u p tp rv vs D (HT.out u hu))
  have HUS := Lib.hid (fun u (hu : Chg [] w u) => req_used u p tp rv vs D (HT.out u hu))
  rw [← hn] at HRW
  have HN := Lib.hid hn
  have HE := Lib.hid (And.intro hlo hhi)
  obtain ⟨b0, hb0⟩ : ∃ z, z = w.heap.size := ⟨_, rfl⟩
  have HB := Lib.hid (show Blk (w.alloc (.cells #[.pointer (some ⟨p, 0, none⟩)] 167)) b0 #[.pointer (some ⟨p, 0, none⟩)] 167 from by rw [hb0]; exact Blk.alloc_new _ _ _)
  have HC0 := Lib.hid ((Chg.refl [] w).alloc (.cells #[.pointer (some ⟨p, 0, none⟩)] 167))
  have HB0 := Lib.hid (show w.heap.size ≤ b0 from by omega)
  have hwW : IntKind.u64.wrap (D.W : Int) = (D.W : Int) := IntWalk.u64_in _ (by omega)
  have hwU : IntKind.u64.wrap (D.used : Int) = (D.used : Int) := IntWalk.u64_in _ (by omega)
  have hwM : ((D.used : Int).tmod 64) = ((D.used % 64 : Nat) : Int) := by rw [Int.tmod_eq_emod_of_nonneg (by omega)]; omega
  have hR2 : n ≤ 1000 := by omega
  have HDW := Lib.hid (And.intro hW hword)
  clear ht hql hlo hhi hB hn hD hr64 hN hR hU hword
  go_enter Tryz.func368, Tryz.ntmps368
  go_wp2_with fail
  rw [← hb0]
  clear hb0
  generalize w.alloc (.cells #[.pointer (some ⟨p, 0, none⟩)] 167) = w0 at *
  have hc0 := HB.out.cell 0
  simp only [List.getElem?_toArray, List.getElem?_cons_zero] at hc0
  go_wp2_with fail
  refine (HEN.out _ HC0.out).mono ?_
  rintro e w1 ⟨rfl, hc1⟩
  have HC1 := Lib.hid (HC0.out.trans hc1)
  have HB1 := Lib.hid (HB.out.chg hc1 (by simp))
  clear hc0 hc1 HB HC0
  have hc0 := HB1.out.cell 0
  simp only [List.getElem?_toArray, List.getElem?_cons_zero] at hc0
  go_wp2_with fail
  refine (HRW.out _ HC1.out).mono ?_
  rintro e w2 ⟨ro, rc, vs2, rfl, ⟨hro, hrr, hrb, hrv⟩, hc2⟩
  have HC2 := Lib.hid (HC1.out.trans hc2)
  have HB2 := Lib.hid (HB1.out.chg hc2 (by simp))
  have HRO := Lib.hid hro
  have HRR := Lib.hid hrr
  have HRB := Lib.hid (show (∀ b ∈ blkOf (.slice ro n rc), w.heap.size ≤ b) ∧ ∀ v ∈ vs2, ∀ b ∈ blkOf v, w.heap.size ≤ b from ⟨fun b hb => Nat.le_trans HC1.out.size (hrb b hb), fun v hv b hb => Nat.le_trans HC1.out.size (hrv v hv b hb)⟩)
  clear hc0 HB1 hro hrr hrb hrv HC1 HRW HEN hc2
  have hc0 := HB2.out.cell 0
  simp only [List.getElem?_toArray, List.getElem?_cons_zero] at hc0
  go_wp2_with fail
  have fa0 := fa_cfg0
  have fa1 := fa_cfg1
  have hSS : w2.drew.cell? ⟨b0, 0, none⟩ = some (.pointer (some ⟨p, 0, none⟩)) := hc0
  have hSS0 := hSS
  have HKS := Lib.hid ((Chg.refl [] w2).drew)
  refine startN (S := fun wx => wx.cell? ⟨b0, 0, none⟩ = some (.pointer (some ⟨p, 0, none⟩))) (by kernel_rfl) hSS (fun hHeld => ?_)
  refine takeN (i := 0) (v := ?va0) rfl (by kernel_rfl) (by kernel_rfl) (by kernel_rfl) (fun _ _ _ h => h) (Or.inl ⟨by rfl, ?ya0⟩) hSS ?ra0
  case ya0 => (intro w hSw; (try dsimp only at hSw); go_simp; first | done | with_reducible rfl)
  try simp only [Act.put, List.setIfInBounds_toArray, List.set_cons_zero, List.set_cons_succ]
  refine takeN (i := 1) (v := ?va1) rfl (by kernel_rfl) (by kernel_rfl) (by kernel_rfl) (fun _ _ _ h => h) (Or.inl ⟨by rfl, ?ya1⟩) hSS ?ra1
  case ya1 => (intro w hSw; (try dsimp only at hSw); go_simp; first | done | with_reducible rfl)
  try simp only [Act.put, List.setIfInBounds_toArray, List.set_cons_zero, List.set_cons_succ]
  refine takeN (i := 2) (v := ?va2) rfl (by kernel_rfl) (by kernel_rfl) (by kernel_rfl) (fun _ _ _ h => h) (Or.inl ⟨by rfl, ?ya2⟩) hSS ?ra2
  case ya2 => (intro w hSw; (try dsimp only at hSw); go_simp; first | done | with_reducible rfl)
  try simp only [Act.put, List.setIfInBounds_toArray, List.set_cons_zero, List.set_cons_succ]
  refine takeN (i := 6) (v := ?va6) rfl (by kernel_rfl) (by kernel_rfl) (by kernel_rfl) (fun _ _ _ h => h) (Or.inl ⟨by rfl, ?ya6⟩) hSS ?ra6
  case ya6 => (intro w hSw; (try dsimp only at hSw); go_simp; first | done | with_reducible rfl)
  try simp only [Act.put, List.setIfInBounds_toArray, List.set_cons_zero, List.set_cons_succ]
  refine takeN (i := 7) (v := ?va7) rfl (by kernel_rfl) (by kernel_rfl) (by kernel_rfl) (fun _ _ _ h => h) (Or.inl ⟨by rfl, ?ya7⟩) hSS ?ra7
  case ya7 => (intro w hSw; (try dsimp only at hSw); go_simp; first | done | with_reducible rfl)
  try simp only [Act.put, List.setIfInBounds_toArray, List.set_cons_zero, List.set_cons_succ]
  refine takeN (i := 10) (v := ?va10) rfl (by kernel_rfl) (by kernel_rfl) (by kernel_rfl) (fun _ _ _ h => h) (Or.inl ⟨by rfl, ?ya10⟩) hSS ?ra10
  case ya10 => (intro w hSw; (try dsimp only at hSw); go_simp; first | done | with_reducible rfl)
  try simp only [Act.put, List.setIfInBounds_toArray, List.set_cons_zero, List.set_cons_succ]
  refine takeN (i := 11) (v := ?va11) rfl (by kernel_rfl) (by kernel_rfl) (by kernel_rfl) (fun _ _ _ h => h) (Or.inl ⟨by rfl, ?ya11⟩) hSS ?ra11
  case ya11 => (intro w hSw; (try dsimp only at hSw); go_simp; first | done | with_reducible rfl)
  try simp only [Act.put, List.setIfInBounds_toArray, List.set_cons_zero, List.set_cons_succ]
  refine readyN (rs := [3]) (by kernel_rfl) (by simp) (consN rfl (fun K hK => ?_) nilN)
  refine step_callsG (by rfl) 372 _ _ rfl enters_wconfig _ #[.pointer (some ⟨p, 0, none⟩)] (by simp [Act.eval]) (HCF.out _ (HC2.out.trans HKS.out)) ?_; rintro e wa ⟨rfl, hccwa⟩; refine ⟨_, rfl, ?_⟩
  have HKwa := Lib.hid (HKS.out.trans hccwa)
  have hSwa : wa.cell? ⟨b0, 0, none⟩ = some (.pointer (some ⟨p, 0, none⟩)) := hccwa.cell hSS (by simp)
  clear hccwa
  refine hK.out _ _ hSwa (fun hHeld => ?_)
  clear hK K hHeld
  try simp only [Act.put, List.setIfInBounds_toArray, List.set_cons_zero, List.set_cons_succ]
  refine takeN (i := 4) (v := ?va4) rfl (by kernel_rfl) (by kernel_rfl) (by kernel_rfl) (fun _ _ _ h => h) (Or.inl ⟨by rfl, ?ya4⟩) hSwa ?ra4
  case ya4 => (intro w hSw; (try dsimp only at hSw); go_simp; first | done | with_reducible rfl)
  try simp only [Act.put, List.setIfInBounds_toArray, List.set_cons_zero, List.set_cons_succ]
  refine takeN (i := 5) (v := ?va5) rfl (by kernel_rfl) (by kernel_rfl) (by kernel_rfl) (fun _ _ _ h => h) (Or.inl ⟨by rfl, ?ya5⟩) hSwa ?ra5
  case ya5 => (intro w hSw; (try dsimp only at hSw); go_simp; first | done | with_reducible rfl)
  try simp only [Act.put, List.setIfInBounds_toArray, List.set_cons_zero, List.set_cons_succ]
  refine readyN (rs := [8]) (by kernel_rfl) (by simp) (consN rfl (fun K hK => ?_) nilN)
  refine step_callsG (by rfl) 372 _ _ rfl enters_wconfig _ #[.pointer (some ⟨p, 0, none⟩)] (by simp [Act.eval]) (HCF.out _ (HC2.out.trans HKwa.out)) ?_; rintro e wb ⟨rfl, hccwb⟩; refine ⟨_, rfl, ?_⟩
  have HKwb := Lib.hid (HKwa.out.trans hccwb)
  have hSwb : wb.cell? ⟨b0, 0, none⟩ = some (.pointer (some ⟨p, 0, none⟩)) := hccwb.cell hSwa (by simp)
  clear hccwb
  refine hK.out _ _ hSwb (fun hHeld => ?_)
  clear hK K hHeld
  try simp only [Act.put, List.setIfInBounds_toArray, List.set_cons_zero, List.set_cons_succ]
  refine takeN (i := 9) (v := ?va9) rfl (by kernel_rfl) (by kernel_rfl) (by kernel_rfl) (fun _ _ _ h => h) (Or.inl ⟨by rfl, ?ya9⟩) hSwb ?ra9
  case ya9 => (intro w hSw; (try dsimp only at hSw); go_simp; first | done | with_reducible rfl)
  try simp only [Act.put, List.setIfInBounds_toArray, List.set_cons_zero, List.set_cons_succ]
  refine readyN (rs := [12]) (by kernel_rfl) (by simp) (consN rfl (fun K hK => ?_) nilN)
  refine step_callsG (by rfl) 373 _ _ rfl enters_wused _ #[.pointer (some ⟨p, 0, none⟩)] (by simp [Act.eval]) (HUS.out _ (HC2.out.trans HKwb.out)) ?_; rintro e w' ⟨rfl, rfl⟩; refine ⟨_, rfl, ?_⟩
  refine hK.out _ _ hSwb (fun hHeld => ?_)
  clear hK K hHeld
  try simp only [Act.put, List.setIfInBounds_toArray, List.set_cons_zero, List.set_cons_succ]
  refine takeN (i := 13) (v := ?va13) rfl (by kernel_rfl) (by kernel_rfl) (by kernel_rfl) (fun _ _ _ h => h) (Or.inl ⟨by rfl, ?ya13⟩) hSwb ?ra13
  case ya13 => (intro w hSw; (try dsimp only at hSw); go_simp; first | done | with_reducible rfl)
  try simp only [Act.put, List.setIfInBounds_toArray, List.set_cons_zero, List.set_cons_succ]
  refine takeN (i := 14) (v := ?va14) rfl (by kernel_rfl) (by kernel_rfl) (by kernel_rfl) (fun _ _ _ h => h) (Or.inl ⟨by rfl, ?ya14⟩) hSwb ?ra14
  case ya14 => (intro w hSw; (try dsimp only at hSw); go_simp; first | done | with_reducible rfl)
  try simp only [Act.put, List.setIfInBounds_toArray, List.set_cons_zero, List.set_cons_succ]
  refine readyN (rs := [15]) (by kernel_rfl) (by simp) (consN rfl (fun K hK => ?_) nilN)
  refine step_bU3 rfl 25 29 34 rfl D.W D.word (D.used % 64) (by simp [Act.eval]) (by simp [Act.eval]) (by simp [Act.eval]) ?_; intro gb wc hrc hcc hgc
  have hSwc : wc.cell? ⟨b0, 0, none⟩ = some (.pointer (some ⟨p, 0, none⟩)) := hcc.cell hSwb (by simp)
  have HKwc := Lib.hid (HKwb.out.trans hcc)
  have HRC := Lib.hid hrc
  have HGC := Lib.hid (show w.heap.size ≤ gb from Nat.le_trans HC2.out.size (Nat.le_trans HKwb.out.size hgc))
  clear hcc hrc hgc
  refine hK.out _ _ hSwc (fun hHeld => ?_)
  clear hK K hHeld
  try simp only [Act.put, List.setIfInBounds_toArray, List.set_cons_zero, List.set_cons_succ]
  refine readyN (rs := [16]) (by kernel_rfl) (by simp) (consN rfl (fun K hK => ?_) nilN)
  have hqc := HQL.out _ (HC2.out.trans HKwc.out)
  have hFl : ∀ b ∈ F, b < w.heap.size := (HQL.out w (Chg.refl _ _)).lt
  refine step_callsG (by rfl) 69 _ _ rfl enters_wnat _ #[.pointer (some ⟨q, 0, none⟩), .slice (some ⟨gb, 0, none⟩) 3 3] (by simp [Act.eval]) (quill_nat wc q F l (some ⟨gb, 0, none⟩) 3 [D.W, D.word, D.used % 64] (by have := HDW.out; intro u hu; simp only [List.mem_cons, List.not_mem_nil, or_false] at hu; rcases hu with rfl | rfl | rfl <;> omega) hqc HRC.out (by intro b hb e; simp only [abl_some, List.mem_singleton] at hb; have h1 := hFl b e; have h2 := HGC.out; omega) (by simp only [List.length_cons, List.length_nil]; omega)) ?_; rintro e wd ⟨rfl, F3, hq3, hm3⟩; refine ⟨_, rfl, ?_⟩
  have HQ3 := Lib.hid hq3
  have HM3 := Lib.hid ((Mv.of_chg (HKwc.out.mono (by simp)) : Mv F w2 F wc).trans hm3)
  have hSwd : wd.cell? ⟨b0, 0, none⟩ = some (.pointer (some ⟨p, 0, none⟩)) := hm3.chg.cell hSwc (fun e => by have h1 := hFl b0 e; have h2 := HB0.out; omega)
  clear hq3 hm3 hqc hFl
  refine hK.out _ _ hSwd (fun hHeld => ?_)
  clear hK K hHeld
  try simp only [Act.put, List.setIfInBounds_toArray, List.set_cons_zero, List.set_cons_succ]
  refine doneN (by kernel_rfl) ?_ _
  clear hSS hSS0 hSwa hSwb hSwc hSwd HKS HKwa HKwb HKwc HRC HGC HCF HUS hwW hwU hwM fa0 fa1 hc0 HT
  have hb3 := flat10 [D.W, D.word, D.used % 64] (by have := HDW.out; intro u hu; simp only [List.mem_cons, List.not_mem_nil, or_false] at hu; rcases hu with rfl | rfl | rfl <;> omega) 3
  rw [List.take_of_length_le (by simp)] at hb3
  obtain ⟨T3, hT3⟩ : ∃ T, T = l ++ [D.W, D.word, D.used % 64].flatMap natB := ⟨_, rfl⟩
  have hL3 : T3.length ≤ 1030 := by rw [hT3, List.length_append]; omega
  rw [← hT3] at HQ3
  have HT3 := Lib.hid hT3
  have hFl : ∀ b ∈ F, b < w.heap.size := (HQL.out w (Chg.refl _ _)).lt
  have HFL := Lib.hid hFl
  have hF3l := HQ3.out.lt
  clear hb3 hT3 hFl HQL
  go_wp2_with fail
  refine (quill_int (wd.alloc (.cells #[.int .i64 lo, .int .i64 hi] 2)) q F3 T3 (some ⟨wd.heap.size, 0, none⟩) 2 [lo, hi] (by have h1 := HLO.out; have h2 := HHI.out; have h3 := HE.out; intro u hu; simp only [List.mem_cons, List.not_mem_nil, or_false] at hu; rcases hu with rfl | rfl; (rw [h3.1]; exact h1); (rw [h3.2]; exact h2)) (HQ3.out.alloc _) (Rd.lit wd #[.int .i64 lo, .int .i64 hi] 2 1 2 2 rfl) (by intro b hb e; simp only [abl_some, List.mem_singleton] at hb; have h1 := hF3l b e; omega) (by simp only [List.length_cons, List.length_nil]; omega)).mono ?_
  rintro e w4 ⟨rfl, F4, hq4, hm4⟩
  have HM4 := Lib.hid (HM3.out.trans ((Mv.alloc F3 wd _).trans hm4))
  have hb4 := intsB_len [lo, hi] (by have h1 := HLO.out; have h2 := HHI.out; have h3 := HE.out; intro u hu; simp only [List.mem_cons, List.not_mem_nil, or_false] at hu; rcases hu with rfl | rfl; (rw [h3.1]; exact h1); (rw [h3.2]; exact h2))
  simp only [List.length_cons, List.length_nil] at hb4
  obtain ⟨T4, hT4⟩ : ∃ T, T = T3 ++ [lo, hi].flatMap (fun x => natB (zig x)) := ⟨_, rfl⟩
  have hL4 : T4.length ≤ 1050 := by rw [hT4, List.length_append]; have : ([lo, hi].flatMap (fun x => natB (zig x))).length ≤ 20 := hb4; omega
  rw [← hT4] at hq4
  have HQ4 := Lib.hid hq4
  have HT4 := Lib.hid hT4
  have hF4l := HQ4.out.lt
  have hwn : IntKind.u64.wrap (n : Int) = (n : Int) := IntWalk.u64_in _ (by omega)
  clear hb4 hT4 HM3 HQ3 hF3l hq4 hm4
  go_wp2_with fail
  refine (quill_nat1e w4 q F4 T4 n (by omega) HQ4.out (n : Int) rfl w4.heap.size rfl (by omega)).mono ?_
  rintro e w5 ⟨rfl, F5, hq5, hm5⟩
  have HM5 := Lib.hid (HM4.out.trans hm5)
  have hb5 := natB_len10 (n := n) (by omega)
  obtain ⟨T5, hT5⟩ : ∃ T, T = T4 ++ natB n := ⟨_, rfl⟩
  have hL5 : T5.length ≤ 1060 := by rw [hT5, List.length_append]; omega
  rw [← hT5] at hq5
  have HQ5 := Lib.hid hq5
  have HT5 := Lib.hid (show T5 = l ++ headReq D from by rw [hT5, HT4.out, HT3.out, HE.out.1, HE.out.2, HN.out]; simp [headReq])
  clear hb5 hT5 HM4 HQ4 hF4l hq5 hm5 HT3 HT4 hwn
  go_wp2_with fail
  go_loopw [50] (fun i wx => ∃ (k : Nat) (F' : List Nat), k ≤ n ∧ i = .int .i64 (k : Nat) ∧ Hid (Qul wx q F' (T5 ++ (D.rows.take k).flatMap rowB)) ∧ Hid (Mv F w2 F' wx)) (fun i _ => n - (intOf i).toNat)
  case atStart => exact ⟨0, F5, Nat.zero_le _, rfl, Lib.hid (by rw [List.take_zero]; simpa using HQ5.out), HM5⟩
  case round =>
    obtain ⟨k, F', hk, rfl, HQ', HM'⟩ := hrel
    by_cases hlt : k < n
    · have hkr : k < D.rows.length := by have := HN.out; omega
      have hkv : k < vs2.length := by have := HRR.out.1; omega
      have hroC := HRO.out.chg HM'.out.chg (fun b hb e => by have h1 := HRB.out.1 b hb; have h2 := HFL.out b e; omega)
      have hrrC := HRR.out.chg HM'.out.chg (fun v hv b hb e => by have h1 := HRB.out.2 v hv b hb; have h2 := HFL.out b e; omega)
      obtain ⟨g, o, cp, hsl, c0, -, -⟩ := hroC.at1 (j := k) hkr hkv
      simp only [Value.slice.injEq] at hsl
      obtain ⟨rfl, -, rfl⟩ := hsl
      have hrow := hrrC.2.1 k hkv hkr
      obtain ⟨so, sc, hsv⟩ := hrow.shape
      have hvb : ∀ b ∈ abl so, w.heap.size ≤ b ∧ b < w2.heap.size := fun b hb => by
        have e1 : b ∈ blkOf vs2[k] := by rw [hsv]; simpa using hb
        exact ⟨HRB.out.2 _ (List.getElem_mem hkv) b e1, HRR.out.lt k hkv b e1⟩
      rw [hsv] at c0 hrow
      have hrq := HRQ.out D.rows[k] (List.getElem_mem hkr)
      have HST := Lib.hid (flatMap_take rowB D.rows k hkr)
      have hbt := flatMap_take_len D.rows HRQ.out k
      have hln := HN.out
      generalize D.rows[k] = r at *
      obtain ⟨m, hm⟩ : ∃ m, m = r.length := ⟨_, rfl⟩
      rw [← hm] at hrow c0 hrq
      have HROW := Lib.hid hrow.rd
      have HVB := Lib.hid hvb
      have HAP := Lib.hid (show ∀ b ∈ abl so, b ∉ F' from fun b hb e => by
        have h1 := hvb b hb
        rcases HM'.out.fr b e with h2 | h2
        · have := HFL.out b h2; omega
        · omega)
      have HRI := Lib.hid hrq.2
      have HMM := Lib.hid hm
      have hm64 := hrq.1
      obtain ⟨T, hT⟩ : ∃ T, T = T5 ++ (D.rows.take k).flatMap rowB := ⟨_, rfl⟩
      have hLT : T.length ≤ 700000 := by rw [hT, List.length_append]; omega
      rw [← hT] at HQ'
      have HTT := Lib.hid hT
      have hwm : IntKind.u64.wrap (m : Int) = (m : Int) := IntWalk.u64_in _ (by omega)
      clear hroC hrrC hsv hrow hrq hvb hm hbt hT hln
      go_wp2_with fail
      refine (quill_nat1e wr q F' T m (by omega) HQ'.out (m : Int) rfl wr.heap.size rfl (by omega)).mono ?_
      rintro e w6 ⟨rfl, F6, hq6, hm6⟩
      have hb6 := natB_len10 (n := m) (by omega)
      have HQ6 := Lib.hid hq6
      have HM6 := Lib.hid (HM'.out.trans hm6)
      have HRD6 := Lib.hid (HROW.out.chg hm6.chg (fun b hb e => HAP.out b (by simpa using hb) e))
      have HAP6 := Lib.hid (show ∀ b ∈ abl so, b ∉ F6 from fun b hb e => by
        rcases hm6.fr b e with h1 | h1
        · exact HAP.out b hb h1
        · have := HVB.out b hb; have := HM'.out.chg.size; omega)
      clear hq6 hm6 c0 HQ' HROW HAP
      have hrm := HMM.out
      subst hrm
      go_wp2_with fail
      refine (quill_int w6 q F6 (T ++ natB r.length) so sc r HRI.out HQ6.out HRD6.out HAP6.out (by rw [List.length_append]; omega)).mono ?_
      rintro e w7 ⟨rfl, F7, hq7, hm7⟩
      have HQ7 := Lib.hid hq7
      have HM7 := Lib.hid (HM6.out.trans hm7)
      clear hq7 hm7 HM6 HQ6 HRD6 HAP6
      go_wp2
      refine ⟨⟨k + 1, F7, hlt, by go_num, Lib.hid ?_, HM7⟩, by simp [intOf]; omega⟩
      have := HQ7.out
      rw [HST.out, ← List.append_assoc, ← HTT.out]
      simpa [rowB, intsB] using this
    · obtain rfl : k = n := by omega
      go_wp2
      go_end0
      refine ⟨rfl, F', ?_, (Mv.of_chg (HC2.out.mono (by simp)) : Mv F w F w2).trans HM'.out⟩
      have := HQ'.out
      rw [List.take_of_length_le (by have := HN.out; omega), HT5.out] at this
      rw [putReq_eq, ← List.append_assoc]
      exact this
end Go.Proofs.YtlcoibhbdgdfcaaGreatDoor
