/-
  The walk of tuples.Squeeze. Conditions: the form's own reach.
-/
import Derived.Test.YtkcldhimjnehdaaTupDel
import Derived.Test.YtkcldhimjnehdaaScope
import Derived.Test.YtkcldhimjnehdaaSteps
namespace Go.Proofs.Ytkcldhimjnehdaa
open Go.RowKit

def sqFrame (ao : Option Addr) (n cap m : Nat) (i : Int) (f : Nat → Value) : Act :=
  { tmps := #[.slice ao n cap, .int .u64 m, undef, undef, .slice none 0 0, .int .i64 i, f 6, f 7, f 8, f 9, f 10, f 11, f 12, f 13, f 14, f 15, f 16, f 17, f 18, f 19, f 20, f 21, f 22, f 23, f 24, f 25, f 26, f 27, f 28, f 29, f 30, f 31, f 32, f 33, f 34, f 35, f 36, f 37, f 38, f 39, f 40, f 41, f 42, f 43, f 44, f 45, f 46, f 47, f 48, f 49, f 50, f 51], defers := [] }
/-- What holds where the label stands. -/
def sqJ (w : World) (ao : Option Addr) (cap m N : Nat) (l : List Tp) : Nat → Act → World → Prop
  | 0, a, w' => ∃ (i : Int) (r : List Tp), a = sqFrame ao r.length cap m i (fun k => a.tmps.getD k undef) ∧ -2 ≤ i ∧ (1 ≤ i → i + 1 < r.length) ∧ r.length ≤ 100000 ∧ FineT r N ∧ sqTo m i.toNat r = sqT m l ∧
      Own w' 28 3 (.slice ao r.length cap) r.length (tpCells r) ∧ Chg (abl ao) w w'
  | _, _, _ => False
def sqM : Nat → Act → World → Nat := fun _ a _ => (intOf (a.tmps.getD 5 undef) + 2).toNat

/-- Of a row that is fine no sum of two that stand side by side is above its total. -/
theorem FineT.two {row : List Tp} {n i : Nat} (h : FineT row n) (hi : i + 1 < row.length) : row[i].st + row[i + 1].st + row[i + 1].sl ≤ n := by
  have e : row = row.take i ++ row[i] :: row[i + 1] :: row.drop (i + 2) := by
    have h1 := List.take_append_drop i row
    rw [List.drop_eq_getElem_cons (by omega), List.drop_eq_getElem_cons hi] at h1
    exact h1.symm
  have hs := h.high
  rw [e, spF_app] at hs
  have := hs ⟨row[i + 1].x, 0 + tot (row.take i) + row[i].st + row[i + 1].st, 0 + tot (row.take i) + row[i].st + row[i + 1].st + row[i + 1].sl⟩ (by simp [spF])
  simp only at this
  omega
theorem FineT.one {row : List Tp} {n i : Nat} (h : FineT row n) (hi : i < row.length) : row[i].st + row[i].sl ≤ n := by
  have e : row = row.take i ++ row[i] :: row.drop (i + 1) := by
    have h1 := List.take_append_drop i row
    rw [List.drop_eq_getElem_cons hi] at h1
    exact h1.symm
  have hs := h.high
  rw [e, spF_app] at hs
  have := hs ⟨row[i].x, 0 + tot (row.take i) + row[i].st, 0 + tot (row.take i) + row[i].st + row[i].sl⟩ (by simp [spF])
  simp only at this
  omega
theorem tpCells_setStep (l : List Tp) (n : Nat) (hn : n < l.length) (c : Nat) : tpCells (l.set n ⟨l[n].x, c, l[n].sl⟩) = (tpCells l).set (n * 3 + 1) (.int .u64 c) := by
  induction l generalizing n with
  | nil => simp at hn
  | cons p l ih =>
    cases n with
    | zero => simp [tpCells, Tp.cells]
    | succ n =>
      have := ih n (by simpa using hn)
      simp only [tpCells, List.set_cons_succ, List.map_cons, List.flatten_cons, List.getElem_cons_succ] at this ⊢
      rw [this, show (n + 1) * 3 + 1 = (n * 3 + 1) + 3 from by omega]
      simp [Tp.cells]
theorem sqStep_yes {m i : Nat} {r : List Tp} (hi : i + 1 < r.length) (h : r[i].st + r[i + 1].st + r[i + 1].sl ≤ m) :
    sqStep m i r = (r.set (i + 1) ⟨r[i + 1].x, r[i + 1].st + r[i].st, r[i + 1].sl⟩).take i ++ (r.set (i + 1) ⟨r[i + 1].x, r[i + 1].st + r[i].st, r[i + 1].sl⟩).drop (i + 1) := by
  have g1 : r.getD i default = r[i] := by simp [List.getD, show i < r.length by omega]
  have g2 : r.getD (i + 1) default = r[i + 1] := by simp [List.getD, hi]
  rw [sqStep, g1, g2, if_pos h]
  rw [List.take_set_of_le (by omega), List.drop_set, if_neg (by omega), Nat.sub_self, List.append_assoc, List.drop_eq_getElem_cons hi]
  rfl
theorem sqStep_no {m i : Nat} {r : List Tp} (hi : i + 1 < r.length) (h : ¬ r[i].st + r[i + 1].st + r[i + 1].sl ≤ m) : sqStep m i r = r := by
  have g1 : r.getD i default = r[i] := by simp [List.getD, show i < r.length by omega]
  have g2 : r.getD (i + 1) default = r[i + 1] := by simp [List.getD, hi]
  rw [sqStep, g1, g2, if_neg h]

theorem sqTo_down (m k : Nat) (r : List Tp) (hk : 0 < k) : sqTo m k r = sqTo m (k - 1) (sqStep m k r) := by
  obtain ⟨j, rfl⟩ : ∃ j, k = j + 1 := ⟨k - 1, by omega⟩
  rfl
theorem delete_tuple' (w : World) (g o cap : Nat) (l : List Tp) (n : Nat) (hn : n = l.length) (k : Nat) (hk : k < n) (hl : n ≤ 100000) (ho : Own w 28 3 (.slice (some ⟨g, o, none⟩) n cap) n (tpCells l)) :
    Calls Try.prog 78 #[.slice (some ⟨g, o, none⟩) n cap, .int .i64 (k : Nat), .int .i64 ((k : Int) + 1)] w fun e w' =>
      e = .returned (.slice (some ⟨g, o, none⟩) (n - 1) cap) ∧
      Own w' 28 3 (.slice (some ⟨g, o, none⟩) (n - 1) cap) (n - 1) (tpCells (l.take k ++ l.drop (k + 1))) ∧ Chg [g] w w' := by
  subst hn
  exact delete_tuple w g o cap l k hk hl ho

set_option maxRecDepth 100000 in
set_option maxHeartbeats 2000000 in
theorem tup_squeeze (w : World) (ao : Option Addr) (cap : Nat) (l : List Tp) (m N : Nat) (_hm : m < 18446744073709551616) (hf : FineT l N) (hN : N ≤ 9223372036854775807) (hl : l.length ≤ 100000)
    (ho : Own w 28 3 (.slice ao l.length cap) l.length (tpCells l)) :
    Calls Try.prog 55 #[.slice ao l.length cap, .int .u64 m] w fun e w' => e = .returned (.slice ao (sqT m l).length cap) ∧
      Own w' 28 3 (.slice ao (sqT m l).length cap) (sqT m l).length (tpCells (sqT m l)) ∧ Chg (abl ao) w w' := by
  have HN := Lib.hid hN
  have HM := Lib.hid _hm
  clear hN _hm
  go_enter Try.func55, Try.ntmps55
  go_wp2
  refine (fun pass => wp_scope_labels (sqJ w ao cap m N l) sqM ?_ pass) ?_
  · go_wp2
    rename_i K hK
    refine wp_label (hK _ _ ?_)
    obtain ⟨R, hf0, hp⟩ := pass 0 (sqFrame ao l.length cap m ((l.length : Int) - 2) (fun k => (#[undef, undef, undef, undef, undef, undef, undef, .slice ao l.length cap, .int .i64 l.length, .int .i64 ((l.length : Int) - 2)] : Array Value).getD k undef)) w
      ⟨_, l, rfl, by omega, by omega, hl, hf, by rw [sqT]; congr 1; omega, ho, Chg.refl _ _⟩
    obtain rfl := (Code.seq.inj (Option.some.inj hf0)).2
    refine wp_mono hp (fun ex a1 w1 hq => ?_)
    cases ex <;> first | exact hq.1 | exact hq
  · intro lb a wr hJ
    match lb with
    | 0 =>
      obtain ⟨i, r, ha, hi2, hi1, hrl, hfr, hsq, hor, hch⟩ := hJ
      generalize (fun k => a.tmps.getD k undef) = f at ha
      subst ha
      refine ⟨_, rfl, ?_⟩
      have HQ := Lib.hid hsq
      clear hsq hf hl ho
      by_cases hlt : i < 1
      · have hd : decide (i < 1) = true := decide_eq_true hlt
        have HE := Lib.hid (show sqT m l = r from by
          have h := HQ.out
          rw [show i.toNat = 0 from by omega] at h
          exact h.symm)
        clear HQ hi1 hi2
        unfold sqFrame
        go_wp2
        go_ret
        rw [HE.out]
        exact ⟨rfl, hor, hch⟩
      · obtain ⟨k, rfl⟩ : ∃ k : Nat, i = (k : Int) := ⟨i.toNat, by omega⟩
        have hk1 : k + 1 < r.length := by have := hi1 (by omega); omega
        have hk0 : 0 < k := by omega
        rw [Int.toNat_natCast] at HQ
        obtain ⟨b, o, rfl, hc⟩ := hor.rd.addr (by omega)
        obtain ⟨c0, c1, c2⟩ := tp_at hc (show k < r.length by omega)
        obtain ⟨d0, d1, d2⟩ := tp_at hc hk1
        have hsum := hfr.two hk1
        have hN := HN.out
        have HT := Lib.hid (fun h => sqStep_yes (m := m) hk1 h)
        have HF := Lib.hid (fun h => sqStep_no (m := m) hk1 h)
        have HST := Lib.hid (hfr.step m k hk0 hk1)
        have HC := Lib.hid (tpCells_setStep r (k + 1) hk1)
        have hdd : decide ((k : Int) < 1) = false := decide_eq_false hlt
        have hkp : (0 : Int) ≤ (k : Int) := by omega
        have hkl : (k : Int) < (r.length : Int) := by omega
        have hkp1 : (0 : Int) ≤ (k : Int) + 1 := by omega
        have hkl1 : (k : Int) + 1 < (r.length : Int) := by omega
        have htn : ((k : Int) + 1).toNat = k + 1 := by omega
        have HR := Lib.hid hor
        have HFR := Lib.hid hfr
        have hbl := hor.lt b (by simp)
        clear hlt hi1 hi2 hc hor hfr
        generalize r[k] = p at *
        generalize r[k + 1] = q at *
        have hws : IntKind.u64.wrap ((p.st : Int) + (q.st : Int)) = (p.st : Int) + (q.st : Int) := IntWalk.u64_in _ (by omega)
        have hwt : IntKind.u64.wrap ((p.st : Int) + (q.st : Int) + (q.sl : Int)) = (p.st : Int) + (q.st : Int) + (q.sl : Int) := IntWalk.u64_in _ (by omega)
        have hkw : IntKind.i64.wrap ((k : Int) + 1) = (k : Int) + 1 := IntWalk.i64_in _ (by omega)
        unfold sqFrame
        go_wp2
        have hcW := (Chg.refl [] wr).alloc (.cells #[.int .i64 q.x, .int .u64 q.st, .int .u64 q.sl] 28)
        have c1' := hcW.cell c1 (by simp)
        have d1' := hcW.cell d1 (by simp)
        have hbx := Blk.alloc_new wr #[.int .i64 q.x, .int .u64 q.st, .int .u64 q.sl] 28
        have HO := Lib.hid (HR.out.chg hcW (by simp))
        have HCH := Lib.hid (hch.trans hcW.nil)
        generalize wr.alloc (.cells #[.int .i64 q.x, .int .u64 q.st, .int .u64 q.sl] 28) = W at *
        generalize wr.heap.size = B at *
        have e1 := hbx.cell 1
        have e2 := hbx.cell 2
        clear c0 c1 c2 d0 d1 d2 hbx hcW HR hch
        by_cases hle : p.st + q.st + q.sl ≤ m
        · have hdl : decide ((p.st : Int) + (q.st : Int) + (q.sl : Int) ≤ (m : Int)) = true := decide_eq_true (by omega)
          have HS := Lib.hid (HT.out hle)
          clear hle HT HF
          go_quiet (fail)
          have HO2 := Lib.hid (show Own (W.drewN nq) 28 3 _ _ _ from HO.out.chg ((Chg.refl [] W).drewN nq) (by simp))
          have HCH2 := Lib.hid (HCH.out.drewN nq)
          have c1'' : (W.drewN nq).cell? ⟨b, o + k * 3 + 1, none⟩ = _ := c1'
          have d1'' : (W.drewN nq).cell? ⟨b, o + (k + 1) * 3 + 1, none⟩ = _ := d1'
          generalize W.drewN nq = W2 at *
          clear c1' d1' e1 e2 HO HCH hws hwt
          have hfz := HO2.out.free (o + (k + 1) * 3 + 1)
          have hwu : IntKind.u64.wrap ((q.st : Int) + (p.st : Int)) = (q.st : Int) + (p.st : Int) := IntWalk.u64_in _ (by omega)
          go_wp2
          go_still_tail 14, (by kernel_rfl)
          change wpList _ _ _ _ _ (World.drew _)
          clear hwu hkw c1''
          have hoS0 := HO2.out.set ((k + 1) * 3 + 1) (.int .u64 ((q.st + p.st : Nat) : Int))
          rw [← HC.out (q.st + p.st), ← Nat.add_assoc o] at hoS0
          have hoS : Own (W2.setCell ⟨b, o + (k + 1) * 3 + 1, none⟩ (.int .u64 ((q.st : Int) + (p.st : Int)))) 28 3 (.slice (some ⟨b, o, none⟩) r.length cap) r.length (tpCells (r.set (k + 1) ⟨q.x, q.st + p.st, q.sl⟩)) := hoS0
          clear hoS0
          have HCS := Lib.hid (HCH2.out.setCell (a := ⟨b, o + (k + 1) * 3 + 1, none⟩) (.inl (by simp)) (.int .u64 ((q.st : Int) + (p.st : Int)))).drew
          clear HO2 HCH2 HC
          go_wp2_with fail
          refine (delete_tuple' _ b o cap (r.set (k + 1) ⟨q.x, q.st + p.st, q.sl⟩) r.length (by simp) k (by omega) hrl hoS.drew).mono ?_
          rintro e w7 ⟨rfl, ho7, hg7⟩
          rw [← HS.out] at ho7
          have hlen : (sqStep m k r).length = r.length - 1 := by rw [HS.out]; simp; omega
          have HL := Lib.hid hlen
          clear hlen hoS d1'' hfz
          go_wp2
          go_step3
          refine ⟨⟨_, sqStep m k r, by rw [HL.out]; rfl, by omega, by rw [HL.out]; omega, by rw [HL.out]; omega, HST.out, ?_, by rw [HL.out]; exact ho7, HCS.out.trans hg7⟩, by simp [sqM, intOf]; omega⟩
          rw [← HQ.out, show ((k : Int) - 1).toNat = k - 1 from by omega, ← sqTo_down m k r hk0]
        · have hdl : decide ((p.st : Int) + (q.st : Int) + (q.sl : Int) ≤ (m : Int)) = false := decide_eq_false (by omega)
          have HS := Lib.hid (HF.out hle)
          clear hle HT HF
          go_quiet (fail)
          go_wp2
          go_step3
          refine ⟨⟨_, r, rfl, by omega, by omega, hrl, HFR.out, ?_, HO.out, HCH.out.drewN nq⟩, by simp [sqM, intOf]; omega⟩
          rw [← HQ.out, show ((k : Int) - 1).toNat = k - 1 from by omega, sqTo_down m k r hk0, HS.out]
    | _ + 1 => exact hJ.elim
end Go.Proofs.Ytkcldhimjnehdaa
