/-
  The walk of suite's bare at the kinds Lumps, Green, Digest, Log. Conditions: none.
  suite's sketch of lumps: New, Put, Join, Rank, Quantile, whatever comes. Conditions: the form's own reach.
-/
import Derived.Test.YtlcoibhbdgdfcaaGreatDoorCoreLumpsB3
import Derived.Test.YtlcoibhbdgdfcaaGreatDoorCoreLumpsB15
import Derived.Test.YtlcoibhbdgdfcaaGreatDoorCoreLumpsB28
import Derived.Test.YtlcoibhbdgdfcaaGreatDoorCoreLumpsB32
import Derived.Test.YtlcoibhbdgdfcaaGreatDoorCoreLumpsB31
namespace Go.Proofs.YtlcoibhbdgdfcaaGreatDoor
open Go.RowKit

set_option maxRecDepth 100000 in
set_option maxHeartbeats 2000000 in
theorem bare_lump (w : World) (c : Cf) (hk : c.kind = 6) : Calls Tryz.prog 45 #[c.val] w fun e w' => e = .returned ({ Cf.none 6 with most := c.most } : Cf).val ∧ Chg [] w w' := by
  obtain ⟨k, num, den, side, most, digits, limit, depth, factor, width, word⟩ := c
  simp only at hk
  subst hk
  simp only [Cf.val, Cf.cells, Cf.none]
  go_enter Tryz.func45, Tryz.ntmps45
  go_wp2
  refine bodyPost_ret (v := .agg #[.int .i64 6, .int .u64 0, .int .u64 0, .int .i64 0, .int .i64 most, .int .i64 0, .int .u64 0, .int .i64 0, .int .i64 0, .int .i64 0, .int .u64 0]) (by simp [results, Tryz.results45, go_sem]) rfl ?_
  exact ⟨rfl, by with_reducible (repeat (first | exact Chg.refl _ _ | apply Chg.alloc | apply Chg.drew | (apply Chg.setCell; simp)))⟩
set_option maxRecDepth 100000 in
set_option maxHeartbeats 2000000 in
theorem bare_green (w : World) (c : Cf) (hk : c.kind = 4) : Calls Tryz.prog 45 #[c.val] w fun e w' => e = .returned ({ Cf.none 4 with num := c.num, den := c.den } : Cf).val ∧ Chg [] w w' := by
  obtain ⟨k, num, den, side, most, digits, limit, depth, factor, width, word⟩ := c
  simp only at hk
  subst hk
  simp only [Cf.val, Cf.cells, Cf.none]
  go_enter Tryz.func45, Tryz.ntmps45
  go_wp2
  refine bodyPost_ret (v := .agg #[.int .i64 4, .int .u64 num, .int .u64 den, .int .i64 0, .int .i64 0, .int .i64 0, .int .u64 0, .int .i64 0, .int .i64 0, .int .i64 0, .int .u64 0]) (by simp [results, Tryz.results45, go_sem]) rfl ?_
  exact ⟨rfl, by with_reducible (repeat (first | exact Chg.refl _ _ | apply Chg.alloc | apply Chg.drew | (apply Chg.setCell; simp)))⟩
set_option maxRecDepth 100000 in
set_option maxHeartbeats 2000000 in
theorem bare_digest (w : World) (c : Cf) (hk : c.kind = 3) : Calls Tryz.prog 45 #[c.val] w fun e w' => e = .returned ({ Cf.none 3 with depth := c.depth, factor := c.factor } : Cf).val ∧ Chg [] w w' := by
  obtain ⟨k, num, den, side, most, digits, limit, depth, factor, width, word⟩ := c
  simp only at hk
  subst hk
  simp only [Cf.val, Cf.cells, Cf.none]
  go_enter Tryz.func45, Tryz.ntmps45
  go_wp2_with fail
  go_region_with (fail)
  all_goals
    go_wp2
    refine bodyPost_ret (v := .agg #[.int .i64 3, .int .u64 0, .int .u64 0, .int .i64 0, .int .i64 0, .int .i64 0, .int .u64 0, .int .i64 depth, .int .i64 factor, .int .i64 0, .int .u64 0]) (by simp [results, Tryz.results45, go_sem]) rfl ?_
    exact ⟨rfl, by with_reducible (repeat (first | exact Chg.refl _ _ | apply Chg.alloc | apply Chg.drew | (apply Chg.setCell; simp)))⟩
end Go.Proofs.YtlcoibhbdgdfcaaGreatDoor

namespace Go.Proofs.YtlcoibhbdgdfcaaGreatDoor
open Go.RowKit

/-- A config of lumps. -/
structure LmC (c : Cf) (most : Nat) : Prop where
  eq : c = { Cf.none 6 with most := (most : Int) }
  m1 : 2 ≤ most
  m2 : most ≤ 64
/-- A sketch of lumps behind the values m. -/
def LmP (c : Cf) (most : Nat) (w : World) (s : Nat) (F : List Nat) (B : Nat) (m : List Vl) : Prop :=
  ∃ p rv D, Sk w s c 169 p ∧ LmS w p rv D ∧ D.most = most ∧ D.ok ∧ OfL D.l m ∧ sumS m ≤ B ∧ F = s :: fpL p rv ∧ s ∉ fpL p rv
namespace LmP
variable {c : Cf} {most s B : Nat} {w w1 : World} {F : List Nat} {m : List Vl}
theorem lt (h : LmP c most w s F B m) : ∀ b ∈ F, b < w.heap.size := by
  obtain ⟨p, rv, D, h1, h2, h3, h4, h5, h6, rfl, h7⟩ := h
  intro b hb
  rcases List.mem_cons.1 hb with rfl | hb
  · exact Blk.lt h1
  · exact h2.lt b hb
theorem chg {G : List Nat} (h : LmP c most w s F B m) (k : Chg G w w1) (hF : ∀ b ∈ F, b ∉ G) : LmP c most w1 s F B m := by
  obtain ⟨p, rv, D, h1, h2, h3, h4, h5, h6, rfl, h7⟩ := h
  exact ⟨p, rv, D, h1.chg k (hF s (by simp)), h2.chg k (fun b hb => hF b (by simp [hb])), h3, h4, h5, h6, rfl, h7⟩
theorem mono {B' : Nat} (h : LmP c most w s F B m) (hB : B ≤ B') : LmP c most w s F B' m := by
  obtain ⟨p, rv, D, h1, h2, h3, h4, h5, h6, rfl, h7⟩ := h
  exact ⟨p, rv, D, h1, h2, h3, h4, h5, by omega, rfl, h7⟩
end LmP
def FreshL (c : Cf) (B : Nat) (w' : World) (T : Nat) (d : Value) (k : Int) : Prop :=
  T = 169 ∧ ((k = 1 ∧ ¬ (2 ≤ c.most ∧ c.most ≤ 64)) ∨ (k = 0 ∧ (2 ≤ c.most ∧ c.most ≤ 64) ∧ ∃ p, d = .agg #[.pointer (some ⟨p, 0, none⟩)] ∧ LmS w' p (.slice none 0 0) ⟨c.most.toNat, []⟩ ∧ B ≤ p))
set_option maxRecDepth 100000 in
set_option maxHeartbeats 2000000 in
theorem fresh_lump (w : World) (c : Cf) (hk : c.kind = 6) : Calls Tryz.prog 46 #[c.val] w fun e w' => ∃ T d k, e = .returned (.tuple #[.iface T d, .int .i64 k]) ∧ FreshL c w.heap.size w' T d k ∧ Chg [] w w' := by
  obtain ⟨k, num, den, side, most, digits, limit, depth, factor, width, word⟩ := c
  simp only at hk
  subst hk
  have HC0 := Lib.hid ((Chg.refl [] w).alloc (.cells #[.int .i64 6, .int .u64 num, .int .u64 den, .int .i64 side, .int .i64 most, .int .i64 digits, .int .u64 limit, .int .i64 depth, .int .i64 factor, .int .i64 width, .int .u64 word] 30))
  have HN := Lib.hid (fun u => lump_new u most)
  simp only [FreshL, Cf.val, Cf.cells]
  go_enter Tryz.func46, Tryz.ntmps46
  go_wp2_with fail
  refine (HN.out _).mono ?_
  rintro e w1 (⟨hg, rfl, hc1⟩ | ⟨hg, p, rfl, ht, hc1, hf⟩)
  · have HC1 := Lib.hid (HC0.out.trans hc1)
    have HG := Lib.hid hg
    clear hc1 hg HN HC0
    go_wp2
    go_ret2
    exact ⟨_, _, 1, rfl, ⟨rfl, .inl ⟨rfl, HG.out⟩⟩, HC1.out⟩
  · have HC1 := Lib.hid (HC0.out.trans hc1)
    have HG := Lib.hid hg
    have HT := Lib.hid ht
    have HF := Lib.hid (show w.heap.size ≤ p from by simp only [World.size_alloc] at hf; omega)
    clear hc1 hg HN HC0 hf ht
    go_wp2
    go_ret2
    refine ⟨_, _, 0, rfl, ⟨rfl, .inr ⟨rfl, HG.out, p, rfl, ?_, HF.out⟩⟩, HC1.out⟩
    have := HT.out
    have e : ((most.toNat : Nat) : Int) = most := by have := HG.out; omega
    unfold LmS
    rw [e]
    exact this
theorem lm_new (w : World) (c : Cf) (hk : c.kind = 6) : Calls Tryz.prog 26 #[c.val] w fun e w' =>
    (∃ k : Int, k ≠ 0 ∧ e = .returned (.tuple #[.pointer none, .int .i64 k]) ∧ Chg [] w w') ∨
    (∃ most s F, LmC c most ∧ e = .returned (.tuple #[.pointer (some ⟨s, 0, none⟩), .int .i64 0]) ∧ LmP c most w' s F 0 [] ∧ Chg [] w w' ∧ ∀ b ∈ F, w.heap.size ≤ b) := by
  refine (suite_newK w c _ (fun u => bare_lump u c hk) (FreshL c w.heap.size) (fun u hu => (fresh_lump u c hk).mono ?_)).mono ?_
  · rintro e w' ⟨T, d, k, rfl, ⟨rfl, h⟩, hc⟩
    refine ⟨_, d, k, rfl, ⟨rfl, ?_⟩, hc⟩
    rcases h with h | ⟨h1, h2, p, h3, h4, h5⟩
    · exact .inl h
    · exact .inr ⟨h1, h2, p, h3, h4, Nat.le_trans hu.size h5⟩
  · rintro e w' (⟨h1, rfl, hc⟩ | ⟨hs, T, d, k, w1, ⟨rfl, h⟩, hc, ⟨hk, rfl, rfl⟩ | ⟨rfl, rfl, rfl⟩⟩)
    · exact .inl ⟨1, by decide, rfl, hc⟩
    · exact .inl ⟨k, hk, rfl, hc⟩
    · rcases h with ⟨h1, -⟩ | ⟨-, hg, p, rfl, ht, hf⟩
      · exact absurd h1 (by decide)
      · have hce : c = { Cf.none 6 with most := c.most } := Cf.same_eq hs
        have hk1 : Chg [] w1 (w1.alloc (.cells (c.cells ++ #[.iface 169 (.agg #[.pointer (some ⟨p, 0, none⟩)])]) 96)) := (Chg.refl _ _).alloc _
        refine .inr ⟨c.most.toNat, w1.heap.size, _, ⟨?_, by omega, by omega⟩, rfl, ⟨p, _, _, Blk.alloc_new _ _ _, ht.chg hk1 (by simp), rfl, LmD.new_ok (by omega) (by omega), OfL.new, by simp [sumS], rfl, fun e => absurd (ht.lt _ e) (by omega)⟩, hc.trans hk1, fun b hb => ?_⟩
        · rw [Int.toNat_of_nonneg (by omega)]; exact hce
        · simp only [fpL, blkOf_none, List.mem_cons, List.not_mem_nil, or_false] at hb
          rcases hb with rfl | rfl
          · exact hc.size
          · exact hf
theorem lm_next {c : Cf} {most : Nat} {w w' : World} {s p : Nat} {rv rv' : Value} {D : LmD} {B : Nat} {m : List Vl} (hs : Sk w s c 169 p) (hn : s ∉ fpL p rv)
    (hm : Mv (fpL p rv) w (fpL p rv') w') (ht : LmS w' p rv' D) (h1 : D.most = most) (h2 : D.ok) (h3 : OfL D.l m) (h4 : sumS m ≤ B) : LmP c most w' s (s :: fpL p rv') B m :=
  ⟨p, rv', D, hs.chg hm.chg hn, ht, h1, h2, h3, h4, rfl, fun e => (hm.apart (G := [s]) (by simpa using hn) (by simpa using Blk.lt hs)) s (by simp) e⟩
theorem lm_put (c : Cf) (most : Nat) (w : World) (s : Nat) (F : List Nat) (B : Nat) (m : List Vl) (h : LmP c most w s F B m) (hB : B ≤ 1000000000) (x : Int) (hxr : InR x) (n : Nat) (hn : n ≤ 1000000000) :
    Calls Tryz.prog 24 #[.pointer (some ⟨s, 0, none⟩), .int .i64 x, .int .u64 (n : Nat)] w fun e w' =>
      ∃ (k : Int) (F' : List Nat), e = .returned (.int .i64 k) ∧ Mv F w F' w' ∧ ((k = 0 ∧ LmP c most w' s F' (B + n) (m ++ [⟨x, n⟩])) ∨ (k ≠ 0 ∧ LmP c most w' s F' (B + n) m)) := by
  obtain ⟨p, rv, D, hs, ht, hd, hok, hof, hsum, rfl, hnm⟩ := h
  have htot := hof.tot
  refine sk_put_lumps w s p c hs x n _ ?_
  by_cases h0 : n = 0
  · subst h0
    refine (lump_put_zero w p x).mono ?_
    rintro e w' ⟨rfl, hu⟩
    exact ⟨1, rfl, 1, _, rfl, Mv.of_chg (hu.mono (by simp)), .inr ⟨by decide, p, rv, D, hs.nil hu, ht.chg hu (by simp), hd, hok, hof, by omega, rfl, hnm⟩⟩
  · obtain ⟨k1, k2⟩ := LmD.put_ok hok hxr (n := n) (by omega) (by omega)
    refine (lump_put w p rv D ht hok x n (by omega) (by omega)).mono ?_
    rintro e w' ⟨rfl, rv', ht', hm'⟩
    exact ⟨0, rfl, 0, _, rfl, mv_sk hm', .inl ⟨rfl, lm_next hs hnm hm' ht' hd k1 ((hof.put x (by omega)).press (by have := hok.m1; omega)) (by rw [sumS_app]; simp only [sumS]; omega)⟩⟩
theorem lm_join (c : Cf) (most : Nat) (w : World) (s : Nat) (F : List Nat) (B : Nat) (a : List Vl) (h : LmP c most w s F B a) (o : Nat) (G : List Nat) (B2 : Nat) (b : List Vl) (ho : LmP c most w o G B2 b) (hB : B + B2 ≤ 1000000000) :
    Calls Tryz.prog 38 #[.pointer (some ⟨s, 0, none⟩), .pointer (some ⟨o, 0, none⟩)] w fun e w' =>
      ∃ (F' : List Nat), e = .returned (.int .i64 0) ∧ Mv F w F' w' ∧ LmP c most w' s F' (B + B2) (a ++ b) := by
  obtain ⟨p, rv, D, hs, ht, hd, hok, hof, hsum, rfl, hnm⟩ := h
  obtain ⟨q, qv, O, hso, hto, hdo, hoko, hofo, hsumo, rfl, hnmo⟩ := ho
  have htot := hof.tot
  have htoto := hofo.tot
  obtain ⟨k1, k2⟩ := LmD.join_ok hok hoko (by omega)
  refine sk_join_lumps w s p o q c c hs hso rfl _ (fun u hu => ?_)
  refine (lump_join u p rv D (ht.chg hu (by simp)) hok q qv O (hto.chg hu (by simp)) hoko (by omega) (by omega)).mono ?_
  rintro e w' ⟨rfl, rv', ht', hm'⟩
  have hm2 : Mv (fpL p rv) w (fpL p rv') w' := (Mv.of_chg (hu.mono (by simp))).trans hm'
  exact ⟨0, rfl, _, rfl, mv_sk hm2, lm_next hs hnm hm2 ht' hd k1 ((hof.join hofo).press (by have := hok.m1; omega)) (by rw [sumS_app]; omega)⟩
end Go.Proofs.YtlcoibhbdgdfcaaGreatDoor
