/-
  suite's sketch that is a tower: New, Put, Join, Rank, whatever comes. Conditions: the form's own reach.
  Slices of numbers that a drawn region builds. Conditions: none.
-/
import Derived.Test.YtlcoibhbdgdfcaaGreatDoorCoreCoinsB27
import Derived.Test.YtlcoibhbdgdfcaaGreatDoorCoreCoinsB28
import Derived.Test.YtlcoibhbdgdfcaaGreatDoorCoreCoinsB3
namespace Go.Proofs.YtlcoibhbdgdfcaaGreatDoor
open Go.RowKit

/-- A config of towers. -/
structure RqC (c : Cf) (W word : Nat) : Prop where
  eq : c = { Cf.none 5 with width := (W : Int), word := word }
  w1 : 4 ≤ W
  w2 : W ≤ 64
  w4 : W % 4 = 0
  wd : word < 18446744073709551616
/-- A sketch that is a tower behind the values m. -/
def RqP (c : Cf) (W word : Nat) (w : World) (s : Nat) (F : List Nat) (B : Nat) (m : List Vl) : Prop :=
  ∃ p tp rv vs D, Sk w s c 167 p ∧ Tow w p tp rv vs D ∧ D.rq W word B m ∧ sumS m ≤ W * 1024 ∧ F = s :: fp p tp rv vs ∧ s ∉ fp p tp rv vs ∧ D.allQ InR
namespace RqP
variable {c : Cf} {W word s B : Nat} {w w1 : World} {F : List Nat} {m : List Vl}
theorem lt (h : RqP c W word w s F B m) : ∀ b ∈ F, b < w.heap.size := by
  obtain ⟨p, tp, rv, vs, D, h1, h2, h3, h4, rfl, h5⟩ := h
  intro b hb
  rcases List.mem_cons.1 hb with rfl | hb
  · exact Blk.lt h1
  · exact h2.lt b hb
theorem chg {G : List Nat} (h : RqP c W word w s F B m) (k : Chg G w w1) (hF : ∀ b ∈ F, b ∉ G) : RqP c W word w1 s F B m := by
  obtain ⟨p, tp, rv, vs, D, h1, h2, h3, h4, rfl, h5⟩ := h
  exact ⟨p, tp, rv, vs, D, h1.chg k (hF s (by simp)), h2.chg k (fun b hb => hF b (by simp [hb])), h3, h4, rfl, h5⟩
theorem mono {B' : Nat} (h : RqP c W word w s F B m) (hB : B ≤ B') : RqP c W word w s F B' m := by
  obtain ⟨p, tp, rv, vs, D, h1, h2, h3, h4, rfl, h5⟩ := h
  exact ⟨p, tp, rv, vs, D, h1, h2, h3.mono hB, h4, rfl, h5⟩
end RqP
theorem Cf.same_eq {a b : Cf} (h : a.same b = true) : a = b := by
  cases a
  cases b
  simp only [Cf.same, Bool.and_eq_true, beq_iff_eq] at h
  simp only [Cf.mk.injEq]
  simp_all
def FreshR (c : Cf) (B : Nat) (w' : World) (T : Nat) (d : Value) (k : Int) : Prop :=
  T = 167 ∧ ((k = 1 ∧ goodW c.width = false) ∨ (k = 0 ∧ goodW c.width = true ∧ ∃ p tp rv, d = .agg #[.pointer (some ⟨p, 0, none⟩)] ∧ Tow w' p tp rv [.slice none 0 0] (TwD.new c.width.toNat c.word) ∧ ∀ b ∈ fp p tp rv [.slice none 0 0], B ≤ b))
set_option maxRecDepth 100000 in
set_option maxHeartbeats 2000000 in
theorem fresh_req (w : World) (c : Cf) (hk : c.kind = 5) : Calls Tryz.prog 46 #[c.val] w fun e w' => ∃ T d k, e = .returned (.tuple #[.iface T d, .int .i64 k]) ∧ FreshR c w.heap.size w' T d k ∧ Chg [] w w' := by
  obtain ⟨k, num, den, side, most, digits, limit, depth, factor, width, word⟩ := c
  simp only at hk
  subst hk
  have HC0 := Lib.hid ((Chg.refl [] w).alloc (.cells #[.int .i64 5, .int .u64 num, .int .u64 den, .int .i64 side, .int .i64 most, .int .i64 digits, .int .u64 limit, .int .i64 depth, .int .i64 factor, .int .i64 width, .int .u64 word] 30))
  have HN := Lib.hid (fun u => req_newF u width word)
  simp only [FreshR, Cf.val, Cf.cells]
  go_enter Tryz.func46, Tryz.ntmps46
  go_wp2_with fail
  refine (HN.out _).mono ?_
  rintro e w1 (⟨hg, rfl, hc1⟩ | ⟨hg, p, tp, rv, rfl, ht, hc1, hf⟩)
  · have HC1 := Lib.hid (HC0.out.trans hc1)
    have HG := Lib.hid hg
    clear hc1 hg HN HC0
    go_wp2
    go_ret2
    exact ⟨_, _, 1, rfl, ⟨rfl, .inl ⟨rfl, HG.out⟩⟩, HC1.out⟩
  · have HC1 := Lib.hid (HC0.out.trans hc1)
    have HG := Lib.hid hg
    have HT := Lib.hid ht
    have HF := Lib.hid (show ∀ b ∈ fp p tp rv [.slice none 0 0], w.heap.size ≤ b from fun b hb => by have := hf b hb; simp only [World.size_alloc] at this; omega)
    clear hc1 hg HN HC0 hf ht
    go_wp2
    go_ret2
    exact ⟨_, _, 0, rfl, ⟨rfl, .inr ⟨rfl, HG.out, p, tp, rv, rfl, HT.out, HF.out⟩⟩, HC1.out⟩
set_option maxRecDepth 100000 in
theorem rq_new (w : World) (c : Cf) (hk : c.kind = 5) (hwd : c.word < 18446744073709551616) : Calls Tryz.prog 26 #[c.val] w fun e w' =>
    (∃ k : Int, k ≠ 0 ∧ e = .returned (.tuple #[.pointer none, .int .i64 k]) ∧ Chg [] w w') ∨
    (∃ W s F, RqC c W c.word ∧ e = .returned (.tuple #[.pointer (some ⟨s, 0, none⟩), .int .i64 0]) ∧ RqP c W c.word w' s F 0 [] ∧ Chg [] w w' ∧ ∀ b ∈ F, w.heap.size ≤ b) := by
  refine (suite_newK w c _ (fun u => bare_req u c hk) (FreshR c w.heap.size) (fun u hu => (fresh_req u c hk).mono ?_)).mono ?_
  · rintro e w' ⟨T, d, k, rfl, ⟨rfl, h⟩, hc⟩
    refine ⟨_, d, k, rfl, ⟨rfl, ?_⟩, hc⟩
    rcases h with h | ⟨h1, h2, p, tp, rv, h3, h4, h5⟩
    · exact .inl h
    · exact .inr ⟨h1, h2, p, tp, rv, h3, h4, fun b hb => Nat.le_trans hu.size (h5 b hb)⟩
  · rintro e w' (⟨h1, rfl, hc⟩ | ⟨hs, T, d, k, w1, ⟨rfl, h⟩, hc, ⟨hk, rfl, rfl⟩ | ⟨rfl, rfl, rfl⟩⟩)
    · exact .inl ⟨1, by decide, rfl, hc⟩
    · exact .inl ⟨k, hk, rfl, hc⟩
    · rcases h with ⟨h1, -⟩ | ⟨-, hg, p, tp, rv, rfl, ht, hf⟩
      · exact absurd h1 (by decide)
      · have hw : 4 ≤ c.width ∧ c.width ≤ 64 ∧ c.width % 4 = 0 := by simpa [goodW] using hg
        have hce : c = { Cf.none 5 with width := c.width, word := c.word } := Cf.same_eq hs
        have hk1 : Chg [] w1 (w1.alloc (.cells (c.cells ++ #[.iface 167 (.agg #[.pointer (some ⟨p, 0, none⟩)])]) 96)) := (Chg.refl _ _).alloc _
        refine .inr ⟨c.width.toNat, w1.heap.size, _, ⟨?_, by omega, by omega, by omega, hwd⟩, rfl, ⟨p, tp, rv, _, _, Blk.alloc_new _ _ _, ht.chg hk1 (by simp), TwD.new_rq (by omega), by simp [sumS], rfl, fun e => absurd (ht.lt _ e) (by omega), TwD.allQ.new (by constructor <;> omega)⟩, hc.trans hk1, fun b hb => ?_⟩
        · rw [Int.toNat_of_nonneg (by omega)]; exact hce
        · rcases List.mem_cons.1 hb with rfl | hb
          · exact hc.size
          · exact hf b hb
set_option maxRecDepth 100000 in
set_option maxHeartbeats 4000000 in
theorem req_put_fullK (w : World) (p tp : Nat) (rv : Value) (vs : List Value) (D : TwD) (ht : Tow w p tp rv vs D) (hW2 : D.W ≤ 64) (x : Int) (n : Nat) (h1 : 1 ≤ n) (h2 : n ≤ 1024) (hle : D.total ≤ D.W * 1024) (hroom : D.W * 1024 < D.total + n) :
    Calls Tryz.prog 337 #[.pointer (some ⟨p, 0, none⟩), .int .i64 x, .int .u64 (n : Nat)] w fun e w' => e = .returned (.int .i64 6) ∧ Chg [] w w' := by
  have HMO := Lib.hid (fun W hc => req_most W p tp rv vs D (ht.chg (F := []) hc (by simp)) hW2)
  obtain ⟨c0, c1, c2, c3, c4, c5, c6⟩ := ht.cells
  have d1 : ((n : Int) == 0) = false := by rw [beq_eq_false_iff_ne]; omega
  have d2 : decide ((1024 : Int) < (n : Int)) = false := decide_eq_false (by omega)
  go_enter Tryz.func337, Tryz.ntmps337
  go_wp2_with fail
  have e4 : IntKind.u64.wrap (((D.W * 1024 : Nat) : Int) - (D.total : Int)) = ((D.W * 1024 - D.total : Nat) : Int) := by rw [IntKind.wrap_u64]; omega
  have e5 : decide (D.W * 1024 - D.total < n) = true := decide_eq_true (by omega)
  have e3 : decide (IntKind.u64.wrap (((D.W * 1024 : Nat) : Int) - (D.total : Int)) < (n : Int)) = true := decide_eq_true (by rw [e4]; omega)
  generalize D.W * 1024 = Wm at *
  generalize D.total = T at *
  go_quiet (first | (go_at_call 112; exact (HMO.out _ (by with_reducible (repeat (first | exact Chg.refl _ _ | apply Chg.drew | apply Chg.drewN)))).mono fun e w' ⟨he, hw⟩ => ⟨he, _, hw.symm⟩))
  go_wp2
  go_ret
  exact ⟨rfl, (Chg.refl [] w).drewN nq⟩
set_option maxRecDepth 100000 in
set_option maxHeartbeats 4000000 in
theorem req_join_full (w : World) (p tp : Nat) (rv : Value) (vs : List Value) (D : TwD) (ht : Tow w p tp rv vs D) (q tq : Nat) (qv : Value) (us : List Value) (O : TwD) (ho : Tow w q tq qv us O)
    (hWW : D.W = O.W) (hW2 : D.W ≤ 64) (hpos : 1 ≤ O.total) (hle : D.total ≤ D.W * 1024) (hroom : D.W * 1024 < D.total + O.total) (hO : O.total ≤ 100000) :
    Calls Tryz.prog 369 #[.pointer (some ⟨p, 0, none⟩), .pointer (some ⟨q, 0, none⟩)] w fun e w' => e = .returned (.int .i64 6) ∧ Chg [] w w' := by
  have HMO := Lib.hid (fun W hc => req_most W p tp rv vs D (ht.chg (F := []) hc (by simp)) hW2)
  obtain ⟨c0, c1, c2, c3, c4, c5, c6⟩ := ht.cells
  obtain ⟨k0, k1, k2, k3, k4, k5, k6⟩ := ho.cells
  rw [← hWW] at k0
  have e1 : ((O.total : Int) == 0) = false := by rw [beq_eq_false_iff_ne]; omega
  have e2 : ((D.W : Int) != (D.W : Int)) = false := by simp
  clear ho hWW
  have e4 : IntKind.u64.wrap (((D.W * 1024 : Nat) : Int) - (D.total : Int)) = ((D.W * 1024 - D.total : Nat) : Int) := by rw [IntKind.wrap_u64]; omega
  have e5 : decide (D.W * 1024 - D.total < O.total) = true := decide_eq_true (by omega)
  have e3 : decide (IntKind.u64.wrap (((D.W * 1024 : Nat) : Int) - (D.total : Int)) < (O.total : Int)) = true := decide_eq_true (by rw [e4]; omega)
  generalize D.W * 1024 = Wm at *
  go_enter Tryz.func369, Tryz.ntmps369
  go_wp2_with fail
  go_quiet (fail)
  go_wp2_with fail
  go_quiet (first | (go_at_call 112; exact (HMO.out _ (by with_reducible (repeat (first | exact Chg.refl _ _ | apply Chg.drew | apply Chg.drewN)))).mono fun e w' ⟨he, hw⟩ => ⟨he, _, hw.symm⟩))
  go_wp2
  go_ret
  exact ⟨rfl, by with_reducible (repeat (first | exact Chg.refl _ _ | apply Chg.drew | apply Chg.drewN))⟩
/-- What a tower's Put or Join may move, within a sketch. -/
theorem mv_sk {s : Nat} {F F' : List Nat} {w w' : World} (h : Mv F w F' w') : Mv (s :: F) w (s :: F') w' :=
  ⟨h.chg.mono (fun b hb => .inl (by simp [hb])), fun b hb => by
    rcases List.mem_cons.1 hb with rfl | hb
    · exact .inl (by simp)
    · rcases h.fr b hb with h1 | h1
      · exact .inl (by simp [h1])
      · exact .inr h1⟩
theorem rq_next {c : Cf} {W word : Nat} {w w' : World} {s p tp p' tp' : Nat} {rv rv' : Value} {vs vs' : List Value} {D : TwD} {B : Nat} {m : List Vl} (hs : Sk w s c 167 p) (hn : s ∉ fp p tp rv vs)
    (hm : Mv (fp p tp rv vs) w (fp p' tp' rv' vs') w') (hp : p' = p) (ht : Tow w' p' tp' rv' vs' D) (hd : D.rq W word B m) (hr : sumS m ≤ W * 1024) (hq : D.allQ InR) : RqP c W word w' s (s :: fp p' tp' rv' vs') B m := by
  subst hp
  exact ⟨p', tp', rv', vs', D, hs.chg hm.chg hn, ht, hd, hr, rfl, fun e => (hm.apart (G := [s]) (by simpa using hn) (by simpa using Blk.lt hs)) s (by simp) e, hq⟩
def PutQ (c : Cf) (W word : Nat) (w : World) (s : Nat) (F : List Nat) (B : Nat) (m : List Vl) (v : Vl) (e : Ending) (w' : World) : Prop :=
  ∃ (k : Int) (F' : List Nat), e = .returned (.int .i64 k) ∧ Mv F w F' w' ∧ ((k = 0 ∧ RqP c W word w' s F' (B + 20) (m ++ [v])) ∨ (k ≠ 0 ∧ RqP c W word w' s F' (B + 20) m))
theorem rq_put (c : Cf) (W word : Nat) (hc : RqC c W word) (w : World) (s : Nat) (F : List Nat) (B : Nat) (m : List Vl) (h : RqP c W word w s F B m) (hB : B ≤ 7900) (x : Int) (hxr : InR x) (n : Nat) (hn : n ≤ 20) :
    Calls Tryz.prog 24 #[.pointer (some ⟨s, 0, none⟩), .int .i64 x, .int .u64 (n : Nat)] w fun e w' => PutQ c W word w s F B m ⟨x, n⟩ e w' := by
  obtain ⟨p, tp, rv, vs, D, hs, ht, hd, hrm, rfl, hnm, hq⟩ := h
  have hx : x ≤ 9223372036854775807 := by have := hxr.2; omega
  have hW := hd.fine.W_eq
  have htot := hd.fine.tot
  have hfew := hd.few
  have h1 := hc.w1
  have h2 := hc.w2
  have hfull : ∀ (k : Int) (u : World), k ≠ 0 → Chg [] w u → PutQ c W word w s (s :: fp p tp rv vs) B m ⟨x, n⟩ (.returned (.int .i64 k)) u := fun k u hk hu =>
    ⟨k, _, rfl, Mv.of_chg (hu.mono (by simp)), .inr ⟨hk, p, tp, rv, vs, D, hs.nil hu, ht.chg hu (by simp), hd.mono (by omega), hrm, rfl, hnm, hq⟩⟩
  refine sk_put_req w s p c hs x n _ ?_
  by_cases h0 : n = 0
  · subst h0
    refine (req_put_zero w p x).mono ?_
    rintro e w' ⟨rfl, rfl⟩
    exact ⟨1, rfl, hfull 1 w (by decide) (Chg.refl _ _)⟩
  · by_cases hroom : D.total + n ≤ D.W * 1024
    · have hw := fun k => TwD.putN_way hc.w1 hc.w4 (hd.way x) hx k
      refine (req_putK w p tp rv vs D ht (by omega) (by omega) (by rw [hd.fine.word_eq]; exact hc.wd) x n (by omega) (by omega) hroom (fun k hk => ?_)).mono ?_
      · have a1 := (hw k).fine
        have a2 := (hw k).used
        have a3 := a1.few12 (by omega)
        exact ⟨a1.ne, by omega, by omega⟩
      · rintro e w' ⟨rfl, rv', vs', ht', hm'⟩
        have := hd.put hc.w1 hc.w4 hx n
        exact ⟨0, rfl, 0, _, rfl, mv_sk hm', .inl ⟨rfl, rq_next hs hnm hm' rfl ht' (this.mono (by omega)) (by rw [sumS_app]; simp only [sumS]; rw [htot, hW] at hroom; omega) ((hq.ends hxr hxr).putN (by rw [(D.ends_same x x).1, hW]; exact h1) hxr n)⟩⟩
    · refine (req_put_fullK w p tp rv vs D ht (by omega) x n (by omega) (by omega) (by rw [htot, hW]; exact hrm) (by omega)).mono ?_
      rintro e w' ⟨rfl, hu⟩
      exact ⟨6, rfl, hfull 6 w' (by decide) hu⟩
def JoinQ (c : Cf) (W word : Nat) (w : World) (s : Nat) (F : List Nat) (B : Nat) (m : List Vl) (e : Ending) (w' : World) : Prop :=
  ∃ (k : Int) (F' : List Nat), e = .returned (.int .i64 k) ∧ Mv F w F' w' ∧ (k = 0 → RqP c W word w' s F' B m)
theorem rq_join (c : Cf) (W word : Nat) (hc : RqC c W word) (w : World) (s : Nat) (F : List Nat) (B : Nat) (a : List Vl) (h : RqP c W word w s F B a) (o : Nat) (G : List Nat) (B2 : Nat) (b : List Vl) (ho : RqP c W word w o G B2 b) (hdis : ∀ x ∈ F, x ∉ G) (hB : B + B2 ≤ 8000) :
    Calls Tryz.prog 38 #[.pointer (some ⟨s, 0, none⟩), .pointer (some ⟨o, 0, none⟩)] w fun e w' => JoinQ c W word w s F (B + B2) (a ++ b) e w' := by
  obtain ⟨p, tp, rv, vs, D, hs, ht, hd, hrm, rfl, hnm, hq⟩ := h
  obtain ⟨q, tq, qv, us, O, hso, hto, hdo, hrmo, rfl, hnmo, hqo⟩ := ho
  have hW := hd.fine.W_eq
  have hWo := hdo.fine.W_eq
  have htot := hd.fine.tot
  have htoto := hdo.fine.tot
  have hfew := hd.few
  have hfewo := hdo.few
  have hus := hd.used
  have huso := hdo.used
  have h1 := hc.w1
  have h2 := hc.w2
  have r1 := hd.fine.few12 (by omega)
  have r2 := hdo.fine.few12 (by omega)
  refine sk_join_req w s p o q c c hs hso rfl _ (fun u hu => ?_)
  have ht' := ht.chg hu (by simp)
  have hto' := hto.chg hu (by simp)
  have hJ := hd.join hc.w1 hc.w4 hdo
  have hJQ := hq.joinZ (by omega) hqo
  by_cases hz : O.total = 0
  · refine (req_join0 u p tp rv vs D ht' q tq qv us O hto' (by omega) hz).mono ?_
    rintro e w' ⟨rfl, hk⟩
    rw [TwD.joinZ, if_pos hz] at hJ hJQ
    exact ⟨0, rfl, 0, _, rfl, Mv.of_chg ((hu.trans hk).mono (by simp)), fun _ => ⟨p, tp, rv, vs, D, hs.nil (hu.trans hk), ht.chg (hu.trans hk) (by simp), hJ, by rw [sumS_app]; omega, rfl, hnm, hJQ⟩⟩
  · by_cases hroom : D.total + O.total ≤ D.W * 1024
    · rw [TwD.joinZ, if_neg hz] at hJ hJQ
      refine (req_join u p tp rv vs D ht' q tq qv us O hto' (fun b hb hb2 => hdis b (by simp [hb]) (by simp [hb2])) (by omega) (by omega) (by omega) (by rw [hd.fine.word_eq]; exact hc.wd) (by omega) hroom (by omega) (by omega) (by omega) (by omega)).mono ?_
      rintro e w' ⟨rfl, rv', vs', ht2, hm⟩
      have hm' : Mv (fp p tp rv vs) w (fp p tp rv' vs') w' := (Mv.of_chg (hu.mono (by simp))).trans hm
      exact ⟨0, rfl, 0, _, rfl, mv_sk hm', fun _ => rq_next hs hnm hm' rfl ht2 hJ (by rw [sumS_app]; rw [htot, htoto, hW] at hroom; exact hroom) hJQ⟩
    · refine (req_join_full u p tp rv vs D ht' q tq qv us O hto' (by omega) (by omega) (by omega) (by rw [htot, hW]; exact hrm) (by omega) (by omega)).mono ?_
      rintro e w' ⟨rfl, hk⟩
      exact ⟨6, rfl, 6, _, rfl, Mv.of_chg ((hu.trans hk).mono (by simp)), fun h => absurd h (by decide)⟩
theorem rq_rank (c : Cf) (W word : Nat) (hc : RqC c W word) (w : World) (s : Nat) (F : List Nat) (B : Nat) (m : List Vl) (h : RqP c W word w s F B m) (hB : B ≤ 8000) (x : Int) :
    ∃ D : TwD, D.rq W word B m ∧ Calls Tryz.prog 15 #[.pointer (some ⟨s, 0, none⟩), .int .i64 x] w fun e w' => e = .returned (.tuple #[.int .u64 (rankR x D.rows : Nat), .int .u64 (rankR x D.rows : Nat)]) ∧ Chg [] w w' := by
  obtain ⟨p, tp, rv, vs, D, hs, ht, hd, hrm, rfl, hnm, hq⟩ := h
  have hfew := hd.few
  have hfl := hd.fine.flat
  have h1 := hc.w1
  refine ⟨D, hd, sk_rank_req w s p c hs x _ (fun u hu => (req_rank u p tp rv vs D (ht.chg hu (by simp)) (by omega) (by have := hd.fine.few12 (by omega); omega) x (by rw [hd.fine.sum]; omega) _ rfl).mono ?_)⟩
  rintro e w' ⟨rfl, rfl⟩
  exact ⟨rfl, Chg.refl _ _⟩
end Go.Proofs.YtlcoibhbdgdfcaaGreatDoor

namespace Go.Proofs.YtlcoibhbdgdfcaaGreatDoor
open Go.RowKit

set_option maxRecDepth 100000 in
theorem step_bU3 {ops : Array Oper} {w : World} {o : Oper} {a : Act} {K : Act → World → Prop} {Q : Exit → Act → World → Prop} {E : Prop} (hg : o.guard = none) (t0 t1 t2 : Tmp)
    (ho : o.op = .buildSlice 124 3 #[(0, .tmp t0), (1, .tmp t1), (2, .tmp t2)]) (x0 x1 x2 : Nat) (h0 : a.eval (.tmp t0) = .int .u64 (x0 : Nat)) (h1 : a.eval (.tmp t1) = .int .u64 (x1 : Nat)) (h2 : a.eval (.tmp t2) = .int .u64 (x2 : Nat))
    (h : ∀ g w', Rd w' 1 (.slice (some ⟨g, 0, none⟩) 3 3) 3 (u64s [x0, x1, x2]) → Chg [] w w' → w.heap.size ≤ g → K (a.put o.dst (.slice (some ⟨g, 0, none⟩) 3 3)) w') :
    if Region.wanted o (yielded ops a.tmps) = true then Oper.wp Tryz.prog o a w K Q else E := by
  obtain ⟨dst, op, ty, pos, af, gd⟩ := o
  simp only at hg ho h
  subst hg ho
  have H := h w.heap.size (w.alloc (.cells #[.int .u64 (x0 : Nat), .int .u64 (x1 : Nat), .int .u64 (x2 : Nat)] 25)) (Rd.lit w #[.int .u64 (x0 : Nat), .int .u64 (x1 : Nat), .int .u64 (x2 : Nat)] 25 1 3 3 rfl) ((Chg.refl [] w).alloc _) (Nat.le_refl _)
  clear h
  have h0' : a.tmps[t0]?.getD undef = .int .u64 (x0 : Nat) := by simpa [Act.eval] using h0
  have h1' : a.tmps[t1]?.getD undef = .int .u64 (x1 : Nat) := by simpa [Act.eval] using h1
  have h2' : a.tmps[t2]?.getD undef = .int .u64 (x2 : Nat) := by simpa [Act.eval] using h2
  clear h0 h1 h2
  go_simp
  exact H
end Go.Proofs.YtlcoibhbdgdfcaaGreatDoor
