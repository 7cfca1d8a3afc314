/-
  The walks of the reference's Add, Less, Bit, Sub, Double, Times, Over (layer 1). Conditions: none.
-/
import Derived.Test.YtgnbabkafobeoaaWide0
namespace Go.Proofs.Ytgnbabkafobeoaa
open Go.RowKit

set_option maxRecDepth 100000 in
set_option maxHeartbeats 1000000 in
theorem ref01_add (w : World) (ah al bh bl hi lo : Nat) (h2 : al < 18446744073709551616) (h4 : bl < 18446744073709551616)
    (hlo : (al + bl) % 18446744073709551616 = lo) (hhi : (ah + bh + (al + bl) / 18446744073709551616) % 18446744073709551616 = hi) :
    Calls Try.prog 75 #[.agg #[.int .u64 ah, .int .u64 al], .agg #[.int .u64 bh, .int .u64 bl]] w fun e w' => ∃ ov : Value, e = .returned (.tuple #[.agg #[.int .u64 hi, .int .u64 lo], ov]) ∧ Chg [] w w' := by
  obtain ⟨m, hm⟩ : ∃ m, m = (ah + bh) % 18446744073709551616 := ⟨_, rfl⟩
  have e1 : IntKind.u64.wrap ((al : Int) + (bl : Int)) = (lo : Int) := by rw [IntKind.wrap_u64]; omega
  have e2 : IntKind.u64.wrap ((ah : Int) + (bh : Int)) = (m : Int) := by rw [IntKind.wrap_u64]; omega
  have e3 : IntKind.u64.wrap ((m : Int) + 1) = (((m + 1) % 18446744073709551616 : Nat) : Int) := by rw [IntKind.wrap_u64]; omega
  have HC := Lib.hid ((((Chg.refl [] w).alloc (.cells #[.int .u64 ah, .int .u64 al] 106)).alloc (.cells #[.int .u64 bh, .int .u64 bl] 106)).alloc (.cells #[.int .u64 hi, .int .u64 lo] 106))
  have HB := Lib.hid (Blk.alloc_new ((w.alloc (.cells #[.int .u64 ah, .int .u64 al] 106)).alloc (.cells #[.int .u64 bh, .int .u64 bl] 106)) #[.int .u64 hi, .int .u64 lo] 106)
  by_cases hcar : lo < al
  · have hd : decide (lo < al) = true := decide_eq_true hcar
    have HH := Lib.hid (show (m + 1) % 18446744073709551616 = hi by omega)
    generalize (m + 1) % 18446744073709551616 = h' at *
    obtain rfl := HH.out
    clear hlo hhi hm hcar
    by_cases hq : m < ah
    · have hdq : decide (m < ah) = true := decide_eq_true hq
      clear hq
      go_enter Try.func75, Try.ntmps75
      go_wp2
      have z0 := HB.out.cell 0
      have z1 := HB.out.cell 1
      simp only [World.size_alloc] at z0 z1
      exact bodyPost_ret (v := .tuple #[.agg #[.int .u64 h', .int .u64 lo], .bool true]) (by simp [results, Try.results75, go_sem, z0, z1]) rfl (by first | exact ⟨_, rfl, HC.out⟩ | exact ⟨⟨_, rfl⟩, HC.out⟩)
    · have hdq : decide (m < ah) = false := decide_eq_false hq
      clear hq
      go_enter Try.func75, Try.ntmps75
      go_wp2
      have z0 := HB.out.cell 0
      have z1 := HB.out.cell 1
      simp only [World.size_alloc] at z0 z1
      exact bodyPost_ret (v := .tuple #[.agg #[.int .u64 h', .int .u64 lo], .bool ((h' : Int) == 0)]) (by simp [results, Try.results75, go_sem, z0, z1]) rfl (by first | exact ⟨_, rfl, HC.out⟩ | exact ⟨⟨_, rfl⟩, HC.out⟩)
  · have hd : decide (lo < al) = false := decide_eq_false hcar
    have HH := Lib.hid (show m = hi by omega)
    obtain rfl := HH.out
    clear hlo hhi hm hcar
    go_enter Try.func75, Try.ntmps75
    go_wp2
    have z0 := HB.out.cell 0
    have z1 := HB.out.cell 1
    simp only [World.size_alloc] at z0 z1
    exact bodyPost_ret (v := .tuple #[.agg #[.int .u64 m, .int .u64 lo], .bool (decide (m < ah))]) (by simp [results, Try.results75, go_sem, z0, z1]) rfl (by first | exact ⟨_, rfl, HC.out⟩ | exact ⟨⟨_, rfl⟩, HC.out⟩)

set_option maxRecDepth 100000 in
set_option maxHeartbeats 1000000 in
theorem ref01_less (w : World) (ah al bh bl : Nat) (q : Bool) (hq : (if ah = bh then decide (al < bl) else decide (ah < bh)) = q) :
    Calls Try.prog 73 #[.agg #[.int .u64 ah, .int .u64 al], .agg #[.int .u64 bh, .int .u64 bl]] w fun e w' => e = .returned (.bool q) ∧ Chg [] w w' := by
  have HC := Lib.hid (((Chg.refl [] w).alloc (.cells #[.int .u64 ah, .int .u64 al] 106)).alloc (.cells #[.int .u64 bh, .int .u64 bl] 106))
  by_cases he : ah = bh
  · rw [if_pos he] at hq
    subst he
    have HQ := Lib.hid hq
    have hne : ((ah : Int) != (ah : Int)) = false := by simp
    clear hq
    go_enter Try.func73, Try.ntmps73
    go_wp2
    go_ret
    rw [← HQ.out]
    exact ⟨rfl, HC.out⟩
  · rw [if_neg he] at hq
    have HQ := Lib.hid hq
    have hne : ((ah : Int) != (bh : Int)) = true := by rw [bne_iff_ne]; omega
    clear hq
    go_enter Try.func73, Try.ntmps73
    go_wp2
    go_ret
    rw [← HQ.out]
    exact ⟨rfl, HC.out⟩

theorem tmod2 (a : Nat) : ((a : Int)).tmod 2 = ((a % 2 : Nat) : Int) := by rw [Int.tmod_eq_emod_of_nonneg (by omega)]; omega
set_option maxRecDepth 100000 in
set_option maxHeartbeats 1000000 in
theorem ref01_bit (w : World) (hi lo i b : Nat) (hl : lo < 18446744073709551616) (hi128 : i < 128) (hb : (hi * 18446744073709551616 + lo) / 2 ^ i % 2 = b) :
    Calls Try.prog 72 #[.agg #[.int .u64 hi, .int .u64 lo], .int .i64 i] w fun e w' => e = .returned (.int .u64 b) ∧ Chg [] w w' := by
  have HC := Lib.hid ((Chg.refl [] w).alloc (.cells #[.int .u64 hi, .int .u64 lo] 106))
  by_cases h64 : i < 64
  · have hd : decide ((i : Int) < 64) = true := decide_eq_true (by omega)
    have e1 : (18446744073709551616 : Nat) = 2 ^ (64 - i) * 2 ^ i := by rw [← Nat.pow_add, show 64 - i + i = 64 by omega]
    have HB := Lib.hid (show ((lo : Int) / 2 ^ i).tmod 2 = (b : Int) by
      rw [e1, ← Nat.mul_assoc, Nat.add_comm, Nat.add_mul_div_right _ _ (Nat.pow_pos (by omega))] at hb
      have e2 : 2 ^ (64 - i) = 2 * 2 ^ (64 - i - 1) := by rw [← Nat.pow_succ']; congr 1; omega
      rw [e2, ← Nat.mul_assoc, Nat.mul_comm hi 2, Nat.mul_assoc, Nat.add_mul_mod_self_left] at hb
      rw [← hb, ← tmod2]
      norm_cast)
    clear hb e1
    go_enter Try.func72, Try.ntmps72
    go_wp2
    go_ret
    exact ⟨ret_int HB.out, HC.out⟩
  · have hd : decide ((i : Int) < 64) = false := decide_eq_false (by omega)
    have HB := Lib.hid (show ((hi : Int) / 2 ^ (i - 64)).tmod 2 = (b : Int) by
      have e2 : 2 ^ i = 18446744073709551616 * 2 ^ (i - 64) := by
        rw [show (18446744073709551616 : Nat) = 2 ^ 64 by decide, ← Nat.pow_add]; congr 1; omega
      rw [e2, ← Nat.div_div_eq_div_mul, Nat.mul_comm, Nat.mul_add_div (by decide), Nat.div_eq_of_lt hl, Nat.add_zero] at hb
      rw [← hb, ← tmod2]
      norm_cast)
    clear hb
    go_enter Try.func72, Try.ntmps72
    go_wp2
    go_ret
    exact ⟨ret_int HB.out, HC.out⟩

set_option maxRecDepth 100000 in
set_option maxHeartbeats 1000000 in
theorem ref01_double (w : World) (ah al hi lo : Nat) (h2 : al < 18446744073709551616)
    (hlo : (al + al) % 18446744073709551616 = lo) (hhi : (ah + ah + (al + al) / 18446744073709551616) % 18446744073709551616 = hi) :
    Calls Try.prog 71 #[.agg #[.int .u64 ah, .int .u64 al]] w fun e w' => ∃ ov : Value, e = .returned (.tuple #[.agg #[.int .u64 hi, .int .u64 lo], ov]) ∧ Chg [] w w' := by
  have HC := Lib.hid (((Chg.refl [] w).alloc (.cells #[.int .u64 ah, .int .u64 al] 106)).alloc (.cells #[.int .u64 0, .int .u64 0] 106))
  have HB := Lib.hid (Blk.alloc_new (w.alloc (.cells #[.int .u64 ah, .int .u64 al] 106)) #[.int .u64 0, .int .u64 0] 106)
  have HA := Lib.hid (fun W => ref01_add W ah al ah al hi lo h2 h2 hlo hhi)
  clear hlo hhi
  go_enter Try.func71, Try.ntmps71
  go_wp2_with fail
  refine (HA.out _).mono ?_
  rintro e w1 ⟨ov, rfl, hc1⟩
  have hb1 := HB.out.chg hc1 (by simp)
  simp only [World.size_alloc] at hb1
  have hcc := HC.out.trans hc1
  have z0 := hb1.cell 0
  have z1 := hb1.cell 1
  have f0 := hb1.free 0
  have f1 := hb1.free 1
  have HB2 := Lib.hid ((hb1.setCell 0 (.int .u64 hi)).setCell 1 (.int .u64 lo))
  have HC2 := Lib.hid ((hcc.setCell (a := ⟨w.heap.size + 1, 0, none⟩) (.inr (by simp only; omega)) (.int .u64 hi)).setCell (a := ⟨w.heap.size + 1, 1, none⟩) (.inr (by simp only; omega)) (.int .u64 lo))
  clear HA HB HC hb1 hcc hc1
  go_wp2
  have y0 := HB2.out.cell 0
  have y1 := HB2.out.cell 1
  exact bodyPost_ret (v := .tuple #[.agg #[.int .u64 hi, .int .u64 lo], ov]) (by simp [results, Try.results71, go_sem, y0, y1]) rfl (by first | exact ⟨_, rfl, HC2.out⟩ | exact ⟨⟨_, rfl⟩, HC2.out⟩)

set_option maxRecDepth 100000 in
set_option maxHeartbeats 1000000 in
theorem ref01_sub (w : World) (ah al bh bl ch cl : Nat) (_h1 : ah < 18446744073709551616) (h2 : al < 18446744073709551616) (h3 : bh < 18446744073709551616) (h4 : bl < 18446744073709551616) (h5 : ch < 18446744073709551616) (h6 : cl < 18446744073709551616)
    (hs : ah * 18446744073709551616 + al = bh * 18446744073709551616 + bl + (ch * 18446744073709551616 + cl)) :
    Calls Try.prog 74 #[.agg #[.int .u64 ah, .int .u64 al], .agg #[.int .u64 bh, .int .u64 bl]] w fun e w' => ∃ ov : Value, e = .returned (.tuple #[.agg #[.int .u64 ch, .int .u64 cl], ov]) ∧ Chg [] w w' := by
  have e1 : IntKind.u64.wrap (18446744073709551615 - (bh : Int)) = ((18446744073709551615 - bh : Nat) : Int) := by rw [IntKind.wrap_u64]; omega
  have e2 : IntKind.u64.wrap (18446744073709551615 - (bl : Int)) = ((18446744073709551615 - bl : Nat) : Int) := by rw [IntKind.wrap_u64]; omega
  obtain ⟨sl, hsl⟩ : ∃ sl, sl = (al + (18446744073709551615 - bl)) % 18446744073709551616 := ⟨_, rfl⟩
  obtain ⟨sh, hsh⟩ : ∃ sh, sh = (ah + (18446744073709551615 - bh) + (al + (18446744073709551615 - bl)) / 18446744073709551616) % 18446744073709551616 := ⟨_, rfl⟩
  have HA := Lib.hid (fun W => ref01_add W ah al (18446744073709551615 - bh) (18446744073709551615 - bl) sh sl h2 (by omega) hsl.symm hsh.symm)
  have HA2 := Lib.hid (fun W => ref01_add W sh sl 0 1 ch cl (by omega) (by omega) (by omega) (by omega))
  have HL := Lib.hid (fun W => ref01_less W ah al bh bl _ rfl)
  generalize 18446744073709551615 - bh = nh at *
  generalize 18446744073709551615 - bl = nl at *
  have HC := Lib.hid (((((Chg.refl [] w).alloc (.cells #[.int .u64 ah, .int .u64 al] 106)).alloc (.cells #[.int .u64 bh, .int .u64 bl] 106)).alloc (.cells #[.int .u64 0, .int .u64 0] 106)).alloc (.cells #[.int .u64 nh, .int .u64 nl] 106))
  generalize (if ah = bh then decide (al < bl) else decide (ah < bh)) = q at *
  clear hs hsl hsh
  go_enter Try.func74, Try.ntmps74
  go_wp2_with fail
  refine (HA.out _).mono ?_
  rintro e w1 ⟨ov, rfl, hc1⟩
  have hba := (((Blk.alloc_new w #[.int .u64 ah, .int .u64 al] 106).alloc (.cells #[.int .u64 bh, .int .u64 bl] 106)).alloc (.cells #[.int .u64 0, .int .u64 0] 106)).alloc (.cells #[.int .u64 nh, .int .u64 nl] 106)
  have hbb := (((Blk.alloc_new (w.alloc (.cells #[.int .u64 ah, .int .u64 al] 106)) #[.int .u64 bh, .int .u64 bl] 106)).alloc (.cells #[.int .u64 0, .int .u64 0] 106)).alloc (.cells #[.int .u64 nh, .int .u64 nl] 106)
  have hbr := (Blk.alloc_new ((w.alloc (.cells #[.int .u64 ah, .int .u64 al] 106)).alloc (.cells #[.int .u64 bh, .int .u64 bl] 106)) #[.int .u64 0, .int .u64 0] 106).alloc (.cells #[.int .u64 nh, .int .u64 nl] 106)
  simp only [World.size_alloc] at hba hbb hbr
  have hba := hba.chg hc1 (by simp)
  have hbb := hbb.chg hc1 (by simp)
  have hbr := hbr.chg hc1 (by simp)
  have hcc := HC.out.trans hc1
  have HZ := Lib.hid (show w.heap.size + 4 ≤ w1.heap.size from by have := hc1.size; simpa using this)
  clear HA HC hc1
  go_wp2_with fail
  refine (HA2.out _).mono ?_
  rintro e w2 ⟨ov2, rfl, hc2⟩
  have hbs := Blk.alloc_new w1 #[.int .u64 sh, .int .u64 sl] 106
  have hba := (hba.alloc (.cells #[.int .u64 sh, .int .u64 sl] 106)).chg hc2 (by simp)
  have hbb := (hbb.alloc (.cells #[.int .u64 sh, .int .u64 sl] 106)).chg hc2 (by simp)
  have hbr := (hbr.alloc (.cells #[.int .u64 sh, .int .u64 sl] 106)).chg hc2 (by simp)
  have hbs := hbs.chg hc2 (by simp)
  have hcc := (hcc.alloc (.cells #[.int .u64 sh, .int .u64 sl] 106)).trans hc2
  have z0 := hbs.cell 0
  have z1 := hbs.cell 1
  have f0 := hbs.free 0
  have f1 := hbs.free 1
  have hs1 := HZ.out
  have n0 : w.heap.size ≠ w1.heap.size := by omega
  have n1 : w.heap.size + 1 ≠ w1.heap.size := by omega
  have n2 : w.heap.size + 1 + 1 ≠ w1.heap.size := by omega
  have HS := Lib.hid ((hbs.setCell 0 (.int .u64 ch)).setCell 1 (.int .u64 cl))
  have HA' := Lib.hid ((hba.setCell_other (a := ⟨w1.heap.size, 0, none⟩) n0 (.int .u64 ch)).setCell_other (a := ⟨w1.heap.size, 1, none⟩) n0 (.int .u64 cl))
  have HB' := Lib.hid ((hbb.setCell_other (a := ⟨w1.heap.size, 0, none⟩) n1 (.int .u64 ch)).setCell_other (a := ⟨w1.heap.size, 1, none⟩) n1 (.int .u64 cl))
  have HR' := Lib.hid ((hbr.setCell_other (a := ⟨w1.heap.size, 0, none⟩) n2 (.int .u64 ch)).setCell_other (a := ⟨w1.heap.size, 1, none⟩) n2 (.int .u64 cl))
  have HC2 := Lib.hid ((hcc.setCell (a := ⟨w1.heap.size, 0, none⟩) (.inr (by simp only; omega)) (.int .u64 ch)).setCell (a := ⟨w1.heap.size, 1, none⟩) (.inr (by simp only; omega)) (.int .u64 cl))
  clear hba hbb hbr hbs hcc hc2 HA2 n0 n1 n2 hs1
  go_wp2_with fail
  generalize (w2.setCell ⟨w1.heap.size, 0, none⟩ (.int .u64 ch)).setCell ⟨w1.heap.size, 1, none⟩ (.int .u64 cl) = w3 at *
  have a0 := HA'.out.cell 0
  have a1 := HA'.out.cell 1
  have b0 := HB'.out.cell 0
  have b1 := HB'.out.cell 1
  have s0 := HS.out.cell 0
  have s1 := HS.out.cell 1
  have r0 := HR'.out.cell 0
  have r1 := HR'.out.cell 1
  have g0 := HR'.out.free 0
  have g1 := HR'.out.free 1
  clear z0 z1 f0 f1
  go_cut [5] (fun x wx => x = .bool q ∧ Blk wx (w.heap.size + 1 + 1) #[.int .u64 ch, .int .u64 cl] 106 ∧ Chg [] w wx)
  case first =>
    go_region_with (first | (go_at_call 73; refine (HL.out _).mono ?_; rintro e w' ⟨rfl, hc1⟩; (have q : ∀ b cs, Blk w3 b cs 106 → Blk w' b cs 106 := fun b cs hb => by first | exact hb.chg hc1 (by simp) | exact hb.drew.chg hc1 (by simp) | exact hb.drew.drew.chg hc1 (by simp)); have s0' : w'.cell? ⟨w1.heap.size, 0, none⟩ = some (.int .u64 ch) := (q _ _ HS.out).cell 0; have s1' : w'.cell? ⟨w1.heap.size, 1, none⟩ = some (.int .u64 cl) := (q _ _ HS.out).cell 1; have r0' : w'.cell? ⟨w.heap.size + 1 + 1, 0, none⟩ = some (.int .u64 0) := (q _ _ HR'.out).cell 0; have r1' : w'.cell? ⟨w.heap.size + 1 + 1, 1, none⟩ = some (.int .u64 0) := (q _ _ HR'.out).cell 1; have g0' := (q _ _ HR'.out).free 0; have g1' := (q _ _ HR'.out).free 1; have HQ := Lib.hid (q _ _ HR'.out); clear q))
    all_goals
      go_wp2_with fail
      go_meet
      refine ⟨rfl, ?_, ?_⟩
      · first
        | exact (HQ.out.setCell 0 (.int .u64 ch)).setCell 1 (.int .u64 cl)
        | exact ((HR'.out.setCell 0 (.int .u64 ch)).setCell 1 (.int .u64 cl)).chg hc1 (by simp)
        | exact ((HR'.out.setCell 0 (.int .u64 ch)).setCell 1 (.int .u64 cl)).drew.chg hc1 (by simp)
        | trace_state
      · with_reducible (repeat (first | exact HC2.out | assumption | apply Chg.drew | (refine Chg.setCell ?_ (.inr (by simp only; omega)) _) | refine Chg.trans ?_ (by assumption)))
  case rest =>
    obtain ⟨rfl, hbz, hcz⟩ := hcut
    have y0 := hbz.cell 0
    have y1 := hbz.cell 1
    clear r0 r1 g0 g1 s0 s1 a0 a1 b0 b1
    go_wp2
    exact bodyPost_ret (v := .tuple #[.agg #[.int .u64 ch, .int .u64 cl], .bool q]) (by simp [results, Try.results74, go_sem, y0, y1]) rfl (by first | exact ⟨_, rfl, hcz⟩ | exact ⟨⟨_, rfl⟩, hcz⟩)
end Go.Proofs.Ytgnbabkafobeoaa
