/-
  The walks of the reference's Times and Over (layer 1). Conditions: none.
-/
import Derived.Test.YtgnbabkafobeoaaRefWide
namespace Go.Proofs.Ytgnbabkafobeoaa
open Go.RowKit

/-- Four pairs of words behind each other, the call's own. -/
structure St4 (w0 wx : World) (S : Nat) (a0 a1 d0 d1 r0 r1 q0 q1 : Nat) : Prop where
  own : w0.heap.size ≤ S
  a : Blk wx S #[.int .u64 a0, .int .u64 a1] 106
  d : Blk wx (S + 1) #[.int .u64 d0, .int .u64 d1] 106
  r : Blk wx (S + 1 + 1) #[.int .u64 r0, .int .u64 r1] 106
  q : Blk wx (S + 1 + 1 + 1) #[.int .u64 q0, .int .u64 q1] 106
  chg : Chg [] w0 wx
namespace St4
variable {w0 wx w1 : World} {S a0 a1 d0 d1 r0 r1 q0 q1 : Nat}
theorem call (h : St4 w0 wx S a0 a1 d0 d1 r0 r1 q0 q1) (k : Chg [] wx w1) : St4 w0 w1 S a0 a1 d0 d1 r0 r1 q0 q1 :=
  ⟨h.own, h.a.chg k (by simp), h.d.chg k (by simp), h.r.chg k (by simp), h.q.chg k (by simp), h.chg.trans k⟩
theorem drew (h : St4 w0 wx S a0 a1 d0 d1 r0 r1 q0 q1) : St4 w0 wx.drew S a0 a1 d0 d1 r0 r1 q0 q1 := ⟨h.own, h.a, h.d, h.r, h.q, h.chg.drew⟩
theorem setR1 (h : St4 w0 wx S a0 a1 d0 d1 r0 r1 q0 q1) (x : Nat) : St4 w0 (wx.setCell ⟨S + 1 + 1, 1, none⟩ (.int .u64 x)) S a0 a1 d0 d1 r0 x q0 q1 :=
  ⟨h.own, h.a.setCell_other (by simp only; omega) _, h.d.setCell_other (by simp only; omega) _, h.r.setCell 1 _, h.q.setCell_other (by simp only; omega) _,
   h.chg.setCell (.inr (by simp only; have := h.own; omega)) _⟩
theorem setR0 (h : St4 w0 wx S a0 a1 d0 d1 r0 r1 q0 q1) (x : Nat) : St4 w0 (wx.setCell ⟨S + 1 + 1, 0, none⟩ (.int .u64 x)) S a0 a1 d0 d1 x r1 q0 q1 :=
  ⟨h.own, h.a.setCell_other (by simp only; omega) _, h.d.setCell_other (by simp only; omega) _, h.r.setCell 0 _, h.q.setCell_other (by simp only; omega) _,
   h.chg.setCell (.inr (by simp only; have := h.own; omega)) _⟩
theorem setQ1 (h : St4 w0 wx S a0 a1 d0 d1 r0 r1 q0 q1) (x : Nat) : St4 w0 (wx.setCell ⟨S + 1 + 1 + 1, 1, none⟩ (.int .u64 x)) S a0 a1 d0 d1 r0 r1 q0 x :=
  ⟨h.own, h.a.setCell_other (by simp only; omega) _, h.d.setCell_other (by simp only; omega) _, h.r.setCell_other (by simp only; omega) _, h.q.setCell 1 _,
   h.chg.setCell (.inr (by simp only; have := h.own; omega)) _⟩
theorem setQ0 (h : St4 w0 wx S a0 a1 d0 d1 r0 r1 q0 q1) (x : Nat) : St4 w0 (wx.setCell ⟨S + 1 + 1 + 1, 0, none⟩ (.int .u64 x)) S a0 a1 d0 d1 r0 r1 x q1 :=
  ⟨h.own, h.a.setCell_other (by simp only; omega) _, h.d.setCell_other (by simp only; omega) _, h.r.setCell_other (by simp only; omega) _, h.q.setCell 0 _,
   h.chg.setCell (.inr (by simp only; have := h.own; omega)) _⟩
theorem cells (h : St4 w0 wx S a0 a1 d0 d1 r0 r1 q0 q1) : (wx.cell? ⟨S, 0, none⟩ = some (.int .u64 a0) ∧ wx.cell? ⟨S, 1, none⟩ = some (.int .u64 a1)) ∧
    (wx.cell? ⟨S + 1, 0, none⟩ = some (.int .u64 d0) ∧ wx.cell? ⟨S + 1, 1, none⟩ = some (.int .u64 d1)) ∧
    (wx.cell? ⟨S + 1 + 1, 0, none⟩ = some (.int .u64 r0) ∧ wx.cell? ⟨S + 1 + 1, 1, none⟩ = some (.int .u64 r1)) ∧
    (wx.cell? ⟨S + 1 + 1 + 1, 0, none⟩ = some (.int .u64 q0) ∧ wx.cell? ⟨S + 1 + 1 + 1, 1, none⟩ = some (.int .u64 q1)) ∧
    (wx.frozen? ⟨S + 1 + 1, 0, none⟩ = false ∧ wx.frozen? ⟨S + 1 + 1, 1, none⟩ = false) ∧ (wx.frozen? ⟨S + 1 + 1 + 1, 0, none⟩ = false ∧ wx.frozen? ⟨S + 1 + 1 + 1, 1, none⟩ = false) :=
  ⟨⟨h.a.cell 0, h.a.cell 1⟩, ⟨h.d.cell 0, h.d.cell 1⟩, ⟨h.r.cell 0, h.r.cell 1⟩, ⟨h.q.cell 0, h.q.cell 1⟩, ⟨h.r.free 0, h.r.free 1⟩, ⟨h.q.free 0, h.q.free 1⟩⟩
end St4

theorem over_step {P y b : Nat} (hy : 0 < y) (_hb : b < 2) :
    (2 * (P % y) + b < y → (2 * P + b) / y = 2 * (P / y) ∧ (2 * P + b) % y = 2 * (P % y) + b) ∧
    (¬ 2 * (P % y) + b < y → (2 * P + b) / y = 2 * (P / y) + 1 ∧ (2 * P + b) % y = 2 * (P % y) + b - y) := by
  have h := Nat.div_add_mod P y
  have hr := Nat.mod_lt P hy
  generalize P / y = q at *
  generalize P % y = r at *
  have e : 2 * P + b = (2 * r + b) + y * (2 * q) := by rw [Nat.mul_left_comm]; omega
  constructor
  · intro hl
    rw [e, Nat.add_mul_div_left _ _ hy, Nat.add_mul_mod_self_left, Nat.div_eq_of_lt hl, Nat.mod_eq_of_lt hl]
    exact ⟨by omega, rfl⟩
  · intro hl
    have e2 : 2 * P + b = (2 * r + b - y) + y * (2 * q + 1) := by rw [Nat.mul_add]; omega
    have hl2 : 2 * r + b - y < y := by omega
    rw [e2, Nat.add_mul_div_left _ _ hy, Nat.add_mul_mod_self_left, Nat.div_eq_of_lt hl2, Nat.mod_eq_of_lt hl2]
    exact ⟨by omega, rfl⟩

set_option maxRecDepth 100000 in
set_option maxHeartbeats 2000000 in
theorem ref01_over (w : World) (hi lo y n : Nat) (hn : hi * 18446744073709551616 + lo = n) (hh : hi < 18446744073709551616) (hl : lo < 18446744073709551616) (hy : y < 18446744073709551616) :
    Calls Try.prog 56 #[.agg #[.int .u64 hi, .int .u64 lo], .int .u64 y] w fun e w' => e = .returned (overV n y) ∧ Chg [] w w' := by
  by_cases h0 : y = 0
  · subst h0
    have HV := Lib.hid (show overV n 0 = .tuple #[.int .u64 0, .int .u64 0, .bool false] from if_neg (by omega))
    have hc := (Chg.refl [] w).alloc (.cells #[.int .u64 hi, .int .u64 lo] 106)
    clear hn
    go_enter Try.func56, Try.ntmps56
    go_wp2
    go_ret3
    rw [HV.out]
    exact ⟨rfl, hc⟩
  have hy0 : ((y : Int) == 0) = false := by rw [beq_eq_false_iff_ne]; omega
  have HBIT := Lib.hid (fun W i hi' => ref01_bit W hi lo i (n / 2 ^ i % 2) hl hi' (by rw [hn]))
  have HS0 := Lib.hid (show St4 w ((((w.alloc (.cells #[.int .u64 hi, .int .u64 lo] 106)).alloc (.cells #[.int .u64 0, .int .u64 y] 106)).alloc (.cells #[.int .u64 0, .int .u64 0] 106)).alloc (.cells #[.int .u64 0, .int .u64 0] 106)) w.heap.size hi lo 0 y 0 0 0 0 from
    ⟨Nat.le_refl _, (((Blk.alloc_new w _ _).alloc _).alloc _).alloc _,
     by have := ((Blk.alloc_new (w.alloc (.cells #[.int .u64 hi, .int .u64 lo] 106)) #[.int .u64 0, .int .u64 y] 106).alloc (.cells #[.int .u64 0, .int .u64 0] 106)).alloc (.cells #[.int .u64 0, .int .u64 0] 106); simpa using this,
     by have := (Blk.alloc_new ((w.alloc (.cells #[.int .u64 hi, .int .u64 lo] 106)).alloc (.cells #[.int .u64 0, .int .u64 y] 106)) #[.int .u64 0, .int .u64 0] 106).alloc (.cells #[.int .u64 0, .int .u64 0] 106); simpa using this,
     by have := Blk.alloc_new (((w.alloc (.cells #[.int .u64 hi, .int .u64 lo] 106)).alloc (.cells #[.int .u64 0, .int .u64 y] 106)).alloc (.cells #[.int .u64 0, .int .u64 0] 106)) #[.int .u64 0, .int .u64 0] 106; simpa using this,
     ((((Chg.refl [] w).alloc _).alloc _).alloc _).alloc _⟩)
  have HN := Lib.hid (show n < 2 ^ 128 from by rw [show (2 : Nat) ^ 128 = 18446744073709551616 * 18446744073709551616 by decide]; have := Nat.mul_le_mul_right 18446744073709551616 (show hi + 1 ≤ 18446744073709551616 from hh); rw [Nat.add_mul] at this; omega)
  clear hn
  go_enter Try.func56, Try.ntmps56
  go_wp2
  go_loopw [10] (fun i wx => ∃ (j : Int) (k r q0 q1 : Nat), k ≤ 128 ∧ j = (k : Int) - 1 ∧ i = .int .i64 j ∧ r < y ∧ q0 < 18446744073709551616 ∧ q1 < 18446744073709551616 ∧ Hid (n / 2 ^ k % y = r ∧ n / 2 ^ k / y = q0 * 18446744073709551616 + q1) ∧ St4 w wx w.heap.size hi lo 0 y 0 r q0 q1) (fun i _ => ((intOf i) + 1).toNat)
  case atStart =>
    exact ⟨127, 128, 0, 0, 0, Nat.le_refl _, by omega, rfl, by omega, by omega, by omega, Lib.hid (by rw [Nat.div_eq_of_lt HN.out]; simp), HS0.out⟩
  case round =>
    obtain ⟨j, k, r, q0, q1, hk, hj, rfl, hr, hq0, hq1, HQ, HS⟩ := hrel
    obtain ⟨⟨ca0, ca1⟩, ⟨cd0, cd1⟩, ⟨cr0, cr1⟩, ⟨cq0, cq1⟩, _, _⟩ := HS.cells
    have HCH := Lib.hid HS.chg
    cases k with
    | zero =>
      have hjd : decide (0 ≤ j) = false := decide_eq_false (by omega)
      clear hj
      have hq := HQ.out
      simp only [Nat.pow_zero, Nat.div_one] at hq
      by_cases h0q : 0 < q0
      · have hd : decide (0 < q0) = true := decide_eq_true h0q
        have HV := Lib.hid (show overV n y = .tuple #[.int .u64 0, .int .u64 0, .bool false] from if_neg (by
          intro h
          have := (Nat.div_lt_iff_lt_mul (show 0 < y by omega)).2 (by rw [Nat.mul_comm]; exact h)
          omega))
        clear hq h0q
        go_wp2
        go_ret3
        rw [HV.out]
        exact ⟨rfl, HCH.out⟩
      · have hd : decide (0 < q0) = false := decide_eq_false h0q
        obtain rfl : q0 = 0 := by omega
        have HV := Lib.hid (show overV n y = .tuple #[.int .u64 q1, .int .u64 r, .bool true] from by
          rw [overV, if_pos (by
            have := (Nat.div_lt_iff_lt_mul (show 0 < y by omega)).1 (show n / y < 18446744073709551616 by omega)
            rw [Nat.mul_comm]; exact this), hq.1, hq.2, Nat.zero_mul, Nat.zero_add])
        clear hq h0q
        go_wp2
        go_quiet (fail)
        go_wp2
        go_ret3
        rw [HV.out]
        exact ⟨rfl, HCH.out.drewN nq⟩
    | succ k =>
      obtain rfl : j = (k : Int) := by omega
      clear hj
      obtain ⟨b, hb⟩ : ∃ b, b = n / 2 ^ k % 2 := ⟨_, rfl⟩
      have hstep := over_step (P := n / 2 ^ (k + 1)) (y := y) (b := b) (by omega) (by omega)
      have hP : 2 * (n / 2 ^ (k + 1)) + b = n / 2 ^ k := by
        rw [Nat.pow_succ, ← Nat.div_div_eq_div_mul]
        have := Nat.div_add_mod (n / 2 ^ k) 2
        omega
      have hPn : n / 2 ^ k ≤ n := Nat.div_le_self _ _
      have hqP : y * (n / 2 ^ (k + 1) / y) ≤ n / 2 ^ (k + 1) := Nat.mul_div_le _ _
      have hn128 := HN.out
      rw [HQ.out.1, HQ.out.2, hP] at hstep
      have hq2 : q0 * 18446744073709551616 + q1 ≤ n / 2 ^ (k + 1) := by
        rw [HQ.out.2] at hqP
        exact Nat.le_trans (Nat.le_mul_of_pos_left _ (by omega)) hqP
      have h128 : (2 : Nat) ^ 128 = 18446744073709551616 * 18446744073709551616 := by decide
      rw [h128] at hn128
      have HB := Lib.hid (fun W => (HBIT.out W k (by omega)))
      rw [← hb] at HB
      have hb2 : b < 2 := by omega
      generalize n / 2 ^ (k + 1) = P1 at *
      obtain ⟨dh, hdh⟩ : ∃ dh, dh = (r + r) / 18446744073709551616 := ⟨_, rfl⟩
      obtain ⟨dl, hdl⟩ : ∃ dl, dl = (r + r) % 18446744073709551616 := ⟨_, rfl⟩
      obtain ⟨u0, hu0⟩ : ∃ u0, u0 = (q0 + q0 + (q1 + q1) / 18446744073709551616) % 18446744073709551616 := ⟨_, rfl⟩
      obtain ⟨u1, hu1⟩ : ∃ u1, u1 = (q1 + q1) % 18446744073709551616 := ⟨_, rfl⟩
      have hu : 2 * (q0 * 18446744073709551616 + q1) = u0 * 18446744073709551616 + u1 := by omega
      have HD1 := Lib.hid (fun W => ref01_double W 0 r dh dl (by omega) hdl.symm (by omega))
      have HD2 := Lib.hid (fun W => ref01_double W q0 q1 u0 u1 (by omega) hu1.symm hu0.symm)
      have hw1 : IntKind.u64.wrap ((dl : Int) + (b : Int)) = ((dl + b : Nat) : Int) := by rw [IntKind.wrap_u64]; omega
      have HX := Lib.hid (show dl + b < 18446744073709551616 ∧ dh * 18446744073709551616 + (dl + b) = 2 * r + b by omega)
      generalize dl + b = x at *
      have HLS : Hid (∀ W, Calls Try.prog 73 #[.agg #[.int .u64 dh, .int .u64 x], .agg #[.int .u64 0, .int .u64 y]] W fun e w' => e = .returned (.bool (decide (2 * r + b < y))) ∧ Chg [] W w') := Lib.hid (fun W => ref01_less W dh x 0 y (decide (2 * r + b < y)) (by
        have := HX.out
        by_cases h : dh = 0
        · rw [if_pos h]
          congr 1
          rw [eq_iff_iff]
          omega
        · rw [if_neg h, decide_eq_false (by omega), decide_eq_false (by omega)]))
      rw [hu] at hstep
      have HST := Lib.hid hstep
      have HK := Lib.hid hk
      have hu0M : u0 < 18446744073709551616 := by omega
      have hu1M : u1 + 1 < 18446744073709551616 := by omega
      have hdhM : dh < 18446744073709551616 := by omega
      have hwu : IntKind.u64.wrap ((u1 : Int) + 1) = ((u1 + 1 : Nat) : Int) := by rw [IntKind.wrap_u64]; omega
      have HSU : Hid (¬ 2 * r + b < y → ∀ W, Calls Try.prog 74 #[.agg #[.int .u64 dh, .int .u64 x], .agg #[.int .u64 0, .int .u64 y]] W fun e w' => ∃ ov : Value, e = .returned (.tuple #[.agg #[.int .u64 0, .int .u64 (2 * r + b - y : Nat)], ov]) ∧ Chg [] W w') := Lib.hid (fun (hge : ¬ 2 * r + b < y) W => ref01_sub W dh x 0 y 0 (2 * r + b - y) (by omega) HX.out.1 (by omega) (by omega) (by omega) (by omega) (by have := HX.out; omega))
      clear hstep hP hPn hqP hn128 hq2 h128 hdh hdl hu0 hu1 hu hb HQ HCH HN HBIT HS0
      generalize hP0 : n / 2 ^ k = P0 at *
      have HP0 := Lib.hid hP0
      clear hP0
      go_wp2_with fail
      refine (HD1.out wr).mono ?_
      rintro e w1 ⟨ov, rfl, hc1⟩
      have HS := HS.call hc1
      obtain ⟨_, _, ⟨cr0, cr1⟩, _, ⟨fr0, fr1⟩, _⟩ := HS.cells
      have HS2 := (HS.setR0 dh).setR1 dl
      clear hc1 HD1 HS
      go_wp2_with fail
      generalize (w1.setCell ⟨w.heap.size + 1 + 1, 0, none⟩ (.int .u64 dh)).setCell ⟨w.heap.size + 1 + 1, 1, none⟩ (.int .u64 dl) = w2 at *
      obtain ⟨⟨ca0, ca1⟩, ⟨cd0, cd1⟩, ⟨cr0, cr1⟩, ⟨cq0, cq1⟩, ⟨fr0, fr1⟩, ⟨fq0, fq1⟩⟩ := HS2.cells
      go_cut [31] (fun z wx => z = .int .u64 (x : Nat) ∧ St4 w wx w.heap.size hi lo 0 y dh x q0 q1)
      case first =>
        go_region_with (first | (go_at_call 72; refine (HB.out _).mono ?_; rintro e w' ⟨rfl, hc1⟩; (have HS3 : St4 w w' w.heap.size hi lo 0 y dh dl q0 q1 := by first | exact HS2.call hc1 | exact HS2.drew.call hc1 | exact HS2.drew.drew.call hc1); obtain ⟨_, _, ⟨cr0', cr1'⟩, _, ⟨fr0', fr1'⟩, _⟩ := HS3.cells))
        all_goals
          go_wp2_with fail
          go_meet
          refine ⟨rfl, ?_⟩
          first
          | exact HS3.setR1 x
          | exact (HS3.setR1 x).drew
          | exact HS3.drew.setR1 x
          | trace_state
      case rest =>
        obtain ⟨rfl, HS4⟩ := hcut
        obtain ⟨_, _, _, ⟨cq0, cq1⟩, _, _⟩ := HS4.cells
        clear HS2 HB
        go_wp2_with fail
        refine (HD2.out _).mono ?_
        rintro e w4 ⟨ov2, rfl, hc4⟩
        have HS5 := HS4.call hc4
        obtain ⟨_, ⟨cd0, cd1⟩, ⟨cr0, cr1⟩, ⟨cq0, cq1⟩, _, ⟨fq0, fq1⟩⟩ := HS5.cells
        have HS6 := (HS5.setQ0 u0).setQ1 u1
        clear HS4 HS5 hc4 HD2
        go_wp2_with fail
        generalize (w4.setCell ⟨w.heap.size + 1 + 1 + 1, 0, none⟩ (.int .u64 u0)).setCell ⟨w.heap.size + 1 + 1 + 1, 1, none⟩ (.int .u64 u1) = w5 at *
        obtain ⟨⟨ca0, ca1⟩, ⟨cd0, cd1⟩, ⟨cr0, cr1⟩, _, _, _⟩ := HS6.cells
        refine (HLS.out _).mono ?_
        rintro e w6 ⟨rfl, hc6⟩
        have HS7 := HS6.call hc6
        clear HS6 hc6 HLS
        by_cases hlt : 2 * r + b < y
        · rw [decide_eq_true hlt]
          have hst := HST.out.1 hlt
          obtain ⟨hx1, hx2⟩ := HX.out
          obtain rfl : dh = 0 := by omega
          have HI := Lib.hid (show P0 % y = x ∧ P0 / y = u0 * 18446744073709551616 + u1 from ⟨hst.2.trans (by rw [Nat.zero_mul, Nat.zero_add] at hx2; exact hx2.symm), hst.1⟩)
          have hxy : x < y := by omega
          clear hst hlt hx2 HST
          go_wp2
          exact ⟨⟨(k : Int) - 1, k, x, u0, u1, by have := HK.out; omega, rfl, rfl, hxy, hu0M, by omega, Lib.hid (by rw [HP0.out]; exact HI.out), HS7⟩, by simp [intOf]⟩
        · rw [decide_eq_false hlt]
          have hst := HST.out.2 hlt
          obtain ⟨_, ⟨cd0, cd1⟩, ⟨cr0, cr1⟩, _, _, _⟩ := HS7.cells
          have HSV := Lib.hid (HSU.out hlt)
          have HI := Lib.hid (show P0 % y = 2 * r + b - y ∧ P0 / y = u0 * 18446744073709551616 + (u1 + 1) from ⟨hst.2, hst.1.trans (Nat.add_assoc _ _ _)⟩)
          have hxy : 2 * r + b - y < y := by omega
          generalize 2 * r + b - y = z at *
          clear hst hlt HST
          go_wp2_with fail
          refine (HSV.out _).mono ?_
          rintro e w7 ⟨ov3, rfl, hc7⟩
          have HS8 := HS7.call hc7
          obtain ⟨_, _, ⟨cr0, cr1⟩, ⟨cq0, cq1⟩, ⟨fr0, fr1⟩, ⟨fq0, fq1⟩⟩ := HS8.cells
          have HS9 := Lib.hid (((HS8.setR0 0).setR1 z).setQ1 (u1 + 1))
          clear HS8 HS7 hc7 HSV HSU
          go_wp2
          exact ⟨⟨(k : Int) - 1, k, z, u0, u1 + 1, by have := HK.out; omega, rfl, rfl, hxy, hu0M, hu1M, Lib.hid (by rw [HP0.out]; exact HI.out), HS9.out⟩, by simp [intOf]⟩
end Go.Proofs.Ytgnbabkafobeoaa
