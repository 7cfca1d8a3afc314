/-
  The walk of the reference's Times (layer 1). Conditions: none.
  The walks of the reference's Times and Over (layer 1). Conditions: none.
-/
import Derived.Test.YtlcoibhbdgdfcaaGreatDoorCoreLumpsB28
namespace Go.Proofs.YtlcoibhbdgdfcaaGreatDoor
open Go.RowKit

theorem times_step (V m V' : Nat) (hV : V' = V + m * 4294967296) (hM : V' < 18446744073709551616 * 18446744073709551616) (W : World) :
    Calls Tryz.prog 52 #[.agg #[.int .u64 (V / 18446744073709551616 : Nat), .int .u64 (V % 18446744073709551616 : Nat)], .agg #[.int .u64 (m / 4294967296 : Nat), .int .u64 (m % 4294967296 * 4294967296 : Nat)]] W fun e w' => ∃ ov : Value, e = .returned (.tuple #[.agg #[.int .u64 (V' / 18446744073709551616 : Nat), .int .u64 (V' % 18446744073709551616 : Nat)], ov]) ∧ Chg [] W w' :=
  ref01_add W _ _ _ _ _ _ (Nat.mod_lt _ (by decide)) (by omega) (by omega) (by omega)

theorem wide_parts {X Y : Nat} (h : Y < 18446744073709551616) : (X * 18446744073709551616 + Y) / 18446744073709551616 = X ∧ (X * 18446744073709551616 + Y) % 18446744073709551616 = Y := by omega
set_option maxRecDepth 100000 in
set_option maxHeartbeats 2000000 in
theorem ref01_times (w : World) (a b n : Nat) (hn : a * b = n) (ha : a < 18446744073709551616) (hb : b < 18446744073709551616) :
    Calls Tryz.prog 40 #[.int .u64 a, .int .u64 b] w fun e w' => e = .returned (.agg #[.int .u64 (n / 18446744073709551616 : Nat), .int .u64 (n % 18446744073709551616 : Nat)]) ∧ Chg [] w w' := by
  have hp := mul_parts a b
  rw [hn] at hp
  have hnM : n < 18446744073709551616 * 18446744073709551616 := by rw [← hn]; exact Nat.mul_lt_mul'' ha hb
  have b1 := half_mul (Nat.mod_lt a (show 0 < 4294967296 by omega)) (Nat.mod_lt b (show 0 < 4294967296 by omega))
  have b2 := half_mul (show a / 4294967296 < 4294967296 by omega) (Nat.mod_lt b (show 0 < 4294967296 by omega))
  have b3 := half_mul (Nat.mod_lt a (show 0 < 4294967296 by omega)) (show b / 4294967296 < 4294967296 by omega)
  have b4 := half_mul (show a / 4294967296 < 4294967296 by omega) (show b / 4294967296 < 4294967296 by omega)
  have qa : (a : Int).tdiv 4294967296 = ((a / 4294967296 : Nat) : Int) := by rw [Int.tdiv_eq_ediv_of_nonneg (by omega)]; omega
  have qb : (b : Int).tdiv 4294967296 = ((b / 4294967296 : Nat) : Int) := by rw [Int.tdiv_eq_ediv_of_nonneg (by omega)]; omega
  have ra : (a : Int).tmod 4294967296 = ((a % 4294967296 : Nat) : Int) := by rw [Int.tmod_eq_emod_of_nonneg (by omega)]; omega
  have rb : (b : Int).tmod 4294967296 = ((b % 4294967296 : Nat) : Int) := by rw [Int.tmod_eq_emod_of_nonneg (by omega)]; omega
  have hah : a / 4294967296 < 4294967296 := by omega
  have hbh : b / 4294967296 < 4294967296 := by omega
  have hal : a % 4294967296 < 4294967296 := by omega
  have hbl : b % 4294967296 < 4294967296 := by omega
  clear hn
  generalize a / 4294967296 = ah at *
  generalize a % 4294967296 = al at *
  generalize b / 4294967296 = bh at *
  generalize b % 4294967296 = bl at *
  obtain ⟨X, hX⟩ : ∃ X, X = ah * bh := ⟨_, rfl⟩
  obtain ⟨Y, hY⟩ : ∃ X, X = al * bl := ⟨_, rfl⟩
  obtain ⟨M0, hM0⟩ : ∃ X, X = ah * bl := ⟨_, rfl⟩
  obtain ⟨M1, hM1⟩ : ∃ X, X = al * bh := ⟨_, rfl⟩
  have iX : (ah : Int) * (bh : Int) = (X : Int) := by rw [hX, Int.natCast_mul]
  have iY : (al : Int) * (bl : Int) = (Y : Int) := by rw [hY, Int.natCast_mul]
  have iM0 : (ah : Int) * (bl : Int) = (M0 : Int) := by rw [hM0, Int.natCast_mul]
  have iM1 : (al : Int) * (bh : Int) = (M1 : Int) := by rw [hM1, Int.natCast_mul]
  rw [← hX, ← hY, ← hM0, ← hM1] at hp
  rw [← hX] at b4
  rw [← hY] at b1
  rw [← hM0] at b2
  rw [← hM1] at b3
  clear hX hY hM0 hM1
  obtain ⟨V0, hV0⟩ : ∃ V, V = X * 18446744073709551616 + Y := ⟨_, rfl⟩
  obtain ⟨V1, hV1⟩ : ∃ V, V = V0 + M0 * 4294967296 := ⟨_, rfl⟩
  have hV2 : n = V1 + M1 * 4294967296 := by omega
  have HS0 := Lib.hid (times_step V0 M0 V1 hV1 (by omega))
  have HS1 := Lib.hid (times_step V1 M1 n hV2 (by omega))
  have e0 := wide_parts (X := X) (Y := Y) (by omega)
  rw [← hV0] at e0
  rw [e0.1, e0.2] at HS0
  clear hp hnM e0 hV0 hV1 hV2
  have qf : ∀ m : Nat, (m : Int).tdiv 4294967296 = ((m / 4294967296 : Nat) : Int) := fun m => by rw [Int.tdiv_eq_ediv_of_nonneg (by omega)]; omega
  have rf : ∀ m : Nat, (m : Int).tmod 4294967296 = ((m % 4294967296 : Nat) : Int) := fun m => by rw [Int.tmod_eq_emod_of_nonneg (by omega)]; omega
  have mf : ∀ m : Nat, IntKind.u64.wrap (((m % 4294967296 : Nat) : Int) * 4294967296) = ((m % 4294967296 * 4294967296 : Nat) : Int) := fun m => by rw [IntKind.wrap_u64]; omega
  obtain ⟨z0, hz0⟩ : ∃ z, z = M0 % 4294967296 * 4294967296 := ⟨_, rfl⟩
  obtain ⟨z1, hz1⟩ : ∃ z, z = M1 % 4294967296 * 4294967296 := ⟨_, rfl⟩
  obtain ⟨x0, hx0⟩ : ∃ z, z = M0 % 4294967296 := ⟨_, rfl⟩
  obtain ⟨x1, hx1⟩ : ∃ z, z = M1 % 4294967296 := ⟨_, rfl⟩
  obtain ⟨y0, hy0⟩ : ∃ z, z = M0 / 4294967296 := ⟨_, rfl⟩
  obtain ⟨y1, hy1⟩ : ∃ z, z = M1 / 4294967296 := ⟨_, rfl⟩
  obtain ⟨vh, hvh⟩ : ∃ z, z = V1 / 18446744073709551616 := ⟨_, rfl⟩
  obtain ⟨vl, hvl⟩ : ∃ z, z = V1 % 18446744073709551616 := ⟨_, rfl⟩
  obtain ⟨nh, hnh⟩ : ∃ z, z = n / 18446744073709551616 := ⟨_, rfl⟩
  obtain ⟨nl, hnl⟩ : ∃ z, z = n % 18446744073709551616 := ⟨_, rfl⟩
  have by0 : y0 < 4294967296 := by omega
  have by1 : y1 < 4294967296 := by omega
  have bx0 : x0 < 4294967296 := by omega
  have bx1 : x1 < 4294967296 := by omega
  have q0 : (M0 : Int).tdiv 4294967296 = (y0 : Int) := by rw [hy0]; exact qf M0
  have q1 : (M1 : Int).tdiv 4294967296 = (y1 : Int) := by rw [hy1]; exact qf M1
  have r0 : (M0 : Int).tmod 4294967296 = (x0 : Int) := by rw [hx0]; exact rf M0
  have r1 : (M1 : Int).tmod 4294967296 = (x1 : Int) := by rw [hx1]; exact rf M1
  have m0 : IntKind.u64.wrap ((x0 : Int) * 4294967296) = (z0 : Int) := by rw [hx0, hz0]; exact mf M0
  have m1 : IntKind.u64.wrap ((x1 : Int) * 4294967296) = (z1 : Int) := by rw [hx1, hz1]; exact mf M1
  rw [← hvh, ← hvl, ← hz0, ← hy0] at HS0
  rw [← hvh, ← hvl, ← hz1, ← hy1, ← hnh, ← hnl] at HS1
  rw [← hnh, ← hnl]
  clear qf rf mf hz0 hz1 hx0 hx1 hy0 hy1 hvh hvl hnh hnl
  have hr := ((Blk.alloc_new w #[.int .u64 0, .int .u64 0] 99).alloc (.cells #[.int .u64 X, .int .u64 Y] 99)).alloc (.cells #[.int .u64 M0, .int .u64 M1] 25)
  have ho := (Blk.alloc_new (w.alloc (.cells #[.int .u64 0, .int .u64 0] 99)) #[.int .u64 X, .int .u64 Y] 99).alloc (.cells #[.int .u64 M0, .int .u64 M1] 25)
  have hl := Blk.alloc_new ((w.alloc (.cells #[.int .u64 0, .int .u64 0] 99)).alloc (.cells #[.int .u64 X, .int .u64 Y] 99)) #[.int .u64 M0, .int .u64 M1] 25
  simp only [World.size_alloc] at hr ho hl
  have HR := Lib.hid hr
  have HO := Lib.hid ho
  have HL := Lib.hid hl
  have HC := Lib.hid ((((Chg.refl [] w).alloc (.cells #[.int .u64 0, .int .u64 0] 99)).alloc (.cells #[.int .u64 X, .int .u64 Y] 99)).alloc (.cells #[.int .u64 M0, .int .u64 M1] 25))
  clear hr ho hl
  go_enter Tryz.func40, Tryz.ntmps40
  go_wp2
  go_loopw [35] (fun i wx => ∃ (k h l : Nat), k ≤ 2 ∧ i = .int .i64 (k : Nat) ∧ Hid ((k = 0 → h = X ∧ l = Y) ∧ (k = 1 → h = vh ∧ l = vl) ∧ (k = 2 → h = nh ∧ l = nl)) ∧
    Blk wx w.heap.size #[.int .u64 0, .int .u64 0] 99 ∧ Blk wx (w.heap.size + 1) #[.int .u64 h, .int .u64 l] 99 ∧ Blk wx (w.heap.size + 1 + 1) #[.int .u64 M0, .int .u64 M1] 25 ∧ Chg [] w wx) (fun i _ => 2 - (intOf i).toNat)
  case atStart => exact ⟨0, X, Y, by omega, rfl, Lib.hid ⟨fun _ => ⟨rfl, rfl⟩, fun h => by omega, fun h => by omega⟩, HR.out, HO.out, HL.out, HC.out⟩
  case round =>
    obtain ⟨k, h, l, hk, rfl, HI, hr, ho, hl, hc⟩ := hrel
    clear HR HO HL HC
    have o0 := ho.cell 0
    have o1 := ho.cell 1
    have l0 := hl.cell 0
    have l1 := hl.cell 1
    have c0 := hr.cell 0
    have c1 := hr.cell 1
    have fr0 := hr.free 0
    have fr1 := hr.free 1
    rcases show k = 0 ∨ k = 1 ∨ k = 2 by omega with rfl | rfl | rfl
    · obtain ⟨rfl, rfl⟩ := HI.out.1 rfl
      go_wp2_with fail
      refine (HS0.out _).mono ?_
      rintro e w1 ⟨ov, rfl, hc1⟩
      have ho := ho.chg hc1 (by simp)
      have hl := hl.chg hc1 (by simp)
      have hr := hr.chg hc1 (by simp)
      have hc := hc.trans hc1
      have p0 := ho.cell 0
      have p1 := ho.cell 1
      have f0 := ho.free 0
      have f1 := ho.free 1
      go_wp2
      exact ⟨⟨1, vh, vl, by omega, rfl, Lib.hid ⟨fun h => absurd h (by decide), fun _ => ⟨rfl, rfl⟩, fun h => absurd h (by decide)⟩, (hr.setCell_other (a := ⟨w.heap.size + 1, 0, none⟩) (by simp) _).setCell_other (a := ⟨w.heap.size + 1, 1, none⟩) (by simp) _, (ho.setCell 0 _).setCell 1 _,
        (hl.setCell_other (a := ⟨w.heap.size + 1, 0, none⟩) (by simp) _).setCell_other (a := ⟨w.heap.size + 1, 1, none⟩) (by simp) _, (hc.setCell (a := ⟨w.heap.size + 1, 0, none⟩) (.inr (by simp)) _).setCell (a := ⟨w.heap.size + 1, 1, none⟩) (.inr (by simp)) _⟩, by simp [intOf]⟩
    · obtain ⟨rfl, rfl⟩ := HI.out.2.1 rfl
      go_wp2_with fail
      refine (HS1.out _).mono ?_
      rintro e w1 ⟨ov, rfl, hc1⟩
      have ho := ho.chg hc1 (by simp)
      have hl := hl.chg hc1 (by simp)
      have hr := hr.chg hc1 (by simp)
      have hc := hc.trans hc1
      have p0 := ho.cell 0
      have p1 := ho.cell 1
      have f0 := ho.free 0
      have f1 := ho.free 1
      go_wp2
      exact ⟨⟨2, nh, nl, by omega, rfl, Lib.hid ⟨fun h => absurd h (by decide), fun h => absurd h (by decide), fun _ => ⟨rfl, rfl⟩⟩, (hr.setCell_other (a := ⟨w.heap.size + 1, 0, none⟩) (by simp) _).setCell_other (a := ⟨w.heap.size + 1, 1, none⟩) (by simp) _, (ho.setCell 0 _).setCell 1 _,
        (hl.setCell_other (a := ⟨w.heap.size + 1, 0, none⟩) (by simp) _).setCell_other (a := ⟨w.heap.size + 1, 1, none⟩) (by simp) _, (hc.setCell (a := ⟨w.heap.size + 1, 0, none⟩) (.inr (by simp)) _).setCell (a := ⟨w.heap.size + 1, 1, none⟩) (.inr (by simp)) _⟩, by simp [intOf]⟩
    · obtain ⟨rfl, rfl⟩ := HI.out.2.2 rfl
      go_wp2
      have hz := (hr.setCell 0 (.int .u64 h)).setCell 1 (.int .u64 l)
      have z0 := hz.cell 0
      have z1 := hz.cell 1
      exact bodyPost_ret (v := .agg #[.int .u64 h, .int .u64 l]) (by simp [results, Tryz.results40, go_sem, z0, z1]) rfl ⟨rfl, (hc.setCell (a := ⟨w.heap.size, 0, none⟩) (.inr (by simp)) _).setCell (a := ⟨w.heap.size, 1, none⟩) (.inr (by simp)) _⟩
end Go.Proofs.YtlcoibhbdgdfcaaGreatDoor

namespace Go.Proofs.YtlcoibhbdgdfcaaGreatDoor
open Go.RowKit

/-- Four pairs of words behind each other, the call's own. -/
structure St4 (w0 wx : World) (S : Nat) (a0 a1 d0 d1 r0 r1 q0 q1 : Nat) : Prop where
  own : w0.heap.size ≤ S
  a : Blk wx S #[.int .u64 a0, .int .u64 a1] 99
  d : Blk wx (S + 1) #[.int .u64 d0, .int .u64 d1] 99
  r : Blk wx (S + 1 + 1) #[.int .u64 r0, .int .u64 r1] 99
  q : Blk wx (S + 1 + 1 + 1) #[.int .u64 q0, .int .u64 q1] 99
  chg : Chg [] w0 wx
namespace St4
variable {w0 wx w1 : World} {S a0 a1 d0 d1 r0 r1 q0 q1 : Nat}
theorem call (h : St4 w0 wx S a0 a1 d0 d1 r0 r1 q0 q1) (k : Chg [] wx w1) : St4 w0 w1 S a0 a1 d0 d1 r0 r1 q0 q1 :=
  ⟨h.own, h.a.chg k (by simp), h.d.chg k (by simp), h.r.chg k (by simp), h.q.chg k (by simp), h.chg.trans k⟩
theorem drew (h : St4 w0 wx S a0 a1 d0 d1 r0 r1 q0 q1) : St4 w0 wx.drew S a0 a1 d0 d1 r0 r1 q0 q1 := ⟨h.own, h.a, h.d, h.r, h.q, h.chg.drew⟩
theorem setR1 (h : St4 w0 wx S a0 a1 d0 d1 r0 r1 q0 q1) (x : Nat) : St4 w0 (wx.setCell ⟨S + 1 + 1, 1, none⟩ (.int .u64 x)) S a0 a1 d0 d1 r0 x q0 q1 :=
  ⟨h.own, h.a.setCell_other (by simp only; omega) _, h.d.setCell_other (by simp only; omega) _, h.r.setCell 1 _, h.q.setCell_other (by simp only; omega) _,
   h.chg.setCell (.inr (by simp only; have := h.own; omega)) _⟩
theorem setR0 (h : St4 w0 wx S a0 a1 d0 d1 r0 r1 q0 q1) (x : Nat) : St4 w0 (wx.setCell ⟨S + 1 + 1, 0, none⟩ (.int .u64 x)) S a0 a1 d0 d1 x r1 q0 q1 :=
  ⟨h.own, h.a.setCell_other (by simp only; omega) _, h.d.setCell_other (by simp only; omega) _, h.r.setCell 0 _, h.q.setCell_other (by simp only; omega) _,
   h.chg.setCell (.inr (by simp only; have := h.own; omega)) _⟩
theorem setQ1 (h : St4 w0 wx S a0 a1 d0 d1 r0 r1 q0 q1) (x : Nat) : St4 w0 (wx.setCell ⟨S + 1 + 1 + 1, 1, none⟩ (.int .u64 x)) S a0 a1 d0 d1 r0 r1 q0 x :=
  ⟨h.own, h.a.setCell_other (by simp only; omega) _, h.d.setCell_other (by simp only; omega) _, h.r.setCell_other (by simp only; omega) _, h.q.setCell 1 _,
   h.chg.setCell (.inr (by simp only; have := h.own; omega)) _⟩
theorem setQ0 (h : St4 w0 wx S a0 a1 d0 d1 r0 r1 q0 q1) (x : Nat) : St4 w0 (wx.setCell ⟨S + 1 + 1 + 1, 0, none⟩ (.int .u64 x)) S a0 a1 d0 d1 r0 r1 x q1 :=
  ⟨h.own, h.a.setCell_other (by simp only; omega) _, h.d.setCell_other (by simp only; omega) _, h.r.setCell_other (by simp only; omega) _, h.q.setCell 0 _,
   h.chg.setCell (.inr (by simp only; have := h.own; omega)) _⟩
theorem cells (h : St4 w0 wx S a0 a1 d0 d1 r0 r1 q0 q1) : (wx.cell? ⟨S, 0, none⟩ = some (.int .u64 a0) ∧ wx.cell? ⟨S, 1, none⟩ = some (.int .u64 a1)) ∧
    (wx.cell? ⟨S + 1, 0, none⟩ = some (.int .u64 d0) ∧ wx.cell? ⟨S + 1, 1, none⟩ = some (.int .u64 d1)) ∧
    (wx.cell? ⟨S + 1 + 1, 0, none⟩ = some (.int .u64 r0) ∧ wx.cell? ⟨S + 1 + 1, 1, none⟩ = some (.int .u64 r1)) ∧
    (wx.cell? ⟨S + 1 + 1 + 1, 0, none⟩ = some (.int .u64 q0) ∧ wx.cell? ⟨S + 1 + 1 + 1, 1, none⟩ = some (.int .u64 q1)) ∧
    (wx.frozen? ⟨S + 1 + 1, 0, none⟩ = false ∧ wx.frozen? ⟨S + 1 + 1, 1, none⟩ = false) ∧ (wx.frozen? ⟨S + 1 + 1 + 1, 0, none⟩ = false ∧ wx.frozen? ⟨S + 1 + 1 + 1, 1, none⟩ = false) :=
  ⟨⟨h.a.cell 0, h.a.cell 1⟩, ⟨h.d.cell 0, h.d.cell 1⟩, ⟨h.r.cell 0, h.r.cell 1⟩, ⟨h.q.cell 0, h.q.cell 1⟩, ⟨h.r.free 0, h.r.free 1⟩, ⟨h.q.free 0, h.q.free 1⟩⟩
end St4

theorem over_step {P y b : Nat} (hy : 0 < y) (_hb : b < 2) :
    (2 * (P % y) + b < y → (2 * P + b) / y = 2 * (P / y) ∧ (2 * P + b) % y = 2 * (P % y) + b) ∧
    (¬ 2 * (P % y) + b < y → (2 * P + b) / y = 2 * (P / y) + 1 ∧ (2 * P + b) % y = 2 * (P % y) + b - y) := by
  have h := Nat.div_add_mod P y
  have hr := Nat.mod_lt P hy
  generalize P / y = q at *
  generalize P % y = r at *
  have e : 2 * P + b = (2 * r + b) + y * (2 * q) := by rw [Nat.mul_left_comm]; omega
  constructor
  · intro hl
    rw [e, Nat.add_mul_div_left _ _ hy, Nat.add_mul_mod_self_left, Nat.div_eq_of_lt hl, Nat.mod_eq_of_lt hl]
    exact ⟨by omega, rfl⟩
  · intro hl
    have e2 : 2 * P + b = (2 * r + b - y) + y * (2 * q + 1) := by rw [Nat.mul_add]; omega
    have hl2 : 2 * r + b - y < y := by omega
    rw [e2, Nat.add_mul_div_left _ _ hy, Nat.add_mul_mod_self_left, Nat.div_eq_of_lt hl2, Nat.mod_eq_of_lt hl2]
    exact ⟨by omega, rfl⟩

end Go.Proofs.YtlcoibhbdgdfcaaGreatDoor
