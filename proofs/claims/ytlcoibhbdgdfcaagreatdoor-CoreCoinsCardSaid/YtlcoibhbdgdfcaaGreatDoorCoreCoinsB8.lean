/-
  The walk of ogivetop's great. Conditions: the form's own reach.
  Two slices of the program's own, of unlike elements, share no block. Conditions: none.
  The library's sort and collection at rows of int64: that this program's bodies are those of the shelf. Conditions: none.
  The walks of the tape of package coins, and the reference's coin. Conditions: the form's own reach.
-/
import Derived.Test.YtlcoibhbdgdfcaaGreatDoorCoreCoinsB7
import Derived.Test.YtlcoibhbdgdfcaaGreatDoorCoreCoinsB1
import Derived.Test.YtlcoibhbdgdfcaaGreatDoorProg
import Derived.Shelf.SlIterI.Sorted
import Derived.Shelf.SortM.Plain
import Derived.Shelf.SortM.SortNone
import Derived.Laws.BitsAllLaws
namespace Go.Proofs.YtlcoibhbdgdfcaaGreatDoor
open Go.RowKit

/-- What is played. -/
structure Played (c : Cf) (fs : List Lf) : Prop where
  few : fs.length ≤ 12
  each : ∀ f ∈ fs, f.l.length ≤ 30 ∧ ∀ v ∈ f.l, v.n ≤ 20
  log : ¬ (c.kind = 1 ∧ 100 < c.den)
def GreatQ (w w' : World) (c : Cf) (fs : List Lf) (e : Ending) : Prop := ∃ B : Bool, e = .returned (.bool B) ∧ Chg [] w w' ∧ (B = false → Played c fs)
set_option maxRecDepth 100000 in
set_option maxHeartbeats 4000000 in
theorem core_great (w : World) (c : Cf) (lo : Option Addr) (lc n : Nat) (fs : List Lf) (hn : n = fs.length) (hr : Rd w 2 (.slice lo n lc) n (lfCells fs)) (hl : n ≤ 140737488351232)
    (hf : ∀ f ∈ fs, Rd w 2 (.slice f.ao f.l.length f.cap) f.l.length (vlCells f.l) ∧ f.l.length ≤ 140737488351232) :
    Calls Tryz.prog 12 #[c.val, .slice lo n lc] w fun e w' => GreatQ w w' c fs e := by
  have HR := Lib.hid hr
  have HF := Lib.hid hf
  have HN := Lib.hid hn
  obtain ⟨q, hq⟩ : ∃ q, q = w.heap.size := ⟨_, rfl⟩
  have HB0 := Lib.hid (show Blk (w.alloc (.cells c.cells 30)) q c.cells 30 from by rw [hq]; exact Blk.alloc_new _ _ _)
  have HC0 := Lib.hid ((Chg.refl [] w).alloc (.cells c.cells 30))
  simp only [Cf.val, Cf.cells] at HB0 HC0 ⊢
  clear hr hf hn
  go_enter Tryz.func12, Tryz.ntmps12
  go_wp2_with fail
  rw [← hq]
  clear hq
  generalize w.alloc (.cells #[.int .i64 c.kind, .int .u64 c.num, .int .u64 c.den, .int .i64 c.side, .int .i64 c.most, .int .i64 c.digits, .int .u64 c.limit, .int .i64 c.depth, .int .i64 c.factor, .int .i64 c.width, .int .u64 c.word] 30) = w0 at *
  go_loopw [11] (fun i wx => ∃ k : Nat, k ≤ n ∧ i = .int .i64 (k : Nat) ∧ Hid (∀ f ∈ fs.take k, f.l.length ≤ 30 ∧ ∀ v ∈ f.l, v.n ≤ 20) ∧ Hid (Chg [] w0 wx)) (fun i _ => n - (intOf i).toNat)
  case atStart => exact ⟨0, Nat.zero_le _, rfl, Lib.hid (by simp), Lib.hid (Chg.refl _ _)⟩
  case round =>
    obtain ⟨k, hk, rfl, HG, HC⟩ := hrel
    by_cases hlt : k < n
    · have hkl : k < fs.length := by have := HN.out; omega
      obtain ⟨b, o, rfl, hcl⟩ := (HR.out.chg (HC0.out.trans HC.out) (by simp)).addr (by omega)
      obtain ⟨l0, l1⟩ := lf_at (l := fs) (fun j hj => hcl j (by rw [HN.out]; exact hj)) hkl
      have g1 := HF.out fs[k] (List.getElem_mem hkl)
      have HTK := Lib.hid (show ∀ P : Lf → Prop, (∀ f ∈ fs.take k, P f) → P fs[k] → ∀ f ∈ fs.take (k + 1), P f from fun P h1 h2 f hf => by
        rw [List.take_succ_eq_append_getElem hkl] at hf
        rcases List.mem_append.1 hf with hf | hf
        · exact h1 f hf
        · rw [List.mem_singleton.1 hf]; exact h2)
      generalize fs[k] = f at *
      have HRV := Lib.hid (g1.1.chg (HC0.out.trans HC.out) (by simp))
      have hlb := g1.2
      clear hcl g1
      obtain ⟨m, hm⟩ : ∃ m, m = f.l.length := ⟨_, rfl⟩
      have HM := Lib.hid hm
      rw [← hm] at l0 HRV hlb
      clear hm
      by_cases h30 : m ≤ 30
      · have d30 : decide ((30 : Int) < (m : Int)) = false := decide_eq_false (by omega)
        have d30' : decide (30 < m) = false := decide_eq_false (by omega)
        obtain ⟨bf, hbf⟩ : ∃ z, z = wr.heap.size := ⟨_, rfl⟩
        have HBF := Lib.hid (show Blk (wr.alloc (.cells #[.slice f.ao m f.cap, .bool f.by_] 67)) bf #[.slice f.ao m f.cap, .bool f.by_] 67 from by rw [hbf]; exact Blk.alloc_new _ _ _)
        have HC1 := Lib.hid (HC.out.alloc (.cells #[.slice f.ao m f.cap, .bool f.by_] 67))
        have HRV1 := Lib.hid (HRV.out.alloc (.cells #[.slice f.ao m f.cap, .bool f.by_] 67))
        go_wp2_with fail
        rw [← hbf]
        clear hbf
        generalize wr.alloc (.cells #[.slice f.ao m f.cap, .bool f.by_] 67) = w1 at *
        clear l0 l1
        go_loopw [22] (fun i wx => ∃ h : Nat, h ≤ m ∧ i = .int .i64 (h : Nat) ∧ Hid (∀ v ∈ f.l.take h, v.n ≤ 20) ∧ Hid (Chg [] w1 wx)) (fun i _ => m - (intOf i).toNat)
        case atStart => exact ⟨0, Nat.zero_le _, rfl, Lib.hid (by simp), Lib.hid (Chg.refl _ _)⟩
        case round =>
          obtain ⟨h, hh, rfl, HV, HCV⟩ := hrel
          by_cases hlv : h < m
          · have hvl : h < f.l.length := by have := HM.out; omega
            obtain ⟨b2, o2, hao, hcv⟩ := (HRV1.out.chg HCV.out (by simp)).addr (by omega)
            obtain ⟨v0, v1⟩ := vl_at (l := f.l) (fun j hj => hcv j (by rw [HM.out]; exact hj)) hvl
            have HTV := Lib.hid (show f.l[h].n ≤ 20 → ∀ v ∈ f.l.take (h + 1), v.n ≤ 20 from fun h2 v hv => by
              rw [List.take_succ_eq_append_getElem hvl] at hv
              rcases List.mem_append.1 hv with hv | hv
              · exact HV.out v hv
              · rw [List.mem_singleton.1 hv]; exact h2)
            generalize f.l[h] = v at *
            clear hcv
            rw [hao]
            by_cases h20 : v.n ≤ 20
            · have d20 : decide ((20 : Int) < (v.n : Int)) = false := decide_eq_false (by omega)
              have d20' : decide (20 < v.n) = false := decide_eq_false (by omega)
              go_wp2
              exact ⟨⟨h + 1, hlv, by go_num, Lib.hid (HTV.out h20), Lib.hid (HCV.out.alloc _)⟩, by simp [intOf]; omega⟩
            · have d20 : decide ((20 : Int) < (v.n : Int)) = true := decide_eq_true (by omega)
              have d20' : decide (20 < v.n) = true := decide_eq_true (by omega)
              go_wp2
              go_ret
              exact ⟨true, rfl, HC0.out.trans ((HC1.out.trans HCV.out).alloc _), by simp⟩
          · obtain rfl : h = m := by omega
            have hall : ∀ v ∈ f.l, v.n ≤ 20 := by
              have := HV.out
              rwa [List.take_of_length_le (by have := HM.out; omega)] at this
            have HFK := Lib.hid (HTK.out (fun f => f.l.length ≤ 30 ∧ ∀ v ∈ f.l, v.n ≤ 20) HG.out ⟨by have := HM.out; omega, hall⟩)
            clear hall
            go_wp2
            exact ⟨⟨k + 1, hlt, by go_num, HFK, Lib.hid (HC1.out.trans HCV.out)⟩, by simp [intOf]; omega⟩
      · have d30 : decide ((30 : Int) < (m : Int)) = true := decide_eq_true (by omega)
        have d30' : decide (30 < m) = true := decide_eq_true (by omega)
        go_wp2
        go_ret
        exact ⟨true, rfl, HC0.out.trans (HC.out.alloc _), by simp⟩
    · obtain rfl : k = n := by omega
      have hall : ∀ f ∈ fs, f.l.length ≤ 30 ∧ ∀ v ∈ f.l, v.n ≤ 20 := by
        have := HG.out
        rwa [List.take_of_length_le (by have := HN.out; omega)] at this
      have HALL := Lib.hid hall
      obtain ⟨z0, z1, z2, z3, z4, z5, z6, z7, z8, z9, z10⟩ := cf_cells (c := c) (b := q) (HB0.out.chg HC.out (by simp))
      clear hall
      by_cases h12 : k ≤ 12
      · have d12 : decide ((12 : Int) < (k : Int)) = false := decide_eq_false (by omega)
        have d12' : decide (12 < k) = false := decide_eq_false (by omega)
        by_cases hk1 : c.kind = 1
        · have e1 : (c.kind == 1) = true := by rw [beq_iff_eq]; exact hk1
          by_cases hd : c.den ≤ 100
          · have d100 : decide ((100 : Int) < (c.den : Int)) = false := decide_eq_false (by omega)
            have d100' : decide (100 < c.den) = false := decide_eq_false (by omega)
            have HK := Lib.hid hk1
            clear hk1
            go_wp2
            go_ret
            exact ⟨false, rfl, HC0.out.trans HC.out, fun _ => ⟨by have := HN.out; omega, HALL.out, fun h => by omega⟩⟩
          · have d100 : decide ((100 : Int) < (c.den : Int)) = true := decide_eq_true (by omega)
            have d100' : decide (100 < c.den) = true := decide_eq_true (by omega)
            have HK := Lib.hid hk1
            clear hk1
            go_wp2
            go_ret
            exact ⟨true, rfl, HC0.out.trans HC.out, by simp⟩
        · have e1 : (c.kind == 1) = false := by rw [beq_eq_false_iff_ne]; exact hk1
          have HK := Lib.hid hk1
          clear hk1
          go_wp2
          go_ret
          exact ⟨false, rfl, HC0.out.trans HC.out, fun _ => ⟨by have := HN.out; omega, HALL.out, fun h => HK.out h.1⟩⟩
      · have d12 : decide ((12 : Int) < (k : Int)) = true := decide_eq_true (by omega)
        have d12' : decide (12 < k) = true := decide_eq_true (by omega)
        go_wp2
        go_ret
        exact ⟨true, rfl, HC0.out.trans HC.out, by simp⟩
end Go.Proofs.YtlcoibhbdgdfcaaGreatDoor

namespace Go.Proofs.YtlcoibhbdgdfcaaGreatDoor
open Go.RowKit

/-- Two slices of the program's own, of unlike elements, share no block. -/
theorem Own.apart {w : World} {e1 e2 : TypeId} {s1 s2 n1 n2 : Nat} {v1 v2 : Value} {x1 x2 : List Value} (h1 : Own w e1 s1 v1 n1 x1) (h2 : Own w e2 s2 v2 n2 x2) (hne : e1 ≠ e2) : ∀ b ∈ blkOf v1, b ∉ blkOf v2 := by
  intro b hb hb2
  obtain ⟨_, ⟨rfl, _⟩ | ⟨g, o, cap, cur, rfl, hg, _⟩⟩ := h1
  · simp at hb
  obtain ⟨_, ⟨rfl, _⟩ | ⟨g2, o2, cap2, cur2, rfl, hg2, _⟩⟩ := h2
  · simp at hb2
  simp only [blkOf_some, List.mem_singleton] at hb hb2
  subst hb
  subst hb2
  rw [hg] at hg2
  simp only [Option.some.injEq, Obj.cells.injEq] at hg2
  exact hne hg2.2.1
theorem Mv.low {F F' : List Nat} {w w' : World} (h : Mv F w F' w') {L : Nat} (hL : L ≤ w.heap.size) (hF : ∀ b ∈ F, L ≤ b) : ∀ b ∈ F', L ≤ b := fun b hb => by
  rcases h.fr b hb with h1 | h1
  · exact hF b h1
  · omega
end Go.Proofs.YtlcoibhbdgdfcaaGreatDoor

namespace Go.Proofs.YtlcoibhbdgdfcaaGreatDoor
open Go.Shelf

def sortedL_ren : Go.Shelf.Ren := ⟨fun | 6 => 348 | 8 => 358 | 9 => 292 | 11 => 363 | 13 => 263 | 12 => 296 | 23 => 272 | 24 => 159 | 14 => 301 | 15 => 302 | 16 => 303 | 17 => 304 | 18 => 305 | 19 => 306 | 20 => 307 | 21 => 308 | 22 => 309 | 25 => 314 | 26 => 274 | 27 => 275 | 28 => 315 | 29 => 316 | 30 => 317 | 31 => 319 | n => n, fun | 26 => 2 | 28 => 420 | 24 => 121 | 0 => 0 | 3 => 3 | 37 => 91 | 48 => 130 | 50 => 25 | 4 => 4 | 40 => 361 | 39 => 360 | 45 => 241 | 5 => 5 | 9 => 9 | 51 => 367 | 55 => 370 | 57 => 372 | 58 => 373 | 33 => 397 | n => n, fun | n => n⟩
theorem sortedL : Go.Proofs.SlLaysZI.n6 Tryz.prog sortedL_ren := {
  mixed := by kernel_rfl,
  f6 := ⟨Tryz.f348.name, by decide, Tryz.func348.trans (congrArg some (by kernel_rfl))⟩,
  f8 := ⟨Tryz.f358.name, by decide, Tryz.func358.trans (congrArg some (by kernel_rfl))⟩,
  f11 := ⟨Tryz.f363.name, by decide, Tryz.func363.trans (congrArg some (by kernel_rfl))⟩,
  t0 := Tryz.underlying0,
  a0 := Tryz.isAgg0,
  z0 := Tryz.sizeOf0,
  v0 := Tryz.zeroValue0,
  t24 := Tryz.underlying121,
  a24 := Tryz.isAgg121,
  z24 := Tryz.sizeOf121,
  v24 := Tryz.zeroValue121,
  t26 := Tryz.underlying2,
  a26 := Tryz.isAgg2,
  z26 := Tryz.sizeOf2,
  v26 := Tryz.zeroValue2,
  t28 := Tryz.underlying420,
  a28 := Tryz.isAgg420,
  z28 := Tryz.sizeOf420,
  v28 := Tryz.zeroValue420,
  i26 := by kernel_rfl }
def sortL5_ren : Go.Shelf.Ren := ⟨fun | 5 => 292 | 8 => 263 | 7 => 296 | 19 => 272 | 20 => 159 | 10 => 301 | 11 => 302 | 12 => 303 | 13 => 304 | 14 => 305 | 15 => 306 | 16 => 307 | 17 => 308 | 18 => 309 | 30 => 314 | 31 => 274 | 32 => 275 | 33 => 315 | 34 => 316 | 35 => 317 | 40 => 319 | n => n, fun | 23 => 121 | 25 => 2 | 3 => 3 | 32 => 91 | 22 => 121 | 0 => 0 | 44 => 130 | 46 => 25 | 4 => 4 | 36 => 361 | 35 => 360 | 41 => 241 | 5 => 5 | 9 => 9 | 53 => 367 | 57 => 370 | 63 => 372 | 64 => 373 | n => n, fun | n => n⟩
theorem sortL5 : Go.Proofs.SlLaysM.n5 Tryz.prog sortL5_ren := {
  mixed := by kernel_rfl,
  f5 := ⟨Tryz.f292.name, by decide, Tryz.func292.trans (congrArg some (by kernel_rfl))⟩,
  f7 := ⟨Tryz.f296.name, by decide, Tryz.func296.trans (congrArg some (by kernel_rfl))⟩,
  f8 := Tryz.func263.trans (congrArg some (by kernel_rfl)),
  f10 := ⟨Tryz.f301.name, by decide, Tryz.func301.trans (congrArg some (by kernel_rfl))⟩,
  f11 := ⟨Tryz.f302.name, by decide, Tryz.func302.trans (congrArg some (by kernel_rfl))⟩,
  f12 := ⟨Tryz.f303.name, by decide, Tryz.func303.trans (congrArg some (by kernel_rfl))⟩,
  f13 := ⟨Tryz.f304.name, by decide, Tryz.func304.trans (congrArg some (by kernel_rfl))⟩,
  f14 := ⟨Tryz.f305.name, by decide, Tryz.func305.trans (congrArg some (by kernel_rfl))⟩,
  f15 := ⟨Tryz.f306.name, by decide, Tryz.func306.trans (congrArg some (by kernel_rfl))⟩,
  f16 := ⟨Tryz.f307.name, by decide, Tryz.func307.trans (congrArg some (by kernel_rfl))⟩,
  f17 := ⟨Tryz.f308.name, by decide, Tryz.func308.trans (congrArg some (by kernel_rfl))⟩,
  f18 := ⟨Tryz.f309.name, by decide, Tryz.func309.trans (congrArg some (by kernel_rfl))⟩,
  f19 := Tryz.func272.trans (congrArg some (by kernel_rfl)),
  f20 := Tryz.func159.trans (congrArg some (by kernel_rfl)),
  f30 := ⟨Tryz.f314.name, by decide, Tryz.func314.trans (congrArg some (by kernel_rfl))⟩,
  f31 := Tryz.func274.trans (congrArg some (by kernel_rfl)),
  f32 := Tryz.func275.trans (congrArg some (by kernel_rfl)),
  f33 := ⟨Tryz.f315.name, by decide, Tryz.func315.trans (congrArg some (by kernel_rfl))⟩,
  f34 := ⟨Tryz.f316.name, by decide, Tryz.func316.trans (congrArg some (by kernel_rfl))⟩,
  f35 := ⟨Tryz.f317.name, by decide, Tryz.func317.trans (congrArg some (by kernel_rfl))⟩,
  f40 := ⟨Tryz.f319.name, by decide, Tryz.func319.trans (congrArg some (by kernel_rfl))⟩,
  t0 := Tryz.underlying0,
  a0 := Tryz.isAgg0,
  z0 := Tryz.sizeOf0,
  v0 := Tryz.zeroValue0,
  t3 := Tryz.underlying3,
  a3 := Tryz.isAgg3,
  z3 := Tryz.sizeOf3,
  v3 := Tryz.zeroValue3,
  t4 := Tryz.underlying4,
  a4 := Tryz.isAgg4,
  z4 := Tryz.sizeOf4,
  v4 := Tryz.zeroValue4,
  t5 := Tryz.underlying5,
  a5 := Tryz.isAgg5,
  z5 := Tryz.sizeOf5,
  v5 := Tryz.zeroValue5,
  t9 := Tryz.underlying9,
  a9 := Tryz.isAgg9,
  z9 := Tryz.sizeOf9,
  v9 := Tryz.zeroValue9,
  t22 := Tryz.underlying121,
  a22 := Tryz.isAgg121,
  z22 := Tryz.sizeOf121,
  v22 := Tryz.zeroValue121,
  t23 := Tryz.underlying121,
  a23 := Tryz.isAgg121,
  z23 := Tryz.sizeOf121,
  v23 := Tryz.zeroValue121,
  t25 := Tryz.underlying2,
  a25 := Tryz.isAgg2,
  z25 := Tryz.sizeOf2,
  v25 := Tryz.zeroValue2,
  t32 := Tryz.underlying91,
  a32 := Tryz.isAgg91,
  z32 := Tryz.sizeOf91,
  v32 := Tryz.zeroValue91,
  t35 := Tryz.underlying360,
  a35 := Tryz.isAgg360,
  z35 := Tryz.sizeOf360,
  v35 := Tryz.zeroValue360,
  t36 := Tryz.underlying361,
  a36 := Tryz.isAgg361,
  z36 := Tryz.sizeOf361,
  v36 := Tryz.zeroValue361,
  t41 := Tryz.underlying241,
  a41 := Tryz.isAgg241,
  z41 := Tryz.sizeOf241,
  v41 := Tryz.zeroValue241,
  t44 := Tryz.underlying130,
  a44 := Tryz.isAgg130,
  z44 := Tryz.sizeOf130,
  v44 := Tryz.zeroValue130,
  t46 := Tryz.underlying25,
  a46 := Tryz.isAgg25,
  z46 := Tryz.sizeOf25,
  v46 := Tryz.zeroValue25,
  t53 := Tryz.underlying367,
  a53 := Tryz.isAgg367,
  z53 := Tryz.sizeOf367,
  v53 := Tryz.zeroValue367,
  t57 := Tryz.underlying370,
  a57 := Tryz.isAgg370,
  z57 := Tryz.sizeOf370,
  v57 := Tryz.zeroValue370,
  t63 := Tryz.underlying372,
  a63 := Tryz.isAgg372,
  z63 := Tryz.sizeOf372,
  v63 := Tryz.zeroValue372,
  t64 := Tryz.underlying373,
  a64 := Tryz.isAgg373,
  z64 := Tryz.sizeOf373,
  v64 := Tryz.zeroValue373 }
end Go.Proofs.YtlcoibhbdgdfcaaGreatDoor

namespace Go.Proofs.YtlcoibhbdgdfcaaGreatDoor
open Go.RowKit

/-- The k-th coin of a word. -/
def coinB (word k : Nat) : Bool := decide (word / 2 ^ (k % 64) % 2 = 1)
def Tape (w : World) (t word used : Nat) : Prop := Blk w t #[.int .u64 (word : Nat), .int .i64 (used : Nat)] 259
theorem Tape.chg {w w1 : World} {t word used : Nat} {F : List Nat} (h : Tape w t word used) (k : Chg F w w1) (hn : t ∉ F) : Tape w1 t word used := Blk.chg h k hn
theorem and_one64 (c : Nat) (h : c < 18446744073709551616) : bits .and .u64 (c : Int) 1 = ((c % 2 : Nat) : Int) := by
  have := u64_and_nat c 1 h (by omega)
  rw [Nat.and_one_is_mod] at this
  exact this

set_option maxRecDepth 100000 in
theorem coins_new (w : World) (word : Nat) :
    Calls Tryz.prog 93 #[.int .u64 word] w fun e w' => e = .returned (.pointer (some ⟨w.heap.size, 0, none⟩)) ∧ Tape w' w.heap.size word 0 ∧ Chg [] w w' := by
  go_enter Tryz.func93, Tryz.ntmps93
  go_wp2
  go_ret
  exact ⟨rfl, Blk.alloc_new _ _ _, (Chg.refl [] w).alloc _⟩

set_option maxRecDepth 100000 in
theorem coins_next (w : World) (t word used : Nat) (hw : word < 18446744073709551616) (hu : used < 9223372036854775807) (ht : Tape w t word used) :
    Calls Tryz.prog 346 #[.pointer (some ⟨t, 0, none⟩)] w fun e w' => e = .returned (.bool (coinB word used)) ∧ Tape w' t word (used + 1) ∧ Chg [t] w w' := by
  have c0 := ht.cell 0
  have c1 := ht.cell 1
  have f1 := ht.free 1
  have hm : (used : Int).tmod 64 = ((used % 64 : Nat) : Int) := by rw [Int.tmod_eq_emod_of_nonneg (by omega)]; omega
  have hd : word / 2 ^ (used % 64) < 18446744073709551616 := Nat.lt_of_le_of_lt (Nat.div_le_self _ _) hw
  have HB : Hid ((bits .and .u64 ((word : Int) / 2 ^ (used % 64)) 1 == 1) = coinB word used) := Lib.hid (by
    have hb := and_one64 _ hd
    rw [show ((word / 2 ^ (used % 64) : Nat) : Int) = (word : Int) / 2 ^ (used % 64) from by simp] at hb
    rw [hb, coinB, Bool.eq_iff_iff, beq_iff_eq, decide_eq_true_eq]
    omega)
  have HT := Lib.hid ht
  clear hd
  go_enter Tryz.func346, Tryz.ntmps346
  go_wp2
  go_quiet (fail)
  go_wp2
  go_ret
  refine ⟨by rw [← HB.out]; rfl, ?_, Chg.setCell ((Chg.refl [t] w).drewN nq) (.inl (by simp)) _⟩
  exact Blk.setCell (show Blk (w.drewN nq) t _ _ from HT.out) 1 _
theorem coins_next_nil (w : World) :
    Calls Tryz.prog 346 #[.pointer none] w fun e w' => e = .returned (.bool false) ∧ w = w' := by
  go_enter Tryz.func346, Tryz.ntmps346
  go_wp2
  go_ret
  exact ⟨rfl, rfl⟩
theorem coins_used (w : World) (t word used : Nat) (ht : Tape w t word used) :
    Calls Tryz.prog 374 #[.pointer (some ⟨t, 0, none⟩)] w fun e w' => e = .returned (.int .i64 (used : Nat)) ∧ w = w' := by
  have c1 := ht.cell 1
  go_enter Tryz.func374, Tryz.ntmps374
  go_wp2
  go_ret
  exact ⟨rfl, rfl⟩
theorem coins_used_nil (w : World) :
    Calls Tryz.prog 374 #[.pointer none] w fun e w' => e = .returned (.int .i64 0) ∧ w = w' := by
  go_enter Tryz.func374, Tryz.ntmps374
  go_wp2
  go_ret
  exact ⟨rfl, rfl⟩
theorem coins_skip (w : World) (t word used n : Nat) (ht : Tape w t word used) :
    Calls Tryz.prog 113 #[.pointer (some ⟨t, 0, none⟩), .int .i64 n] w fun e w' => e = .returned (.bool true) ∧ Tape w' t word n ∧ Chg [t] w w' := by
  have c1 := ht.cell 1
  have f1 := ht.free 1
  have hn : ¬ (n : Int) < 0 := by omega
  have HT := Lib.hid (ht.setCell 1 (.int .i64 ((n : Nat) : Int)))
  have HC := Lib.hid (Chg.setCell (Chg.refl [t] w) (a := ⟨t, 1, none⟩) (.inl (by simp)) (.int .i64 ((n : Nat) : Int)))
  go_enter Tryz.func113, Tryz.ntmps113
  go_wp2
  go_ret
  exact ⟨rfl, HT.out, HC.out⟩
theorem coins_skip_neg (w : World) (t word used : Nat) (n : Int) (hn : n < 0) (_ht : Tape w t word used) :
    Calls Tryz.prog 113 #[.pointer (some ⟨t, 0, none⟩), .int .i64 n] w fun e w' => e = .returned (.bool false) ∧ w = w' := by
  go_enter Tryz.func113, Tryz.ntmps113
  go_wp2
  go_ret
  exact ⟨rfl, rfl⟩
theorem coins_skip_nil (w : World) (n : Int) :
    Calls Tryz.prog 113 #[.pointer none, .int .i64 n] w fun e w' => e = .returned (.bool false) ∧ w = w' := by
  go_enter Tryz.func113, Tryz.ntmps113
  go_wp2
  go_ret
  exact ⟨rfl, rfl⟩

end Go.Proofs.YtlcoibhbdgdfcaaGreatDoor
