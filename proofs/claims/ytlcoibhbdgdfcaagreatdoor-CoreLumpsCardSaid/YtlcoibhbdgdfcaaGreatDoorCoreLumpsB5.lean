/-
  ogivetop's made, over whatever a sketch of a kind keeps to. Conditions: the form's own reach.
  Rows of sketches of a kind, each in blocks of its own. Conditions: none.
  Rows of int64: their cells. Conditions: none. append as one step of a region that draws its order. Conditions: none. append at an operation that has a guard. Conditions: none. A slice of the program's own, one cell of it set. Conditions: none. A call of a function as one step of a region that draws its order. Conditions: none. A drawn region whose last operation stores what the region's loads have read: the loads may be taken first. Conditions: none. A call at an operation that has a guard, under the walks of drawn regions. Conditions: none.
-/
import Derived.Test.YtlcoibhbdgdfcaaGreatDoorCoreLumpsB3
import Derived.Test.YtlcoibhbdgdfcaaGreatDoorCoreLumpsB4
import Derived.Test.YtlcoibhbdgdfcaaGreatDoorProg
import Derived.Test.YtlcoibhbdgdfcaaGreatDoorCoreLumpsB1
namespace Go.Proofs.YtlcoibhbdgdfcaaGreatDoor
open Go.RowKit

/-- What a kind's sketches keep to: P: the sketch at s, its blocks, a bound, its values; E: bytes that tell of such a one. -/
structure Kd (c : Cf) where
  P : World → Nat → List Nat → Nat → List Vl → Prop
  E : List UInt8 → Nat → List Vl → Prop
  lt : ∀ {w s F B m}, P w s F B m → ∀ b ∈ F, b < w.heap.size
  chg : ∀ {w w1 s F B m G}, P w s F B m → Chg G w w1 → (∀ b ∈ F, b ∉ G) → P w1 s F B m
  mono : ∀ {w s F B B' m}, P w s F B m → B ≤ B' → P w s F B' m
  new : ∀ w, Calls Tryz.prog 26 #[c.val] w fun e w' =>
    (∃ k : Int, k ≠ 0 ∧ e = .returned (.tuple #[.pointer none, .int .i64 k]) ∧ Chg [] w w') ∨
    (∃ s F, e = .returned (.tuple #[.pointer (some ⟨s, 0, none⟩), .int .i64 0]) ∧ P w' s F 0 [] ∧ Chg [] w w' ∧ ∀ b ∈ F, w.heap.size ≤ b)
  put : ∀ {w s F B m}, P w s F B m → B ≤ 7900 → ∀ (x : Int) (n : Nat), -9223372036854775808 ≤ x → x < 9223372036854775808 → n ≤ 20 →
    Calls Tryz.prog 24 #[.pointer (some ⟨s, 0, none⟩), .int .i64 x, .int .u64 (n : Nat)] w fun e w' =>
      ∃ (k : Int) (F' : List Nat), e = .returned (.int .i64 k) ∧ Mv F w F' w' ∧ ((k = 0 ∧ P w' s F' (B + 20) (m ++ [⟨x, n⟩])) ∨ (k ≠ 0 ∧ P w' s F' (B + 20) m))
  bytes : ∀ {w s F B m}, P w s F B m → B ≤ 7900 →
    Calls Tryz.prog 22 #[.pointer (some ⟨s, 0, none⟩)] w fun e w' => ∃ b : List UInt8, e = .returned (.string ⟨b.toArray⟩) ∧ E b B m ∧ Chg [] w w'
  decode : ∀ {b B m}, E b B m → B ≤ 7900 → ∀ w, Calls Tryz.prog 23 #[.string ⟨b.toArray⟩] w fun e w' =>
    (∃ k : Int, k ≠ 0 ∧ e = .returned (.tuple #[.pointer none, .int .i64 k]) ∧ Chg [] w w') ∨
    (∃ s F, e = .returned (.tuple #[.pointer (some ⟨s, 0, none⟩), .int .i64 0]) ∧ P w' s F (B + 64) m ∧ Chg [] w w' ∧ ∀ b ∈ F, w.heap.size ≤ b)
  join : ∀ {w s F B a o G B2 b}, P w s F B a → P w o G B2 b → (∀ x ∈ F, x ∉ G) → B + B2 ≤ 8000 →
    Calls Tryz.prog 38 #[.pointer (some ⟨s, 0, none⟩), .pointer (some ⟨o, 0, none⟩)] w fun e w' =>
      ∃ (k : Int) (F' : List Nat), e = .returned (.int .i64 k) ∧ Mv F w F' w' ∧ (k = 0 → P w' s F' (B + B2) (a ++ b))

theorem under_vlsK : Tryz.prog.underlying 49 = some (.slice 72) := by kernel_rfl
theorem info_vlK : (Tryz.prog.info? 72).map (fun i => (i.zero, i.size, i.bytes)) = some (some (.agg #[.int .i64 0, .int .u64 0]), 2, 16) := by kernel_rfl
/-- What made answers. -/
def MadeQ {c : Cf} (K : Kd c) (w : World) (e : Ending) (w' : World) : Prop :=
  ∃ (sv : Value) (av : Option Addr) (nv cv : Nat) (ok : Bool), e = .returned (.tuple #[sv, .slice av nv cv, .bool ok]) ∧ Chg [] w w' ∧
    (ok = true → ∃ s F m, sv = .pointer (some ⟨s, 0, none⟩) ∧ nv = m.length ∧ m.length ≤ 30 ∧ (∀ v ∈ m, v.ok ∧ v.n ≤ 20) ∧ K.P w' s F 664 m ∧ (∀ b ∈ F, w.heap.size ≤ b) ∧ Rd w' 2 (.slice av nv cv) nv (vlCells m) ∧ ∀ b ∈ abl av, w.heap.size ≤ b)

set_option maxRecDepth 100000 in
set_option maxHeartbeats 4000000 in
theorem made_K (c : Cf) (K : Kd c) (w : World) (ao : Option Addr) (cap n : Nat) (l : List Vl) (hn : n = l.length) (hl : n ≤ 30) (hr : Rd w 2 (.slice ao n cap) n (vlCells l)) (hok : ∀ v ∈ l, v.ok ∧ v.n ≤ 20) (by_ : Bool) :
    Calls Tryz.prog 37 #[c.val, .agg #[.slice ao n cap, .bool by_]] w fun e w' => MadeQ K w e w' := by
  have HN := Lib.hid K.new
  simp only [Cf.val, Cf.cells] at HN ⊢
  have HR := Lib.hid hr
  have HOK := Lib.hid hok
  have HNL := Lib.hid hn
  obtain ⟨q, hq⟩ : ∃ q, q = w.heap.size + 1 := ⟨_, rfl⟩
  have HB0 := Lib.hid (show Blk ((w.alloc (.cells #[.int .i64 c.kind, .int .u64 c.num, .int .u64 c.den, .int .i64 c.side, .int .i64 c.most, .int .i64 c.digits, .int .u64 c.limit, .int .i64 c.depth, .int .i64 c.factor, .int .i64 c.width, .int .u64 c.word] 30)).alloc (.cells #[.slice ao n cap, .bool by_] 67)) q #[.slice ao n cap, .bool by_] 67 from by
    rw [hq, ← World.size_alloc w (.cells #[.int .i64 c.kind, .int .u64 c.num, .int .u64 c.den, .int .i64 c.side, .int .i64 c.most, .int .i64 c.digits, .int .u64 c.limit, .int .i64 c.depth, .int .i64 c.factor, .int .i64 c.width, .int .u64 c.word] 30)]
    exact Blk.alloc_new _ _ _)
  have HC0 := Lib.hid (((Chg.refl [] w).alloc (.cells #[.int .i64 c.kind, .int .u64 c.num, .int .u64 c.den, .int .i64 c.side, .int .i64 c.most, .int .i64 c.digits, .int .u64 c.limit, .int .i64 c.depth, .int .i64 c.factor, .int .i64 c.width, .int .u64 c.word] 30)).alloc (.cells #[.slice ao n cap, .bool by_] 67))
  have HQ := Lib.hid (show w.heap.size ≤ q from by omega)
  clear hr hok hn
  go_enter Tryz.func37, Tryz.ntmps37
  go_wp2_with fail
  rw [← hq]
  clear hq
  generalize (w.alloc (.cells #[.int .i64 c.kind, .int .u64 c.num, .int .u64 c.den, .int .i64 c.side, .int .i64 c.most, .int .i64 c.digits, .int .u64 c.limit, .int .i64 c.depth, .int .i64 c.factor, .int .i64 c.width, .int .u64 c.word] 30)).alloc (.cells #[.slice ao n cap, .bool by_] 67) = w0 at *
  refine (HN.out _).mono ?_
  rintro e w1 (⟨k, hk, rfl, hc⟩ | ⟨s, F, rfl, hP, hc, hF⟩)
  · have hkb : (k != 0) = true := by rw [bne_iff_ne]; exact hk
    have HC := Lib.hid (HC0.out.trans hc)
    clear hc HN HB0 HC0 HR HOK
    go_wp2
    refine bodyPost_ret (v := .tuple #[.pointer none, .slice none 0 0, .bool false]) (by simp [results, Tryz.results37, go_sem]) rfl ?_
    exact ⟨_, none, 0, 0, false, rfl, HC.out, by simp⟩
  · have HB1 := Lib.hid (HB0.out.chg hc (by simp))
    have HC1 := Lib.hid (HC0.out.trans hc)
    have l0 : w1.cell? ⟨q, 0, none⟩ = some (.slice ao n cap) := HB1.out.cell 0
    have HP := Lib.hid hP
    have HF := Lib.hid (show (∀ b ∈ F, w.heap.size ≤ b) ∧ q ∉ F from ⟨fun b hb => Nat.le_trans HC0.out.size (hF b hb), fun e => by have := hF q e; have := HB0.out.lt; omega⟩)
    clear hP hF hc HN HB0 HC0
    go_wp2_with fail
    go_loopw [9, 24] (fun vs i wx => ∃ (k : Nat) (F' : List Nat) (m : List Vl) (av : Option Addr) (cv : Nat), k ≤ n ∧ i = .int .i64 (k : Nat) ∧ vs = .slice av m.length cv ∧ Hid (m.length ≤ k ∧ ∀ v ∈ m, v.ok ∧ v.n ≤ 20) ∧ K.P wx s F' (20 * k) m ∧ Chg [] w wx ∧ Hid ((∀ b ∈ F', w.heap.size ≤ b) ∧ q ∉ F') ∧ Own wx 72 2 (.slice av m.length cv) m.length (vlCells m) ∧ Hid (∀ b ∈ abl av, w.heap.size ≤ b ∧ b ∉ F' ∧ b ≠ q) ∧ Blk wx q #[.slice ao n cap, .bool by_] 67) (fun _ i _ => n - (intOf i).toNat)
    case atStart => exact ⟨0, F, [], none, 0, Nat.zero_le _, rfl, rfl, Lib.hid ⟨Nat.le_refl _, by simp⟩, HP.out, HC1.out, HF, Own.nil _ _ _, Lib.hid (by simp), HB1.out⟩
    case round =>
      obtain ⟨k, F', m, av, cv, hk, rfl, rfl, HM, hP', hC', HF', hO', HA', hB'⟩ := hrel
      have HP' := Lib.hid hP'
      have HC' := Lib.hid hC'
      have HO' := Lib.hid hO'
      have HB' := Lib.hid hB'
      clear hP' hC' hO' hB' HP HF HB1 HC1 l0
      by_cases hlt : k < n
      · have hkl : k < l.length := by have := HNL.out; omega
        obtain ⟨b, o, rfl, hcl⟩ := (HR.out.chg HC'.out (by simp)).addr (by omega)
        obtain ⟨c0, c1⟩ := vl_at (l := l) (fun j hj => hcl j (by rw [HNL.out]; exact hj)) hkl
        have HV := Lib.hid (HOK.out l[k] (List.getElem_mem hkl))
        generalize l[k] = v at *
        clear hcl
        go_wp2_with fail
        refine (K.put (K.chg HP'.out (G := []) (by with_reducible (repeat (first | exact Chg.refl _ _ | apply Chg.alloc | apply Chg.drew))) (by simp)) (by omega) v.x v.n HV.out.1.1 HV.out.1.2.1 HV.out.2).mono ?_
        rintro e w2 ⟨kk, F2, rfl, hm, hP2⟩
        have hwa : Chg [] wr (wr.alloc (.cells #[.int .i64 v.x, .int .u64 v.n] 72)) := (Chg.refl _ _).alloc _
        have hm1 : Mv F' wr F2 w2 := (Mv.of_chg (hwa.mono (by simp))).trans hm
        have HX := Lib.hid (hm1.chg)
        have HF2 := Lib.hid (show (∀ b ∈ F2, w.heap.size ≤ b) ∧ q ∉ F2 from ⟨fun b hb => by
          rcases hm1.fr b hb with h1 | h1
          · exact HF'.out.1 b h1
          · exact Nat.le_trans HC'.out.size h1, fun e => by
          rcases hm1.fr q e with h1 | h1
          · exact HF'.out.2 h1
          · have := HB'.out.lt; omega⟩)
        have HC2 := Lib.hid (HC'.out.trans' hm1.chg (fun b hb => .inr (HF'.out.1 b hb)))
        have HO2 := Lib.hid (HO'.out.chg hm1.chg (fun b hb e => (HA'.out b (by simpa using hb)).2.1 e))
        have HA2 := Lib.hid (show ∀ b ∈ abl av, w.heap.size ≤ b ∧ b ∉ F2 ∧ b ≠ q from fun b hb => ⟨(HA'.out b hb).1, fun e => by
          rcases hm1.fr b e with h1 | h1
          · exact (HA'.out b hb).2.1 h1
          · have := HO'.out.lt b (by simpa using hb); omega, (HA'.out b hb).2.2⟩)
        have HB2 := Lib.hid (HB'.out.chg hm1.chg HF'.out.2)
        rcases hP2 with ⟨rfl, hP2⟩ | ⟨hkk, hP2⟩
        · have HP2 := Lib.hid hP2
          have HVB := (Blk.alloc_new wr #[.int .i64 v.x, .int .u64 v.n] 72).chg hm.chg (fun e => absurd (K.lt HP'.out _ e) (by omega))
          have v0 := HVB.cell 0
          have v1 := HVB.cell 1
          have hmL : m.length ≤ 30 := by have := HM.out.1; omega
          clear hm1 hm hP2 hwa HX c0 c1 HVB
          go_wp2_with (at_builtin; go_must (refine wpList_append_src _ rfl (.tmp 35) (.tmp 37) 49 49 rfl 72 _ 2 16 under_vlsK info_vlK rfl (by decide) (.slice av m.length cv) m.length (vlCells m) rfl (HO2.out.chg (F := []) ((Chg.refl [] _).alloc _) (by simp)) (.slice (some ⟨w2.heap.size, 0, none⟩) 1 1) 1 (vlCells [v]) rfl (Src.of_rd under_vlsK (Rd.lit w2 #[.int .i64 v.x, .int .u64 v.n] 72 2 1 1 rfl)) (vlCells_oneCell _) (by unfold maxLen; omega) (by omega) ?_; intro a5 c5 w3 ho3 hg3 hf3))
          have hk3 : Chg (abl av) w2 w3 := (((Chg.refl [] w2).alloc _).nil).trans (hg3.mono (fun b hb => .inl (by simpa using hb)))
          have hlen : (m ++ [v]).length = m.length + 1 := by simp
          refine ⟨⟨k + 1, F2, m ++ [v], a5, c5, hlt, by go_num, by rw [hlen], Lib.hid ⟨by rw [hlen]; have := HM.out.1; omega, fun u hu => ?_⟩, K.chg (K.mono HP2.out (by omega)) hk3 (fun b hb e => (HA2.out b e).2.1 hb), HC2.out.trans' hk3 (fun b hb => .inr (HA2.out b hb).1), HF2, ?_, Lib.hid (fun b hb => ?_), HB2.out.chg hk3 (fun e => (HA2.out q e).2.2 rfl)⟩, by simp [intOf]; omega⟩
          · rcases List.mem_append.1 hu with hu | hu
            · exact HM.out.2 u hu
            · rw [List.mem_singleton.1 hu]; exact HV.out
          · rw [hlen, show vlCells (m ++ [v]) = vlCells m ++ vlCells [v] from by simp [vlCells]]
            exact ho3
          · rcases hf3 b hb with h1 | h1
            · exact HA2.out b (by simpa using h1)
            · simp only [World.size_alloc] at h1
              have h2 := HC2.out.size
              exact ⟨by omega, fun e => by have := K.lt HP2.out b e; omega, fun e => by have := HB2.out.lt; omega⟩
        · have hkb : (kk == 0) = false := by rw [beq_eq_false_iff_ne]; exact hkk
          have HP2 := Lib.hid hP2
          clear hm1 hm hP2 hwa hkk HX c0 c1
          go_wp2
          exact ⟨⟨k + 1, F2, m, av, cv, hlt, by go_num, rfl, Lib.hid ⟨Nat.le_succ_of_le HM.out.1, HM.out.2⟩, K.mono HP2.out (by omega), HC2.out, HF2, HO2.out, HA2, HB2.out⟩, by simp [intOf]; omega⟩
      · obtain rfl : k = n := by omega
        have l1 : wr.cell? ⟨q, 1, none⟩ = some (.bool by_) := HB'.out.cell 1
        have hmL : m.length ≤ 30 := by have := HM.out.1; omega
        cases by_ with
        | false =>
          go_wp2
          refine bodyPost_ret (v := .tuple #[.pointer (some ⟨s, 0, none⟩), .slice av m.length cv, .bool true]) (by simp [results, Tryz.results37, go_sem]) rfl ?_
          exact ⟨_, av, m.length, cv, true, rfl, HC'.out, fun _ => ⟨s, F', m, rfl, rfl, hmL, HM.out.2, K.mono HP'.out (by omega), HF'.out.1, HO'.out.rd, fun b hb => (HA'.out b hb).1⟩⟩
        | true =>
          go_wp2_with fail
          refine (K.bytes HP'.out (by omega)).mono ?_
          rintro e w2 ⟨bs, rfl, hE, hc2⟩
          have HE := Lib.hid hE
          have HC2 := Lib.hid (HC'.out.trans hc2)
          have HO2 := Lib.hid (HO'.out.chg hc2 (by simp))
          clear hE hc2 HC' HO' HP'
          go_wp2_with fail
          refine (K.decode HE.out (by omega) _).mono ?_
          rintro e w3 (⟨kk, hkk, rfl, hc3⟩ | ⟨s', F3, rfl, hP3, hc3, hF3⟩)
          · have hkb : (kk == 0) = false := by rw [beq_eq_false_iff_ne]; exact hkk
            have HC3 := Lib.hid (HC2.out.trans hc3)
            clear hc3 hkk
            go_wp2
            refine bodyPost_ret (v := .tuple #[.pointer none, .slice av m.length cv, .bool false]) (by simp [results, Tryz.results37, go_sem]) rfl ?_
            exact ⟨_, av, m.length, cv, false, rfl, HC3.out, by simp⟩
          · have HC3 := Lib.hid (HC2.out.trans hc3)
            have HO3 := Lib.hid (HO2.out.chg hc3 (by simp))
            have HP3 := Lib.hid hP3
            have HF3 := Lib.hid hF3
            clear hc3 hP3 hF3
            go_wp2
            refine bodyPost_ret (v := .tuple #[.pointer (some ⟨s', 0, none⟩), .slice av m.length cv, .bool true]) (by simp [results, Tryz.results37, go_sem]) rfl ?_
            exact ⟨_, av, m.length, cv, true, rfl, HC3.out, fun _ => ⟨s', F3, m, rfl, rfl, hmL, HM.out.2, K.mono HP3.out (by omega), fun b hb => Nat.le_trans HC2.out.size (HF3.out b hb), HO3.out.rd, fun b hb => (HA'.out b hb).1⟩⟩
end Go.Proofs.YtlcoibhbdgdfcaaGreatDoor

namespace Go.Proofs.YtlcoibhbdgdfcaaGreatDoor
open Go.RowKit

/-- A sketch in a row: where it stands, its blocks, its bound, its values. -/
structure Nd where
  s : Nat
  F : List Nat
  B : Nat
  m : List Vl
structure Row {c : Cf} (K : Kd c) (w : World) (R : List Nd) : Prop where
  each : ∀ r ∈ R, K.P w r.s r.F r.B r.m
  apart : R.Pairwise fun a b => (∀ x ∈ a.F, x ∉ b.F)
def valsOf (R : List Nd) : List Vl := R.flatMap Nd.m
def boundOf (R : List Nd) : Nat := (R.map Nd.B).sum
theorem valsOf_app (X Y : List Nd) : valsOf (X ++ Y) = valsOf X ++ valsOf Y := by simp [valsOf]
theorem boundOf_app (X Y : List Nd) : boundOf (X ++ Y) = boundOf X + boundOf Y := by simp [boundOf]
namespace Row
variable {c : Cf} {K : Kd c} {w w1 : World} {R X Y : List Nd}
theorem chg {G : List Nat} (h : Row K w R) (k : Chg G w w1) (hG : ∀ r ∈ R, ∀ x ∈ r.F, x ∉ G) : Row K w1 R := ⟨fun r hr => K.chg (h.each r hr) k (hG r hr), h.apart⟩
theorem nil (h : Row K w R) (k : Chg [] w w1) : Row K w1 R := h.chg k (by simp)
theorem snoc (h : Row K w R) (k : Chg [] w w1) {r : Nd} (hr : K.P w1 r.s r.F r.B r.m) (hf : ∀ x ∈ r.F, w.heap.size ≤ x) : Row K w1 (R ++ [r]) := by
  refine ⟨fun q hq => ?_, ?_⟩
  · rcases List.mem_append.1 hq with hq | hq
    · exact (h.nil k).each q hq
    · rw [List.mem_singleton.1 hq]; exact hr
  · rw [List.pairwise_append]
    refine ⟨h.apart, by simp, fun q hq p hp x hx hx2 => ?_⟩
    rw [List.mem_singleton.1 hp] at hx2
    have h1 := K.lt (h.each q hq) x hx
    have h2 := hf x hx2
    omega
theorem join {a b : Nd} {F' : List Nat} (h : Row K w (X ++ a :: b :: Y)) (hm : Mv a.F w F' w1) (hP : K.P w1 a.s F' (a.B + b.B) (a.m ++ b.m)) : Row K w1 (X ++ ⟨a.s, F', a.B + b.B, a.m ++ b.m⟩ :: Y) := by
  have hp := h.apart
  rw [List.pairwise_append] at hp
  obtain ⟨hX, hY, hXY⟩ := hp
  rw [List.pairwise_cons] at hY
  obtain ⟨ha, hbY⟩ := hY
  rw [List.pairwise_cons] at hbY
  have hXa : ∀ r ∈ X, ∀ x ∈ r.F, x ∉ a.F := fun r hr => hXY r hr a (by simp)
  have hYa : ∀ r ∈ Y, ∀ x ∈ r.F, x ∉ a.F := fun r hr x hx hx2 => ha r (by simp [hr]) x hx2 hx
  have nF : ∀ r : Nd, r ∈ X ++ a :: b :: Y → (∀ x ∈ r.F, x ∉ a.F) → ∀ x ∈ r.F, x ∉ F' := fun r hr hd => hm.apart hd (K.lt (h.each r hr))
  refine ⟨fun r hr => ?_, ?_⟩
  · rcases List.mem_append.1 hr with hr | hr
    · exact K.chg (h.each r (by simp [hr])) hm.chg (hXa r hr)
    · rcases List.mem_cons.1 hr with rfl | hr
      · exact hP
      · exact K.chg (h.each r (by simp [hr])) hm.chg (hYa r hr)
  · rw [List.pairwise_append, List.pairwise_cons]
    refine ⟨hX, ⟨fun r hr x hx hx2 => nF r (by simp [hr]) (hYa r hr) x hx2 hx, hbY.2⟩, fun r hr q hq => ?_⟩
    rcases List.mem_cons.1 hq with rfl | hq
    · exact nF r (by simp [hr]) (hXa r hr)
    · exact hXY r hr q (by simp [hq])
end Row
end Go.Proofs.YtlcoibhbdgdfcaaGreatDoor

namespace Go.Proofs.YtlcoibhbdgdfcaaGreatDoor
open Go.RowKit

end Go.Proofs.YtlcoibhbdgdfcaaGreatDoor

namespace Go.Proofs.YtlcoibhbdgdfcaaGreatDoor
open Go.RowKit

end Go.Proofs.YtlcoibhbdgdfcaaGreatDoor

namespace Go.Proofs.YtlcoibhbdgdfcaaGreatDoor
open Go.RowKit

end Go.Proofs.YtlcoibhbdgdfcaaGreatDoor

namespace Go.Proofs.YtlcoibhbdgdfcaaGreatDoor
open Go.RowKit

end Go.Proofs.YtlcoibhbdgdfcaaGreatDoor

namespace Go.Proofs.YtlcoibhbdgdfcaaGreatDoor
open Go.RowKit

section
variable {P : Program} {ops : Array Oper} {Q : Exit → Act → World → Prop} {md : Region.Mode} {S : World → Prop} {st : Nat}

end

section
variable {P : Program} {l : List Oper} {Q : Exit → Act → World → Prop} {md : Region.Mode} {S : World → Prop} {st : Nat}
end
end Go.Proofs.YtlcoibhbdgdfcaaGreatDoor

namespace Go.Proofs.YtlcoibhbdgdfcaaGreatDoor
open Go.RowKit

end Go.Proofs.YtlcoibhbdgdfcaaGreatDoor
