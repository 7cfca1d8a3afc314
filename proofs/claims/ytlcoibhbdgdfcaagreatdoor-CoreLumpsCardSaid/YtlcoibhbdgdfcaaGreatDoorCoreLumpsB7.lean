/-
  ogivetop's tree, over whatever a sketch of a kind keeps to. Conditions: the form's own reach.
-/
import Derived.Test.YtlcoibhbdgdfcaaGreatDoorCoreLumpsB5
import Derived.Test.YtlcoibhbdgdfcaaGreatDoorCoreLumpsB6
import Derived.Shelf.Abstract
namespace Go.Proofs.YtlcoibhbdgdfcaaGreatDoor
open Go.RowKit

/-- A leaf that came in. -/
structure Lf where
  ao : Option Addr
  cap : Nat
  l : List Vl
  by_ : Bool
def Lf.cells (f : Lf) : List Value := [.slice f.ao f.l.length f.cap, .bool f.by_]
def lfCells (fs : List Lf) : List Value := (fs.map Lf.cells).flatten
theorem lfCells_get (l : List Lf) (k j : Nat) (hk : k < l.length) (hj : j < 2) : (lfCells l)[k * 2 + j]? = (l[k].cells)[j]? := by
  induction l generalizing k with
  | nil => simp at hk
  | cons a r ih =>
    cases k with
    | zero =>
      simp only [lfCells, List.map_cons, List.flatten_cons, Nat.zero_mul, Nat.zero_add, List.getElem_cons_zero]
      rw [List.getElem?_append_left (by simpa [Lf.cells] using hj)]
    | succ k =>
      have := ih k (by simpa using hk)
      simp only [lfCells, List.map_cons, List.flatten_cons, List.getElem_cons_succ] at *
      rw [List.getElem?_append_right (by simp [Lf.cells]; omega), ← this]
      congr 1
      simp [Lf.cells]
      omega
theorem lf_at {w : World} {b o k : Nat} {l : List Lf} (hc : ∀ j, j < l.length * 2 → w.cell? ⟨b, o + j, none⟩ = (lfCells l)[j]?) (h : k < l.length) :
    w.cell? ⟨b, o + k * 2, none⟩ = some (.slice l[k].ao l[k].l.length l[k].cap) ∧ w.cell? ⟨b, o + k * 2 + 1, none⟩ = some (.bool l[k].by_) := by
  have g : ∀ j, j < 2 → w.cell? ⟨b, o + k * 2 + j, none⟩ = (l[k].cells)[j]? := fun j hj => by
    rw [← lfCells_get l k j h hj, ← hc (k * 2 + j) (by omega), Nat.add_assoc]
  exact ⟨g 0 (by omega), g 1 (by omega)⟩
/-- Leaves as they came in, few, of few values. -/
structure Lfs (w : World) (fs : List Lf) : Prop where
  rd : ∀ f ∈ fs, Rd w 2 (.slice f.ao f.l.length f.cap) f.l.length (vlCells f.l)
  len : ∀ f ∈ fs, f.l.length ≤ 30
  ok : ∀ f ∈ fs, ∀ v ∈ f.l, v.ok ∧ v.n ≤ 20
def ptrs (R : List Nd) : List Value := R.map fun r => .pointer (some ⟨r.s, 0, none⟩)
theorem ptrs_len (R : List Nd) : (ptrs R).length = R.length := by simp [ptrs]
theorem ptrs_oneCell (R : List Nd) : ∀ y ∈ ptrs R, y.oneCell' = true := by
  intro y hy
  simp only [ptrs, List.mem_map] at hy
  obtain ⟨r, -, rfl⟩ := hy
  rfl
theorem under_skp : Tryz.prog.underlying 89 = some (.slice 48) := by kernel_rfl
theorem info_skp : (Tryz.prog.info? 48).map (fun i => (i.zero, i.size, i.bytes)) = some (some (.pointer none), 1, 8) := by kernel_rfl
/-- What tree answers. -/
def TreeQ {c : Cf} (K : Kd c) (w : World) (e : Ending) (w' : World) : Prop :=
  ∃ (sv : Value) (av : Option Addr) (nv cv : Nat) (ok : Bool), e = .returned (.tuple #[sv, .slice av nv cv, .bool ok]) ∧ Chg [] w w' ∧
    (ok = true → ∃ s F m, sv = .pointer (some ⟨s, 0, none⟩) ∧ nv = m.length ∧ m.length ≤ 360 ∧ (∀ v ∈ m, v.ok ∧ v.n ≤ 20) ∧ K.P w' s F 7968 m ∧ Rd w' 2 (.slice av nv cv) nv (vlCells m))
def OkV (m : List Vl) : Prop := ∀ v ∈ m, v.ok ∧ v.n ≤ 20
/-- What is apart in tree's first loop. -/
structure Ap (B : Nat) (R : List Nd) (ro av : Option Addr) : Prop where
  f : ∀ r ∈ R, ∀ x ∈ r.F, B ≤ x
  row : ∀ b ∈ abl ro, B ≤ b ∧ ∀ r ∈ R, b ∉ r.F
  all : ∀ b ∈ abl av, B ≤ b ∧ (∀ r ∈ R, b ∉ r.F) ∧ b ∉ abl ro
set_option maxRecDepth 100000 in
theorem step_bP0 {ops : Array Oper} {w : World} {o : Oper} {a : Act} {K : Act → World → Prop} {Q : Exit → Act → World → Prop} {E : Prop} (hg : o.guard = none)
    (ho : o.op = .buildSlice 89 0 #[])
    (h : ∀ g w', Own w' 48 1 (.slice (some ⟨g, 0, none⟩) 0 0) 0 [] → Chg [] w w' → w.heap.size ≤ g → K (a.put o.dst (.slice (some ⟨g, 0, none⟩) 0 0)) w') :
    if Region.wanted o (yielded ops a.tmps) = true then Oper.wp Tryz.prog o a w K Q else E := by
  obtain ⟨dst, op, ty, pos, af, gd⟩ := o
  simp only at hg ho h
  subst hg ho
  have H := h w.heap.size (w.alloc (.cells #[] 48)) (Own.lit w 48 1 0 #[] rfl (by decide)) ((Chg.refl [] w).alloc _) (Nat.le_refl _)
  clear h
  go_simp
  exact H
theorem Rd.pre {w : World} {g o n c k : Nat} {xs : List Value} (h : Rd w 1 (.slice (some ⟨g, o, none⟩) n c) n xs) (hk : k ≤ n) (c' : Nat) : Rd w 1 (.slice (some ⟨g, o, none⟩) k c') k (xs.take k) := by
  have hl := h.1
  refine ⟨by rw [List.length_take]; omega, _, _, rfl, ?_⟩
  by_cases h0 : k = 0
  · exact .inl h0
  · obtain ⟨b', o', he, hc⟩ := h.addr (by omega)
    simp only [Option.some.injEq, Addr.mk.injEq, and_true] at he
    obtain ⟨rfl, rfl⟩ := he
    exact .inr ⟨_, _, rfl, fun j hj => by rw [hc j (by omega), List.getElem?_take, if_pos (by omega)]⟩
theorem Rd.suf {w : World} {g o n c k : Nat} {xs : List Value} (h : Rd w 1 (.slice (some ⟨g, o, none⟩) n c) n xs) (hk : k ≤ n) (hnc : n ≤ c) (c' : Nat) : Rd w 1 (.slice (if c = k then some ⟨g, o, none⟩ else some ⟨g, o + k, none⟩) (n - k) c') (n - k) (xs.drop k) := by
  have hl := h.1
  refine ⟨by rw [List.length_drop]; omega, _, _, rfl, ?_⟩
  by_cases h0 : n - k = 0
  · exact .inl h0
  · obtain ⟨b', o', he, hc⟩ := h.addr (by omega)
    simp only [Option.some.injEq, Addr.mk.injEq, and_true] at he
    obtain ⟨rfl, rfl⟩ := he
    rw [if_neg (by omega)]
    exact .inr ⟨_, _, rfl, fun j hj => by rw [Nat.add_assoc, hc (k + j) (by omega), List.getElem?_drop]⟩
theorem enters_tjoin : ∀ (args : Array Value) (w : World), (callFunc 38 args).run Tryz.prog w = .ok (.enter 38 args) w := enters_of Tryz.func38 (by kernel_rfl) rfl
set_option maxRecDepth 100000 in
set_option maxHeartbeats 4000000 in
theorem tree_K (c : Cf) (K : Kd c) (w : World) (lo : Option Addr) (lc n : Nat) (fs : List Lf) (hn : n = fs.length) (hn12 : n ≤ 12) (hr : Rd w 2 (.slice lo n lc) n (lfCells fs)) (hf : Lfs w fs)
    (po : Option Addr) (pc np : Nat) (ps : List Int) (hnp : np = ps.length) (hrp : Rd w 1 (.slice po np pc) np (ints ps)) (hnp2 : np ≤ 140737488351232) :
    Calls Tryz.prog 14 #[c.val, .slice lo n lc, .slice po np pc] w fun e w' => TreeQ K w e w' := by
  simp only [Cf.val, Cf.cells]
  have HR := Lib.hid hr
  have HF := Lib.hid hf
  have HN := Lib.hid hn
  have HRP := Lib.hid hrp
  have HNP := Lib.hid hnp
  obtain ⟨q, hq⟩ : ∃ q, q = w.heap.size := ⟨_, rfl⟩
  have HB0 := Lib.hid (show Blk (w.alloc (.cells c.cells 30)) q c.cells 30 from by rw [hq]; exact Blk.alloc_new _ _ _)
  have HC0 := Lib.hid ((Chg.refl [] w).alloc (.cells c.cells 30))
  simp only [Cf.cells] at HB0 HC0
  clear hr hf hn hrp hnp
  go_enter Tryz.func14, Tryz.ntmps14
  go_wp2_with fail
  rw [← hq]
  clear hq
  generalize w.alloc (.cells #[.int .i64 c.kind, .int .u64 c.num, .int .u64 c.den, .int .i64 c.side, .int .i64 c.most, .int .i64 c.digits, .int .u64 c.limit, .int .i64 c.depth, .int .i64 c.factor, .int .i64 c.width, .int .u64 c.word] 30) = w0 at *
  have HLT := Lib.hid HB0.out.lt
  go_loopw [9, 10, 20] (fun row all i wx => ∃ (k : Nat) (R : List Nd) (ro av : Option Addr) (rc cv : Nat), k ≤ n ∧ i = .int .i64 (k : Nat) ∧ row = .slice ro R.length rc ∧ all = .slice av (valsOf R).length cv ∧
    Hid (R.length = k ∧ boundOf R ≤ 664 * k ∧ (valsOf R).length ≤ 30 * k ∧ OkV (valsOf R)) ∧ Hid (Row K wx R) ∧ Hid (Own wx 48 1 (.slice ro R.length rc) R.length (ptrs R)) ∧
    Hid (Own wx 72 2 (.slice av (valsOf R).length cv) (valsOf R).length (vlCells (valsOf R))) ∧ Hid (Ap w0.heap.size R ro av) ∧ Hid (Chg [] w0 wx)) (fun _ _ i _ => n - (intOf i).toNat)
  case atStart => exact ⟨0, [], none, none, 0, 0, Nat.zero_le _, rfl, rfl, rfl, Lib.hid ⟨rfl, by simp [boundOf], by simp [valsOf], by simp [OkV, valsOf]⟩, Lib.hid ⟨by simp, by simp⟩, Lib.hid (Own.nil _ _ _), Lib.hid (Own.nil _ _ _), Lib.hid ⟨by simp, by simp, by simp⟩, Lib.hid (Chg.refl _ _)⟩
  case round =>
    obtain ⟨k, R, ro, av, rc, cv, hk, rfl, rfl, rfl, HM, HRW, HOR, HOA, HAP, HC⟩ := hrel
    by_cases hlt : k < n
    · have hkl : k < fs.length := by have := HN.out; omega
      obtain ⟨b, o, rfl, hcl⟩ := (HR.out.chg (HC0.out.trans HC.out) (by simp)).addr (by omega)
      obtain ⟨l0, l1⟩ := lf_at (l := fs) (fun j hj => hcl j (by rw [HN.out]; exact hj)) hkl
      have g1 := HF.out.rd fs[k] (List.getElem_mem hkl)
      have g2 := HF.out.len fs[k] (List.getElem_mem hkl)
      have g3 := HF.out.ok fs[k] (List.getElem_mem hkl)
      have G := Lib.hid (fun u (hu : Chg [] w u) => made_K c K u fs[k].ao fs[k].cap fs[k].l.length fs[k].l rfl g2 (g1.chg hu (by simp)) g3 fs[k].by_)
      generalize fs[k] = f at *
      clear hcl g1 g2 g3
      obtain ⟨z0, z1, z2, z3, z4, z5, z6, z7, z8, z9, z10⟩ := cf_cells (c := c) (b := q) (HB0.out.chg (HC.out.alloc (.cells #[.slice f.ao f.l.length f.cap, .bool f.by_] 67)) (by simp))
      go_wp2_with fail
      refine (G.out _ ((HC0.out.trans HC.out).alloc _)).mono ?_
      rintro e w2 ⟨sv, av2, nv, cv2, ok, rfl, hc2, hok⟩
      have HC2 := Lib.hid ((HC.out.alloc (.cells #[.slice f.ao f.l.length f.cap, .bool f.by_] 67)).trans hc2)
      clear z0 z1 z2 z3 z4 z5 z6 z7 z8 z9 z10 l0 l1 G
      cases ok with
      | false =>
        clear hok hc2
        go_wp2
        refine bodyPost_ret (v := .tuple #[.pointer none, .slice none 0 0, .bool false]) (by simp [results, Tryz.results14, go_sem]) rfl ?_
        exact ⟨_, none, 0, 0, false, rfl, HC0.out.trans HC2.out, by simp⟩
      | true =>
        obtain ⟨s', F2, m, rfl, hnv, hm30, hmo, hP2, hF2, hrd, hab⟩ := hok rfl
        subst hnv
        clear hok
        have HX := Lib.hid hc2
        have HP2 := Lib.hid hP2
        have HF2 := Lib.hid hF2
        have HRD := Lib.hid hrd
        have HAB := Lib.hid hab
        clear hc2 hP2 hF2 hrd hab
        have hRl : R.length ≤ 12 ∧ (valsOf R).length ≤ 360 := by have := HM.out; omega
        have HRO2 := Lib.hid ((HOR.out.chg (HX.out |> fun h => ((Chg.refl [] wr).alloc (.cells #[.slice f.ao f.l.length f.cap, .bool f.by_] 67)).trans h) (by simp)))
        have HVO2 := Lib.hid ((HOA.out.chg (HX.out |> fun h => ((Chg.refl [] wr).alloc (.cells #[.slice f.ao f.l.length f.cap, .bool f.by_] 67)).trans h) (by simp)))
        go_wp2_with (at_builtin; first | (refine wpList_append_src _ rfl (.tmp 33) (.tmp 35) 89 89 rfl 48 _ 1 8 under_skp info_skp rfl (by decide) (.slice ro R.length rc) R.length (ptrs R) rfl (HRO2.out.chg (F := []) ((Chg.refl [] _).alloc _) (by simp)) (.slice (some ⟨w2.heap.size, 0, none⟩) 1 1) 1 [.pointer (some ⟨s', 0, none⟩)] rfl (Src.of_rd under_skp (Rd.lit1 w2 (.pointer (some ⟨s', 0, none⟩)) 48 1)) (by simp [Value.oneCell']) (by unfold maxLen; omega) (by omega) ?_; intro a5 c5 w3 ho3 hg3 hf3; have HK3 := Lib.hid (show Chg (abl ro) w2 w3 from (((Chg.refl [] w2).alloc _).nil).trans (hg3.mono (fun b hb => .inl (by simpa using hb))))) | (have _h := HK3.out; go_must (refine wpList_append_src _ rfl (.tmp 37) (.tmp 38) 49 49 rfl 72 _ 2 16 under_vlsK info_vlK rfl (by decide) (.slice av (valsOf R).length cv) (valsOf R).length (vlCells (valsOf R)) rfl (HVO2.out.chg HK3.out (fun b hb => (HAP.out.all b (by simpa using hb)).2.2)) (.slice av2 m.length cv2) m.length (vlCells m) rfl (Src.of_rd under_vlsK (HRD.out.chg HK3.out (fun b hb e => by have h1 := HAB.out b (by simpa using hb); have h2 := HOR.out.lt b (by simpa using e); simp only [World.size_alloc] at h1; omega))) (vlCells_oneCell _) (by unfold maxLen; omega) (by omega) ?_; intro a6 c6 w4 ho4 hg4 hf4)))
        have k12 : Chg [] wr w2 := ((Chg.refl [] wr).alloc _).trans HX.out
        have hsz : w0.heap.size ≤ wr.heap.size ∧ wr.heap.size ≤ w2.heap.size := ⟨HC.out.size, k12.size⟩
        have hF2 : ∀ b ∈ F2, wr.heap.size ≤ b := fun b hb => by have := HF2.out b hb; simp only [World.size_alloc] at this; omega
        have k34 : Chg (abl av) w3 w4 := hg4.mono (fun b hb => .inl (by simpa using hb))
        have hro : ∀ b ∈ abl ro, b < wr.heap.size := fun b hb => HOR.out.lt b (by simpa using hb)
        have hav : ∀ b ∈ abl av, b < wr.heap.size := fun b hb => HOA.out.lt b (by simpa using hb)
        have h5 : ∀ b ∈ abl a5, b ∈ abl ro ∨ w2.heap.size ≤ b := fun b hb => by
          rcases hf3 b hb with h1 | h1
          · exact .inl (by simpa using h1)
          · exact .inr (by simp only [World.size_alloc] at h1; omega)
        have h6 : ∀ b ∈ abl a6, b ∈ abl av ∨ w3.heap.size ≤ b := fun b hb => by
          rcases hf4 b hb with h1 | h1
          · exact .inl (by simpa using h1)
          · exact .inr h1
        have hRr : Row K w2 (R ++ [⟨s', F2, 664, m⟩]) := HRW.out.snoc k12 HP2.out hF2
        have hl2 : ∀ r ∈ R ++ [(⟨s', F2, 664, m⟩ : Nd)], ∀ x ∈ r.F, x < w2.heap.size := fun r hr => K.lt (hRr.each r hr)
        have dro : ∀ r ∈ R ++ [(⟨s', F2, 664, m⟩ : Nd)], ∀ x ∈ r.F, x ∉ abl ro := fun r hr x hx hx2 => by
          rcases List.mem_append.1 hr with hr | hr
          · exact (HAP.out.row x hx2).2 r hr hx
          · rw [List.mem_singleton.1 hr] at hx; have := hF2 x hx; have := hro x hx2; omega
        have dav : ∀ r ∈ R ++ [(⟨s', F2, 664, m⟩ : Nd)], ∀ x ∈ r.F, x ∉ abl av := fun r hr x hx hx2 => by
          rcases List.mem_append.1 hr with hr | hr
          · exact (HAP.out.all x hx2).2.1 r hr hx
          · rw [List.mem_singleton.1 hr] at hx; have := hF2 x hx; have := hav x hx2; omega
        have eR : (R ++ [(⟨s', F2, 664, m⟩ : Nd)]).length = R.length + 1 := by simp
        have eV : valsOf (R ++ [(⟨s', F2, 664, m⟩ : Nd)]) = valsOf R ++ m := by simp [valsOf]
        have s3 : w2.heap.size ≤ w3.heap.size := HK3.out.size
        refine ⟨⟨k + 1, R ++ [⟨s', F2, 664, m⟩], a5, a6, c5, c6, hlt, by go_num, by rw [eR], by rw [eV, List.length_append], Lib.hid ⟨by rw [eR, HM.out.1], ?_, ?_, ?_⟩, Lib.hid ((hRr.chg HK3.out dro).chg k34 dav), Lib.hid ?_, Lib.hid ?_, Lib.hid ⟨?_, ?_, ?_⟩, Lib.hid ((HC2.out.trans' HK3.out (fun b hb => .inr (HAP.out.row b hb).1)).trans' k34 (fun b hb => .inr (HAP.out.all b hb).1))⟩, by simp [intOf]; omega⟩
        · have := HM.out.2.1; rw [boundOf_app]; simp only [boundOf, List.map_cons, List.map_nil, List.sum_cons, List.sum_nil] at this ⊢; omega
        · have := HM.out.2.2.1; rw [eV, List.length_append]; omega
        · rw [eV]; intro v hv; rcases List.mem_append.1 hv with hv | hv
          · exact HM.out.2.2.2 v hv
          · exact hmo v hv
        · rw [eR, show ptrs (R ++ [(⟨s', F2, 664, m⟩ : Nd)]) = ptrs R ++ [.pointer (some ⟨s', 0, none⟩)] from by simp [ptrs]]
          exact ho3.chg k34 (fun b hb e => by
            rcases h5 b (by simpa using hb) with h1 | h1
            · exact (HAP.out.all b e).2.2 h1
            · have := hav b e; omega)
        · rw [eV, show vlCells (valsOf R ++ m) = vlCells (valsOf R) ++ vlCells m from by simp [vlCells], List.length_append]
          exact ho4
        · intro r hr x hx
          rcases List.mem_append.1 hr with hr | hr
          · exact HAP.out.f r hr x hx
          · rw [List.mem_singleton.1 hr] at hx; have := hF2 x hx; omega
        · intro b hb
          rcases h5 b hb with h1 | h1
          · exact ⟨(HAP.out.row b h1).1, fun r hr hx => dro r hr b hx h1⟩
          · exact ⟨by omega, fun r hr hx => by have := hl2 r hr b hx; omega⟩
        · intro b hb
          rcases h6 b hb with h1 | h1
          · refine ⟨(HAP.out.all b h1).1, fun r hr hx => dav r hr b hx h1, fun e => ?_⟩
            rcases h5 b e with h2 | h2
            · exact (HAP.out.all b h1).2.2 h2
            · have := hav b h1; omega
          · refine ⟨by omega, fun r hr hx => by have := hl2 r hr b hx; omega, fun e => ?_⟩
            have := ho3.lt b (by simpa using e)
            omega
    · obtain rfl : k = n := by omega
      go_wp2_with fail
      have HM2 := Lib.hid (show (valsOf R).length ≤ 360 ∧ OkV (valsOf R) from ⟨by have := HM.out; omega, HM.out.2.2.2⟩)
      obtain ⟨M, hM⟩ : ∃ M, M = valsOf R := ⟨_, rfl⟩
      have HRL := Lib.hid (show R.length = k ∧ boundOf R ≤ 7968 from by have := HM.out; omega)
      have HAV := Lib.hid HAP.out.all
      clear HM
      go_loopw [9, 16, 17] (fun row kx _ wx => ∃ (j : Nat) (R2 : List Nd) (ro2 : Option Addr) (rc2 : Nat), kx = .int .i64 (j : Nat) ∧ j ≤ 12 ∧ row = .slice ro2 R2.length rc2 ∧
        Hid (j + R2.length = k ∨ (k = 0 ∧ j = 0 ∧ R2 = [])) ∧ Hid (1 ≤ R2.length ∨ k = 0) ∧ Hid (valsOf R2 = valsOf R ∧ boundOf R2 ≤ 7968) ∧ Hid (Row K wx R2) ∧ Hid (Own wx 48 1 (.slice ro2 R2.length rc2) R2.length (ptrs R2)) ∧
        Hid (Own wx 72 2 (.slice av (valsOf R).length cv) (valsOf R).length (vlCells (valsOf R))) ∧ Hid (Ap w0.heap.size R2 ro2 av) ∧ Hid (Chg [] w0 wx)) (fun _ kx _ _ => 12 - (intOf kx).toNat)
      case atStart => exact ⟨0, R, ro, rc, rfl, by omega, rfl, Lib.hid (.inl (by have := HRL.out; omega)), Lib.hid (by have := HRL.out; omega), Lib.hid ⟨rfl, HRL.out.2⟩, HRW, HOR, HOA, HAP, HC⟩
      case round =>
        obtain ⟨j, R2, ro2, rc2, rfl, hj, rfl, HJ, HL, HV, HRW2, HOR2, HOA2, HAP2, HC2⟩ := hrel
        by_cases hgt : 1 < R2.length
        · obtain ⟨L1, hL1⟩ : ∃ L1, L1 + 1 = R2.length := ⟨R2.length - 1, by omega⟩
          have HL1 := Lib.hid hL1
          clear hL1
          go_upto_if 49 with (fail)
          go_cut [17] (fun a wx => ∃ t : Nat, a = .int .i64 (t : Nat) ∧ wx = wr ∧ Hid (t + 1 < R2.length))
          case first =>
            by_cases hp : j < np
            · obtain ⟨b, o, rfl, hcl⟩ := (HRP.out.chg (HC0.out.trans HC2.out) (by simp)).addr (by omega)
              have hpl : j < ps.length := by have := HNP.out; omega
              have p0 := hcl j (by omega)
              have e0 : (ints ps)[j]? = some (.int .i64 ps[j]) := by simp [ints, List.getElem?_eq_getElem hpl]
              rw [e0] at p0
              generalize ps[j] = x at *
              have hle : L1 ≤ 12 := by
                have h1 := HJ.out; have h2 := HRL.out; have h3 := HL1.out
                rcases h1 with h1 | ⟨-, -, h1⟩
                · omega
                · rw [h1] at h3; simp at h3
              have hw0 : wrap64 ((R2.length : Int) - 1) = (L1 : Int) := by rw [← HL1.out]; unfold wrap64; omega
              have hw1 : IntKind.u64.wrap (L1 : Int) = (L1 : Int) := IntWalk.u64_in _ (by omega)
              obtain ⟨u, hu⟩ : ∃ u : Nat, IntKind.u64.wrap x = (u : Int) := Int.eq_ofNat_of_zero_le (by rw [IntKind.wrap_u64]; omega)
              have hub : u < 18446744073709551616 := by rw [IntKind.wrap_u64] at hu; omega
              have hz : ((L1 : Int) == 0) = false := by rw [beq_eq_false_iff_ne]; have := HL1.out; omega
              have hz2 : ¬ L1 = 0 := by have := HL1.out; omega
              have hT : u % L1 < L1 := Nat.mod_lt _ (by omega)
              have hrem : (u : Int).tmod (L1 : Int) = ((u % L1 : Nat) : Int) := by rw [Int.tmod_eq_emod_of_nonneg (by omega)]; exact (Int.natCast_emod u L1).symm
              have hrem' : (u : Int) % (L1 : Int) = ((u % L1 : Nat) : Int) := (Int.natCast_emod u L1).symm
              obtain ⟨T, hTT⟩ : ∃ T, T = u % L1 := ⟨_, rfl⟩
              rw [← hTT] at hT hrem hrem'
              have HTT := Lib.hid (show T + 1 < R2.length from by have := HL1.out; omega)
              have hw2 : wrap64 (T : Int) = (T : Int) := by unfold wrap64; omega
              clear hTT hcl e0
              go_wp2_with fail
              go_meet
              exact ⟨T, by rw [hw2], rfl, HTT⟩
            · go_wp2_with fail
              go_meet
              exact ⟨0, rfl, rfl, Lib.hid (by omega)⟩
          case rest =>
            obtain ⟨t, rfl, rfl, HT⟩ := hcut
            have ht1 : t < R2.length := by have := HT.out; omega
            have ht2 : t + 1 < R2.length := HT.out
            have hlen12 : R2.length ≤ 12 := by
              have h1 := HJ.out; have h2 := HRL.out
              rcases h1 with h1 | ⟨-, -, h1⟩
              · omega
              · rw [h1] at ht1; simp at ht1
            obtain ⟨g, o, cp, hsl, hncap⟩ : ∃ g o cp, Value.slice ro2 R2.length rc2 = .slice (some ⟨g, o, none⟩) R2.length cp ∧ R2.length ≤ cp := by
              rcases HOR2.out.2 with ⟨_, h0⟩ | ⟨g, o, cap, cur, h1, _, h2, _⟩
              · omega
              · exact ⟨g, o, cap, h1, h2⟩
            simp only [Value.slice.injEq, true_and] at hsl
            obtain ⟨rfl, rfl⟩ := hsl
            have c0 : wc.cell? ⟨g, o + t, none⟩ = some ((ptrs R2)[t]'(by rw [ptrs_len]; exact ht1)) := by
              rw [HOR2.out.cells t (by omega), List.getElem?_eq_getElem (by rw [ptrs_len]; exact ht1)]
            have c1 : wc.cell? ⟨g, o + (t + 1), none⟩ = some ((ptrs R2)[t + 1]'(by rw [ptrs_len]; exact ht2)) := by
              rw [HOR2.out.cells (t + 1) (by omega), List.getElem?_eq_getElem (by rw [ptrs_len]; exact ht2)]
            have hp0 : (ptrs R2)[t]'(by rw [ptrs_len]; exact ht1) = .pointer (some ⟨R2[t].s, 0, none⟩) := by simp [ptrs]
            have hp1 : (ptrs R2)[t + 1]'(by rw [ptrs_len]; exact ht2) = .pointer (some ⟨R2[t + 1].s, 0, none⟩) := by simp [ptrs]
            rw [hp0] at c0
            rw [hp1] at c1
            have hsp : R2 = R2.take t ++ R2[t] :: R2[t + 1] :: R2.drop (t + 2) := by
              rw [← List.drop_eq_getElem_cons ht2, ← List.drop_eq_getElem_cons ht1, List.take_append_drop]
            have hgl : ∀ r ∈ R2, g ∉ r.F := (HAP2.out.row g (by simp)).2
            obtain ⟨X, hX⟩ : ∃ X, X = R2.take t := ⟨_, rfl⟩
            obtain ⟨Y, hY⟩ : ∃ Y, Y = R2.drop (t + 2) := ⟨_, rfl⟩
            have hXl : X.length = t := by rw [hX, List.length_take]; omega
            generalize R2[t] = a at *
            generalize R2[t + 1] = b at *
            rw [← hX, ← hY] at hsp
            have HSP := Lib.hid hsp
            have HXL := Lib.hid hXl
            have hga : g ∉ a.F := hgl a (by rw [hsp]; simp)
            have hPa : K.P wc a.s a.F a.B a.m := HRW2.out.each a (by rw [hsp]; simp)
            have hPb : K.P wc b.s b.F b.B b.m := HRW2.out.each b (by rw [hsp]; simp)
            have hdj : ∀ x ∈ a.F, x ∉ b.F := by
              have h1 := HRW2.out.apart
              rw [hsp, List.pairwise_append] at h1
              exact (List.pairwise_cons.1 h1.2.1).1 b (by simp)
            have hbb : a.B + b.B ≤ 8000 := by
              have h1 := HV.out.2
              rw [hsp, boundOf_app] at h1
              simp only [boundOf, List.map_cons, List.sum_cons] at h1
              omega
            obtain ⟨t1, ht1e⟩ : ∃ z, z = t + 1 := ⟨_, rfl⟩
            obtain ⟨t2, ht2e⟩ : ∃ z, z = t + 2 := ⟨_, rfl⟩
            rw [← ht1e] at ht2 c1
            have HTE := Lib.hid (And.intro ht1e ht2e)
            have hwt1 : IntKind.i64.wrap ((t : Int) + 1) = (t1 : Int) := by rw [ht1e, IntWalk.i64_in _ (by omega)]; push_cast; rfl
            have hwt2 : IntKind.i64.wrap ((t : Int) + 2) = (t2 : Int) := by rw [ht2e, IntWalk.i64_in _ (by omega)]; push_cast; rfl
            have hti : (t1 : Int) < (R2.length : Int) := by omega
            have hcap1 : t1 ≤ rc2 := by omega
            have hcap2 : t2 ≤ R2.length := by omega
            have HCAP := Lib.hid hncap
            have ht0 : (t : Int) < (R2.length : Int) := by omega
            have HJO := Lib.hid (fun u (hu : Chg [] wc u) => K.join (K.chg hPa hu (by simp)) (K.chg hPb hu (by simp)) hdj hbb)
            have HGA := Lib.hid hga
            have hSS : wc.drew.cell? ⟨g, o + t, none⟩ = some (.pointer (some ⟨a.s, 0, none⟩)) ∧ wc.drew.cell? ⟨g, o + t1, none⟩ = some (.pointer (some ⟨b.s, 0, none⟩)) := ⟨c0, c1⟩
            clear hp0 hp1 hX hY hXl hsp hga hPa hPb hdj hbb c0 c1 hgl ht1e ht2e
            go_wp2_with fail
            refine startN (S := fun wx => wx.cell? ⟨g, o + t, none⟩ = some (.pointer (some ⟨a.s, 0, none⟩)) ∧ wx.cell? ⟨g, o + t1, none⟩ = some (.pointer (some ⟨b.s, 0, none⟩))) (by kernel_rfl) hSS (fun hHeld => ?_)
            refine takeN (i := 0) (v := ?va0) rfl (by kernel_rfl) (by kernel_rfl) (by kernel_rfl) (fun _ _ _ h => h) (Or.inl ⟨by rfl, ?ya0⟩) hSS ?ra0
            case ya0 => (intro w hSw; (try dsimp only at hSw); go_simp; first | done | with_reducible rfl)
            try simp only [Act.put, List.setIfInBounds_toArray, List.set_cons_zero, List.set_cons_succ]
            refine takeN (i := 1) (v := ?va1) rfl (by kernel_rfl) (by kernel_rfl) (by kernel_rfl) (fun _ _ _ h => h) (Or.inl ⟨by rfl, ?ya1⟩) hSS ?ra1
            case ya1 => (intro w hSw; (try dsimp only at hSw); go_simp; first | done | with_reducible rfl)
            try simp only [Act.put, List.setIfInBounds_toArray, List.set_cons_zero, List.set_cons_succ]
            refine takeN (i := 2) (v := ?va2) rfl (by kernel_rfl) (by kernel_rfl) (by kernel_rfl) (fun _ _ _ h => h) (Or.inl ⟨by rfl, ?ya2⟩) hSS ?ra2
            case ya2 => (intro w hSw; (try dsimp only at hSw); go_simp; first | done | with_reducible rfl)
            try simp only [Act.put, List.setIfInBounds_toArray, List.set_cons_zero, List.set_cons_succ]
            refine takeN (i := 3) (v := ?va3) rfl (by kernel_rfl) (by kernel_rfl) (by kernel_rfl) (fun _ _ _ h => h) (Or.inl ⟨by rfl, ?ya3⟩) hSS ?ra3
            case ya3 => (intro w hSw; (try dsimp only at hSw); go_simp; first | done | with_reducible rfl)
            try simp only [Act.put, List.setIfInBounds_toArray, List.set_cons_zero, List.set_cons_succ]
            refine takeN (i := 4) (v := ?va4) rfl (by kernel_rfl) (by kernel_rfl) (by kernel_rfl) (fun _ _ _ h => h) (Or.inl ⟨by rfl, ?ya4⟩) hSS ?ra4
            case ya4 => (intro w hSw; (try dsimp only at hSw); go_simp; first | done | with_reducible rfl)
            try simp only [Act.put, List.setIfInBounds_toArray, List.set_cons_zero, List.set_cons_succ]
            refine takeN (i := 5) (v := ?va5) rfl (by kernel_rfl) (by kernel_rfl) (by kernel_rfl) (fun _ _ _ h => h) (Or.inl ⟨by rfl, ?ya5⟩) hSS ?ra5
            case ya5 => (intro w hSw; (try dsimp only at hSw); go_simp; first | done | with_reducible rfl)
            try simp only [Act.put, List.setIfInBounds_toArray, List.set_cons_zero, List.set_cons_succ]
            refine takeN (i := 6) (v := ?va6) rfl (by kernel_rfl) (by kernel_rfl) (by kernel_rfl) (fun _ _ _ h => h) (Or.inl ⟨by rfl, ?ya6⟩) hSS ?ra6
            case ya6 => (intro w hSw; (try dsimp only at hSw); go_simp; first | done | with_reducible rfl)
            try simp only [Act.put, List.setIfInBounds_toArray, List.set_cons_zero, List.set_cons_succ]
            refine takeN (i := 7) (v := ?va7) rfl (by kernel_rfl) (by kernel_rfl) (by kernel_rfl) (fun _ _ _ h => h) (Or.inl ⟨by rfl, ?ya7⟩) hSS ?ra7
            case ya7 => (intro w hSw; (try dsimp only at hSw); go_simp; first | done | with_reducible rfl)
            try simp only [Act.put, List.setIfInBounds_toArray, List.set_cons_zero, List.set_cons_succ]
            refine takeN (i := 8) (v := ?va8) rfl (by kernel_rfl) (by kernel_rfl) (by kernel_rfl) (fun _ _ _ h => h) (Or.inl ⟨by rfl, ?ya8⟩) hSS ?ra8
            case ya8 => (intro w hSw; (try dsimp only at hSw); go_simp; first | done | with_reducible rfl)
            try simp only [Act.put, List.setIfInBounds_toArray, List.set_cons_zero, List.set_cons_succ]
            refine readyN (rs := [9]) (by kernel_rfl) (by simp) (consN rfl (fun K hK => ?_) nilN)
            refine step_callsG (by rfl) 38 _ _ rfl enters_tjoin _ #[.pointer (some ⟨a.s, 0, none⟩), .pointer (some ⟨b.s, 0, none⟩)] (by simp [Act.eval]) (HJO.out _ ((Chg.refl [] wc).drew)) ?_; rintro e w5 ⟨kk, F5, rfl, hm5, hP5⟩; refine ⟨_, rfl, ?_⟩
            have hS5 : w5.cell? ⟨g, o + t, none⟩ = some (.pointer (some ⟨a.s, 0, none⟩)) ∧ w5.cell? ⟨g, o + t1, none⟩ = some (.pointer (some ⟨b.s, 0, none⟩)) := ⟨hm5.chg.cell hSS.1 HGA.out, hm5.chg.cell hSS.2 HGA.out⟩
            have HM5 := Lib.hid ((Mv.of_chg ((Chg.refl [] wc).drew.mono (by simp)) : Mv a.F wc a.F wc.drew).trans hm5)
            have HP5 := Lib.hid hP5
            clear hm5 hP5
            refine hK.out _ _ hS5 (fun hHeld => ?_)
            clear hK K hHeld
            try simp only [Act.put, List.setIfInBounds_toArray, List.set_cons_zero, List.set_cons_succ]
            refine takeN (i := 10) (v := ?va10) rfl (by kernel_rfl) (by kernel_rfl) (by kernel_rfl) (fun _ _ _ h => h) (Or.inl ⟨by rfl, ?ya10⟩) hS5 ?ra10
            case ya10 => (intro w hSw; (try dsimp only at hSw); go_simp; first | done | with_reducible rfl)
            try simp only [Act.put, List.setIfInBounds_toArray, List.set_cons_zero, List.set_cons_succ]
            refine doneN (by kernel_rfl) ?_ _
            by_cases hkk : kk = 0
            · subst hkk
              have HPN := Lib.hid (HP5.out rfl)
              have HRD5 := Lib.hid (HOR2.out.chg HM5.out.chg (fun x hx e => by simp at hx; subst hx; exact HGA.out e)).rd
              clear hSS hS5 HJO HP5
              go_wp2_with fail
              have HW5 := Lib.hid ((Chg.refl [] w5).drew)
              refine startN (S := fun _ => True) (by kernel_rfl) trivial (fun hHeld => ?_)
              refine takeN (i := 1) (v := ?vb1) rfl (by kernel_rfl) (by kernel_rfl) (by kernel_rfl) (fun _ _ _ h => h) (Or.inl ⟨by rfl, ?yb1⟩) trivial ?rb1
              case yb1 => (intro w hSw; (try dsimp only at hSw); go_simp; first | done | with_reducible rfl)
              try simp only [Act.put, List.setIfInBounds_toArray, List.set_cons_zero, List.set_cons_succ]
              refine takeN (i := 2) (v := ?vb2) rfl (by kernel_rfl) (by kernel_rfl) (by kernel_rfl) (fun _ _ _ h => h) (Or.inl ⟨by rfl, ?yb2⟩) trivial ?rb2
              case yb2 => (intro w hSw; (try dsimp only at hSw); go_simp; first | done | with_reducible rfl)
              try simp only [Act.put, List.setIfInBounds_toArray, List.set_cons_zero, List.set_cons_succ]
              refine takeN (i := 3) (v := ?vb3) rfl (by kernel_rfl) (by kernel_rfl) (by kernel_rfl) (fun _ _ _ h => h) (Or.inl ⟨by rfl, ?yb3⟩) trivial ?rb3
              case yb3 => (intro w hSw; (try dsimp only at hSw); go_simp; first | done | with_reducible rfl)
              try simp only [Act.put, List.setIfInBounds_toArray, List.set_cons_zero, List.set_cons_succ]
              refine takeN (i := 4) (v := ?vb4) rfl (by kernel_rfl) (by kernel_rfl) (by kernel_rfl) (fun _ _ _ h => h) (Or.inl ⟨by rfl, ?yb4⟩) trivial ?rb4
              case yb4 => (intro w hSw; (try dsimp only at hSw); go_simp; first | done | with_reducible rfl)
              try simp only [Act.put, List.setIfInBounds_toArray, List.set_cons_zero, List.set_cons_succ]
              refine takeN (i := 6) (v := ?vb6) rfl (by kernel_rfl) (by kernel_rfl) (by kernel_rfl) (fun _ _ _ h => h) (Or.inl ⟨by rfl, ?yb6⟩) trivial ?rb6
              case yb6 => (intro w hSw; (try dsimp only at hSw); go_simp; first | done | with_reducible rfl)
              try simp only [Act.put, List.setIfInBounds_toArray, List.set_cons_zero, List.set_cons_succ]
              refine takeN (i := 7) (v := ?vb7) rfl (by kernel_rfl) (by kernel_rfl) (by kernel_rfl) (fun _ _ _ h => h) (Or.inl ⟨by rfl, ?yb7⟩) trivial ?rb7
              case yb7 => (intro w hSw; (try dsimp only at hSw); go_simp; first | done | with_reducible rfl)
              try simp only [Act.put, List.setIfInBounds_toArray, List.set_cons_zero, List.set_cons_succ]
              refine takeN (i := 8) (v := ?vb8) rfl (by kernel_rfl) (by kernel_rfl) (by kernel_rfl) (fun _ _ _ h => h) (Or.inl ⟨by rfl, ?yb8⟩) trivial ?rb8
              case yb8 => (intro w hSw; (try dsimp only at hSw); go_simp; first | done | with_reducible rfl)
              try simp only [Act.put, List.setIfInBounds_toArray, List.set_cons_zero, List.set_cons_succ]
              refine takeN (i := 9) (v := ?vb9) rfl (by kernel_rfl) (by kernel_rfl) (by kernel_rfl) (fun _ _ _ h => h) (Or.inl ⟨by rfl, ?yb9⟩) trivial ?rb9
              case yb9 => (intro w hSw; (try dsimp only at hSw); go_simp; first | done | with_reducible rfl)
              try simp only [Act.put, List.setIfInBounds_toArray, List.set_cons_zero, List.set_cons_succ]
              refine readyN (rs := [0]) (by kernel_rfl) (by simp) (consN rfl (fun K hK => ?_) nilN)
              refine step_bP0 rfl rfl ?_; intro ga w6 ho6 hc6 hg6
              have HO6 := Lib.hid ho6
              have HW6 := Lib.hid (HW5.out.trans hc6)
              have HG6 := Lib.hid (show w5.heap.size ≤ ga from hg6)
              clear ho6 hc6 hg6
              refine hK.out _ _ trivial (fun hHeld => ?_)
              clear hK K hHeld
              try simp only [Act.put, List.setIfInBounds_toArray, List.set_cons_zero, List.set_cons_succ]
              refine readyN (rs := [5]) (by kernel_rfl) (by simp) (consN rfl (fun K hK => ?_) nilN)
              refine step_append_src rfl (.tmp 72) (.tmp 76) 89 89 rfl 48 _ 1 8 under_skp info_skp rfl (by decide) (.slice (some ⟨ga, 0, none⟩) 0 0) 0 [] (by simp [Act.eval]) HO6.out (.slice (some ⟨g, o, none⟩) t1 rc2) t1 ((ptrs R2).take t1) (by simp [Act.eval]) (Src.of_rd under_skp ((HRD5.out.chg HW6.out (by simp)).pre (by omega) rc2)) (fun y hy => ptrs_oneCell R2 y (List.mem_of_mem_take hy)) (by unfold maxLen; omega) (by omega) ?_; intro a7 c7 w7 ho7 hg7 hf7
              have HO7 := Lib.hid ho7
              have HG7 := Lib.hid (show ∀ b ∈ abl a7, w5.heap.size ≤ b from fun b hb => by rcases hf7 b hb with h1 | h1; (simp at h1; rw [h1]; exact HG6.out); (have := HW6.out.size; omega))
              have HW7 := Lib.hid (HW6.out.trans' hg7 (fun b hb => by simp at hb; rw [hb]; exact .inr HG6.out))
              have HRD7 := Lib.hid (HRD5.out.chg HW7.out (by simp))
              clear ho7 hg7 hf7
              refine hK.out _ _ trivial (fun hHeld => ?_)
              clear hK K hHeld
              try simp only [Act.put, List.setIfInBounds_toArray, List.set_cons_zero, List.set_cons_succ]
              refine readyN (rs := [10]) (by kernel_rfl) (by simp) (consN rfl (fun K hK => ?_) nilN)
              refine step_append_src rfl (.tmp 77) (.tmp 81) 89 89 rfl 48 _ 1 8 under_skp info_skp rfl (by decide) (.slice a7 (0 + t1) c7) (0 + t1) ([] ++ (ptrs R2).take t1) (by simp [Act.eval]) HO7.out (.slice (if rc2 = t2 then some ⟨g, o, none⟩ else some ⟨g, o + t2, none⟩) (R2.length - t2) (rc2 - t2)) (R2.length - t2) ((ptrs R2).drop t2) (by simp [Act.eval]) (Src.of_rd under_skp (HRD7.out.suf (by omega) HCAP.out (rc2 - t2))) (fun y hy => ptrs_oneCell R2 y (List.mem_of_mem_drop hy)) (by unfold maxLen; omega) (by omega) ?_; intro a8 c8 w8 ho8 hg8 hf8
              have HO8 := Lib.hid ho8
              have HG8 := Lib.hid (show ∀ b ∈ abl a8, w5.heap.size ≤ b from fun b hb => by rcases hf8 b hb with h1 | h1; (exact HG7.out b (by simpa using h1)); (have := HW7.out.size; omega))
              have HW8 := Lib.hid (HW7.out.trans' hg8 (fun b hb => .inr (HG7.out b (by simpa using hb))))
              clear ho8 hg8 hf8
              refine hK.out _ _ trivial (fun hHeld => ?_)
              clear hK K hHeld
              try simp only [Act.put, List.setIfInBounds_toArray, List.set_cons_zero, List.set_cons_succ]
              refine takeN (i := 11) (v := ?vb11) rfl (by kernel_rfl) (by kernel_rfl) (by kernel_rfl) (fun _ _ _ h => h) (Or.inl ⟨by rfl, ?yb11⟩) trivial ?rb11
              case yb11 => (intro w hSw; (try dsimp only at hSw); go_simp; first | done | with_reducible rfl)
              try simp only [Act.put, List.setIfInBounds_toArray, List.set_cons_zero, List.set_cons_succ]
              refine doneN (by kernel_rfl) ?_ _
              have hsp := HSP.out
              have hte := HTE.out
              have hXl := HXL.out
              have hsz : w0.heap.size ≤ wc.heap.size ∧ wc.heap.size ≤ w5.heap.size := ⟨HC2.out.size, HM5.out.chg.size⟩
              obtain ⟨R3, hR3⟩ : ∃ R3, R3 = X ++ (⟨a.s, F5, a.B + b.B, a.m ++ b.m⟩ : Nd) :: Y := ⟨_, rfl⟩
              have hlen3 : R3.length + 1 = R2.length := by rw [hR3, hsp]; simp; omega
              have hYl : R2.length = t + 2 + Y.length := by rw [hsp]; simp; omega
              have hpt : ptrs R3 = [] ++ (ptrs R2).take t1 ++ (ptrs R2).drop t2 := by
                have e1 : ptrs R2 = (ptrs X ++ [.pointer (some ⟨a.s, 0, none⟩)]) ++ (.pointer (some ⟨b.s, 0, none⟩) :: ptrs Y) := by rw [hsp]; simp [ptrs]
                have e2 : ptrs R2 = (ptrs X ++ [.pointer (some ⟨a.s, 0, none⟩), .pointer (some ⟨b.s, 0, none⟩)]) ++ ptrs Y := by rw [hsp]; simp [ptrs]
                have t1e : (ptrs R2).take t1 = ptrs X ++ [.pointer (some ⟨a.s, 0, none⟩)] := by
                  rw [e1, List.take_append_of_le_length (by simp [ptrs_len]; omega)]
                  exact List.take_of_length_le (by simp [ptrs_len]; omega)
                have t2e : (ptrs R2).drop t2 = ptrs Y := by
                  rw [e2, show t2 = (ptrs X ++ [Value.pointer (some ⟨a.s, 0, none⟩), Value.pointer (some ⟨b.s, 0, none⟩)]).length from by simp [ptrs_len]; omega, List.drop_left]
                rw [t1e, t2e, hR3]
                simp [ptrs]
              have hval : valsOf R3 = valsOf R2 ∧ boundOf R3 = boundOf R2 := by
                rw [hR3, hsp]
                constructor
                · simp [valsOf]
                · simp only [boundOf, List.map_append, List.map_cons, List.sum_append, List.sum_cons]; omega
              have hrw : Row K w5 R3 := by
                have h1 := HRW2.out
                rw [hsp] at h1
                rw [hR3]
                exact h1.join HM5.out HPN.out
              have hFl : ∀ r ∈ R3, ∀ x ∈ r.F, x < w5.heap.size := fun r hr => K.lt (hrw.each r hr)
              have hF5 : ∀ r ∈ R3, r ∈ R2 ∨ r.F = F5 := fun r hr => by
                rw [hR3] at hr
                rw [hsp]
                simp only [List.mem_append, List.mem_cons] at hr ⊢
                rcases hr with hr | rfl | hr
                · exact .inl (.inl hr)
                · exact .inr rfl
                · exact .inl (.inr (.inr (.inr hr)))
              have haR : a ∈ R2 := by rw [hsp]; simp
              have hav : ∀ x ∈ abl av, w0.heap.size ≤ x ∧ x < wc.heap.size ∧ (∀ r ∈ R2, x ∉ r.F) := fun x hx => ⟨(HAP2.out.all x hx).1, HOA2.out.lt x (by simpa using hx), (HAP2.out.all x hx).2.1⟩
              have hav3 : ∀ x ∈ abl av, ∀ r ∈ R3, x ∉ r.F := fun x hx r hr e => by
                rcases hF5 r hr with h1 | h1
                · exact (hav x hx).2.2 r h1 e
                · rw [h1] at e
                  rcases HM5.out.fr x e with h2 | h2
                  · exact (hav x hx).2.2 a haR h2
                  · have := (hav x hx).2.1; omega
              have hl3 : 0 + t1 + (R2.length - t2) = R3.length := by omega
              have ho8 := HO8.out
              rw [hl3, ← hpt] at ho8
              have hj12 : j + 1 ≤ 12 ∧ (j + 1 + R3.length = k ∨ (k = 0 ∧ j + 1 = 0 ∧ R3 = [])) := by
                have h1 := HJ.out; have h2 := HRL.out
                rcases h1 with h1 | ⟨-, -, h1⟩
                · omega
                · rw [h1] at haR; simp at haR
              have H3 := Lib.hid (And.intro hlen3 hj12)
              have HVAL := Lib.hid hval
              have HFIN : Hid (Row K w8 R3) := Lib.hid (hrw.chg HW8.out (by simp))
              have HOA8 : Hid (Own w8 72 2 (.slice av (valsOf R).length cv) (valsOf R).length (vlCells (valsOf R))) := Lib.hid ((HOA2.out.chg HM5.out.chg (fun x hx e => (hav x (by simpa using hx)).2.2 a haR e)).chg HW8.out (by simp))
              have HAP8 : Hid (Ap w0.heap.size R3 a8 av) := Lib.hid ⟨fun r hr x hx => by
                rcases hF5 r hr with h1 | h1
                · exact HAP2.out.f r h1 x hx
                · rw [h1] at hx
                  rcases HM5.out.fr x hx with h2 | h2
                  · exact HAP2.out.f a haR x h2
                  · omega, fun x hx => ⟨by have := HG8.out x hx; omega, fun r hr e => by have h1 := hFl r hr x e; have h2 := HG8.out x hx; omega⟩, fun x hx => ⟨(hav x hx).1, hav3 x hx, fun e => by have h1 := HG8.out x e; have h2 := (hav x hx).2.1; omega⟩⟩
              have HC8 : Hid (Chg [] w0 w8) := Lib.hid ((HC2.out.trans' HM5.out.chg (fun x hx => .inr (HAP2.out.f a haR x hx))).trans HW8.out)
              have HO8' := Lib.hid ho8
              clear hsp hte hXl hsz hR3 hYl hpt hval hrw hFl hF5 haR hav hav3 ho8 hj12 hlen3
              have HL3 := Lib.hid (show t1 + (R2.length - t2) = R3.length from by rw [← hl3, Nat.zero_add])
              clear hl3
              go_wp2_with fail
              have h3 := H3.out
              refine ⟨⟨j + 1, R3, a8, c8, by go_num, h3.2.1, by rw [HL3.out], Lib.hid h3.2.2, Lib.hid (.inl (by omega)), Lib.hid ⟨HVAL.out.1.trans HV.out.1, by rw [HVAL.out.2]; exact HV.out.2⟩, HFIN, HO8', HOA8, HAP8, HC8⟩, by simp [intOf]; omega⟩
            · have hkb : (kk != 0) = true := by rw [bne_iff_ne]; exact hkk
              clear hSS hS5 HJO HP5
              go_wp2
              refine bodyPost_ret (v := .tuple #[.pointer none, .slice none 0 0, .bool false]) (by simp [results, Tryz.results14, go_sem]) rfl ?_
              exact ⟨_, none, 0, 0, false, rfl, HC0.out.trans (HC2.out.trans' HM5.out.chg (fun b hb => .inr (HAP2.out.f a (by rw [HSP.out]; simp) b hb))), by simp⟩
        · have hle1 : R2.length ≤ 1 := by omega
          have d43 : decide ((1 : Int) < (R2.length : Int)) = false := decide_eq_false (by omega)
          by_cases h0 : R2.length = 0
          · have d85 : ((R2.length : Int) == 0) = true := by rw [beq_iff_eq]; omega
            go_wp2
            refine bodyPost_ret (v := .tuple #[.pointer none, .slice none 0 0, .bool false]) (by simp [results, Tryz.results14, go_sem]) rfl ?_
            exact ⟨_, none, 0, 0, false, rfl, HC0.out.trans HC2.out, by simp⟩
          · have d85 : ((R2.length : Int) == 0) = false := by rw [beq_eq_false_iff_ne]; omega
            obtain ⟨r, hr⟩ : ∃ r, R2 = [r] := by
              rcases R2 with _ | ⟨r, l⟩
              · simp at h0
              · rcases l with _ | ⟨r', l⟩
                · exact ⟨r, rfl⟩
                · simp at hle1
            obtain ⟨g, o, cp, hsl⟩ : ∃ g o cp, Value.slice ro2 R2.length rc2 = .slice (some ⟨g, o, none⟩) R2.length cp := by
              rcases HOR2.out.2 with ⟨_, h0⟩ | ⟨g, o, cap, cur, h1, _, h2, _⟩
              · omega
              · exact ⟨g, o, cap, h1⟩
            simp only [Value.slice.injEq, true_and] at hsl
            obtain ⟨rfl, rfl⟩ := hsl
            subst hr
            have c0 : wr.cell? ⟨g, o, none⟩ = some (.pointer (some ⟨r.s, 0, none⟩)) := by
              have := HOR2.out.cells 0 (by simp)
              simpa [ptrs] using this
            have HPR := HRW2.out.each r (by simp)
            have hv := HV.out
            have HVR := Lib.hid (show r.m = valsOf R ∧ r.B ≤ 7968 from ⟨by rw [← hv.1]; simp [valsOf], by have := hv.2; simpa [boundOf] using this⟩)
            have HPR := Lib.hid HPR
            clear hv d85 h0 hle1 d43 hgt
            simp only [List.length_cons, List.length_nil, Nat.zero_add] at *
            go_wp2_with fail
            refine bodyPost_ret (v := .tuple #[.pointer (some ⟨r.s, 0, none⟩), .slice av (valsOf R).length cv, .bool true]) (by simp [results, Tryz.results14, go_sem]) rfl ?_
            refine ⟨_, av, _, cv, true, rfl, HC0.out.trans HC2.out, fun _ => ⟨r.s, r.F, valsOf R, rfl, rfl, HM2.out.1, HM2.out.2, ?_, HOA2.out.rd⟩⟩
            have h1 := K.mono HPR.out HVR.out.2
            rw [HVR.out.1] at h1
            exact h1
end Go.Proofs.YtlcoibhbdgdfcaaGreatDoor
