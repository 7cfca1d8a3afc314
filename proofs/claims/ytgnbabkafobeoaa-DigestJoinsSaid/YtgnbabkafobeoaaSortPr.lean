/-
  The library's sort by a comparison, at pairs: that its bodies are those of the shelf. Conditions: none.
  The library's sort by a comparison, at pairs: its contract. Conditions: none.
-/
import Derived.Test.YtgnbabkafobeoaaProg
import Derived.Shelf.SlSortCmp.WholeK
import Derived.Test.YtgnbabkafobeoaaSortOwnK
import Derived.Test.YtgnbabkafobeoaaTreeG
namespace Go.Proofs.Ytgnbabkafobeoaa
open Go.Shelf

def sortPr_ren : Go.Shelf.Ren := ⟨fun | 6 => 60 | 15 => 70 | 14 => 79 | 28 => 84 | 29 => 85 | 20 => 88 | 21 => 89 | 22 => 90 | 23 => 91 | 24 => 92 | 25 => 93 | 26 => 94 | 27 => 95 | 46 => 102 | 47 => 103 | 48 => 104 | 49 => 105 | 50 => 106 | 57 => 108 | n => n, fun | 22 => 48 | 24 => 53 | 25 => 109 | 3 => 3 | 39 => 116 | 0 => 0 | 53 => 128 | 55 => 25 | 4 => 4 | 46 => 133 | 45 => 132 | 50 => 89 | 5 => 5 | 9 => 9 | 66 => 142 | 70 => 145 | 76 => 147 | 77 => 148 | n => n, fun | n => n⟩
theorem sortPr : Go.Proofs.SlLaysF0.n6 Try.prog sortPr_ren := {
  mixed := by kernel_rfl,
  f6 := ⟨Try.f60.name, by decide, Try.func60.trans (congrArg some (by kernel_rfl))⟩,
  f14 := ⟨Try.f79.name, by decide, Try.func79.trans (congrArg some (by kernel_rfl))⟩,
  f15 := Try.func70.trans (congrArg some (by kernel_rfl)),
  f20 := ⟨Try.f88.name, by decide, Try.func88.trans (congrArg some (by kernel_rfl))⟩,
  f21 := ⟨Try.f89.name, by decide, Try.func89.trans (congrArg some (by kernel_rfl))⟩,
  f22 := ⟨Try.f90.name, by decide, Try.func90.trans (congrArg some (by kernel_rfl))⟩,
  f23 := ⟨Try.f91.name, by decide, Try.func91.trans (congrArg some (by kernel_rfl))⟩,
  f24 := ⟨Try.f92.name, by decide, Try.func92.trans (congrArg some (by kernel_rfl))⟩,
  f25 := ⟨Try.f93.name, by decide, Try.func93.trans (congrArg some (by kernel_rfl))⟩,
  f26 := ⟨Try.f94.name, by decide, Try.func94.trans (congrArg some (by kernel_rfl))⟩,
  f27 := ⟨Try.f95.name, by decide, Try.func95.trans (congrArg some (by kernel_rfl))⟩,
  f28 := Try.func84.trans (congrArg some (by kernel_rfl)),
  f29 := Try.func85.trans (congrArg some (by kernel_rfl)),
  f46 := ⟨Try.f102.name, by decide, Try.func102.trans (congrArg some (by kernel_rfl))⟩,
  f47 := Try.func103.trans (congrArg some (by kernel_rfl)),
  f48 := Try.func104.trans (congrArg some (by kernel_rfl)),
  f49 := ⟨Try.f105.name, by decide, Try.func105.trans (congrArg some (by kernel_rfl))⟩,
  f50 := ⟨Try.f106.name, by decide, Try.func106.trans (congrArg some (by kernel_rfl))⟩,
  f57 := ⟨Try.f108.name, by decide, Try.func108.trans (congrArg some (by kernel_rfl))⟩,
  t0 := Try.underlying0,
  a0 := Try.isAgg0,
  z0 := Try.sizeOf0,
  v0 := Try.zeroValue0,
  t3 := Try.underlying3,
  a3 := Try.isAgg3,
  z3 := Try.sizeOf3,
  v3 := Try.zeroValue3,
  t4 := Try.underlying4,
  a4 := Try.isAgg4,
  z4 := Try.sizeOf4,
  v4 := Try.zeroValue4,
  t5 := Try.underlying5,
  a5 := Try.isAgg5,
  z5 := Try.sizeOf5,
  v5 := Try.zeroValue5,
  t9 := Try.underlying9,
  a9 := Try.isAgg9,
  z9 := Try.sizeOf9,
  v9 := Try.zeroValue9,
  t22 := Try.underlying48,
  a22 := Try.isAgg48,
  z22 := Try.sizeOf48,
  v22 := Try.zeroValue48,
  t25 := Try.underlying109,
  a25 := Try.isAgg109,
  z25 := Try.sizeOf109,
  v25 := Try.zeroValue109,
  t39 := Try.underlying116,
  a39 := Try.isAgg116,
  z39 := Try.sizeOf116,
  v39 := Try.zeroValue116,
  t45 := Try.underlying132,
  a45 := Try.isAgg132,
  z45 := Try.sizeOf132,
  v45 := Try.zeroValue132,
  t46 := Try.underlying133,
  a46 := Try.isAgg133,
  z46 := Try.sizeOf133,
  v46 := Try.zeroValue133,
  t50 := Try.underlying89,
  a50 := Try.isAgg89,
  z50 := Try.sizeOf89,
  v50 := Try.zeroValue89,
  t53 := Try.underlying128,
  a53 := Try.isAgg128,
  z53 := Try.sizeOf128,
  v53 := Try.zeroValue128,
  t55 := Try.underlying25,
  a55 := Try.isAgg25,
  z55 := Try.sizeOf25,
  v55 := Try.zeroValue25,
  t66 := Try.underlying142,
  a66 := Try.isAgg142,
  z66 := Try.sizeOf142,
  v66 := Try.zeroValue142,
  t70 := Try.underlying145,
  a70 := Try.isAgg145,
  z70 := Try.sizeOf145,
  v70 := Try.zeroValue145,
  t76 := Try.underlying147,
  a76 := Try.isAgg147,
  z76 := Try.sizeOf147,
  v76 := Try.zeroValue147,
  t77 := Try.underlying148,
  a77 := Try.isAgg148,
  z77 := Try.sizeOf148,
  v77 := Try.zeroValue148 }
end Go.Proofs.Ytgnbabkafobeoaa

namespace Go.Proofs.Ytgnbabkafobeoaa
open Go.RowKit Go.Sort

def nodeC (d : Nat) (x y : Pr) : Int := if x.i = y.i then 0 else if befN d x.i y.i then -1 else 1
theorem nodeC_lt (d : Nat) (x y : Pr) : ltOf (nodeC d) x y = befN d x.i y.i := by
  unfold ltOf nodeC
  by_cases h : x.i = y.i
  · rw [if_pos h, h, bef_irr]; rfl
  · rw [if_neg h]
    cases befN d x.i y.i <;> simp
theorem nodeC_swo (d : Nat) : SWO (ltOf (nodeC d)) where
  irrefl x := by rw [nodeC_lt]; exact bef_irr d x.i
  trans x y z h1 h2 := by
    rw [nodeC_lt] at *
    unfold befN at *
    rw [decide_eq_true_eq] at *
    omega
  ntrans x y z h1 h2 := by
    rw [nodeC_lt] at *
    unfold befN at *
    rw [decide_eq_false_iff_not] at *
    omega
theorem enters_sbefore : ∀ (args : Array Value) (w : World), (callFunc 62 args).run Try.prog w = .ok (.enter 62 args) w := enters_of Try.func62 (by kernel_rfl) rfl
set_option maxRecDepth 100000 in
set_option maxHeartbeats 2000000 in
theorem told_by (w : World) (c p s : Nat) (rv : Value) (D : DgD) (hc : Blk w c #[.pointer (some ⟨p, 0, none⟩)] 29) (h : Dg w p s rv D) (h1 : 1 ≤ D.depth) (h2 : D.depth ≤ 24) (x y : Pr) :
    Calls Try.prog 61 #[.agg #[.int .i64 x.i, .int .u64 (x.c : Nat)], .agg #[.int .i64 y.i, .int .u64 (y.c : Nat)], .pointer (some ⟨c, 0, none⟩)] w fun e w' => e = .returned (.int .i64 (nodeC D.depth x y)) ∧ Gr w w' := by
  have hg := ((Gr.refl w).alloc (.cells #[.int .i64 x.i, .int .u64 (x.c : Nat)] 53)).alloc (.cells #[.int .i64 y.i, .int .u64 (y.c : Nat)] 53)
  have hbx := (Blk.alloc_new w #[.int .i64 x.i, .int .u64 (x.c : Nat)] 53).alloc (.cells #[.int .i64 y.i, .int .u64 (y.c : Nat)] 53)
  have hby := Blk.alloc_new (w.alloc (.cells #[.int .i64 x.i, .int .u64 (x.c : Nat)] 53)) #[.int .i64 y.i, .int .u64 (y.c : Nat)] 53
  rw [World.size_alloc] at hby
  have HG := Lib.hid hg
  have HC := Lib.hid (hc.chg hg.chg (by simp))
  have HD := Lib.hid (h.chg hg.chg (by simp))
  have HX := Lib.hid hbx
  have HY := Lib.hid hby
  have HBE := Lib.hid (fun u => treeG_before u D.depth h1 h2 x.i y.i)
  have HR := Lib.hid (show nodeC D.depth x y = if x.i = y.i then 0 else if befN D.depth x.i y.i then -1 else 1 from rfl)
  generalize nodeC D.depth x y = R at *
  generalize befN D.depth x.i y.i = B at *
  have x0 := HX.out.cell 0
  have y0 := HY.out.cell 0
  simp only [List.getElem?_toArray, List.getElem?_cons_zero] at x0 y0
  clear hg hbx hby hc h h1 h2
  go_enter Try.func61, Try.ntmps61
  by_cases hxy : x.i = y.i
  · have d1 : (x.i == y.i) = true := by rw [beq_iff_eq]; exact hxy
    obtain rfl : R = 0 := by rw [HR.out, if_pos hxy]
    clear hxy
    go_wp2_with fail
    go_ret
    exact ⟨rfl, HG.out⟩
  have d1 : (x.i == y.i) = false := by rw [beq_eq_false_iff_ne]; exact hxy
  rw [if_neg hxy] at HR
  clear hxy
  go_upto_region 3 with (fail)
  generalize (w.alloc (.cells #[.int .i64 x.i, .int .u64 (x.c : Nat)] 53)).alloc (.cells #[.int .i64 y.i, .int .u64 (y.c : Nat)] 53) = w0 at *
  have HS := Lib.hid (fun wx (hu : Gr w0 wx) => show Gr w0 wx ∧ wx.cell? ⟨c, 0, none⟩ = some (.pointer (some ⟨p, 0, none⟩)) ∧ wx.cell? ⟨p, 2, none⟩ = some (.int .i64 (D.depth : Nat)) ∧ wx.cell? ⟨w.heap.size, 0, none⟩ = some (.int .i64 x.i) ∧ wx.cell? ⟨w.heap.size + 1, 0, none⟩ = some (.int .i64 y.i) from ⟨hu, (HC.out.chg hu.chg (by simp)).cell 0, (HD.out.chg hu.chg (by simp)).cells.2.2.1, (HX.out.chg hu.chg (by simp)).cell 0, (HY.out.chg hu.chg (by simp)).cell 0⟩)
  have hSS := HS.out w0.drew (Gr.refl w0).drew
  refine startN (S := fun wx => Gr w0 wx ∧ wx.cell? ⟨c, 0, none⟩ = some (.pointer (some ⟨p, 0, none⟩)) ∧ wx.cell? ⟨p, 2, none⟩ = some (.int .i64 (D.depth : Nat)) ∧ wx.cell? ⟨w.heap.size, 0, none⟩ = some (.int .i64 x.i) ∧ wx.cell? ⟨w.heap.size + 1, 0, none⟩ = some (.int .i64 y.i)) (by kernel_rfl) hSS (fun hHeld => ?_)
  refine takeN (i := 0) (v := ?va0) rfl (by kernel_rfl) (by kernel_rfl) (by kernel_rfl) (fun _ _ _ h => h) (Or.inl ⟨by rfl, ?ya0⟩) hSS ?ra0
  case ya0 => (intro w hSw; (try dsimp only at hSw); go_simp; first | done | with_reducible rfl)
  try simp only [Act.put, List.setIfInBounds_toArray, List.set_cons_zero, List.set_cons_succ]
  refine takeN (i := 1) (v := ?va1) rfl (by kernel_rfl) (by kernel_rfl) (by kernel_rfl) (fun _ _ _ h => h) (Or.inl ⟨by rfl, ?ya1⟩) hSS ?ra1
  case ya1 => (intro w hSw; (try dsimp only at hSw); go_simp; first | done | with_reducible rfl)
  try simp only [Act.put, List.setIfInBounds_toArray, List.set_cons_zero, List.set_cons_succ]
  refine takeN (i := 2) (v := ?va2) rfl (by kernel_rfl) (by kernel_rfl) (by kernel_rfl) (fun _ _ _ h => h) (Or.inl ⟨by rfl, ?ya2⟩) hSS ?ra2
  case ya2 => (intro w hSw; (try dsimp only at hSw); go_simp; first | done | with_reducible rfl)
  try simp only [Act.put, List.setIfInBounds_toArray, List.set_cons_zero, List.set_cons_succ]
  refine takeN (i := 3) (v := ?va3) rfl (by kernel_rfl) (by kernel_rfl) (by kernel_rfl) (fun _ _ _ h => h) (Or.inl ⟨by rfl, ?ya3⟩) hSS ?ra3
  case ya3 => (intro w hSw; (try dsimp only at hSw); go_simp; first | done | with_reducible rfl)
  try simp only [Act.put, List.setIfInBounds_toArray, List.set_cons_zero, List.set_cons_succ]
  refine takeN (i := 4) (v := ?va4) rfl (by kernel_rfl) (by kernel_rfl) (by kernel_rfl) (fun _ _ _ h => h) (Or.inl ⟨by rfl, ?ya4⟩) hSS ?ra4
  case ya4 => (intro w hSw; (try dsimp only at hSw); go_simp; first | done | with_reducible rfl)
  try simp only [Act.put, List.setIfInBounds_toArray, List.set_cons_zero, List.set_cons_succ]
  refine takeN (i := 5) (v := ?va5) rfl (by kernel_rfl) (by kernel_rfl) (by kernel_rfl) (fun _ _ _ h => h) (Or.inl ⟨by rfl, ?ya5⟩) hSS ?ra5
  case ya5 => (intro w hSw; (try dsimp only at hSw); go_simp; first | done | with_reducible rfl)
  try simp only [Act.put, List.setIfInBounds_toArray, List.set_cons_zero, List.set_cons_succ]
  refine takeN (i := 6) (v := ?va6) rfl (by kernel_rfl) (by kernel_rfl) (by kernel_rfl) (fun _ _ _ h => h) (Or.inl ⟨by rfl, ?ya6⟩) hSS ?ra6
  case ya6 => (intro w hSw; (try dsimp only at hSw); go_simp; first | done | with_reducible rfl)
  try simp only [Act.put, List.setIfInBounds_toArray, List.set_cons_zero, List.set_cons_succ]
  refine takeN (i := 7) (v := ?va7) rfl (by kernel_rfl) (by kernel_rfl) (by kernel_rfl) (fun _ _ _ h => h) (Or.inl ⟨by rfl, ?ya7⟩) hSS ?ra7
  case ya7 => (intro w hSw; (try dsimp only at hSw); go_simp; first | done | with_reducible rfl)
  try simp only [Act.put, List.setIfInBounds_toArray, List.set_cons_zero, List.set_cons_succ]
  refine readyN (rs := [8]) (by kernel_rfl) (by simp) (consN rfl (fun K hK => ?_) nilN)
  refine step_callsG (by rfl) 62 _ _ rfl enters_sbefore _ #[.agg #[.int .i64 (D.depth : Nat)], .int .i64 x.i, .int .i64 y.i] (by simp [Act.eval]) (HBE.out _) ?_; rintro e w2 ⟨rfl, hc2⟩; refine ⟨_, rfl, ?_⟩
  have hSA := HS.out w2 (hSS.1.trans hc2)
  clear hc2
  refine hK.out _ _ hSA (fun hHeld => ?_)
  clear hK K hHeld
  try simp only [Act.put, List.setIfInBounds_toArray, List.set_cons_zero, List.set_cons_succ]
  refine takeN (i := 9) (v := ?va9) rfl (by kernel_rfl) (by kernel_rfl) (by kernel_rfl) (fun _ _ _ h => h) (Or.inl ⟨by rfl, ?ya9⟩) hSA ?ra9
  case ya9 => (intro w hSw; (try dsimp only at hSw); go_simp; first | done | with_reducible rfl)
  try simp only [Act.put, List.setIfInBounds_toArray, List.set_cons_zero, List.set_cons_succ]
  refine doneN (by kernel_rfl) ?_ _
  have HZ := Lib.hid (HG.out.trans hSA.1)
  clear hSS hSA HS x0 y0
  cases B with
  | true =>
    obtain rfl : R = -1 := by rw [HR.out]; rfl
    go_wp2_with fail
    go_ret
    exact ⟨rfl, HZ.out⟩
  | false =>
    obtain rfl : R = 1 := by rw [HR.out]; rfl
    go_wp2_with fail
    go_ret
    exact ⟨rfl, HZ.out⟩

/-- The sort: the same slice, the nodes in order. -/
theorem sort_nodes (w : World) (g o cap n : Nat) (l : List Pr) (c p s : Nat) (rv : Value) (D : DgD) (hcb : Blk w c #[.pointer (some ⟨p, 0, none⟩)] 29) (hdg : Dg w p s rv D) (h1 : 1 ≤ D.depth) (h2 : D.depth ≤ 24) (hcg : c ≠ g) (hpg : ∀ b ∈ fpD p s rv, b ≠ g) (hn : n = l.length) (h : Own w 53 2 (.slice (some ⟨g, o, none⟩) n cap) n (prCells l)) (hsz : n < 4611686018427387904) :
    Calls Try.prog 60 #[.slice (some ⟨g, o, none⟩) n cap, .func (.func 61) #[] #[.pointer (some ⟨c, 0, none⟩)]] w fun e w' =>
      e = .returned (.tuple #[]) ∧ ∃ l' : List Pr, l'.length = n ∧ l'.Perm l ∧ (l'.Pairwise fun a b => befN D.depth b.i a.i = false) ∧ Own w' 53 2 (.slice (some ⟨g, o, none⟩) n cap) n (prCells l') ∧ Chg [g] w w' := by
  subst hn
  have eg : ∀ args w, (callFunc 61 args).run Try.prog w = .ok (.enter 61 args) w := enters_of Try.func61 (by kernel_rfl) rfl
  have hk : ∀ x : Pr, (Pr.cells x).length = 2 := fun _ => rfl
  have hcon := AnyQ.slices_SortFunc sortPr 2 Try.isAgg53 Try.sizeOf53 Pr.cells hk (fun x v hv => by simp [Pr.cells] at hv; rcases hv with rfl | rfl <;> rfl) (nodeC D.depth) (nodeC_swo D.depth) 61 #[.pointer (some ⟨c, 0, none⟩)] g o cap l.toArray w eg
    (fun m os dk _ x y => (told_by _ c p s rv D (hcb.chg (sorted_chg _ _ _ _ _ _) (by simpa using hcg)) (hdg.chg (sorted_chg _ _ _ _ _ _) (fun b hb e => hpg b hb (by simpa using e))) h1 h2 x y).mono fun e w' ⟨a1, a2⟩ => ⟨a1, a2.grown⟩) (Own.holdsK hk h) (h.lt g (by simp)) (by simpa using hsz)
  change Calls Try.prog 60 #[.slice (some ⟨g, o, none⟩) l.toArray.size cap, _] _ _ at hcon
  rw [List.size_toArray] at hcon
  refine hcon.mono ?_
  rintro e w' ⟨he, d', m, os, hp, hs, hw⟩
  refine ⟨he, d'.toList, ?_⟩
  obtain ⟨hsz', _, hperm⟩ := hp
  have hl : d'.toList.length = l.length := by simpa using hsz'
  have e1 : d'.extract 0 l.length = d' := by rw [show l.length = d'.size from hl.symm]; exact Array.extract_size
  have e2 : l.toArray.extract 0 l.length = l.toArray := Array.extract_size
  rw [e1, e2] at hperm
  refine ⟨hl, hperm, ?_, ?_, ?_⟩
  · rw [List.pairwise_iff_getElem]
    intro i j hi hj hij
    have hi' : i < d'.size := by simpa using hi
    have hj' : j < d'.size := by simpa using hj
    have := hs i j (Nat.zero_le _) hij (by omega)
    rw [getElem!_pos d' j hj', getElem!_pos d' i hi', nodeC_lt] at this
    simpa using this
  · rw [hw]
    have := h.sorted hk hl m os
    simpa [prCells] using this
  · rw [hw]; exact sorted_chg _ _ _ _ _ _
end Go.Proofs.Ytgnbabkafobeoaa
