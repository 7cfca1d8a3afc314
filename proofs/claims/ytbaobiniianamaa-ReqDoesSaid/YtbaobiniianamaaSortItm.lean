/-
  The library's sort by a comparison, at this program's items: that its bodies are those of the shelf. Conditions: none.
  The library's sort by a comparison, at this program's items: its contract. Conditions: none.
-/
import Derived.Test.YtbaobiniianamaaProg
import Derived.Shelf.SlSortCmp.WholeK
import Derived.Test.YtbaobiniianamaaSortOwnK
import Derived.Test.YtbaobiniianamaaPlainReq
namespace Go.Proofs.Ytbaobiniianamaa
open Go.Shelf

def sortItm_ren : Go.Shelf.Ren := ⟨fun | 6 => 59 | 15 => 71 | 14 => 70 | 28 => 87 | 29 => 88 | 20 => 79 | 21 => 80 | 22 => 81 | 23 => 82 | 24 => 83 | 25 => 84 | 26 => 85 | 27 => 86 | 46 => 105 | 47 => 106 | 48 => 107 | 49 => 108 | 50 => 109 | 57 => 115 | n => n, fun | 22 => 94 | 24 => 96 | 25 => 98 | 3 => 3 | 39 => 60 | 0 => 0 | 53 => 128 | 55 => 35 | 4 => 4 | 46 => 121 | 45 => 120 | 50 => 125 | 5 => 5 | 9 => 9 | 66 => 142 | 70 => 145 | 76 => 151 | 77 => 152 | n => n, fun | n => n⟩
theorem sortItm : Go.Proofs.SlLaysF0.n6 Try.prog sortItm_ren := {
  mixed := by kernel_rfl,
  f6 := ⟨Try.f59.name, by decide, Try.func59.trans (congrArg some (by kernel_rfl))⟩,
  f14 := ⟨Try.f70.name, by decide, Try.func70.trans (congrArg some (by kernel_rfl))⟩,
  f15 := Try.func71.trans (congrArg some (by kernel_rfl)),
  f20 := ⟨Try.f79.name, by decide, Try.func79.trans (congrArg some (by kernel_rfl))⟩,
  f21 := ⟨Try.f80.name, by decide, Try.func80.trans (congrArg some (by kernel_rfl))⟩,
  f22 := ⟨Try.f81.name, by decide, Try.func81.trans (congrArg some (by kernel_rfl))⟩,
  f23 := ⟨Try.f82.name, by decide, Try.func82.trans (congrArg some (by kernel_rfl))⟩,
  f24 := ⟨Try.f83.name, by decide, Try.func83.trans (congrArg some (by kernel_rfl))⟩,
  f25 := ⟨Try.f84.name, by decide, Try.func84.trans (congrArg some (by kernel_rfl))⟩,
  f26 := ⟨Try.f85.name, by decide, Try.func85.trans (congrArg some (by kernel_rfl))⟩,
  f27 := ⟨Try.f86.name, by decide, Try.func86.trans (congrArg some (by kernel_rfl))⟩,
  f28 := Try.func87.trans (congrArg some (by kernel_rfl)),
  f29 := Try.func88.trans (congrArg some (by kernel_rfl)),
  f46 := ⟨Try.f105.name, by decide, Try.func105.trans (congrArg some (by kernel_rfl))⟩,
  f47 := Try.func106.trans (congrArg some (by kernel_rfl)),
  f48 := Try.func107.trans (congrArg some (by kernel_rfl)),
  f49 := ⟨Try.f108.name, by decide, Try.func108.trans (congrArg some (by kernel_rfl))⟩,
  f50 := ⟨Try.f109.name, by decide, Try.func109.trans (congrArg some (by kernel_rfl))⟩,
  f57 := ⟨Try.f115.name, by decide, Try.func115.trans (congrArg some (by kernel_rfl))⟩,
  t0 := Try.underlying0,
  a0 := Try.isAgg0,
  z0 := Try.sizeOf0,
  v0 := Try.zeroValue0,
  t3 := Try.underlying3,
  a3 := Try.isAgg3,
  z3 := Try.sizeOf3,
  v3 := Try.zeroValue3,
  t4 := Try.underlying4,
  a4 := Try.isAgg4,
  z4 := Try.sizeOf4,
  v4 := Try.zeroValue4,
  t5 := Try.underlying5,
  a5 := Try.isAgg5,
  z5 := Try.sizeOf5,
  v5 := Try.zeroValue5,
  t9 := Try.underlying9,
  a9 := Try.isAgg9,
  z9 := Try.sizeOf9,
  v9 := Try.zeroValue9,
  t22 := Try.underlying94,
  a22 := Try.isAgg94,
  z22 := Try.sizeOf94,
  v22 := Try.zeroValue94,
  t25 := Try.underlying98,
  a25 := Try.isAgg98,
  z25 := Try.sizeOf98,
  v25 := Try.zeroValue98,
  t39 := Try.underlying60,
  a39 := Try.isAgg60,
  z39 := Try.sizeOf60,
  v39 := Try.zeroValue60,
  t45 := Try.underlying120,
  a45 := Try.isAgg120,
  z45 := Try.sizeOf120,
  v45 := Try.zeroValue120,
  t46 := Try.underlying121,
  a46 := Try.isAgg121,
  z46 := Try.sizeOf121,
  v46 := Try.zeroValue121,
  t50 := Try.underlying125,
  a50 := Try.isAgg125,
  z50 := Try.sizeOf125,
  v50 := Try.zeroValue125,
  t53 := Try.underlying128,
  a53 := Try.isAgg128,
  z53 := Try.sizeOf128,
  v53 := Try.zeroValue128,
  t55 := Try.underlying35,
  a55 := Try.isAgg35,
  z55 := Try.sizeOf35,
  v55 := Try.zeroValue35,
  t66 := Try.underlying142,
  a66 := Try.isAgg142,
  z66 := Try.sizeOf142,
  v66 := Try.zeroValue142,
  t70 := Try.underlying145,
  a70 := Try.isAgg145,
  z70 := Try.sizeOf145,
  v70 := Try.zeroValue145,
  t76 := Try.underlying151,
  a76 := Try.isAgg151,
  z76 := Try.sizeOf151,
  v76 := Try.zeroValue151,
  t77 := Try.underlying152,
  a77 := Try.isAgg152,
  z77 := Try.sizeOf152,
  v77 := Try.zeroValue152 }
end Go.Proofs.Ytbaobiniianamaa

namespace Go.Proofs.Ytbaobiniianamaa
open Go.RowKit Go.Sort

def itCells (x : Itm) : List Value := [.int .i64 x.1, .int .u64 (x.2 : Nat)]
def itC (x y : Itm) : Int := if x.1 < y.1 then -1 else if y.1 < x.1 then 1 else 0
theorem itC_lt (x y : Itm) : ltOf itC x y = decide (x.1 < y.1) := by
  unfold ltOf itC
  by_cases h1 : x.1 < y.1
  · simp [h1]
  · by_cases h2 : y.1 < x.1 <;> simp [h1, h2]
theorem itC_swo : SWO (ltOf itC) where
  irrefl x := by rw [itC_lt]; simp
  trans x y z h1 h2 := by rw [itC_lt] at *; simp at *; omega
  ntrans x y z h1 h2 := by rw [itC_lt] at *; simp at *; omega

set_option maxHeartbeats 1000000 in
theorem itC_call (x y : Itm) (W : World) : Calls Try.prog 60 #[.agg #[.int .i64 x.1, .int .u64 (x.2 : Nat)], .agg #[.int .i64 y.1, .int .u64 (y.2 : Nat)]] W fun e w' => e = .returned (.int .i64 (itC x y)) ∧ ∃ q os', w' = grow (W.drewN q) os' := by
  obtain ⟨a, m⟩ := x
  obtain ⟨b, n⟩ := y
  have HG := Lib.hid (show itC (a, m) (b, n) = if a < b then -1 else if b < a then 1 else 0 from rfl)
  generalize itC (a, m) (b, n) = R at *
  go_enter Try.func60, Try.ntmps60
  by_cases h1 : a < b
  · have d1 : decide (a < b) = true := decide_eq_true h1
    obtain rfl : R = -1 := by rw [HG.out, if_pos h1]
    go_wp2
    go_ret
    exact ⟨rfl, 0, _, by rw [alloc_eq_grow, alloc_eq_grow, grow_grow]; rfl⟩
  · have d1 : decide (a < b) = false := decide_eq_false h1
    by_cases h2 : b < a
    · have d2 : decide (b < a) = true := decide_eq_true h2
      obtain rfl : R = 1 := by rw [HG.out, if_neg h1, if_pos h2]
      go_wp2
      go_ret
      exact ⟨rfl, 0, _, by rw [alloc_eq_grow, alloc_eq_grow, grow_grow]; rfl⟩
    · have d2 : decide (b < a) = false := decide_eq_false h2
      obtain rfl : R = 0 := by rw [HG.out, if_neg h1, if_neg h2]
      go_wp2
      go_ret
      exact ⟨rfl, 0, _, by rw [alloc_eq_grow, alloc_eq_grow, grow_grow]; rfl⟩

/-- The sort: the same slice, the items in order. -/
theorem sort_items (w : World) (g o cap n : Nat) (l : List Itm) (hn : n = l.length) (h : Own w 96 2 (.slice (some ⟨g, o, none⟩) n cap) n (l.map itCells).flatten) (hsz : n < 4611686018427387904) :
    Calls Try.prog 59 #[.slice (some ⟨g, o, none⟩) n cap, .func (.func 60) #[] #[]] w fun e w' =>
      e = .returned (.tuple #[]) ∧ ∃ l' : List Itm, l'.length = n ∧ l'.Perm l ∧ (l'.Pairwise fun a b => a.1 ≤ b.1) ∧ Own w' 96 2 (.slice (some ⟨g, o, none⟩) n cap) n (l'.map itCells).flatten ∧ Chg [g] w w' := by
  subst hn
  have eg : ∀ args w, (callFunc 60 args).run Try.prog w = .ok (.enter 60 args) w := enters_of Try.func60 (by kernel_rfl) rfl
  have hk : ∀ x : Itm, (itCells x).length = 2 := fun _ => rfl
  have hcon := AnyQ.slices_SortFunc sortItm 2 Try.isAgg96 Try.sizeOf96 itCells hk (fun x v hv => by simp [itCells] at hv; rcases hv with rfl | rfl <;> rfl) itC itC_swo 60 #[] g o cap l.toArray w eg
    (fun _ _ _ _ x y => itC_call x y _) (Own.holdsK hk h) (h.lt g (by simp)) (by simpa using hsz)
  change Calls Try.prog 59 #[.slice (some ⟨g, o, none⟩) l.toArray.size cap, _] _ _ at hcon
  rw [List.size_toArray] at hcon
  refine hcon.mono ?_
  rintro e w' ⟨he, d', m, os, hp, hs, hw⟩
  refine ⟨he, d'.toList, ?_⟩
  obtain ⟨hsz', _, hperm⟩ := hp
  have hl : d'.toList.length = l.length := by simpa using hsz'
  have e1 : d'.extract 0 l.length = d' := by rw [show l.length = d'.size from hl.symm]; exact Array.extract_size
  have e2 : l.toArray.extract 0 l.length = l.toArray := Array.extract_size
  rw [e1, e2] at hperm
  refine ⟨hl, hperm, ?_, ?_, ?_⟩
  · rw [List.pairwise_iff_getElem]
    intro i j hi hj hij
    have hi' : i < d'.size := by simpa using hi
    have hj' : j < d'.size := by simpa using hj
    have := hs i j (Nat.zero_le _) hij (by omega)
    rw [getElem!_pos d' j hj', getElem!_pos d' i hi', itC_lt] at this
    simpa using this
  · rw [hw]
    have := h.sorted hk hl m os
    simpa using this
  · rw [hw]; exact sorted_chg _ _ _ _ _ _
end Go.Proofs.Ytbaobiniianamaa
