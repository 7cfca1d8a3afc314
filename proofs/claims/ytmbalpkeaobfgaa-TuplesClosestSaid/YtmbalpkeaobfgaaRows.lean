/-
  No cell of these rows narrows 'for every input' (looked for: loops, veiled, ifaces, maps, wideKeys, modest, calm, conditions, laid).
  DERIVED. THE GIVEN ROWS OF THIS SEAT. 5 by the template 'for every input the law returns true; each argument reads behind the call as it read before'; 0 by the template 'total and deterministic' (their statements: YtmbalpkeaobfgaaTotals.lean).
  GIVEN WITH THE SEED: the statements are not yours to turn. If you find one false, say at which input.
  Laid BY PROGRAM, IN A SANDBOX (cutbox-rows.mjs): the forced cells as the released guide's own fill.sh prints them over the translation 760450b4975616d4… (all of the seat's roots in one cut). By AI agents, Wed Nov 11 2026. No macro, syntax, notation, axiom, sorry.
-/
import Derived.Test.YtmbalpkeaobfgaaChecked
import GoSem.Claim
import GoSem.ClaimJoined
import GoSem.ClaimMapViews
import Derived.JoinedTies
import Derived.KernelRfl
namespace Go.Proofs.Ytmbalpkeaobfgaa
/- THE CELL 'sum', in the pinned program and in every row, IS THE sha256 OF THE DUMP (.gsa) THAT YtmbalpkeaobfgaaProg.lean LOADS. Nothing in Lean hashes anything: it is a label: what it is worth is what the hold of that sum in a sandbox is worth. -/
noncomputable def Try.pinned : Pinned := { name := "ytmbalpkeaobfgaa", sum := "760450b4975616d47cf6d92f4ae3475dcb768a6d61bb2e7c4c89543cd3dca787", checked := Try.checked }
namespace Rows
def none {H : Type} : Left H := { results := [], args := [] }

/-- 'ogivelaw18.TuplesRows': WHATEVER THE INPUT: true; the input reads as it did. -/
def tuplesRowsSpec : ChangeSpec := { name := "tuplesRows", fn := fun _ => fun
  | [d] => { results := [.lit (.bool true)], args := [d] }
  | _ => none }
def tuplesRowsRow : OpenClaim := { program := "ytmbalpkeaobfgaa", sum := "760450b4975616d47cf6d92f4ae3475dcb768a6d61bb2e7c4c89543cd3dca787", func := "ogive/ogivelaw18.TuplesRows", spec := "tuplesRows", inPlace := ["slices.overlaps[ogive/tuples.Tuple]"], unfollowed := true, recurses := true, apart := false }
def TuplesRowsSaid : Prop := tuplesRowsRow.holds Try.pinned (OpenSpec.ofChange tuplesRowsSpec)

/-- ITS FALSE NEIGHBOUR: 'it returns false'. Refute it at one input. -/
def tuplesRowsWrong : ChangeSpec := { name := "tuplesRows", fn := fun _ => fun
  | [d] => { results := [.lit (.bool false)], args := [d] }
  | _ => none }
def TuplesRowsWrongFalsely : Prop := tuplesRowsRow.holds Try.pinned (OpenSpec.ofChange tuplesRowsWrong)

/-- 'ogivelaw18.TuplesClosest': WHATEVER THE INPUT: true; the input reads as it did. -/
def tuplesClosestSpec : ChangeSpec := { name := "tuplesClosest", fn := fun _ => fun
  | [d1, d2, d3] => { results := [.lit (.bool true)], args := [d1, d2, d3] }
  | _ => none }
def tuplesClosestRow : OpenClaim := { program := "ytmbalpkeaobfgaa", sum := "760450b4975616d47cf6d92f4ae3475dcb768a6d61bb2e7c4c89543cd3dca787", func := "ogive/ogivelaw18.TuplesClosest", spec := "tuplesClosest", inPlace := ["slices.overlaps[ogive/tuples.Tuple]"], unfollowed := true, recurses := true, apart := false }
def TuplesClosestSaid : Prop := tuplesClosestRow.holds Try.pinned (OpenSpec.ofChange tuplesClosestSpec)

/-- ITS FALSE NEIGHBOUR: 'it returns false'. Refute it at one input. -/
def tuplesClosestWrong : ChangeSpec := { name := "tuplesClosest", fn := fun _ => fun
  | [d1, d2, d3] => { results := [.lit (.bool false)], args := [d1, d2, d3] }
  | _ => none }
def TuplesClosestWrongFalsely : Prop := tuplesClosestRow.holds Try.pinned (OpenSpec.ofChange tuplesClosestWrong)

/-- 'ogivelaw18.TuplesPlaces': WHATEVER THE INPUT: true; the input reads as it did. -/
def tuplesPlacesSpec : ChangeSpec := { name := "tuplesPlaces", fn := fun _ => fun
  | [d1, d2, d3] => { results := [.lit (.bool true)], args := [d1, d2, d3] }
  | _ => none }
def tuplesPlacesRow : OpenClaim := { program := "ytmbalpkeaobfgaa", sum := "760450b4975616d47cf6d92f4ae3475dcb768a6d61bb2e7c4c89543cd3dca787", func := "ogive/ogivelaw18.TuplesPlaces", spec := "tuplesPlaces", inPlace := ["slices.overlaps[ogive/tuples.Tuple]"], unfollowed := true, recurses := true, apart := false }
def TuplesPlacesSaid : Prop := tuplesPlacesRow.holds Try.pinned (OpenSpec.ofChange tuplesPlacesSpec)

/-- ITS FALSE NEIGHBOUR: 'it returns false'. Refute it at one input. -/
def tuplesPlacesWrong : ChangeSpec := { name := "tuplesPlaces", fn := fun _ => fun
  | [d1, d2, d3] => { results := [.lit (.bool false)], args := [d1, d2, d3] }
  | _ => none }
def TuplesPlacesWrongFalsely : Prop := tuplesPlacesRow.holds Try.pinned (OpenSpec.ofChange tuplesPlacesWrong)

/-- 'ogivelaw18.TuplesFinds': WHATEVER THE INPUT: true; the input reads as it did. -/
def tuplesFindsSpec : ChangeSpec := { name := "tuplesFinds", fn := fun _ => fun
  | [d1, d2, d3, d4] => { results := [.lit (.bool true)], args := [d1, d2, d3, d4] }
  | _ => none }
def tuplesFindsRow : OpenClaim := { program := "ytmbalpkeaobfgaa", sum := "760450b4975616d47cf6d92f4ae3475dcb768a6d61bb2e7c4c89543cd3dca787", func := "ogive/ogivelaw18.TuplesFinds", spec := "tuplesFinds", inPlace := ["slices.overlaps[ogive/tuples.Tuple]"], unfollowed := true, recurses := true, apart := false }
def TuplesFindsSaid : Prop := tuplesFindsRow.holds Try.pinned (OpenSpec.ofChange tuplesFindsSpec)

/-- ITS FALSE NEIGHBOUR: 'it returns false'. Refute it at one input. -/
def tuplesFindsWrong : ChangeSpec := { name := "tuplesFinds", fn := fun _ => fun
  | [d1, d2, d3, d4] => { results := [.lit (.bool false)], args := [d1, d2, d3, d4] }
  | _ => none }
def TuplesFindsWrongFalsely : Prop := tuplesFindsRow.holds Try.pinned (OpenSpec.ofChange tuplesFindsWrong)

/-- 'ogivelaw18.TuplesGood': WHATEVER THE INPUT: true; the input reads as it did. -/
def tuplesGoodSpec : ChangeSpec := { name := "tuplesGood", fn := fun _ => fun
  | [d1, d2, d3] => { results := [.lit (.bool true)], args := [d1, d2, d3] }
  | _ => none }
def tuplesGoodRow : OpenClaim := { program := "ytmbalpkeaobfgaa", sum := "760450b4975616d47cf6d92f4ae3475dcb768a6d61bb2e7c4c89543cd3dca787", func := "ogive/ogivelaw18.TuplesGood", spec := "tuplesGood", inPlace := ["slices.overlaps[ogive/tuples.Tuple]"], unfollowed := true, recurses := true, named := ["math/bits.divideError", "math/bits.overflowError"], apart := false }
def TuplesGoodSaid : Prop := tuplesGoodRow.holds Try.pinned (OpenSpec.ofChange tuplesGoodSpec)

/-- ITS FALSE NEIGHBOUR: 'it returns false'. Refute it at one input. -/
def tuplesGoodWrong : ChangeSpec := { name := "tuplesGood", fn := fun _ => fun
  | [d1, d2, d3] => { results := [.lit (.bool false)], args := [d1, d2, d3] }
  | _ => none }
def TuplesGoodWrongFalsely : Prop := tuplesGoodRow.holds Try.pinned (OpenSpec.ofChange tuplesGoodWrong)

/- THE SECOND FORM. 'bulk': how many values and letters a reading holds, each counted each time it is reached (what is shared counts as often as it is met; a slice's spare places count too). A statement '..UptoSaid' is the law's where the arguments, and the package variables that the reading takes, are together of bulk at most 1048576: NARROWER than '..Said'. Prove '..Said' where nothing that the law and all that it calls make is longer than what came in: it says more and counts as full. Else prove '..UptoSaid'. A law counts once. -/
mutual
def uptoBulk {H : Type} : DataW H → Nat
  | .lit (.string bytes) => bytes.length + 1
  | .lit _ => 1
  | .nil => 1
  | .ptr d => uptoBulk d + 1
  | .slice elems spare => uptoBulkAll elems + uptoBulkAll spare + 1
  | .agg parts => uptoBulkAll parts + 1
  | .iface _ d => uptoBulk d + 1
  | .map entries => uptoBulkEntries entries + 1
  | .held _ => 1
def uptoBulkAll {H : Type} : List (DataW H) → Nat
  | [] => 0
  | d :: r => uptoBulk d + uptoBulkAll r
def uptoBulkEntries {H : Type} : List (Lit × DataW H) → Nat
  | [] => 0
  | x :: r => uptoBulkEntry x + uptoBulkEntries r
def uptoBulkEntry {H : Type} : Lit × DataW H → Nat
  | (.string bytes, d) => bytes.length + uptoBulk d + 1
  | (_, d) => uptoBulk d + 1
 end
def uptoSmall : (H : Type) → List (DataW H) → Bool := fun _ ds => decide (uptoBulkAll ds ≤ 1048576)
def OpenSpec.upto (s : _root_.Go.ChangeSpec) : _root_.Go.OpenSpec := { _root_.Go.OpenSpec.ofChange s with cond := some uptoSmall }

/-- 'ogivelaw18.TuplesRows', WHERE WHAT IT READS IS OF BULK AT MOST 1048576: true; the input reads as it did. -/
def tuplesRowsUptoRow : OpenClaim := { program := "ytmbalpkeaobfgaa", sum := "760450b4975616d47cf6d92f4ae3475dcb768a6d61bb2e7c4c89543cd3dca787", func := "ogive/ogivelaw18.TuplesRows", spec := "tuplesRows", inPlace := ["slices.overlaps[ogive/tuples.Tuple]"], unfollowed := true, recurses := true, apart := false, narrowed := true }
def TuplesRowsUptoSaid : Prop := tuplesRowsUptoRow.holds Try.pinned (OpenSpec.upto tuplesRowsSpec)

/-- 'ogivelaw18.TuplesClosest', WHERE WHAT IT READS IS OF BULK AT MOST 1048576: true; the input reads as it did. -/
def tuplesClosestUptoRow : OpenClaim := { program := "ytmbalpkeaobfgaa", sum := "760450b4975616d47cf6d92f4ae3475dcb768a6d61bb2e7c4c89543cd3dca787", func := "ogive/ogivelaw18.TuplesClosest", spec := "tuplesClosest", inPlace := ["slices.overlaps[ogive/tuples.Tuple]"], unfollowed := true, recurses := true, apart := false, narrowed := true }
def TuplesClosestUptoSaid : Prop := tuplesClosestUptoRow.holds Try.pinned (OpenSpec.upto tuplesClosestSpec)

/-- 'ogivelaw18.TuplesPlaces', WHERE WHAT IT READS IS OF BULK AT MOST 1048576: true; the input reads as it did. -/
def tuplesPlacesUptoRow : OpenClaim := { program := "ytmbalpkeaobfgaa", sum := "760450b4975616d47cf6d92f4ae3475dcb768a6d61bb2e7c4c89543cd3dca787", func := "ogive/ogivelaw18.TuplesPlaces", spec := "tuplesPlaces", inPlace := ["slices.overlaps[ogive/tuples.Tuple]"], unfollowed := true, recurses := true, apart := false, narrowed := true }
def TuplesPlacesUptoSaid : Prop := tuplesPlacesUptoRow.holds Try.pinned (OpenSpec.upto tuplesPlacesSpec)

/-- 'ogivelaw18.TuplesFinds', WHERE WHAT IT READS IS OF BULK AT MOST 1048576: true; the input reads as it did. -/
def tuplesFindsUptoRow : OpenClaim := { program := "ytmbalpkeaobfgaa", sum := "760450b4975616d47cf6d92f4ae3475dcb768a6d61bb2e7c4c89543cd3dca787", func := "ogive/ogivelaw18.TuplesFinds", spec := "tuplesFinds", inPlace := ["slices.overlaps[ogive/tuples.Tuple]"], unfollowed := true, recurses := true, apart := false, narrowed := true }
def TuplesFindsUptoSaid : Prop := tuplesFindsUptoRow.holds Try.pinned (OpenSpec.upto tuplesFindsSpec)

/-- 'ogivelaw18.TuplesGood', WHERE WHAT IT READS IS OF BULK AT MOST 1048576: true; the input reads as it did. -/
def tuplesGoodUptoRow : OpenClaim := { program := "ytmbalpkeaobfgaa", sum := "760450b4975616d47cf6d92f4ae3475dcb768a6d61bb2e7c4c89543cd3dca787", func := "ogive/ogivelaw18.TuplesGood", spec := "tuplesGood", inPlace := ["slices.overlaps[ogive/tuples.Tuple]"], unfollowed := true, recurses := true, named := ["math/bits.divideError", "math/bits.overflowError"], apart := false, narrowed := true }
def TuplesGoodUptoSaid : Prop := tuplesGoodUptoRow.holds Try.pinned (OpenSpec.upto tuplesGoodSpec)

end Rows
end Go.Proofs.Ytmbalpkeaobfgaa
