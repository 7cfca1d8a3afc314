/-
  No cell of these rows narrows 'for every input' (looked for: loops, veiled, ifaces, maps, wideKeys, modest, calm, conditions, laid).
  DERIVED. THE GIVEN ROWS OF THIS SEAT. 6 by the template 'for every input the law returns true; each argument reads behind the call as it read before'; 0 by the template 'total and deterministic' (their statements: YtgnbabkafobeoaaTotals.lean).
  GIVEN WITH THE SEED: the statements are not yours to turn. If you find one false, say at which input.
  Laid BY PROGRAM, IN A SANDBOX (cutbox-rows.mjs): the forced cells as the released guide's own fill.sh prints them over the translation b6d283e01a2a3fac… (all of the seat's roots in one cut). By AI agents, Wed Nov 11 2026. No macro, syntax, notation, axiom, sorry.
-/
import Derived.Test.YtgnbabkafobeoaaChecked
import GoSem.Claim
import GoSem.ClaimJoined
import GoSem.ClaimMapViews
import Derived.JoinedTies
import Derived.KernelRfl
namespace Go.Proofs.Ytgnbabkafobeoaa
/- THE CELL 'sum', in the pinned program and in every row, IS THE sha256 OF THE DUMP (.gsa) THAT YtgnbabkafobeoaaProg.lean LOADS. Nothing in Lean hashes anything: it is a label: what it is worth is what the hold of that sum in a sandbox is worth. -/
noncomputable def Try.pinned : Pinned := { name := "ytgnbabkafobeoaa", sum := "b6d283e01a2a3fac2f90b4405414f6f1b79b001d16dde40a3613c231ec1d41e7", checked := Try.checked }
namespace Rows
def none {H : Type} : Left H := { results := [], args := [] }

/-- 'ogivelaw17.DigestClose': WHATEVER THE INPUT: true; the input reads as it did. -/
def digestCloseSpec : ChangeSpec := { name := "digestClose", fn := fun _ => fun
  | [d1, d2, d3, d4] => { results := [.lit (.bool true)], args := [d1, d2, d3, d4] }
  | _ => none }
def digestCloseRow : OpenClaim := { program := "ytgnbabkafobeoaa", sum := "b6d283e01a2a3fac2f90b4405414f6f1b79b001d16dde40a3613c231ec1d41e7", func := "ogive/ogivelaw17.DigestClose", spec := "digestClose", inPlace := ["slices.overlaps[ogive/api.Pair]", "math/bits.Add64"], unfollowed := true, recurses := true, named := ["math/bits.divideError", "math/bits.overflowError"], apart := false }
def DigestCloseSaid : Prop := digestCloseRow.holds Try.pinned (OpenSpec.ofChange digestCloseSpec)

/-- ITS FALSE NEIGHBOUR: 'it returns false'. Refute it at one input. -/
def digestCloseWrong : ChangeSpec := { name := "digestClose", fn := fun _ => fun
  | [d1, d2, d3, d4] => { results := [.lit (.bool false)], args := [d1, d2, d3, d4] }
  | _ => none }
def DigestCloseWrongFalsely : Prop := digestCloseRow.holds Try.pinned (OpenSpec.ofChange digestCloseWrong)

/-- 'ogivelaw17.DigestFew': WHATEVER THE INPUT: true; the input reads as it did. -/
def digestFewSpec : ChangeSpec := { name := "digestFew", fn := fun _ => fun
  | [d1, d2, d3] => { results := [.lit (.bool true)], args := [d1, d2, d3] }
  | _ => none }
def digestFewRow : OpenClaim := { program := "ytgnbabkafobeoaa", sum := "b6d283e01a2a3fac2f90b4405414f6f1b79b001d16dde40a3613c231ec1d41e7", func := "ogive/ogivelaw17.DigestFew", spec := "digestFew", inPlace := ["slices.overlaps[ogive/api.Pair]", "math/bits.Add64"], unfollowed := true, recurses := true, named := ["math/bits.divideError", "math/bits.overflowError"], apart := false }
def DigestFewSaid : Prop := digestFewRow.holds Try.pinned (OpenSpec.ofChange digestFewSpec)

/-- ITS FALSE NEIGHBOUR: 'it returns false'. Refute it at one input. -/
def digestFewWrong : ChangeSpec := { name := "digestFew", fn := fun _ => fun
  | [d1, d2, d3] => { results := [.lit (.bool false)], args := [d1, d2, d3] }
  | _ => none }
def DigestFewWrongFalsely : Prop := digestFewRow.holds Try.pinned (OpenSpec.ofChange digestFewWrong)

/-- 'ogivelaw17.DigestDoes': WHATEVER THE INPUT: true; the input reads as it did. -/
def digestDoesSpec : ChangeSpec := { name := "digestDoes", fn := fun _ => fun
  | [d1, d2, d3, d4] => { results := [.lit (.bool true)], args := [d1, d2, d3, d4] }
  | _ => none }
def digestDoesRow : OpenClaim := { program := "ytgnbabkafobeoaa", sum := "b6d283e01a2a3fac2f90b4405414f6f1b79b001d16dde40a3613c231ec1d41e7", func := "ogive/ogivelaw17.DigestDoes", spec := "digestDoes", inPlace := ["slices.overlaps[ogive/api.Pair]", "math/bits.Add64"], unfollowed := true, recurses := true, named := ["math/bits.divideError", "math/bits.overflowError"], apart := false }
def DigestDoesSaid : Prop := digestDoesRow.holds Try.pinned (OpenSpec.ofChange digestDoesSpec)

/-- ITS FALSE NEIGHBOUR: 'it returns false'. Refute it at one input. -/
def digestDoesWrong : ChangeSpec := { name := "digestDoes", fn := fun _ => fun
  | [d1, d2, d3, d4] => { results := [.lit (.bool false)], args := [d1, d2, d3, d4] }
  | _ => none }
def DigestDoesWrongFalsely : Prop := digestDoesRow.holds Try.pinned (OpenSpec.ofChange digestDoesWrong)

/-- 'ogivelaw17.DigestJoins': WHATEVER THE INPUT: true; the input reads as it did. -/
def digestJoinsSpec : ChangeSpec := { name := "digestJoins", fn := fun _ => fun
  | [d1, d2, d3, d4] => { results := [.lit (.bool true)], args := [d1, d2, d3, d4] }
  | _ => none }
def digestJoinsRow : OpenClaim := { program := "ytgnbabkafobeoaa", sum := "b6d283e01a2a3fac2f90b4405414f6f1b79b001d16dde40a3613c231ec1d41e7", func := "ogive/ogivelaw17.DigestJoins", spec := "digestJoins", inPlace := ["slices.overlaps[ogive/api.Pair]", "math/bits.Add64"], unfollowed := true, recurses := true, named := ["math/bits.divideError", "math/bits.overflowError"], apart := false }
def DigestJoinsSaid : Prop := digestJoinsRow.holds Try.pinned (OpenSpec.ofChange digestJoinsSpec)

/-- ITS FALSE NEIGHBOUR: 'it returns false'. Refute it at one input. -/
def digestJoinsWrong : ChangeSpec := { name := "digestJoins", fn := fun _ => fun
  | [d1, d2, d3, d4] => { results := [.lit (.bool false)], args := [d1, d2, d3, d4] }
  | _ => none }
def DigestJoinsWrongFalsely : Prop := digestJoinsRow.holds Try.pinned (OpenSpec.ofChange digestJoinsWrong)

/-- 'ogivelaw17.DigestLoads': WHATEVER THE INPUT: true; the input reads as it did. -/
def digestLoadsSpec : ChangeSpec := { name := "digestLoads", fn := fun _ => fun
  | [d1, d2, d3, d4] => { results := [.lit (.bool true)], args := [d1, d2, d3, d4] }
  | _ => none }
def digestLoadsRow : OpenClaim := { program := "ytgnbabkafobeoaa", sum := "b6d283e01a2a3fac2f90b4405414f6f1b79b001d16dde40a3613c231ec1d41e7", func := "ogive/ogivelaw17.DigestLoads", spec := "digestLoads", inPlace := ["slices.overlaps[ogive/api.Pair]", "math/bits.Add64"], unfollowed := true, recurses := true, named := ["math/bits.divideError", "math/bits.overflowError"], apart := false }
def DigestLoadsSaid : Prop := digestLoadsRow.holds Try.pinned (OpenSpec.ofChange digestLoadsSpec)

/-- ITS FALSE NEIGHBOUR: 'it returns false'. Refute it at one input. -/
def digestLoadsWrong : ChangeSpec := { name := "digestLoads", fn := fun _ => fun
  | [d1, d2, d3, d4] => { results := [.lit (.bool false)], args := [d1, d2, d3, d4] }
  | _ => none }
def DigestLoadsWrongFalsely : Prop := digestLoadsRow.holds Try.pinned (OpenSpec.ofChange digestLoadsWrong)

/-- 'ogivelaw17.DigestErrors': WHATEVER THE INPUT: true; the input reads as it did. -/
def digestErrorsSpec : ChangeSpec := { name := "digestErrors", fn := fun _ => fun
  | [d1, d2, d3, d4] => { results := [.lit (.bool true)], args := [d1, d2, d3, d4] }
  | _ => none }
def digestErrorsRow : OpenClaim := { program := "ytgnbabkafobeoaa", sum := "b6d283e01a2a3fac2f90b4405414f6f1b79b001d16dde40a3613c231ec1d41e7", func := "ogive/ogivelaw17.DigestErrors", spec := "digestErrors", inPlace := ["slices.overlaps[ogive/api.Pair]", "math/bits.Add64"], unfollowed := true, recurses := true, named := ["math/bits.divideError", "math/bits.overflowError"], apart := false }
def DigestErrorsSaid : Prop := digestErrorsRow.holds Try.pinned (OpenSpec.ofChange digestErrorsSpec)

/-- ITS FALSE NEIGHBOUR: 'it returns false'. Refute it at one input. -/
def digestErrorsWrong : ChangeSpec := { name := "digestErrors", fn := fun _ => fun
  | [d1, d2, d3, d4] => { results := [.lit (.bool false)], args := [d1, d2, d3, d4] }
  | _ => none }
def DigestErrorsWrongFalsely : Prop := digestErrorsRow.holds Try.pinned (OpenSpec.ofChange digestErrorsWrong)

/- THE SECOND FORM. 'bulk': how many values and letters a reading holds, each counted each time it is reached (what is shared counts as often as it is met; a slice's spare places count too). A statement '..UptoSaid' is the law's where the arguments, and the package variables that the reading takes, are together of bulk at most 1048576: NARROWER than '..Said'. Prove '..Said' where nothing that the law and all that it calls make is longer than what came in: it says more and counts as full. Else prove '..UptoSaid'. A law counts once. -/
mutual
def uptoBulk {H : Type} : DataW H → Nat
  | .lit (.string bytes) => bytes.length + 1
  | .lit _ => 1
  | .nil => 1
  | .ptr d => uptoBulk d + 1
  | .slice elems spare => uptoBulkAll elems + uptoBulkAll spare + 1
  | .agg parts => uptoBulkAll parts + 1
  | .iface _ d => uptoBulk d + 1
  | .map entries => uptoBulkEntries entries + 1
  | .held _ => 1
def uptoBulkAll {H : Type} : List (DataW H) → Nat
  | [] => 0
  | d :: r => uptoBulk d + uptoBulkAll r
def uptoBulkEntries {H : Type} : List (Lit × DataW H) → Nat
  | [] => 0
  | x :: r => uptoBulkEntry x + uptoBulkEntries r
def uptoBulkEntry {H : Type} : Lit × DataW H → Nat
  | (.string bytes, d) => bytes.length + uptoBulk d + 1
  | (_, d) => uptoBulk d + 1
 end
def uptoSmall : (H : Type) → List (DataW H) → Bool := fun _ ds => decide (uptoBulkAll ds ≤ 1048576)
def OpenSpec.upto (s : _root_.Go.ChangeSpec) : _root_.Go.OpenSpec := { _root_.Go.OpenSpec.ofChange s with cond := some uptoSmall }

/-- 'ogivelaw17.DigestClose', WHERE WHAT IT READS IS OF BULK AT MOST 1048576: true; the input reads as it did. -/
def digestCloseUptoRow : OpenClaim := { program := "ytgnbabkafobeoaa", sum := "b6d283e01a2a3fac2f90b4405414f6f1b79b001d16dde40a3613c231ec1d41e7", func := "ogive/ogivelaw17.DigestClose", spec := "digestClose", inPlace := ["slices.overlaps[ogive/api.Pair]", "math/bits.Add64"], unfollowed := true, recurses := true, named := ["math/bits.divideError", "math/bits.overflowError"], apart := false, narrowed := true }
def DigestCloseUptoSaid : Prop := digestCloseUptoRow.holds Try.pinned (OpenSpec.upto digestCloseSpec)

/-- 'ogivelaw17.DigestFew', WHERE WHAT IT READS IS OF BULK AT MOST 1048576: true; the input reads as it did. -/
def digestFewUptoRow : OpenClaim := { program := "ytgnbabkafobeoaa", sum := "b6d283e01a2a3fac2f90b4405414f6f1b79b001d16dde40a3613c231ec1d41e7", func := "ogive/ogivelaw17.DigestFew", spec := "digestFew", inPlace := ["slices.overlaps[ogive/api.Pair]", "math/bits.Add64"], unfollowed := true, recurses := true, named := ["math/bits.divideError", "math/bits.overflowError"], apart := false, narrowed := true }
def DigestFewUptoSaid : Prop := digestFewUptoRow.holds Try.pinned (OpenSpec.upto digestFewSpec)

/-- 'ogivelaw17.DigestDoes', WHERE WHAT IT READS IS OF BULK AT MOST 1048576: true; the input reads as it did. -/
def digestDoesUptoRow : OpenClaim := { program := "ytgnbabkafobeoaa", sum := "b6d283e01a2a3fac2f90b4405414f6f1b79b001d16dde40a3613c231ec1d41e7", func := "ogive/ogivelaw17.DigestDoes", spec := "digestDoes", inPlace := ["slices.overlaps[ogive/api.Pair]", "math/bits.Add64"], unfollowed := true, recurses := true, named := ["math/bits.divideError", "math/bits.overflowError"], apart := false, narrowed := true }
def DigestDoesUptoSaid : Prop := digestDoesUptoRow.holds Try.pinned (OpenSpec.upto digestDoesSpec)

/-- 'ogivelaw17.DigestJoins', WHERE WHAT IT READS IS OF BULK AT MOST 1048576: true; the input reads as it did. -/
def digestJoinsUptoRow : OpenClaim := { program := "ytgnbabkafobeoaa", sum := "b6d283e01a2a3fac2f90b4405414f6f1b79b001d16dde40a3613c231ec1d41e7", func := "ogive/ogivelaw17.DigestJoins", spec := "digestJoins", inPlace := ["slices.overlaps[ogive/api.Pair]", "math/bits.Add64"], unfollowed := true, recurses := true, named := ["math/bits.divideError", "math/bits.overflowError"], apart := false, narrowed := true }
def DigestJoinsUptoSaid : Prop := digestJoinsUptoRow.holds Try.pinned (OpenSpec.upto digestJoinsSpec)

/-- 'ogivelaw17.DigestLoads', WHERE WHAT IT READS IS OF BULK AT MOST 1048576: true; the input reads as it did. -/
def digestLoadsUptoRow : OpenClaim := { program := "ytgnbabkafobeoaa", sum := "b6d283e01a2a3fac2f90b4405414f6f1b79b001d16dde40a3613c231ec1d41e7", func := "ogive/ogivelaw17.DigestLoads", spec := "digestLoads", inPlace := ["slices.overlaps[ogive/api.Pair]", "math/bits.Add64"], unfollowed := true, recurses := true, named := ["math/bits.divideError", "math/bits.overflowError"], apart := false, narrowed := true }
def DigestLoadsUptoSaid : Prop := digestLoadsUptoRow.holds Try.pinned (OpenSpec.upto digestLoadsSpec)

/-- 'ogivelaw17.DigestErrors', WHERE WHAT IT READS IS OF BULK AT MOST 1048576: true; the input reads as it did. -/
def digestErrorsUptoRow : OpenClaim := { program := "ytgnbabkafobeoaa", sum := "b6d283e01a2a3fac2f90b4405414f6f1b79b001d16dde40a3613c231ec1d41e7", func := "ogive/ogivelaw17.DigestErrors", spec := "digestErrors", inPlace := ["slices.overlaps[ogive/api.Pair]", "math/bits.Add64"], unfollowed := true, recurses := true, named := ["math/bits.divideError", "math/bits.overflowError"], apart := false, narrowed := true }
def DigestErrorsUptoSaid : Prop := digestErrorsUptoRow.holds Try.pinned (OpenSpec.upto digestErrorsSpec)

end Rows
end Go.Proofs.Ytgnbabkafobeoaa
