/-
  No cell of these rows narrows 'for every input' (looked for: loops, veiled, ifaces, maps, wideKeys, modest, calm, conditions, laid).
  DERIVED. THE GIVEN ROWS OF THIS SEAT. 7 by the template 'for every input the law returns true; each argument reads behind the call as it read before'; 0 by the template 'total and deterministic' (their statements: YtkcldhimjnehdaaTotals.lean).
  GIVEN WITH THE SEED: the statements are not yours to turn. If you find one false, say at which input.
  Laid BY PROGRAM, IN A SANDBOX (cutbox-rows.mjs): the forced cells as the released guide's own fill.sh prints them over the translation 2c4a5d18ea0b2f4b… (all of the seat's roots in one cut). By AI agents, Wed Nov 11 2026. No macro, syntax, notation, axiom, sorry.
-/
import Derived.Test.YtkcldhimjnehdaaChecked
import GoSem.Claim
import GoSem.ClaimJoined
import GoSem.ClaimMapViews
import Derived.JoinedTies
import Derived.KernelRfl
namespace Go.Proofs.Ytkcldhimjnehdaa
/- THE CELL 'sum', in the pinned program and in every row, IS THE sha256 OF THE DUMP (.gsa) THAT YtkcldhimjnehdaaProg.lean LOADS. Nothing in Lean hashes anything: it is a label: what it is worth is what the hold of that sum in a sandbox is worth. -/
noncomputable def Try.pinned : Pinned := { name := "ytkcldhimjnehdaa", sum := "2c4a5d18ea0b2f4bd228e15a2c9b88dd0b50942a0e46f5e65685e861603615df", checked := Try.checked }
namespace Rows
def none {H : Type} : Left H := { results := [], args := [] }

/-- 'ogivelaw18.TuplesGood': WHATEVER THE INPUT: true; the input reads as it did. -/
def tuplesGoodSpec : ChangeSpec := { name := "tuplesGood", fn := fun _ => fun
  | [d1, d2, d3] => { results := [.lit (.bool true)], args := [d1, d2, d3] }
  | _ => none }
def tuplesGoodRow : OpenClaim := { program := "ytkcldhimjnehdaa", sum := "2c4a5d18ea0b2f4bd228e15a2c9b88dd0b50942a0e46f5e65685e861603615df", func := "ogive/ogivelaw18.TuplesGood", spec := "tuplesGood", inPlace := ["slices.overlaps[ogive/tuples.Tuple]"], unfollowed := true, recurses := true, named := ["math/bits.divideError", "math/bits.overflowError"], apart := false }
def TuplesGoodSaid : Prop := tuplesGoodRow.holds Try.pinned (OpenSpec.ofChange tuplesGoodSpec)

/-- ITS FALSE NEIGHBOUR: 'it returns false'. Refute it at one input. -/
def tuplesGoodWrong : ChangeSpec := { name := "tuplesGood", fn := fun _ => fun
  | [d1, d2, d3] => { results := [.lit (.bool false)], args := [d1, d2, d3] }
  | _ => none }
def TuplesGoodWrongFalsely : Prop := tuplesGoodRow.holds Try.pinned (OpenSpec.ofChange tuplesGoodWrong)

/-- 'ogivelaw19.GreenwaldClose': WHATEVER THE INPUT: true; the input reads as it did. -/
def greenwaldCloseSpec : ChangeSpec := { name := "greenwaldClose", fn := fun _ => fun
  | [d1, d2, d3, d4] => { results := [.lit (.bool true)], args := [d1, d2, d3, d4] }
  | _ => none }
def greenwaldCloseRow : OpenClaim := { program := "ytkcldhimjnehdaa", sum := "2c4a5d18ea0b2f4bd228e15a2c9b88dd0b50942a0e46f5e65685e861603615df", func := "ogive/ogivelaw19.GreenwaldClose", spec := "greenwaldClose", inPlace := ["slices.overlaps[ogive/tuples.Tuple]", "math/bits.Add64"], unfollowed := true, recurses := true, named := ["math/bits.divideError", "math/bits.overflowError"], apart := false }
def GreenwaldCloseSaid : Prop := greenwaldCloseRow.holds Try.pinned (OpenSpec.ofChange greenwaldCloseSpec)

/-- ITS FALSE NEIGHBOUR: 'it returns false'. Refute it at one input. -/
def greenwaldCloseWrong : ChangeSpec := { name := "greenwaldClose", fn := fun _ => fun
  | [d1, d2, d3, d4] => { results := [.lit (.bool false)], args := [d1, d2, d3, d4] }
  | _ => none }
def GreenwaldCloseWrongFalsely : Prop := greenwaldCloseRow.holds Try.pinned (OpenSpec.ofChange greenwaldCloseWrong)

/-- 'ogivelaw19.GreenwaldTight': WHATEVER THE INPUT: true; the input reads as it did. -/
def greenwaldTightSpec : ChangeSpec := { name := "greenwaldTight", fn := fun _ => fun
  | [d1, d2] => { results := [.lit (.bool true)], args := [d1, d2] }
  | _ => none }
def greenwaldTightRow : OpenClaim := { program := "ytkcldhimjnehdaa", sum := "2c4a5d18ea0b2f4bd228e15a2c9b88dd0b50942a0e46f5e65685e861603615df", func := "ogive/ogivelaw19.GreenwaldTight", spec := "greenwaldTight", inPlace := ["slices.overlaps[ogive/tuples.Tuple]", "math/bits.Add64"], unfollowed := true, recurses := true, named := ["math/bits.divideError", "math/bits.overflowError"], apart := false }
def GreenwaldTightSaid : Prop := greenwaldTightRow.holds Try.pinned (OpenSpec.ofChange greenwaldTightSpec)

/-- ITS FALSE NEIGHBOUR: 'it returns false'. Refute it at one input. -/
def greenwaldTightWrong : ChangeSpec := { name := "greenwaldTight", fn := fun _ => fun
  | [d1, d2] => { results := [.lit (.bool false)], args := [d1, d2] }
  | _ => none }
def GreenwaldTightWrongFalsely : Prop := greenwaldTightRow.holds Try.pinned (OpenSpec.ofChange greenwaldTightWrong)

/-- 'ogivelaw19.GreenwaldDoes': WHATEVER THE INPUT: true; the input reads as it did. -/
def greenwaldDoesSpec : ChangeSpec := { name := "greenwaldDoes", fn := fun _ => fun
  | [d1, d2, d3] => { results := [.lit (.bool true)], args := [d1, d2, d3] }
  | _ => none }
def greenwaldDoesRow : OpenClaim := { program := "ytkcldhimjnehdaa", sum := "2c4a5d18ea0b2f4bd228e15a2c9b88dd0b50942a0e46f5e65685e861603615df", func := "ogive/ogivelaw19.GreenwaldDoes", spec := "greenwaldDoes", inPlace := ["slices.overlaps[ogive/tuples.Tuple]", "math/bits.Add64"], unfollowed := true, recurses := true, named := ["math/bits.divideError", "math/bits.overflowError"], apart := false }
def GreenwaldDoesSaid : Prop := greenwaldDoesRow.holds Try.pinned (OpenSpec.ofChange greenwaldDoesSpec)

/-- ITS FALSE NEIGHBOUR: 'it returns false'. Refute it at one input. -/
def greenwaldDoesWrong : ChangeSpec := { name := "greenwaldDoes", fn := fun _ => fun
  | [d1, d2, d3] => { results := [.lit (.bool false)], args := [d1, d2, d3] }
  | _ => none }
def GreenwaldDoesWrongFalsely : Prop := greenwaldDoesRow.holds Try.pinned (OpenSpec.ofChange greenwaldDoesWrong)

/-- 'ogivelaw19.GreenwaldLoads': WHATEVER THE INPUT: true; the input reads as it did. -/
def greenwaldLoadsSpec : ChangeSpec := { name := "greenwaldLoads", fn := fun _ => fun
  | [d1, d2, d3, d4, d5] => { results := [.lit (.bool true)], args := [d1, d2, d3, d4, d5] }
  | _ => none }
def greenwaldLoadsRow : OpenClaim := { program := "ytkcldhimjnehdaa", sum := "2c4a5d18ea0b2f4bd228e15a2c9b88dd0b50942a0e46f5e65685e861603615df", func := "ogive/ogivelaw19.GreenwaldLoads", spec := "greenwaldLoads", inPlace := ["slices.overlaps[ogive/tuples.Tuple]", "math/bits.Add64"], unfollowed := true, recurses := true, named := ["math/bits.divideError", "math/bits.overflowError"], apart := false }
def GreenwaldLoadsSaid : Prop := greenwaldLoadsRow.holds Try.pinned (OpenSpec.ofChange greenwaldLoadsSpec)

/-- ITS FALSE NEIGHBOUR: 'it returns false'. Refute it at one input. -/
def greenwaldLoadsWrong : ChangeSpec := { name := "greenwaldLoads", fn := fun _ => fun
  | [d1, d2, d3, d4, d5] => { results := [.lit (.bool false)], args := [d1, d2, d3, d4, d5] }
  | _ => none }
def GreenwaldLoadsWrongFalsely : Prop := greenwaldLoadsRow.holds Try.pinned (OpenSpec.ofChange greenwaldLoadsWrong)

/-- 'ogivelaw19.GreenwaldJoins': WHATEVER THE INPUT: true; the input reads as it did. -/
def greenwaldJoinsSpec : ChangeSpec := { name := "greenwaldJoins", fn := fun _ => fun
  | [d1, d2, d3, d4, d5] => { results := [.lit (.bool true)], args := [d1, d2, d3, d4, d5] }
  | _ => none }
def greenwaldJoinsRow : OpenClaim := { program := "ytkcldhimjnehdaa", sum := "2c4a5d18ea0b2f4bd228e15a2c9b88dd0b50942a0e46f5e65685e861603615df", func := "ogive/ogivelaw19.GreenwaldJoins", spec := "greenwaldJoins", inPlace := ["slices.overlaps[ogive/tuples.Tuple]", "math/bits.Add64"], unfollowed := true, recurses := true, named := ["math/bits.divideError", "math/bits.overflowError"], apart := false }
def GreenwaldJoinsSaid : Prop := greenwaldJoinsRow.holds Try.pinned (OpenSpec.ofChange greenwaldJoinsSpec)

/-- ITS FALSE NEIGHBOUR: 'it returns false'. Refute it at one input. -/
def greenwaldJoinsWrong : ChangeSpec := { name := "greenwaldJoins", fn := fun _ => fun
  | [d1, d2, d3, d4, d5] => { results := [.lit (.bool false)], args := [d1, d2, d3, d4, d5] }
  | _ => none }
def GreenwaldJoinsWrongFalsely : Prop := greenwaldJoinsRow.holds Try.pinned (OpenSpec.ofChange greenwaldJoinsWrong)

/-- 'ogivelaw19.GreenwaldErrors': WHATEVER THE INPUT: true; the input reads as it did. -/
def greenwaldErrorsSpec : ChangeSpec := { name := "greenwaldErrors", fn := fun _ => fun
  | [d1, d2, d3] => { results := [.lit (.bool true)], args := [d1, d2, d3] }
  | _ => none }
def greenwaldErrorsRow : OpenClaim := { program := "ytkcldhimjnehdaa", sum := "2c4a5d18ea0b2f4bd228e15a2c9b88dd0b50942a0e46f5e65685e861603615df", func := "ogive/ogivelaw19.GreenwaldErrors", spec := "greenwaldErrors", inPlace := ["slices.overlaps[ogive/tuples.Tuple]", "math/bits.Add64"], unfollowed := true, recurses := true, named := ["math/bits.divideError", "math/bits.overflowError"], apart := false }
def GreenwaldErrorsSaid : Prop := greenwaldErrorsRow.holds Try.pinned (OpenSpec.ofChange greenwaldErrorsSpec)

/-- ITS FALSE NEIGHBOUR: 'it returns false'. Refute it at one input. -/
def greenwaldErrorsWrong : ChangeSpec := { name := "greenwaldErrors", fn := fun _ => fun
  | [d1, d2, d3] => { results := [.lit (.bool false)], args := [d1, d2, d3] }
  | _ => none }
def GreenwaldErrorsWrongFalsely : Prop := greenwaldErrorsRow.holds Try.pinned (OpenSpec.ofChange greenwaldErrorsWrong)

/- THE SECOND FORM. 'bulk': how many values and letters a reading holds, each counted each time it is reached (what is shared counts as often as it is met; a slice's spare places count too). A statement '..UptoSaid' is the law's where the arguments, and the package variables that the reading takes, are together of bulk at most 1048576: NARROWER than '..Said'. Prove '..Said' where nothing that the law and all that it calls make is longer than what came in: it says more and counts as full. Else prove '..UptoSaid'. A law counts once. -/
mutual
def uptoBulk {H : Type} : DataW H → Nat
  | .lit (.string bytes) => bytes.length + 1
  | .lit _ => 1
  | .nil => 1
  | .ptr d => uptoBulk d + 1
  | .slice elems spare => uptoBulkAll elems + uptoBulkAll spare + 1
  | .agg parts => uptoBulkAll parts + 1
  | .iface _ d => uptoBulk d + 1
  | .map entries => uptoBulkEntries entries + 1
  | .held _ => 1
def uptoBulkAll {H : Type} : List (DataW H) → Nat
  | [] => 0
  | d :: r => uptoBulk d + uptoBulkAll r
def uptoBulkEntries {H : Type} : List (Lit × DataW H) → Nat
  | [] => 0
  | x :: r => uptoBulkEntry x + uptoBulkEntries r
def uptoBulkEntry {H : Type} : Lit × DataW H → Nat
  | (.string bytes, d) => bytes.length + uptoBulk d + 1
  | (_, d) => uptoBulk d + 1
 end
def uptoSmall : (H : Type) → List (DataW H) → Bool := fun _ ds => decide (uptoBulkAll ds ≤ 1048576)
def OpenSpec.upto (s : _root_.Go.ChangeSpec) : _root_.Go.OpenSpec := { _root_.Go.OpenSpec.ofChange s with cond := some uptoSmall }

/-- 'ogivelaw18.TuplesGood', WHERE WHAT IT READS IS OF BULK AT MOST 1048576: true; the input reads as it did. -/
def tuplesGoodUptoRow : OpenClaim := { program := "ytkcldhimjnehdaa", sum := "2c4a5d18ea0b2f4bd228e15a2c9b88dd0b50942a0e46f5e65685e861603615df", func := "ogive/ogivelaw18.TuplesGood", spec := "tuplesGood", inPlace := ["slices.overlaps[ogive/tuples.Tuple]"], unfollowed := true, recurses := true, named := ["math/bits.divideError", "math/bits.overflowError"], apart := false, narrowed := true }
def TuplesGoodUptoSaid : Prop := tuplesGoodUptoRow.holds Try.pinned (OpenSpec.upto tuplesGoodSpec)

/-- 'ogivelaw19.GreenwaldClose', WHERE WHAT IT READS IS OF BULK AT MOST 1048576: true; the input reads as it did. -/
def greenwaldCloseUptoRow : OpenClaim := { program := "ytkcldhimjnehdaa", sum := "2c4a5d18ea0b2f4bd228e15a2c9b88dd0b50942a0e46f5e65685e861603615df", func := "ogive/ogivelaw19.GreenwaldClose", spec := "greenwaldClose", inPlace := ["slices.overlaps[ogive/tuples.Tuple]", "math/bits.Add64"], unfollowed := true, recurses := true, named := ["math/bits.divideError", "math/bits.overflowError"], apart := false, narrowed := true }
def GreenwaldCloseUptoSaid : Prop := greenwaldCloseUptoRow.holds Try.pinned (OpenSpec.upto greenwaldCloseSpec)

/-- 'ogivelaw19.GreenwaldTight', WHERE WHAT IT READS IS OF BULK AT MOST 1048576: true; the input reads as it did. -/
def greenwaldTightUptoRow : OpenClaim := { program := "ytkcldhimjnehdaa", sum := "2c4a5d18ea0b2f4bd228e15a2c9b88dd0b50942a0e46f5e65685e861603615df", func := "ogive/ogivelaw19.GreenwaldTight", spec := "greenwaldTight", inPlace := ["slices.overlaps[ogive/tuples.Tuple]", "math/bits.Add64"], unfollowed := true, recurses := true, named := ["math/bits.divideError", "math/bits.overflowError"], apart := false, narrowed := true }
def GreenwaldTightUptoSaid : Prop := greenwaldTightUptoRow.holds Try.pinned (OpenSpec.upto greenwaldTightSpec)

/-- 'ogivelaw19.GreenwaldDoes', WHERE WHAT IT READS IS OF BULK AT MOST 1048576: true; the input reads as it did. -/
def greenwaldDoesUptoRow : OpenClaim := { program := "ytkcldhimjnehdaa", sum := "2c4a5d18ea0b2f4bd228e15a2c9b88dd0b50942a0e46f5e65685e861603615df", func := "ogive/ogivelaw19.GreenwaldDoes", spec := "greenwaldDoes", inPlace := ["slices.overlaps[ogive/tuples.Tuple]", "math/bits.Add64"], unfollowed := true, recurses := true, named := ["math/bits.divideError", "math/bits.overflowError"], apart := false, narrowed := true }
def GreenwaldDoesUptoSaid : Prop := greenwaldDoesUptoRow.holds Try.pinned (OpenSpec.upto greenwaldDoesSpec)

/-- 'ogivelaw19.GreenwaldLoads', WHERE WHAT IT READS IS OF BULK AT MOST 1048576: true; the input reads as it did. -/
def greenwaldLoadsUptoRow : OpenClaim := { program := "ytkcldhimjnehdaa", sum := "2c4a5d18ea0b2f4bd228e15a2c9b88dd0b50942a0e46f5e65685e861603615df", func := "ogive/ogivelaw19.GreenwaldLoads", spec := "greenwaldLoads", inPlace := ["slices.overlaps[ogive/tuples.Tuple]", "math/bits.Add64"], unfollowed := true, recurses := true, named := ["math/bits.divideError", "math/bits.overflowError"], apart := false, narrowed := true }
def GreenwaldLoadsUptoSaid : Prop := greenwaldLoadsUptoRow.holds Try.pinned (OpenSpec.upto greenwaldLoadsSpec)

/-- 'ogivelaw19.GreenwaldJoins', WHERE WHAT IT READS IS OF BULK AT MOST 1048576: true; the input reads as it did. -/
def greenwaldJoinsUptoRow : OpenClaim := { program := "ytkcldhimjnehdaa", sum := "2c4a5d18ea0b2f4bd228e15a2c9b88dd0b50942a0e46f5e65685e861603615df", func := "ogive/ogivelaw19.GreenwaldJoins", spec := "greenwaldJoins", inPlace := ["slices.overlaps[ogive/tuples.Tuple]", "math/bits.Add64"], unfollowed := true, recurses := true, named := ["math/bits.divideError", "math/bits.overflowError"], apart := false, narrowed := true }
def GreenwaldJoinsUptoSaid : Prop := greenwaldJoinsUptoRow.holds Try.pinned (OpenSpec.upto greenwaldJoinsSpec)

/-- 'ogivelaw19.GreenwaldErrors', WHERE WHAT IT READS IS OF BULK AT MOST 1048576: true; the input reads as it did. -/
def greenwaldErrorsUptoRow : OpenClaim := { program := "ytkcldhimjnehdaa", sum := "2c4a5d18ea0b2f4bd228e15a2c9b88dd0b50942a0e46f5e65685e861603615df", func := "ogive/ogivelaw19.GreenwaldErrors", spec := "greenwaldErrors", inPlace := ["slices.overlaps[ogive/tuples.Tuple]", "math/bits.Add64"], unfollowed := true, recurses := true, named := ["math/bits.divideError", "math/bits.overflowError"], apart := false, narrowed := true }
def GreenwaldErrorsUptoSaid : Prop := greenwaldErrorsUptoRow.holds Try.pinned (OpenSpec.upto greenwaldErrorsSpec)

end Rows
end Go.Proofs.Ytkcldhimjnehdaa
