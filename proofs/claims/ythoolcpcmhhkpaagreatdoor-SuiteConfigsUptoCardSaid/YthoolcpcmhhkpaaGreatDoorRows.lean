/-
  NARROWER THAN 'FOR EVERY INPUT', by the rows' own cells (each row's printed sentence says how): SuiteTurned: laid · SuiteDoes: laid · SuiteJoins: laid · SuiteBytes: laid · SuiteConfigs: laid · CoreBytes: laid.
  DERIVED. THE GIVEN ROWS OF THIS SEAT. 6 by the template 'for every input the law returns true; each argument reads behind the call as it read before'; 0 by the template 'total and deterministic' (their statements: YthoolcpcmhhkpaaGreatDoorTotals.lean).
  GIVEN WITH THE SEED: the statements are not yours to turn. If you find one false, say at which input.
  Laid BY PROGRAM, IN A SANDBOX (cutbox-rows.mjs): the forced cells as the released guide's own fill.sh prints them over the translation 87567c92fcac73ba… (all of the seat's roots in one cut). By AI agents, Wed Nov 11 2026. No macro, syntax, notation, axiom, sorry.
-/
import Derived.Test.YthoolcpcmhhkpaaGreatDoorChecked
import GoSem.Claim
import GoSem.ClaimJoined
import GoSem.ClaimMapViews
import Derived.JoinedTies
import Derived.KernelRfl
namespace Go.Proofs.YthoolcpcmhhkpaaGreatDoor
/- THE CELL 'sum', in the pinned program and in every row, IS THE sha256 OF THE DUMP (.gsa) THAT YthoolcpcmhhkpaaGreatDoorProg.lean LOADS. Nothing in Lean hashes anything: it is a label: what it is worth is what the hold of that sum in a sandbox is worth. -/
noncomputable def Tryz.pinned : Pinned := { name := "ythoolcpcmhhkpaagreatdoor", sum := "87567c92fcac73ba54c7e71d96da8e549081afcedcf0384970a8ac78d5dc76d7", checked := Tryz.checked }
namespace Rows
def none {H : Type} : Left H := { results := [], args := [] }

/- WHAT THE LISTED PACKAGE-LEVEL VARIABLES READ AS WHEN THE CALL BEGINS. Each datum BY PROGRAM (the guide's laid-datum.mjs) off the statement by which the dump's own 'gosem.cut.vars' lays the variable. In a bare row this is a premise. The card (YthoolcpcmhhkpaaGreatDoorCards.lean) ties it to the program's text. -/
def laid_ogive_spans_tens {H : Type} : DataW H := .agg [.lit (.int .u64 1), .lit (.int .u64 10), .lit (.int .u64 100), .lit (.int .u64 1000), .lit (.int .u64 10000)]

/-- 'ogivelaw23.SuiteTurned': WHATEVER THE INPUT: true; the input reads as it did. -/
def suiteTurnedSpec : ChangeSpec := { name := "suiteTurned", fn := fun _ => fun
  | [d1, d2, d3, d4] => { results := [.lit (.bool true)], args := [d1, d2, d3, d4] }
  | _ => none }
def suiteTurnedRow : OpenClaim := { program := "ythoolcpcmhhkpaagreatdoor", sum := "87567c92fcac73ba54c7e71d96da8e549081afcedcf0384970a8ac78d5dc76d7", func := "ogive/ogivelaw23.SuiteTurned", spec := "suiteTurned", inPlace := ["slices.overlaps[ogive/api.Pair]"], unfollowed := true, recurses := true, named := ["math/bits.divideError", "math/bits.overflowError", "ogive/spans.tens"], apart := false, laid := [("ogive/spans.tens", laid_ogive_spans_tens)] }
def SuiteTurnedSaid : Prop := suiteTurnedRow.holds Tryz.pinned (OpenSpec.ofChange suiteTurnedSpec)

/-- ITS FALSE NEIGHBOUR: 'it returns false'. Refute it at one input. -/
def suiteTurnedWrong : ChangeSpec := { name := "suiteTurned", fn := fun _ => fun
  | [d1, d2, d3, d4] => { results := [.lit (.bool false)], args := [d1, d2, d3, d4] }
  | _ => none }
def SuiteTurnedWrongFalsely : Prop := suiteTurnedRow.holds Tryz.pinned (OpenSpec.ofChange suiteTurnedWrong)

/-- 'ogivelaw23.SuiteDoes': WHATEVER THE INPUT: true; the input reads as it did. -/
def suiteDoesSpec : ChangeSpec := { name := "suiteDoes", fn := fun _ => fun
  | [d1, d2, d3, d4] => { results := [.lit (.bool true)], args := [d1, d2, d3, d4] }
  | _ => none }
def suiteDoesRow : OpenClaim := { program := "ythoolcpcmhhkpaagreatdoor", sum := "87567c92fcac73ba54c7e71d96da8e549081afcedcf0384970a8ac78d5dc76d7", func := "ogive/ogivelaw23.SuiteDoes", spec := "suiteDoes", inPlace := ["math/bits.Add64", "slices.overlaps[ogive/api.Pair]", "slices.overlaps[ogive/tuples.Tuple]", "slices.overlaps[ogive/lumps.Lump]"], unfollowed := true, recurses := true, named := ["math/bits.divideError", "math/bits.overflowError", "ogive/spans.tens"], apart := false, laid := [("ogive/spans.tens", laid_ogive_spans_tens)] }
def SuiteDoesSaid : Prop := suiteDoesRow.holds Tryz.pinned (OpenSpec.ofChange suiteDoesSpec)

/-- ITS FALSE NEIGHBOUR: 'it returns false'. Refute it at one input. -/
def suiteDoesWrong : ChangeSpec := { name := "suiteDoes", fn := fun _ => fun
  | [d1, d2, d3, d4] => { results := [.lit (.bool false)], args := [d1, d2, d3, d4] }
  | _ => none }
def SuiteDoesWrongFalsely : Prop := suiteDoesRow.holds Tryz.pinned (OpenSpec.ofChange suiteDoesWrong)

/-- 'ogivelaw23.SuiteJoins': WHATEVER THE INPUT: true; the input reads as it did. -/
def suiteJoinsSpec : ChangeSpec := { name := "suiteJoins", fn := fun _ => fun
  | [d1, d2, d3, d4, d5, d6] => { results := [.lit (.bool true)], args := [d1, d2, d3, d4, d5, d6] }
  | _ => none }
def suiteJoinsRow : OpenClaim := { program := "ythoolcpcmhhkpaagreatdoor", sum := "87567c92fcac73ba54c7e71d96da8e549081afcedcf0384970a8ac78d5dc76d7", func := "ogive/ogivelaw23.SuiteJoins", spec := "suiteJoins", inPlace := ["slices.overlaps[ogive/api.Pair]"], unfollowed := true, recurses := true, named := ["math/bits.divideError", "math/bits.overflowError", "ogive/spans.tens"], apart := false, laid := [("ogive/spans.tens", laid_ogive_spans_tens)] }
def SuiteJoinsSaid : Prop := suiteJoinsRow.holds Tryz.pinned (OpenSpec.ofChange suiteJoinsSpec)

/-- ITS FALSE NEIGHBOUR: 'it returns false'. Refute it at one input. -/
def suiteJoinsWrong : ChangeSpec := { name := "suiteJoins", fn := fun _ => fun
  | [d1, d2, d3, d4, d5, d6] => { results := [.lit (.bool false)], args := [d1, d2, d3, d4, d5, d6] }
  | _ => none }
def SuiteJoinsWrongFalsely : Prop := suiteJoinsRow.holds Tryz.pinned (OpenSpec.ofChange suiteJoinsWrong)

/-- 'ogivelaw23.SuiteBytes': WHATEVER THE INPUT: true; the input reads as it did. -/
def suiteBytesSpec : ChangeSpec := { name := "suiteBytes", fn := fun _ => fun
  | [d1, d2, d3, d4, d5] => { results := [.lit (.bool true)], args := [d1, d2, d3, d4, d5] }
  | _ => none }
def suiteBytesRow : OpenClaim := { program := "ythoolcpcmhhkpaagreatdoor", sum := "87567c92fcac73ba54c7e71d96da8e549081afcedcf0384970a8ac78d5dc76d7", func := "ogive/ogivelaw23.SuiteBytes", spec := "suiteBytes", inPlace := ["slices.overlaps[ogive/api.Pair]"], unfollowed := true, recurses := true, named := ["math/bits.divideError", "math/bits.overflowError", "ogive/spans.tens"], apart := false, laid := [("ogive/spans.tens", laid_ogive_spans_tens)] }
def SuiteBytesSaid : Prop := suiteBytesRow.holds Tryz.pinned (OpenSpec.ofChange suiteBytesSpec)

/-- ITS FALSE NEIGHBOUR: 'it returns false'. Refute it at one input. -/
def suiteBytesWrong : ChangeSpec := { name := "suiteBytes", fn := fun _ => fun
  | [d1, d2, d3, d4, d5] => { results := [.lit (.bool false)], args := [d1, d2, d3, d4, d5] }
  | _ => none }
def SuiteBytesWrongFalsely : Prop := suiteBytesRow.holds Tryz.pinned (OpenSpec.ofChange suiteBytesWrong)

/-- 'ogivelaw23.SuiteConfigs': WHATEVER THE INPUT: true; the input reads as it did. -/
def suiteConfigsSpec : ChangeSpec := { name := "suiteConfigs", fn := fun _ => fun
  | [d1, d2, d3] => { results := [.lit (.bool true)], args := [d1, d2, d3] }
  | _ => none }
def suiteConfigsRow : OpenClaim := { program := "ythoolcpcmhhkpaagreatdoor", sum := "87567c92fcac73ba54c7e71d96da8e549081afcedcf0384970a8ac78d5dc76d7", func := "ogive/ogivelaw23.SuiteConfigs", spec := "suiteConfigs", inPlace := ["slices.overlaps[ogive/api.Pair]"], unfollowed := true, recurses := true, named := ["math/bits.divideError", "math/bits.overflowError", "ogive/spans.tens"], apart := false, laid := [("ogive/spans.tens", laid_ogive_spans_tens)] }
def SuiteConfigsSaid : Prop := suiteConfigsRow.holds Tryz.pinned (OpenSpec.ofChange suiteConfigsSpec)

/-- ITS FALSE NEIGHBOUR: 'it returns false'. Refute it at one input. -/
def suiteConfigsWrong : ChangeSpec := { name := "suiteConfigs", fn := fun _ => fun
  | [d1, d2, d3] => { results := [.lit (.bool false)], args := [d1, d2, d3] }
  | _ => none }
def SuiteConfigsWrongFalsely : Prop := suiteConfigsRow.holds Tryz.pinned (OpenSpec.ofChange suiteConfigsWrong)

/-- 'ogivetop.CoreBytes': WHATEVER THE INPUT: true; the input reads as it did. -/
def coreBytesSpec : ChangeSpec := { name := "coreBytes", fn := fun _ => fun
  | [d1, d2, d3, d4, d5, d6] => { results := [.lit (.bool true)], args := [d1, d2, d3, d4, d5, d6] }
  | _ => none }
def coreBytesRow : OpenClaim := { program := "ythoolcpcmhhkpaagreatdoor", sum := "87567c92fcac73ba54c7e71d96da8e549081afcedcf0384970a8ac78d5dc76d7", func := "ogive/ogivetop.CoreBytes", spec := "coreBytes", inPlace := ["slices.overlaps[ogive/api.Pair]"], unfollowed := true, recurses := true, named := ["math/bits.divideError", "math/bits.overflowError", "ogive/spans.tens"], apart := false, laid := [("ogive/spans.tens", laid_ogive_spans_tens)] }
def CoreBytesSaid : Prop := coreBytesRow.holds Tryz.pinned (OpenSpec.ofChange coreBytesSpec)

/-- ITS FALSE NEIGHBOUR: 'it returns false'. Refute it at one input. -/
def coreBytesWrong : ChangeSpec := { name := "coreBytes", fn := fun _ => fun
  | [d1, d2, d3, d4, d5, d6] => { results := [.lit (.bool false)], args := [d1, d2, d3, d4, d5, d6] }
  | _ => none }
def CoreBytesWrongFalsely : Prop := coreBytesRow.holds Tryz.pinned (OpenSpec.ofChange coreBytesWrong)

/- THE SECOND FORM. 'bulk': how many values and letters a reading holds, each counted each time it is reached (what is shared counts as often as it is met; a slice's spare places count too). A statement '..UptoSaid' is the law's where the arguments, and the package variables that the reading takes, are together of bulk at most 1048576: NARROWER than '..Said'. Prove '..Said' where nothing that the law and all that it calls make is longer than what came in: it says more and counts as full. Else prove '..UptoSaid'. A law counts once. -/
mutual
def uptoBulk {H : Type} : DataW H → Nat
  | .lit (.string bytes) => bytes.length + 1
  | .lit _ => 1
  | .nil => 1
  | .ptr d => uptoBulk d + 1
  | .slice elems spare => uptoBulkAll elems + uptoBulkAll spare + 1
  | .agg parts => uptoBulkAll parts + 1
  | .iface _ d => uptoBulk d + 1
  | .map entries => uptoBulkEntries entries + 1
  | .held _ => 1
def uptoBulkAll {H : Type} : List (DataW H) → Nat
  | [] => 0
  | d :: r => uptoBulk d + uptoBulkAll r
def uptoBulkEntries {H : Type} : List (Lit × DataW H) → Nat
  | [] => 0
  | x :: r => uptoBulkEntry x + uptoBulkEntries r
def uptoBulkEntry {H : Type} : Lit × DataW H → Nat
  | (.string bytes, d) => bytes.length + uptoBulk d + 1
  | (_, d) => uptoBulk d + 1
 end
def uptoSmall : (H : Type) → List (DataW H) → Bool := fun _ ds => decide (uptoBulkAll ds ≤ 1048576)
def OpenSpec.upto (s : _root_.Go.ChangeSpec) : _root_.Go.OpenSpec := { _root_.Go.OpenSpec.ofChange s with cond := some uptoSmall }

/-- 'ogivelaw23.SuiteTurned', WHERE WHAT IT READS IS OF BULK AT MOST 1048576: true; the input reads as it did. -/
def suiteTurnedUptoRow : OpenClaim := { program := "ythoolcpcmhhkpaagreatdoor", sum := "87567c92fcac73ba54c7e71d96da8e549081afcedcf0384970a8ac78d5dc76d7", func := "ogive/ogivelaw23.SuiteTurned", spec := "suiteTurned", inPlace := ["slices.overlaps[ogive/api.Pair]"], unfollowed := true, recurses := true, named := ["math/bits.divideError", "math/bits.overflowError", "ogive/spans.tens"], apart := false, laid := [("ogive/spans.tens", laid_ogive_spans_tens)], narrowed := true }
def SuiteTurnedUptoSaid : Prop := suiteTurnedUptoRow.holds Tryz.pinned (OpenSpec.upto suiteTurnedSpec)

/-- 'ogivelaw23.SuiteDoes', WHERE WHAT IT READS IS OF BULK AT MOST 1048576: true; the input reads as it did. -/
def suiteDoesUptoRow : OpenClaim := { program := "ythoolcpcmhhkpaagreatdoor", sum := "87567c92fcac73ba54c7e71d96da8e549081afcedcf0384970a8ac78d5dc76d7", func := "ogive/ogivelaw23.SuiteDoes", spec := "suiteDoes", inPlace := ["math/bits.Add64", "slices.overlaps[ogive/api.Pair]", "slices.overlaps[ogive/tuples.Tuple]", "slices.overlaps[ogive/lumps.Lump]"], unfollowed := true, recurses := true, named := ["math/bits.divideError", "math/bits.overflowError", "ogive/spans.tens"], apart := false, laid := [("ogive/spans.tens", laid_ogive_spans_tens)], narrowed := true }
def SuiteDoesUptoSaid : Prop := suiteDoesUptoRow.holds Tryz.pinned (OpenSpec.upto suiteDoesSpec)

/-- 'ogivelaw23.SuiteJoins', WHERE WHAT IT READS IS OF BULK AT MOST 1048576: true; the input reads as it did. -/
def suiteJoinsUptoRow : OpenClaim := { program := "ythoolcpcmhhkpaagreatdoor", sum := "87567c92fcac73ba54c7e71d96da8e549081afcedcf0384970a8ac78d5dc76d7", func := "ogive/ogivelaw23.SuiteJoins", spec := "suiteJoins", inPlace := ["slices.overlaps[ogive/api.Pair]"], unfollowed := true, recurses := true, named := ["math/bits.divideError", "math/bits.overflowError", "ogive/spans.tens"], apart := false, laid := [("ogive/spans.tens", laid_ogive_spans_tens)], narrowed := true }
def SuiteJoinsUptoSaid : Prop := suiteJoinsUptoRow.holds Tryz.pinned (OpenSpec.upto suiteJoinsSpec)

/-- 'ogivelaw23.SuiteBytes', WHERE WHAT IT READS IS OF BULK AT MOST 1048576: true; the input reads as it did. -/
def suiteBytesUptoRow : OpenClaim := { program := "ythoolcpcmhhkpaagreatdoor", sum := "87567c92fcac73ba54c7e71d96da8e549081afcedcf0384970a8ac78d5dc76d7", func := "ogive/ogivelaw23.SuiteBytes", spec := "suiteBytes", inPlace := ["slices.overlaps[ogive/api.Pair]"], unfollowed := true, recurses := true, named := ["math/bits.divideError", "math/bits.overflowError", "ogive/spans.tens"], apart := false, laid := [("ogive/spans.tens", laid_ogive_spans_tens)], narrowed := true }
def SuiteBytesUptoSaid : Prop := suiteBytesUptoRow.holds Tryz.pinned (OpenSpec.upto suiteBytesSpec)

/-- 'ogivelaw23.SuiteConfigs', WHERE WHAT IT READS IS OF BULK AT MOST 1048576: true; the input reads as it did. -/
def suiteConfigsUptoRow : OpenClaim := { program := "ythoolcpcmhhkpaagreatdoor", sum := "87567c92fcac73ba54c7e71d96da8e549081afcedcf0384970a8ac78d5dc76d7", func := "ogive/ogivelaw23.SuiteConfigs", spec := "suiteConfigs", inPlace := ["slices.overlaps[ogive/api.Pair]"], unfollowed := true, recurses := true, named := ["math/bits.divideError", "math/bits.overflowError", "ogive/spans.tens"], apart := false, laid := [("ogive/spans.tens", laid_ogive_spans_tens)], narrowed := true }
def SuiteConfigsUptoSaid : Prop := suiteConfigsUptoRow.holds Tryz.pinned (OpenSpec.upto suiteConfigsSpec)

/-- 'ogivetop.CoreBytes', WHERE WHAT IT READS IS OF BULK AT MOST 1048576: true; the input reads as it did. -/
def coreBytesUptoRow : OpenClaim := { program := "ythoolcpcmhhkpaagreatdoor", sum := "87567c92fcac73ba54c7e71d96da8e549081afcedcf0384970a8ac78d5dc76d7", func := "ogive/ogivetop.CoreBytes", spec := "coreBytes", inPlace := ["slices.overlaps[ogive/api.Pair]"], unfollowed := true, recurses := true, named := ["math/bits.divideError", "math/bits.overflowError", "ogive/spans.tens"], apart := false, laid := [("ogive/spans.tens", laid_ogive_spans_tens)], narrowed := true }
def CoreBytesUptoSaid : Prop := coreBytesUptoRow.holds Tryz.pinned (OpenSpec.upto coreBytesSpec)

end Rows
end Go.Proofs.YthoolcpcmhhkpaaGreatDoor
