/-
  No cell of these rows narrows 'for every input' (looked for: loops, veiled, ifaces, maps, wideKeys, modest, calm, conditions, laid).
  DERIVED. THE GIVEN ROWS OF THIS SEAT. 16 by the template 'for every input the law returns true; each argument reads behind the call as it read before'; 0 by the template 'total and deterministic' (their statements: YtgpnnfgaphcklaaTotals.lean).
  GIVEN WITH THE SEED: the statements are not yours to turn. If you find one false, say at which input.
  Laid BY PROGRAM, IN A SANDBOX (cutbox-rows.mjs): the forced cells as the released guide's own fill.sh prints them over the translation 08d8a6fa6583e10b… (all of the seat's roots in one cut). By AI agents, Wed Nov 11 2026. No macro, syntax, notation, axiom, sorry.
-/
import Derived.Test.YtgpnnfgaphcklaaChecked
import GoSem.Claim
import GoSem.ClaimJoined
import GoSem.ClaimMapViews
import Derived.JoinedTies
import Derived.KernelRfl
namespace Go.Proofs.Ytgpnnfgaphcklaa
/- THE CELL 'sum', in the pinned program and in every row, IS THE sha256 OF THE DUMP (.gsa) THAT YtgpnnfgaphcklaaProg.lean LOADS. Nothing in Lean hashes anything: it is a label: what it is worth is what the hold of that sum in a sandbox is worth. -/
noncomputable def Try.pinned : Pinned := { name := "ytgpnnfgaphcklaa", sum := "08d8a6fa6583e10b527e1146c143c2f3bbff46802b3ddb2c9931b41c8ad12d6b", checked := Try.checked }
namespace Rows
def none {H : Type} : Left H := { results := [], args := [] }

/-- 'ogivelaw04.QuillParts': WHATEVER THE INPUT: true; the input reads as it did. -/
def quillPartsSpec : ChangeSpec := { name := "quillParts", fn := fun _ => fun
  | [d1, d2] => { results := [.lit (.bool true)], args := [d1, d2] }
  | _ => none }
def quillPartsRow : OpenClaim := { program := "ytgpnnfgaphcklaa", sum := "08d8a6fa6583e10b527e1146c143c2f3bbff46802b3ddb2c9931b41c8ad12d6b", func := "ogive/ogivelaw04.QuillParts", spec := "quillParts", apart := false }
def QuillPartsSaid : Prop := quillPartsRow.holds Try.pinned (OpenSpec.ofChange quillPartsSpec)

/-- ITS FALSE NEIGHBOUR: 'it returns false'. Refute it at one input. -/
def quillPartsWrong : ChangeSpec := { name := "quillParts", fn := fun _ => fun
  | [d1, d2] => { results := [.lit (.bool false)], args := [d1, d2] }
  | _ => none }
def QuillPartsWrongFalsely : Prop := quillPartsRow.holds Try.pinned (OpenSpec.ofChange quillPartsWrong)

/-- 'ogivelaw05.FrameUnlike': WHATEVER THE INPUT: true; the input reads as it did. -/
def frameUnlikeSpec : ChangeSpec := { name := "frameUnlike", fn := fun _ => fun
  | [d1, d2, d3, d4] => { results := [.lit (.bool true)], args := [d1, d2, d3, d4] }
  | _ => none }
def frameUnlikeRow : OpenClaim := { program := "ytgpnnfgaphcklaa", sum := "08d8a6fa6583e10b527e1146c143c2f3bbff46802b3ddb2c9931b41c8ad12d6b", func := "ogive/ogivelaw05.FrameUnlike", spec := "frameUnlike", apart := false }
def FrameUnlikeSaid : Prop := frameUnlikeRow.holds Try.pinned (OpenSpec.ofChange frameUnlikeSpec)

/-- ITS FALSE NEIGHBOUR: 'it returns false'. Refute it at one input. -/
def frameUnlikeWrong : ChangeSpec := { name := "frameUnlike", fn := fun _ => fun
  | [d1, d2, d3, d4] => { results := [.lit (.bool false)], args := [d1, d2, d3, d4] }
  | _ => none }
def FrameUnlikeWrongFalsely : Prop := frameUnlikeRow.holds Try.pinned (OpenSpec.ofChange frameUnlikeWrong)

/-- 'ogivelaw04.QuillNumbers': WHATEVER THE INPUT: true; the input reads as it did. -/
def quillNumbersSpec : ChangeSpec := { name := "quillNumbers", fn := fun _ => fun
  | [d1, d2, d3] => { results := [.lit (.bool true)], args := [d1, d2, d3] }
  | _ => none }
def quillNumbersRow : OpenClaim := { program := "ytgpnnfgaphcklaa", sum := "08d8a6fa6583e10b527e1146c143c2f3bbff46802b3ddb2c9931b41c8ad12d6b", func := "ogive/ogivelaw04.QuillNumbers", spec := "quillNumbers", apart := false }
def QuillNumbersSaid : Prop := quillNumbersRow.holds Try.pinned (OpenSpec.ofChange quillNumbersSpec)

/-- ITS FALSE NEIGHBOUR: 'it returns false'. Refute it at one input. -/
def quillNumbersWrong : ChangeSpec := { name := "quillNumbers", fn := fun _ => fun
  | [d1, d2, d3] => { results := [.lit (.bool false)], args := [d1, d2, d3] }
  | _ => none }
def QuillNumbersWrongFalsely : Prop := quillNumbersRow.holds Try.pinned (OpenSpec.ofChange quillNumbersWrong)

/-- 'ogivelaw06.RunsGood': WHATEVER THE INPUT: true; the input reads as it did. -/
def runsGoodSpec : ChangeSpec := { name := "runsGood", fn := fun _ => fun
  | [d1, d2] => { results := [.lit (.bool true)], args := [d1, d2] }
  | _ => none }
def runsGoodRow : OpenClaim := { program := "ytgpnnfgaphcklaa", sum := "08d8a6fa6583e10b527e1146c143c2f3bbff46802b3ddb2c9931b41c8ad12d6b", func := "ogive/ogivelaw06.RunsGood", spec := "runsGood", apart := false }
def RunsGoodSaid : Prop := runsGoodRow.holds Try.pinned (OpenSpec.ofChange runsGoodSpec)

/-- ITS FALSE NEIGHBOUR: 'it returns false'. Refute it at one input. -/
def runsGoodWrong : ChangeSpec := { name := "runsGood", fn := fun _ => fun
  | [d1, d2] => { results := [.lit (.bool false)], args := [d1, d2] }
  | _ => none }
def RunsGoodWrongFalsely : Prop := runsGoodRow.holds Try.pinned (OpenSpec.ofChange runsGoodWrong)

/-- 'ogivelaw04.QuillSmall': WHATEVER THE INPUT: true; the input reads as it did. -/
def quillSmallSpec : ChangeSpec := { name := "quillSmall", fn := fun _ => fun
  | [d1, d2, d3] => { results := [.lit (.bool true)], args := [d1, d2, d3] }
  | _ => none }
def quillSmallRow : OpenClaim := { program := "ytgpnnfgaphcklaa", sum := "08d8a6fa6583e10b527e1146c143c2f3bbff46802b3ddb2c9931b41c8ad12d6b", func := "ogive/ogivelaw04.QuillSmall", spec := "quillSmall", apart := false }
def QuillSmallSaid : Prop := quillSmallRow.holds Try.pinned (OpenSpec.ofChange quillSmallSpec)

/-- ITS FALSE NEIGHBOUR: 'it returns false'. Refute it at one input. -/
def quillSmallWrong : ChangeSpec := { name := "quillSmall", fn := fun _ => fun
  | [d1, d2, d3] => { results := [.lit (.bool false)], args := [d1, d2, d3] }
  | _ => none }
def QuillSmallWrongFalsely : Prop := quillSmallRow.holds Try.pinned (OpenSpec.ofChange quillSmallWrong)

/-- 'ogivelaw04.QuillWrites': WHATEVER THE INPUT: true; the input reads as it did. -/
def quillWritesSpec : ChangeSpec := { name := "quillWrites", fn := fun _ => fun
  | [d] => { results := [.lit (.bool true)], args := [d] }
  | _ => none }
def quillWritesRow : OpenClaim := { program := "ytgpnnfgaphcklaa", sum := "08d8a6fa6583e10b527e1146c143c2f3bbff46802b3ddb2c9931b41c8ad12d6b", func := "ogive/ogivelaw04.QuillWrites", spec := "quillWrites", apart := false }
def QuillWritesSaid : Prop := quillWritesRow.holds Try.pinned (OpenSpec.ofChange quillWritesSpec)

/-- ITS FALSE NEIGHBOUR: 'it returns false'. Refute it at one input. -/
def quillWritesWrong : ChangeSpec := { name := "quillWrites", fn := fun _ => fun
  | [d] => { results := [.lit (.bool false)], args := [d] }
  | _ => none }
def QuillWritesWrongFalsely : Prop := quillWritesRow.holds Try.pinned (OpenSpec.ofChange quillWritesWrong)

/-- 'ogivelaw04.QuillReads': WHATEVER THE INPUT: true; the input reads as it did. -/
def quillReadsSpec : ChangeSpec := { name := "quillReads", fn := fun _ => fun
  | [d1, d2] => { results := [.lit (.bool true)], args := [d1, d2] }
  | _ => none }
def quillReadsRow : OpenClaim := { program := "ytgpnnfgaphcklaa", sum := "08d8a6fa6583e10b527e1146c143c2f3bbff46802b3ddb2c9931b41c8ad12d6b", func := "ogive/ogivelaw04.QuillReads", spec := "quillReads", apart := false }
def QuillReadsSaid : Prop := quillReadsRow.holds Try.pinned (OpenSpec.ofChange quillReadsSpec)

/-- ITS FALSE NEIGHBOUR: 'it returns false'. Refute it at one input. -/
def quillReadsWrong : ChangeSpec := { name := "quillReads", fn := fun _ => fun
  | [d1, d2] => { results := [.lit (.bool false)], args := [d1, d2] }
  | _ => none }
def QuillReadsWrongFalsely : Prop := quillReadsRow.holds Try.pinned (OpenSpec.ofChange quillReadsWrong)

/-- 'ogivelaw05.FrameCloses': WHATEVER THE INPUT: true; the input reads as it did. -/
def frameClosesSpec : ChangeSpec := { name := "frameCloses", fn := fun _ => fun
  | [d1, d2] => { results := [.lit (.bool true)], args := [d1, d2] }
  | _ => none }
def frameClosesRow : OpenClaim := { program := "ytgpnnfgaphcklaa", sum := "08d8a6fa6583e10b527e1146c143c2f3bbff46802b3ddb2c9931b41c8ad12d6b", func := "ogive/ogivelaw05.FrameCloses", spec := "frameCloses", apart := false }
def FrameClosesSaid : Prop := frameClosesRow.holds Try.pinned (OpenSpec.ofChange frameClosesSpec)

/-- ITS FALSE NEIGHBOUR: 'it returns false'. Refute it at one input. -/
def frameClosesWrong : ChangeSpec := { name := "frameCloses", fn := fun _ => fun
  | [d1, d2] => { results := [.lit (.bool false)], args := [d1, d2] }
  | _ => none }
def FrameClosesWrongFalsely : Prop := frameClosesRow.holds Try.pinned (OpenSpec.ofChange frameClosesWrong)

/-- 'ogivelaw05.FrameOpens': WHATEVER THE INPUT: true; the input reads as it did. -/
def frameOpensSpec : ChangeSpec := { name := "frameOpens", fn := fun _ => fun
  | [d] => { results := [.lit (.bool true)], args := [d] }
  | _ => none }
def frameOpensRow : OpenClaim := { program := "ytgpnnfgaphcklaa", sum := "08d8a6fa6583e10b527e1146c143c2f3bbff46802b3ddb2c9931b41c8ad12d6b", func := "ogive/ogivelaw05.FrameOpens", spec := "frameOpens", apart := false }
def FrameOpensSaid : Prop := frameOpensRow.holds Try.pinned (OpenSpec.ofChange frameOpensSpec)

/-- ITS FALSE NEIGHBOUR: 'it returns false'. Refute it at one input. -/
def frameOpensWrong : ChangeSpec := { name := "frameOpens", fn := fun _ => fun
  | [d] => { results := [.lit (.bool false)], args := [d] }
  | _ => none }
def FrameOpensWrongFalsely : Prop := frameOpensRow.holds Try.pinned (OpenSpec.ofChange frameOpensWrong)

/-- 'ogivelaw05.FrameTurned': WHATEVER THE INPUT: true; the input reads as it did. -/
def frameTurnedSpec : ChangeSpec := { name := "frameTurned", fn := fun _ => fun
  | [d1, d2, d3, d4] => { results := [.lit (.bool true)], args := [d1, d2, d3, d4] }
  | _ => none }
def frameTurnedRow : OpenClaim := { program := "ytgpnnfgaphcklaa", sum := "08d8a6fa6583e10b527e1146c143c2f3bbff46802b3ddb2c9931b41c8ad12d6b", func := "ogive/ogivelaw05.FrameTurned", spec := "frameTurned", apart := false }
def FrameTurnedSaid : Prop := frameTurnedRow.holds Try.pinned (OpenSpec.ofChange frameTurnedSpec)

/-- ITS FALSE NEIGHBOUR: 'it returns false'. Refute it at one input. -/
def frameTurnedWrong : ChangeSpec := { name := "frameTurned", fn := fun _ => fun
  | [d1, d2, d3, d4] => { results := [.lit (.bool false)], args := [d1, d2, d3, d4] }
  | _ => none }
def FrameTurnedWrongFalsely : Prop := frameTurnedRow.holds Try.pinned (OpenSpec.ofChange frameTurnedWrong)

/-- 'ogivelaw05.FrameCuts': WHATEVER THE INPUT: true; the input reads as it did. -/
def frameCutsSpec : ChangeSpec := { name := "frameCuts", fn := fun _ => fun
  | [d1, d2, d3, d4] => { results := [.lit (.bool true)], args := [d1, d2, d3, d4] }
  | _ => none }
def frameCutsRow : OpenClaim := { program := "ytgpnnfgaphcklaa", sum := "08d8a6fa6583e10b527e1146c143c2f3bbff46802b3ddb2c9931b41c8ad12d6b", func := "ogive/ogivelaw05.FrameCuts", spec := "frameCuts", apart := false }
def FrameCutsSaid : Prop := frameCutsRow.holds Try.pinned (OpenSpec.ofChange frameCutsSpec)

/-- ITS FALSE NEIGHBOUR: 'it returns false'. Refute it at one input. -/
def frameCutsWrong : ChangeSpec := { name := "frameCuts", fn := fun _ => fun
  | [d1, d2, d3, d4] => { results := [.lit (.bool false)], args := [d1, d2, d3, d4] }
  | _ => none }
def FrameCutsWrongFalsely : Prop := frameCutsRow.holds Try.pinned (OpenSpec.ofChange frameCutsWrong)

/-- 'ogivelaw05.FrameLong': WHATEVER THE INPUT: true; the input reads as it did. -/
def frameLongSpec : ChangeSpec := { name := "frameLong", fn := fun _ => fun
  | [d1, d2] => { results := [.lit (.bool true)], args := [d1, d2] }
  | _ => none }
def frameLongRow : OpenClaim := { program := "ytgpnnfgaphcklaa", sum := "08d8a6fa6583e10b527e1146c143c2f3bbff46802b3ddb2c9931b41c8ad12d6b", func := "ogive/ogivelaw05.FrameLong", spec := "frameLong", apart := false }
def FrameLongSaid : Prop := frameLongRow.holds Try.pinned (OpenSpec.ofChange frameLongSpec)

/-- ITS FALSE NEIGHBOUR: 'it returns false'. Refute it at one input. -/
def frameLongWrong : ChangeSpec := { name := "frameLong", fn := fun _ => fun
  | [d1, d2] => { results := [.lit (.bool false)], args := [d1, d2] }
  | _ => none }
def FrameLongWrongFalsely : Prop := frameLongRow.holds Try.pinned (OpenSpec.ofChange frameLongWrong)

/-- 'ogivelaw06.RunsBytes': WHATEVER THE INPUT: true; the input reads as it did. -/
def runsBytesSpec : ChangeSpec := { name := "runsBytes", fn := fun _ => fun
  | [d1, d2] => { results := [.lit (.bool true)], args := [d1, d2] }
  | _ => none }
def runsBytesRow : OpenClaim := { program := "ytgpnnfgaphcklaa", sum := "08d8a6fa6583e10b527e1146c143c2f3bbff46802b3ddb2c9931b41c8ad12d6b", func := "ogive/ogivelaw06.RunsBytes", spec := "runsBytes", apart := false }
def RunsBytesSaid : Prop := runsBytesRow.holds Try.pinned (OpenSpec.ofChange runsBytesSpec)

/-- ITS FALSE NEIGHBOUR: 'it returns false'. Refute it at one input. -/
def runsBytesWrong : ChangeSpec := { name := "runsBytes", fn := fun _ => fun
  | [d1, d2] => { results := [.lit (.bool false)], args := [d1, d2] }
  | _ => none }
def RunsBytesWrongFalsely : Prop := runsBytesRow.holds Try.pinned (OpenSpec.ofChange runsBytesWrong)

/-- 'ogivelaw06.RunsGets': WHATEVER THE INPUT: true; the input reads as it did. -/
def runsGetsSpec : ChangeSpec := { name := "runsGets", fn := fun _ => fun
  | [d1, d2] => { results := [.lit (.bool true)], args := [d1, d2] }
  | _ => none }
def runsGetsRow : OpenClaim := { program := "ytgpnnfgaphcklaa", sum := "08d8a6fa6583e10b527e1146c143c2f3bbff46802b3ddb2c9931b41c8ad12d6b", func := "ogive/ogivelaw06.RunsGets", spec := "runsGets", apart := false }
def RunsGetsSaid : Prop := runsGetsRow.holds Try.pinned (OpenSpec.ofChange runsGetsSpec)

/-- ITS FALSE NEIGHBOUR: 'it returns false'. Refute it at one input. -/
def runsGetsWrong : ChangeSpec := { name := "runsGets", fn := fun _ => fun
  | [d1, d2] => { results := [.lit (.bool false)], args := [d1, d2] }
  | _ => none }
def RunsGetsWrongFalsely : Prop := runsGetsRow.holds Try.pinned (OpenSpec.ofChange runsGetsWrong)

/-- 'ogivelaw06.RunsAdds': WHATEVER THE INPUT: true; the input reads as it did. -/
def runsAddsSpec : ChangeSpec := { name := "runsAdds", fn := fun _ => fun
  | [d1, d2] => { results := [.lit (.bool true)], args := [d1, d2] }
  | _ => none }
def runsAddsRow : OpenClaim := { program := "ytgpnnfgaphcklaa", sum := "08d8a6fa6583e10b527e1146c143c2f3bbff46802b3ddb2c9931b41c8ad12d6b", func := "ogive/ogivelaw06.RunsAdds", spec := "runsAdds", inPlace := ["slices.overlaps[ogive/api.Pair]"], unfollowed := true, recurses := true, apart := false }
def RunsAddsSaid : Prop := runsAddsRow.holds Try.pinned (OpenSpec.ofChange runsAddsSpec)

/-- ITS FALSE NEIGHBOUR: 'it returns false'. Refute it at one input. -/
def runsAddsWrong : ChangeSpec := { name := "runsAdds", fn := fun _ => fun
  | [d1, d2] => { results := [.lit (.bool false)], args := [d1, d2] }
  | _ => none }
def RunsAddsWrongFalsely : Prop := runsAddsRow.holds Try.pinned (OpenSpec.ofChange runsAddsWrong)

/-- 'ogivelaw06.RunsJoins': WHATEVER THE INPUT: true; the input reads as it did. -/
def runsJoinsSpec : ChangeSpec := { name := "runsJoins", fn := fun _ => fun
  | [d] => { results := [.lit (.bool true)], args := [d] }
  | _ => none }
def runsJoinsRow : OpenClaim := { program := "ytgpnnfgaphcklaa", sum := "08d8a6fa6583e10b527e1146c143c2f3bbff46802b3ddb2c9931b41c8ad12d6b", func := "ogive/ogivelaw06.RunsJoins", spec := "runsJoins", inPlace := ["slices.overlaps[ogive/api.Pair]"], unfollowed := true, recurses := true, apart := false }
def RunsJoinsSaid : Prop := runsJoinsRow.holds Try.pinned (OpenSpec.ofChange runsJoinsSpec)

/-- ITS FALSE NEIGHBOUR: 'it returns false'. Refute it at one input. -/
def runsJoinsWrong : ChangeSpec := { name := "runsJoins", fn := fun _ => fun
  | [d] => { results := [.lit (.bool false)], args := [d] }
  | _ => none }
def RunsJoinsWrongFalsely : Prop := runsJoinsRow.holds Try.pinned (OpenSpec.ofChange runsJoinsWrong)

/- THE SECOND FORM. 'bulk': how many values and letters a reading holds, each counted each time it is reached (what is shared counts as often as it is met; a slice's spare places count too). A statement '..UptoSaid' is the law's where the arguments, and the package variables that the reading takes, are together of bulk at most 1048576: NARROWER than '..Said'. Prove '..Said' where nothing that the law and all that it calls make is longer than what came in: it says more and counts as full. Else prove '..UptoSaid'. A law counts once. -/
mutual
def uptoBulk {H : Type} : DataW H → Nat
  | .lit (.string bytes) => bytes.length + 1
  | .lit _ => 1
  | .nil => 1
  | .ptr d => uptoBulk d + 1
  | .slice elems spare => uptoBulkAll elems + uptoBulkAll spare + 1
  | .agg parts => uptoBulkAll parts + 1
  | .iface _ d => uptoBulk d + 1
  | .map entries => uptoBulkEntries entries + 1
  | .held _ => 1
def uptoBulkAll {H : Type} : List (DataW H) → Nat
  | [] => 0
  | d :: r => uptoBulk d + uptoBulkAll r
def uptoBulkEntries {H : Type} : List (Lit × DataW H) → Nat
  | [] => 0
  | x :: r => uptoBulkEntry x + uptoBulkEntries r
def uptoBulkEntry {H : Type} : Lit × DataW H → Nat
  | (.string bytes, d) => bytes.length + uptoBulk d + 1
  | (_, d) => uptoBulk d + 1
 end
def uptoSmall : (H : Type) → List (DataW H) → Bool := fun _ ds => decide (uptoBulkAll ds ≤ 1048576)
def OpenSpec.upto (s : _root_.Go.ChangeSpec) : _root_.Go.OpenSpec := { _root_.Go.OpenSpec.ofChange s with cond := some uptoSmall }

/-- 'ogivelaw04.QuillParts', WHERE WHAT IT READS IS OF BULK AT MOST 1048576: true; the input reads as it did. -/
def quillPartsUptoRow : OpenClaim := { program := "ytgpnnfgaphcklaa", sum := "08d8a6fa6583e10b527e1146c143c2f3bbff46802b3ddb2c9931b41c8ad12d6b", func := "ogive/ogivelaw04.QuillParts", spec := "quillParts", apart := false, narrowed := true }
def QuillPartsUptoSaid : Prop := quillPartsUptoRow.holds Try.pinned (OpenSpec.upto quillPartsSpec)

/-- 'ogivelaw05.FrameUnlike', WHERE WHAT IT READS IS OF BULK AT MOST 1048576: true; the input reads as it did. -/
def frameUnlikeUptoRow : OpenClaim := { program := "ytgpnnfgaphcklaa", sum := "08d8a6fa6583e10b527e1146c143c2f3bbff46802b3ddb2c9931b41c8ad12d6b", func := "ogive/ogivelaw05.FrameUnlike", spec := "frameUnlike", apart := false, narrowed := true }
def FrameUnlikeUptoSaid : Prop := frameUnlikeUptoRow.holds Try.pinned (OpenSpec.upto frameUnlikeSpec)

/-- 'ogivelaw04.QuillNumbers', WHERE WHAT IT READS IS OF BULK AT MOST 1048576: true; the input reads as it did. -/
def quillNumbersUptoRow : OpenClaim := { program := "ytgpnnfgaphcklaa", sum := "08d8a6fa6583e10b527e1146c143c2f3bbff46802b3ddb2c9931b41c8ad12d6b", func := "ogive/ogivelaw04.QuillNumbers", spec := "quillNumbers", apart := false, narrowed := true }
def QuillNumbersUptoSaid : Prop := quillNumbersUptoRow.holds Try.pinned (OpenSpec.upto quillNumbersSpec)

/-- 'ogivelaw06.RunsGood', WHERE WHAT IT READS IS OF BULK AT MOST 1048576: true; the input reads as it did. -/
def runsGoodUptoRow : OpenClaim := { program := "ytgpnnfgaphcklaa", sum := "08d8a6fa6583e10b527e1146c143c2f3bbff46802b3ddb2c9931b41c8ad12d6b", func := "ogive/ogivelaw06.RunsGood", spec := "runsGood", apart := false, narrowed := true }
def RunsGoodUptoSaid : Prop := runsGoodUptoRow.holds Try.pinned (OpenSpec.upto runsGoodSpec)

/-- 'ogivelaw04.QuillSmall', WHERE WHAT IT READS IS OF BULK AT MOST 1048576: true; the input reads as it did. -/
def quillSmallUptoRow : OpenClaim := { program := "ytgpnnfgaphcklaa", sum := "08d8a6fa6583e10b527e1146c143c2f3bbff46802b3ddb2c9931b41c8ad12d6b", func := "ogive/ogivelaw04.QuillSmall", spec := "quillSmall", apart := false, narrowed := true }
def QuillSmallUptoSaid : Prop := quillSmallUptoRow.holds Try.pinned (OpenSpec.upto quillSmallSpec)

/-- 'ogivelaw04.QuillWrites', WHERE WHAT IT READS IS OF BULK AT MOST 1048576: true; the input reads as it did. -/
def quillWritesUptoRow : OpenClaim := { program := "ytgpnnfgaphcklaa", sum := "08d8a6fa6583e10b527e1146c143c2f3bbff46802b3ddb2c9931b41c8ad12d6b", func := "ogive/ogivelaw04.QuillWrites", spec := "quillWrites", apart := false, narrowed := true }
def QuillWritesUptoSaid : Prop := quillWritesUptoRow.holds Try.pinned (OpenSpec.upto quillWritesSpec)

/-- 'ogivelaw04.QuillReads', WHERE WHAT IT READS IS OF BULK AT MOST 1048576: true; the input reads as it did. -/
def quillReadsUptoRow : OpenClaim := { program := "ytgpnnfgaphcklaa", sum := "08d8a6fa6583e10b527e1146c143c2f3bbff46802b3ddb2c9931b41c8ad12d6b", func := "ogive/ogivelaw04.QuillReads", spec := "quillReads", apart := false, narrowed := true }
def QuillReadsUptoSaid : Prop := quillReadsUptoRow.holds Try.pinned (OpenSpec.upto quillReadsSpec)

/-- 'ogivelaw05.FrameCloses', WHERE WHAT IT READS IS OF BULK AT MOST 1048576: true; the input reads as it did. -/
def frameClosesUptoRow : OpenClaim := { program := "ytgpnnfgaphcklaa", sum := "08d8a6fa6583e10b527e1146c143c2f3bbff46802b3ddb2c9931b41c8ad12d6b", func := "ogive/ogivelaw05.FrameCloses", spec := "frameCloses", apart := false, narrowed := true }
def FrameClosesUptoSaid : Prop := frameClosesUptoRow.holds Try.pinned (OpenSpec.upto frameClosesSpec)

/-- 'ogivelaw05.FrameOpens', WHERE WHAT IT READS IS OF BULK AT MOST 1048576: true; the input reads as it did. -/
def frameOpensUptoRow : OpenClaim := { program := "ytgpnnfgaphcklaa", sum := "08d8a6fa6583e10b527e1146c143c2f3bbff46802b3ddb2c9931b41c8ad12d6b", func := "ogive/ogivelaw05.FrameOpens", spec := "frameOpens", apart := false, narrowed := true }
def FrameOpensUptoSaid : Prop := frameOpensUptoRow.holds Try.pinned (OpenSpec.upto frameOpensSpec)

/-- 'ogivelaw05.FrameTurned', WHERE WHAT IT READS IS OF BULK AT MOST 1048576: true; the input reads as it did. -/
def frameTurnedUptoRow : OpenClaim := { program := "ytgpnnfgaphcklaa", sum := "08d8a6fa6583e10b527e1146c143c2f3bbff46802b3ddb2c9931b41c8ad12d6b", func := "ogive/ogivelaw05.FrameTurned", spec := "frameTurned", apart := false, narrowed := true }
def FrameTurnedUptoSaid : Prop := frameTurnedUptoRow.holds Try.pinned (OpenSpec.upto frameTurnedSpec)

/-- 'ogivelaw05.FrameCuts', WHERE WHAT IT READS IS OF BULK AT MOST 1048576: true; the input reads as it did. -/
def frameCutsUptoRow : OpenClaim := { program := "ytgpnnfgaphcklaa", sum := "08d8a6fa6583e10b527e1146c143c2f3bbff46802b3ddb2c9931b41c8ad12d6b", func := "ogive/ogivelaw05.FrameCuts", spec := "frameCuts", apart := false, narrowed := true }
def FrameCutsUptoSaid : Prop := frameCutsUptoRow.holds Try.pinned (OpenSpec.upto frameCutsSpec)

/-- 'ogivelaw05.FrameLong', WHERE WHAT IT READS IS OF BULK AT MOST 1048576: true; the input reads as it did. -/
def frameLongUptoRow : OpenClaim := { program := "ytgpnnfgaphcklaa", sum := "08d8a6fa6583e10b527e1146c143c2f3bbff46802b3ddb2c9931b41c8ad12d6b", func := "ogive/ogivelaw05.FrameLong", spec := "frameLong", apart := false, narrowed := true }
def FrameLongUptoSaid : Prop := frameLongUptoRow.holds Try.pinned (OpenSpec.upto frameLongSpec)

/-- 'ogivelaw06.RunsBytes', WHERE WHAT IT READS IS OF BULK AT MOST 1048576: true; the input reads as it did. -/
def runsBytesUptoRow : OpenClaim := { program := "ytgpnnfgaphcklaa", sum := "08d8a6fa6583e10b527e1146c143c2f3bbff46802b3ddb2c9931b41c8ad12d6b", func := "ogive/ogivelaw06.RunsBytes", spec := "runsBytes", apart := false, narrowed := true }
def RunsBytesUptoSaid : Prop := runsBytesUptoRow.holds Try.pinned (OpenSpec.upto runsBytesSpec)

/-- 'ogivelaw06.RunsGets', WHERE WHAT IT READS IS OF BULK AT MOST 1048576: true; the input reads as it did. -/
def runsGetsUptoRow : OpenClaim := { program := "ytgpnnfgaphcklaa", sum := "08d8a6fa6583e10b527e1146c143c2f3bbff46802b3ddb2c9931b41c8ad12d6b", func := "ogive/ogivelaw06.RunsGets", spec := "runsGets", apart := false, narrowed := true }
def RunsGetsUptoSaid : Prop := runsGetsUptoRow.holds Try.pinned (OpenSpec.upto runsGetsSpec)

/-- 'ogivelaw06.RunsAdds', WHERE WHAT IT READS IS OF BULK AT MOST 1048576: true; the input reads as it did. -/
def runsAddsUptoRow : OpenClaim := { program := "ytgpnnfgaphcklaa", sum := "08d8a6fa6583e10b527e1146c143c2f3bbff46802b3ddb2c9931b41c8ad12d6b", func := "ogive/ogivelaw06.RunsAdds", spec := "runsAdds", inPlace := ["slices.overlaps[ogive/api.Pair]"], unfollowed := true, recurses := true, apart := false, narrowed := true }
def RunsAddsUptoSaid : Prop := runsAddsUptoRow.holds Try.pinned (OpenSpec.upto runsAddsSpec)

/-- 'ogivelaw06.RunsJoins', WHERE WHAT IT READS IS OF BULK AT MOST 1048576: true; the input reads as it did. -/
def runsJoinsUptoRow : OpenClaim := { program := "ytgpnnfgaphcklaa", sum := "08d8a6fa6583e10b527e1146c143c2f3bbff46802b3ddb2c9931b41c8ad12d6b", func := "ogive/ogivelaw06.RunsJoins", spec := "runsJoins", inPlace := ["slices.overlaps[ogive/api.Pair]"], unfollowed := true, recurses := true, apart := false, narrowed := true }
def RunsJoinsUptoSaid : Prop := runsJoinsUptoRow.holds Try.pinned (OpenSpec.upto runsJoinsSpec)

end Rows
end Go.Proofs.Ytgpnnfgaphcklaa
