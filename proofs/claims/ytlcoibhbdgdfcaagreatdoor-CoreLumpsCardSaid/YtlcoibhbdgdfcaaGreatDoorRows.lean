/-
  NARROWER THAN 'FOR EVERY INPUT', by the rows' own cells (each row's printed sentence says how): CoreSlots: laid · CoreLumps: laid · CoreCoins: laid · CoreBytes: laid.
  DERIVED. THE GIVEN ROWS OF THIS SEAT. 4 by the template 'for every input the law returns true; each argument reads behind the call as it read before'; 0 by the template 'total and deterministic' (their statements: YtlcoibhbdgdfcaaGreatDoorTotals.lean).
  GIVEN WITH THE SEED: the statements are not yours to turn. If you find one false, say at which input.
  Laid BY PROGRAM, IN A SANDBOX (cutbox-rows.mjs): the forced cells as the released guide's own fill.sh prints them over the translation 0217060195632c8c… (all of the seat's roots in one cut). By AI agents, Wed Nov 11 2026. No macro, syntax, notation, axiom, sorry.
-/
import Derived.Test.YtlcoibhbdgdfcaaGreatDoorChecked
import GoSem.Claim
import GoSem.ClaimJoined
import GoSem.ClaimMapViews
import Derived.JoinedTies
import Derived.KernelRfl
namespace Go.Proofs.YtlcoibhbdgdfcaaGreatDoor
/- THE CELL 'sum', in the pinned program and in every row, IS THE sha256 OF THE DUMP (.gsa) THAT YtlcoibhbdgdfcaaGreatDoorProg.lean LOADS. Nothing in Lean hashes anything: it is a label: what it is worth is what the hold of that sum in a sandbox is worth. -/
noncomputable def Tryz.pinned : Pinned := { name := "ytlcoibhbdgdfcaagreatdoor", sum := "0217060195632c8c07493d421e21b3e253c38998017fa9a5bf4ff974cfb51707", checked := Tryz.checked }
namespace Rows
def none {H : Type} : Left H := { results := [], args := [] }

/- WHAT THE LISTED PACKAGE-LEVEL VARIABLES READ AS WHEN THE CALL BEGINS. Each datum BY PROGRAM (the guide's laid-datum.mjs) off the statement by which the dump's own 'gosem.cut.vars' lays the variable. In a bare row this is a premise. The card (YtlcoibhbdgdfcaaGreatDoorCards.lean) ties it to the program's text. -/
def laid_ogive_spans_tens {H : Type} : DataW H := .agg [.lit (.int .u64 1), .lit (.int .u64 10), .lit (.int .u64 100), .lit (.int .u64 1000), .lit (.int .u64 10000)]

/-- 'ogivetop.CoreSlots': WHATEVER THE INPUT: true; the input reads as it did. -/
def coreSlotsSpec : ChangeSpec := { name := "coreSlots", fn := fun _ => fun
  | [d] => { results := [.lit (.bool true)], args := [d] }
  | _ => none }
def coreSlotsRow : OpenClaim := { program := "ytlcoibhbdgdfcaagreatdoor", sum := "0217060195632c8c07493d421e21b3e253c38998017fa9a5bf4ff974cfb51707", func := "ogive/ogivetop.CoreSlots", spec := "coreSlots", inPlace := ["slices.overlaps[ogive/api.Pair]"], unfollowed := true, recurses := true, named := ["math/bits.divideError", "math/bits.overflowError", "ogive/spans.tens"], apart := false, laid := [("ogive/spans.tens", laid_ogive_spans_tens)] }
def CoreSlotsSaid : Prop := coreSlotsRow.holds Tryz.pinned (OpenSpec.ofChange coreSlotsSpec)

/-- ITS FALSE NEIGHBOUR: 'it returns false'. Refute it at one input. -/
def coreSlotsWrong : ChangeSpec := { name := "coreSlots", fn := fun _ => fun
  | [d] => { results := [.lit (.bool false)], args := [d] }
  | _ => none }
def CoreSlotsWrongFalsely : Prop := coreSlotsRow.holds Tryz.pinned (OpenSpec.ofChange coreSlotsWrong)

/-- 'ogivetop.CoreLumps': WHATEVER THE INPUT: true; the input reads as it did. -/
def coreLumpsSpec : ChangeSpec := { name := "coreLumps", fn := fun _ => fun
  | [d1, d2, d3, d4, d5, d6] => { results := [.lit (.bool true)], args := [d1, d2, d3, d4, d5, d6] }
  | _ => none }
def coreLumpsRow : OpenClaim := { program := "ytlcoibhbdgdfcaagreatdoor", sum := "0217060195632c8c07493d421e21b3e253c38998017fa9a5bf4ff974cfb51707", func := "ogive/ogivetop.CoreLumps", spec := "coreLumps", inPlace := ["slices.overlaps[ogive/api.Pair]"], unfollowed := true, recurses := true, named := ["math/bits.divideError", "math/bits.overflowError", "ogive/spans.tens"], apart := false, laid := [("ogive/spans.tens", laid_ogive_spans_tens)] }
def CoreLumpsSaid : Prop := coreLumpsRow.holds Tryz.pinned (OpenSpec.ofChange coreLumpsSpec)

/-- ITS FALSE NEIGHBOUR: 'it returns false'. Refute it at one input. -/
def coreLumpsWrong : ChangeSpec := { name := "coreLumps", fn := fun _ => fun
  | [d1, d2, d3, d4, d5, d6] => { results := [.lit (.bool false)], args := [d1, d2, d3, d4, d5, d6] }
  | _ => none }
def CoreLumpsWrongFalsely : Prop := coreLumpsRow.holds Tryz.pinned (OpenSpec.ofChange coreLumpsWrong)

/-- 'ogivetop.CoreCoins': WHATEVER THE INPUT: true; the input reads as it did. -/
def coreCoinsSpec : ChangeSpec := { name := "coreCoins", fn := fun _ => fun
  | [d1, d2, d3, d4] => { results := [.lit (.bool true)], args := [d1, d2, d3, d4] }
  | _ => none }
def coreCoinsRow : OpenClaim := { program := "ytlcoibhbdgdfcaagreatdoor", sum := "0217060195632c8c07493d421e21b3e253c38998017fa9a5bf4ff974cfb51707", func := "ogive/ogivetop.CoreCoins", spec := "coreCoins", inPlace := ["slices.overlaps[ogive/api.Pair]"], unfollowed := true, recurses := true, named := ["math/bits.divideError", "math/bits.overflowError", "ogive/spans.tens"], apart := false, laid := [("ogive/spans.tens", laid_ogive_spans_tens)] }
def CoreCoinsSaid : Prop := coreCoinsRow.holds Tryz.pinned (OpenSpec.ofChange coreCoinsSpec)

/-- ITS FALSE NEIGHBOUR: 'it returns false'. Refute it at one input. -/
def coreCoinsWrong : ChangeSpec := { name := "coreCoins", fn := fun _ => fun
  | [d1, d2, d3, d4] => { results := [.lit (.bool false)], args := [d1, d2, d3, d4] }
  | _ => none }
def CoreCoinsWrongFalsely : Prop := coreCoinsRow.holds Tryz.pinned (OpenSpec.ofChange coreCoinsWrong)

/-- 'ogivetop.CoreBytes': WHATEVER THE INPUT: true; the input reads as it did. -/
def coreBytesSpec : ChangeSpec := { name := "coreBytes", fn := fun _ => fun
  | [d1, d2, d3, d4, d5, d6] => { results := [.lit (.bool true)], args := [d1, d2, d3, d4, d5, d6] }
  | _ => none }
def coreBytesRow : OpenClaim := { program := "ytlcoibhbdgdfcaagreatdoor", sum := "0217060195632c8c07493d421e21b3e253c38998017fa9a5bf4ff974cfb51707", func := "ogive/ogivetop.CoreBytes", spec := "coreBytes", inPlace := ["slices.overlaps[ogive/api.Pair]"], unfollowed := true, recurses := true, named := ["math/bits.divideError", "math/bits.overflowError", "ogive/spans.tens"], apart := false, laid := [("ogive/spans.tens", laid_ogive_spans_tens)] }
def CoreBytesSaid : Prop := coreBytesRow.holds Tryz.pinned (OpenSpec.ofChange coreBytesSpec)

/-- ITS FALSE NEIGHBOUR: 'it returns false'. Refute it at one input. -/
def coreBytesWrong : ChangeSpec := { name := "coreBytes", fn := fun _ => fun
  | [d1, d2, d3, d4, d5, d6] => { results := [.lit (.bool false)], args := [d1, d2, d3, d4, d5, d6] }
  | _ => none }
def CoreBytesWrongFalsely : Prop := coreBytesRow.holds Tryz.pinned (OpenSpec.ofChange coreBytesWrong)

/- THE SECOND FORM. 'bulk': how many values and letters a reading holds, each counted each time it is reached (what is shared counts as often as it is met; a slice's spare places count too). A statement '..UptoSaid' is the law's where the arguments, and the package variables that the reading takes, are together of bulk at most 1048576: NARROWER than '..Said'. Prove '..Said' where nothing that the law and all that it calls make is longer than what came in: it says more and counts as full. Else prove '..UptoSaid'. A law counts once. -/
mutual
def uptoBulk {H : Type} : DataW H → Nat
  | .lit (.string bytes) => bytes.length + 1
  | .lit _ => 1
  | .nil => 1
  | .ptr d => uptoBulk d + 1
  | .slice elems spare => uptoBulkAll elems + uptoBulkAll spare + 1
  | .agg parts => uptoBulkAll parts + 1
  | .iface _ d => uptoBulk d + 1
  | .map entries => uptoBulkEntries entries + 1
  | .held _ => 1
def uptoBulkAll {H : Type} : List (DataW H) → Nat
  | [] => 0
  | d :: r => uptoBulk d + uptoBulkAll r
def uptoBulkEntries {H : Type} : List (Lit × DataW H) → Nat
  | [] => 0
  | x :: r => uptoBulkEntry x + uptoBulkEntries r
def uptoBulkEntry {H : Type} : Lit × DataW H → Nat
  | (.string bytes, d) => bytes.length + uptoBulk d + 1
  | (_, d) => uptoBulk d + 1
 end
def uptoSmall : (H : Type) → List (DataW H) → Bool := fun _ ds => decide (uptoBulkAll ds ≤ 1048576)
def OpenSpec.upto (s : _root_.Go.ChangeSpec) : _root_.Go.OpenSpec := { _root_.Go.OpenSpec.ofChange s with cond := some uptoSmall }

/-- 'ogivetop.CoreSlots', WHERE WHAT IT READS IS OF BULK AT MOST 1048576: true; the input reads as it did. -/
def coreSlotsUptoRow : OpenClaim := { program := "ytlcoibhbdgdfcaagreatdoor", sum := "0217060195632c8c07493d421e21b3e253c38998017fa9a5bf4ff974cfb51707", func := "ogive/ogivetop.CoreSlots", spec := "coreSlots", inPlace := ["slices.overlaps[ogive/api.Pair]"], unfollowed := true, recurses := true, named := ["math/bits.divideError", "math/bits.overflowError", "ogive/spans.tens"], apart := false, laid := [("ogive/spans.tens", laid_ogive_spans_tens)], narrowed := true }
def CoreSlotsUptoSaid : Prop := coreSlotsUptoRow.holds Tryz.pinned (OpenSpec.upto coreSlotsSpec)

/-- 'ogivetop.CoreLumps', WHERE WHAT IT READS IS OF BULK AT MOST 1048576: true; the input reads as it did. -/
def coreLumpsUptoRow : OpenClaim := { program := "ytlcoibhbdgdfcaagreatdoor", sum := "0217060195632c8c07493d421e21b3e253c38998017fa9a5bf4ff974cfb51707", func := "ogive/ogivetop.CoreLumps", spec := "coreLumps", inPlace := ["slices.overlaps[ogive/api.Pair]"], unfollowed := true, recurses := true, named := ["math/bits.divideError", "math/bits.overflowError", "ogive/spans.tens"], apart := false, laid := [("ogive/spans.tens", laid_ogive_spans_tens)], narrowed := true }
def CoreLumpsUptoSaid : Prop := coreLumpsUptoRow.holds Tryz.pinned (OpenSpec.upto coreLumpsSpec)

/-- 'ogivetop.CoreCoins', WHERE WHAT IT READS IS OF BULK AT MOST 1048576: true; the input reads as it did. -/
def coreCoinsUptoRow : OpenClaim := { program := "ytlcoibhbdgdfcaagreatdoor", sum := "0217060195632c8c07493d421e21b3e253c38998017fa9a5bf4ff974cfb51707", func := "ogive/ogivetop.CoreCoins", spec := "coreCoins", inPlace := ["slices.overlaps[ogive/api.Pair]"], unfollowed := true, recurses := true, named := ["math/bits.divideError", "math/bits.overflowError", "ogive/spans.tens"], apart := false, laid := [("ogive/spans.tens", laid_ogive_spans_tens)], narrowed := true }
def CoreCoinsUptoSaid : Prop := coreCoinsUptoRow.holds Tryz.pinned (OpenSpec.upto coreCoinsSpec)

/-- 'ogivetop.CoreBytes', WHERE WHAT IT READS IS OF BULK AT MOST 1048576: true; the input reads as it did. -/
def coreBytesUptoRow : OpenClaim := { program := "ytlcoibhbdgdfcaagreatdoor", sum := "0217060195632c8c07493d421e21b3e253c38998017fa9a5bf4ff974cfb51707", func := "ogive/ogivetop.CoreBytes", spec := "coreBytes", inPlace := ["slices.overlaps[ogive/api.Pair]"], unfollowed := true, recurses := true, named := ["math/bits.divideError", "math/bits.overflowError", "ogive/spans.tens"], apart := false, laid := [("ogive/spans.tens", laid_ogive_spans_tens)], narrowed := true }
def CoreBytesUptoSaid : Prop := coreBytesUptoRow.holds Tryz.pinned (OpenSpec.upto coreBytesSpec)

end Rows
end Go.Proofs.YtlcoibhbdgdfcaaGreatDoor
