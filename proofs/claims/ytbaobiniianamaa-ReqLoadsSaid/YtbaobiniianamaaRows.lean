/-
  No cell of these rows narrows 'for every input' (looked for: loops, veiled, ifaces, maps, wideKeys, modest, calm, conditions, laid).
  DERIVED. THE GIVEN ROWS OF THIS SEAT. 10 by the template 'for every input the law returns true; each argument reads behind the call as it read before'; 0 by the template 'total and deterministic' (their statements: YtbaobiniianamaaTotals.lean).
  GIVEN WITH THE SEED: the statements are not yours to turn. If you find one false, say at which input.
  Laid BY PROGRAM, IN A SANDBOX (cutbox-rows.mjs): the forced cells as the released guide's own fill.sh prints them over the translation 972abaebfff4ec92… (all of the seat's roots in one cut). By AI agents, Wed Nov 11 2026. No macro, syntax, notation, axiom, sorry.
-/
import Derived.Test.YtbaobiniianamaaChecked
import GoSem.Claim
import GoSem.ClaimJoined
import GoSem.ClaimMapViews
import Derived.JoinedTies
import Derived.KernelRfl
namespace Go.Proofs.Ytbaobiniianamaa
/- THE CELL 'sum', in the pinned program and in every row, IS THE sha256 OF THE DUMP (.gsa) THAT YtbaobiniianamaaProg.lean LOADS. Nothing in Lean hashes anything: it is a label: what it is worth is what the hold of that sum in a sandbox is worth. -/
noncomputable def Try.pinned : Pinned := { name := "ytbaobiniianamaa", sum := "972abaebfff4ec9241f137f026b3628cc88b42c6c07ce9ea9cf701c2923c702d", checked := Try.checked }
namespace Rows
def none {H : Type} : Left H := { results := [], args := [] }

/-- 'ogivelaw20.CoinsHalves': WHATEVER THE INPUT: true; the input reads as it did. -/
def coinsHalvesSpec : ChangeSpec := { name := "coinsHalves", fn := fun _ => fun
  | [d1, d2, d3] => { results := [.lit (.bool true)], args := [d1, d2, d3] }
  | _ => none }
def coinsHalvesRow : OpenClaim := { program := "ytbaobiniianamaa", sum := "972abaebfff4ec9241f137f026b3628cc88b42c6c07ce9ea9cf701c2923c702d", func := "ogive/ogivelaw20.CoinsHalves", spec := "coinsHalves", unfollowed := true, recurses := true, apart := false }
def CoinsHalvesSaid : Prop := coinsHalvesRow.holds Try.pinned (OpenSpec.ofChange coinsHalvesSpec)

/-- ITS FALSE NEIGHBOUR: 'it returns false'. Refute it at one input. -/
def coinsHalvesWrong : ChangeSpec := { name := "coinsHalves", fn := fun _ => fun
  | [d1, d2, d3] => { results := [.lit (.bool false)], args := [d1, d2, d3] }
  | _ => none }
def CoinsHalvesWrongFalsely : Prop := coinsHalvesRow.holds Try.pinned (OpenSpec.ofChange coinsHalvesWrong)

/-- 'ogivelaw20.CoinsKeeps': WHATEVER THE INPUT: true; the input reads as it did. -/
def coinsKeepsSpec : ChangeSpec := { name := "coinsKeeps", fn := fun _ => fun
  | [d1, d2] => { results := [.lit (.bool true)], args := [d1, d2] }
  | _ => none }
def coinsKeepsRow : OpenClaim := { program := "ytbaobiniianamaa", sum := "972abaebfff4ec9241f137f026b3628cc88b42c6c07ce9ea9cf701c2923c702d", func := "ogive/ogivelaw20.CoinsKeeps", spec := "coinsKeeps", unfollowed := true, recurses := true, apart := false }
def CoinsKeepsSaid : Prop := coinsKeepsRow.holds Try.pinned (OpenSpec.ofChange coinsKeepsSpec)

/-- ITS FALSE NEIGHBOUR: 'it returns false'. Refute it at one input. -/
def coinsKeepsWrong : ChangeSpec := { name := "coinsKeeps", fn := fun _ => fun
  | [d1, d2] => { results := [.lit (.bool false)], args := [d1, d2] }
  | _ => none }
def CoinsKeepsWrongFalsely : Prop := coinsKeepsRow.holds Try.pinned (OpenSpec.ofChange coinsKeepsWrong)

/-- 'ogivelaw21.ReqFair': WHATEVER THE INPUT: true; the input reads as it did. -/
def reqFairSpec : ChangeSpec := { name := "reqFair", fn := fun _ => fun
  | [d1, d2, d3] => { results := [.lit (.bool true)], args := [d1, d2, d3] }
  | _ => none }
def reqFairRow : OpenClaim := { program := "ytbaobiniianamaa", sum := "972abaebfff4ec9241f137f026b3628cc88b42c6c07ce9ea9cf701c2923c702d", func := "ogive/ogivelaw21.ReqFair", spec := "reqFair", unfollowed := true, recurses := true, apart := false }
def ReqFairSaid : Prop := reqFairRow.holds Try.pinned (OpenSpec.ofChange reqFairSpec)

/-- ITS FALSE NEIGHBOUR: 'it returns false'. Refute it at one input. -/
def reqFairWrong : ChangeSpec := { name := "reqFair", fn := fun _ => fun
  | [d1, d2, d3] => { results := [.lit (.bool false)], args := [d1, d2, d3] }
  | _ => none }
def ReqFairWrongFalsely : Prop := reqFairRow.holds Try.pinned (OpenSpec.ofChange reqFairWrong)

/-- 'ogivelaw21.ReqFull': WHATEVER THE INPUT: true; the input reads as it did. -/
def reqFullSpec : ChangeSpec := { name := "reqFull", fn := fun _ => fun
  | [d1, d2, d3] => { results := [.lit (.bool true)], args := [d1, d2, d3] }
  | _ => none }
def reqFullRow : OpenClaim := { program := "ytbaobiniianamaa", sum := "972abaebfff4ec9241f137f026b3628cc88b42c6c07ce9ea9cf701c2923c702d", func := "ogive/ogivelaw21.ReqFull", spec := "reqFull", unfollowed := true, recurses := true, apart := false }
def ReqFullSaid : Prop := reqFullRow.holds Try.pinned (OpenSpec.ofChange reqFullSpec)

/-- ITS FALSE NEIGHBOUR: 'it returns false'. Refute it at one input. -/
def reqFullWrong : ChangeSpec := { name := "reqFull", fn := fun _ => fun
  | [d1, d2, d3] => { results := [.lit (.bool false)], args := [d1, d2, d3] }
  | _ => none }
def ReqFullWrongFalsely : Prop := reqFullRow.holds Try.pinned (OpenSpec.ofChange reqFullWrong)

/-- 'ogivelaw21.ReqJoins': WHATEVER THE INPUT: true; the input reads as it did. -/
def reqJoinsSpec : ChangeSpec := { name := "reqJoins", fn := fun _ => fun
  | [d1, d2, d3, d4] => { results := [.lit (.bool true)], args := [d1, d2, d3, d4] }
  | _ => none }
def reqJoinsRow : OpenClaim := { program := "ytbaobiniianamaa", sum := "972abaebfff4ec9241f137f026b3628cc88b42c6c07ce9ea9cf701c2923c702d", func := "ogive/ogivelaw21.ReqJoins", spec := "reqJoins", unfollowed := true, recurses := true, apart := false }
def ReqJoinsSaid : Prop := reqJoinsRow.holds Try.pinned (OpenSpec.ofChange reqJoinsSpec)

/-- ITS FALSE NEIGHBOUR: 'it returns false'. Refute it at one input. -/
def reqJoinsWrong : ChangeSpec := { name := "reqJoins", fn := fun _ => fun
  | [d1, d2, d3, d4] => { results := [.lit (.bool false)], args := [d1, d2, d3, d4] }
  | _ => none }
def ReqJoinsWrongFalsely : Prop := reqJoinsRow.holds Try.pinned (OpenSpec.ofChange reqJoinsWrong)

/-- 'ogivelaw21.ReqLow': WHATEVER THE INPUT: true; the input reads as it did. -/
def reqLowSpec : ChangeSpec := { name := "reqLow", fn := fun _ => fun
  | [d1, d2, d3, d4] => { results := [.lit (.bool true)], args := [d1, d2, d3, d4] }
  | _ => none }
def reqLowRow : OpenClaim := { program := "ytbaobiniianamaa", sum := "972abaebfff4ec9241f137f026b3628cc88b42c6c07ce9ea9cf701c2923c702d", func := "ogive/ogivelaw21.ReqLow", spec := "reqLow", unfollowed := true, recurses := true, apart := false }
def ReqLowSaid : Prop := reqLowRow.holds Try.pinned (OpenSpec.ofChange reqLowSpec)

/-- ITS FALSE NEIGHBOUR: 'it returns false'. Refute it at one input. -/
def reqLowWrong : ChangeSpec := { name := "reqLow", fn := fun _ => fun
  | [d1, d2, d3, d4] => { results := [.lit (.bool false)], args := [d1, d2, d3, d4] }
  | _ => none }
def ReqLowWrongFalsely : Prop := reqLowRow.holds Try.pinned (OpenSpec.ofChange reqLowWrong)

/-- 'ogivelaw21.ReqBound': WHATEVER THE INPUT: true; the input reads as it did. -/
def reqBoundSpec : ChangeSpec := { name := "reqBound", fn := fun _ => fun
  | [d1, d2, d3, d4] => { results := [.lit (.bool true)], args := [d1, d2, d3, d4] }
  | _ => none }
def reqBoundRow : OpenClaim := { program := "ytbaobiniianamaa", sum := "972abaebfff4ec9241f137f026b3628cc88b42c6c07ce9ea9cf701c2923c702d", func := "ogive/ogivelaw21.ReqBound", spec := "reqBound", unfollowed := true, recurses := true, apart := false }
def ReqBoundSaid : Prop := reqBoundRow.holds Try.pinned (OpenSpec.ofChange reqBoundSpec)

/-- ITS FALSE NEIGHBOUR: 'it returns false'. Refute it at one input. -/
def reqBoundWrong : ChangeSpec := { name := "reqBound", fn := fun _ => fun
  | [d1, d2, d3, d4] => { results := [.lit (.bool false)], args := [d1, d2, d3, d4] }
  | _ => none }
def ReqBoundWrongFalsely : Prop := reqBoundRow.holds Try.pinned (OpenSpec.ofChange reqBoundWrong)

/-- 'ogivelaw21.ReqLoads': WHATEVER THE INPUT: true; the input reads as it did. -/
def reqLoadsSpec : ChangeSpec := { name := "reqLoads", fn := fun _ => fun
  | [d1, d2, d3, d4, d5] => { results := [.lit (.bool true)], args := [d1, d2, d3, d4, d5] }
  | _ => none }
def reqLoadsRow : OpenClaim := { program := "ytbaobiniianamaa", sum := "972abaebfff4ec9241f137f026b3628cc88b42c6c07ce9ea9cf701c2923c702d", func := "ogive/ogivelaw21.ReqLoads", spec := "reqLoads", unfollowed := true, recurses := true, apart := false }
def ReqLoadsSaid : Prop := reqLoadsRow.holds Try.pinned (OpenSpec.ofChange reqLoadsSpec)

/-- ITS FALSE NEIGHBOUR: 'it returns false'. Refute it at one input. -/
def reqLoadsWrong : ChangeSpec := { name := "reqLoads", fn := fun _ => fun
  | [d1, d2, d3, d4, d5] => { results := [.lit (.bool false)], args := [d1, d2, d3, d4, d5] }
  | _ => none }
def ReqLoadsWrongFalsely : Prop := reqLoadsRow.holds Try.pinned (OpenSpec.ofChange reqLoadsWrong)

/-- 'ogivelaw21.ReqDoes': WHATEVER THE INPUT: true; the input reads as it did. -/
def reqDoesSpec : ChangeSpec := { name := "reqDoes", fn := fun _ => fun
  | [d1, d2, d3, d4] => { results := [.lit (.bool true)], args := [d1, d2, d3, d4] }
  | _ => none }
def reqDoesRow : OpenClaim := { program := "ytbaobiniianamaa", sum := "972abaebfff4ec9241f137f026b3628cc88b42c6c07ce9ea9cf701c2923c702d", func := "ogive/ogivelaw21.ReqDoes", spec := "reqDoes", inPlace := ["math/bits.Add64"], unfollowed := true, recurses := true, named := ["math/bits.divideError", "math/bits.overflowError"], apart := false }
def ReqDoesSaid : Prop := reqDoesRow.holds Try.pinned (OpenSpec.ofChange reqDoesSpec)

/-- ITS FALSE NEIGHBOUR: 'it returns false'. Refute it at one input. -/
def reqDoesWrong : ChangeSpec := { name := "reqDoes", fn := fun _ => fun
  | [d1, d2, d3, d4] => { results := [.lit (.bool false)], args := [d1, d2, d3, d4] }
  | _ => none }
def ReqDoesWrongFalsely : Prop := reqDoesRow.holds Try.pinned (OpenSpec.ofChange reqDoesWrong)

/-- 'ogivelaw21.ReqErrors': WHATEVER THE INPUT: true; the input reads as it did. -/
def reqErrorsSpec : ChangeSpec := { name := "reqErrors", fn := fun _ => fun
  | [d1, d2, d3, d4] => { results := [.lit (.bool true)], args := [d1, d2, d3, d4] }
  | _ => none }
def reqErrorsRow : OpenClaim := { program := "ytbaobiniianamaa", sum := "972abaebfff4ec9241f137f026b3628cc88b42c6c07ce9ea9cf701c2923c702d", func := "ogive/ogivelaw21.ReqErrors", spec := "reqErrors", inPlace := ["math/bits.Add64"], unfollowed := true, recurses := true, named := ["math/bits.divideError", "math/bits.overflowError"], apart := false }
def ReqErrorsSaid : Prop := reqErrorsRow.holds Try.pinned (OpenSpec.ofChange reqErrorsSpec)

/-- ITS FALSE NEIGHBOUR: 'it returns false'. Refute it at one input. -/
def reqErrorsWrong : ChangeSpec := { name := "reqErrors", fn := fun _ => fun
  | [d1, d2, d3, d4] => { results := [.lit (.bool false)], args := [d1, d2, d3, d4] }
  | _ => none }
def ReqErrorsWrongFalsely : Prop := reqErrorsRow.holds Try.pinned (OpenSpec.ofChange reqErrorsWrong)

/- THE SECOND FORM. 'bulk': how many values and letters a reading holds, each counted each time it is reached (what is shared counts as often as it is met; a slice's spare places count too). A statement '..UptoSaid' is the law's where the arguments, and the package variables that the reading takes, are together of bulk at most 1048576: NARROWER than '..Said'. Prove '..Said' where nothing that the law and all that it calls make is longer than what came in: it says more and counts as full. Else prove '..UptoSaid'. A law counts once. -/
mutual
def uptoBulk {H : Type} : DataW H → Nat
  | .lit (.string bytes) => bytes.length + 1
  | .lit _ => 1
  | .nil => 1
  | .ptr d => uptoBulk d + 1
  | .slice elems spare => uptoBulkAll elems + uptoBulkAll spare + 1
  | .agg parts => uptoBulkAll parts + 1
  | .iface _ d => uptoBulk d + 1
  | .map entries => uptoBulkEntries entries + 1
  | .held _ => 1
def uptoBulkAll {H : Type} : List (DataW H) → Nat
  | [] => 0
  | d :: r => uptoBulk d + uptoBulkAll r
def uptoBulkEntries {H : Type} : List (Lit × DataW H) → Nat
  | [] => 0
  | x :: r => uptoBulkEntry x + uptoBulkEntries r
def uptoBulkEntry {H : Type} : Lit × DataW H → Nat
  | (.string bytes, d) => bytes.length + uptoBulk d + 1
  | (_, d) => uptoBulk d + 1
 end
def uptoSmall : (H : Type) → List (DataW H) → Bool := fun _ ds => decide (uptoBulkAll ds ≤ 1048576)
def OpenSpec.upto (s : _root_.Go.ChangeSpec) : _root_.Go.OpenSpec := { _root_.Go.OpenSpec.ofChange s with cond := some uptoSmall }

/-- 'ogivelaw20.CoinsHalves', WHERE WHAT IT READS IS OF BULK AT MOST 1048576: true; the input reads as it did. -/
def coinsHalvesUptoRow : OpenClaim := { program := "ytbaobiniianamaa", sum := "972abaebfff4ec9241f137f026b3628cc88b42c6c07ce9ea9cf701c2923c702d", func := "ogive/ogivelaw20.CoinsHalves", spec := "coinsHalves", unfollowed := true, recurses := true, apart := false, narrowed := true }
def CoinsHalvesUptoSaid : Prop := coinsHalvesUptoRow.holds Try.pinned (OpenSpec.upto coinsHalvesSpec)

/-- 'ogivelaw20.CoinsKeeps', WHERE WHAT IT READS IS OF BULK AT MOST 1048576: true; the input reads as it did. -/
def coinsKeepsUptoRow : OpenClaim := { program := "ytbaobiniianamaa", sum := "972abaebfff4ec9241f137f026b3628cc88b42c6c07ce9ea9cf701c2923c702d", func := "ogive/ogivelaw20.CoinsKeeps", spec := "coinsKeeps", unfollowed := true, recurses := true, apart := false, narrowed := true }
def CoinsKeepsUptoSaid : Prop := coinsKeepsUptoRow.holds Try.pinned (OpenSpec.upto coinsKeepsSpec)

/-- 'ogivelaw21.ReqFair', WHERE WHAT IT READS IS OF BULK AT MOST 1048576: true; the input reads as it did. -/
def reqFairUptoRow : OpenClaim := { program := "ytbaobiniianamaa", sum := "972abaebfff4ec9241f137f026b3628cc88b42c6c07ce9ea9cf701c2923c702d", func := "ogive/ogivelaw21.ReqFair", spec := "reqFair", unfollowed := true, recurses := true, apart := false, narrowed := true }
def ReqFairUptoSaid : Prop := reqFairUptoRow.holds Try.pinned (OpenSpec.upto reqFairSpec)

/-- 'ogivelaw21.ReqFull', WHERE WHAT IT READS IS OF BULK AT MOST 1048576: true; the input reads as it did. -/
def reqFullUptoRow : OpenClaim := { program := "ytbaobiniianamaa", sum := "972abaebfff4ec9241f137f026b3628cc88b42c6c07ce9ea9cf701c2923c702d", func := "ogive/ogivelaw21.ReqFull", spec := "reqFull", unfollowed := true, recurses := true, apart := false, narrowed := true }
def ReqFullUptoSaid : Prop := reqFullUptoRow.holds Try.pinned (OpenSpec.upto reqFullSpec)

/-- 'ogivelaw21.ReqJoins', WHERE WHAT IT READS IS OF BULK AT MOST 1048576: true; the input reads as it did. -/
def reqJoinsUptoRow : OpenClaim := { program := "ytbaobiniianamaa", sum := "972abaebfff4ec9241f137f026b3628cc88b42c6c07ce9ea9cf701c2923c702d", func := "ogive/ogivelaw21.ReqJoins", spec := "reqJoins", unfollowed := true, recurses := true, apart := false, narrowed := true }
def ReqJoinsUptoSaid : Prop := reqJoinsUptoRow.holds Try.pinned (OpenSpec.upto reqJoinsSpec)

/-- 'ogivelaw21.ReqLow', WHERE WHAT IT READS IS OF BULK AT MOST 1048576: true; the input reads as it did. -/
def reqLowUptoRow : OpenClaim := { program := "ytbaobiniianamaa", sum := "972abaebfff4ec9241f137f026b3628cc88b42c6c07ce9ea9cf701c2923c702d", func := "ogive/ogivelaw21.ReqLow", spec := "reqLow", unfollowed := true, recurses := true, apart := false, narrowed := true }
def ReqLowUptoSaid : Prop := reqLowUptoRow.holds Try.pinned (OpenSpec.upto reqLowSpec)

/-- 'ogivelaw21.ReqBound', WHERE WHAT IT READS IS OF BULK AT MOST 1048576: true; the input reads as it did. -/
def reqBoundUptoRow : OpenClaim := { program := "ytbaobiniianamaa", sum := "972abaebfff4ec9241f137f026b3628cc88b42c6c07ce9ea9cf701c2923c702d", func := "ogive/ogivelaw21.ReqBound", spec := "reqBound", unfollowed := true, recurses := true, apart := false, narrowed := true }
def ReqBoundUptoSaid : Prop := reqBoundUptoRow.holds Try.pinned (OpenSpec.upto reqBoundSpec)

/-- 'ogivelaw21.ReqLoads', WHERE WHAT IT READS IS OF BULK AT MOST 1048576: true; the input reads as it did. -/
def reqLoadsUptoRow : OpenClaim := { program := "ytbaobiniianamaa", sum := "972abaebfff4ec9241f137f026b3628cc88b42c6c07ce9ea9cf701c2923c702d", func := "ogive/ogivelaw21.ReqLoads", spec := "reqLoads", unfollowed := true, recurses := true, apart := false, narrowed := true }
def ReqLoadsUptoSaid : Prop := reqLoadsUptoRow.holds Try.pinned (OpenSpec.upto reqLoadsSpec)

/-- 'ogivelaw21.ReqDoes', WHERE WHAT IT READS IS OF BULK AT MOST 1048576: true; the input reads as it did. -/
def reqDoesUptoRow : OpenClaim := { program := "ytbaobiniianamaa", sum := "972abaebfff4ec9241f137f026b3628cc88b42c6c07ce9ea9cf701c2923c702d", func := "ogive/ogivelaw21.ReqDoes", spec := "reqDoes", inPlace := ["math/bits.Add64"], unfollowed := true, recurses := true, named := ["math/bits.divideError", "math/bits.overflowError"], apart := false, narrowed := true }
def ReqDoesUptoSaid : Prop := reqDoesUptoRow.holds Try.pinned (OpenSpec.upto reqDoesSpec)

/-- 'ogivelaw21.ReqErrors', WHERE WHAT IT READS IS OF BULK AT MOST 1048576: true; the input reads as it did. -/
def reqErrorsUptoRow : OpenClaim := { program := "ytbaobiniianamaa", sum := "972abaebfff4ec9241f137f026b3628cc88b42c6c07ce9ea9cf701c2923c702d", func := "ogive/ogivelaw21.ReqErrors", spec := "reqErrors", inPlace := ["math/bits.Add64"], unfollowed := true, recurses := true, named := ["math/bits.divideError", "math/bits.overflowError"], apart := false, narrowed := true }
def ReqErrorsUptoSaid : Prop := reqErrorsUptoRow.holds Try.pinned (OpenSpec.upto reqErrorsSpec)

end Rows
end Go.Proofs.Ytbaobiniianamaa
