/-
  No cell of these rows narrows 'for every input' (looked for: loops, veiled, ifaces, maps, wideKeys, modest, calm, conditions, laid).
  DERIVED. THE GIVEN ROWS OF THIS SEAT. 8 by the template 'for every input the law returns true; each argument reads behind the call as it read before'; 0 by the template 'total and deterministic' (their statements: YtldhlkkclmifmaaTotals.lean).
  GIVEN WITH THE SEED: the statements are not yours to turn. If you find one false, say at which input.
  Laid BY PROGRAM, IN A SANDBOX (cutbox-rows.mjs): the forced cells as the released guide's own fill.sh prints them over the translation cb85c25800e8b58c… (all of the seat's roots in one cut). By AI agents, Wed Nov 11 2026. No macro, syntax, notation, axiom, sorry.
-/
import Derived.Test.YtldhlkkclmifmaaChecked
import GoSem.Claim
import GoSem.ClaimJoined
import GoSem.ClaimMapViews
import Derived.JoinedTies
import Derived.KernelRfl
namespace Go.Proofs.Ytldhlkkclmifmaa
/- THE CELL 'sum', in the pinned program and in every row, IS THE sha256 OF THE DUMP (.gsa) THAT YtldhlkkclmifmaaProg.lean LOADS. Nothing in Lean hashes anything: it is a label: what it is worth is what the hold of that sum in a sandbox is worth. -/
noncomputable def Try.pinned : Pinned := { name := "ytldhlkkclmifmaa", sum := "cb85c25800e8b58ca523ff2ea295b2ebbbb8bb98ad6e983db171ac395333592d", checked := Try.checked }
namespace Rows
def none {H : Type} : Left H := { results := [], args := [] }

/-- 'beadlelaw10.SchedNumbers': WHATEVER THE INPUT: true; the input reads as it did. -/
def schedNumbersSpec : ChangeSpec := { name := "schedNumbers", fn := fun _ => fun
  | [] => { results := [.lit (.bool true)], args := [] }
  | _ => none }
def schedNumbersRow : OpenClaim := { program := "ytldhlkkclmifmaa", sum := "cb85c25800e8b58ca523ff2ea295b2ebbbb8bb98ad6e983db171ac395333592d", func := "beadle/beadlelaw10.SchedNumbers", spec := "schedNumbers", apart := false }
def SchedNumbersSaid : Prop := schedNumbersRow.holds Try.pinned (OpenSpec.ofChange schedNumbersSpec)

/-- ITS FALSE NEIGHBOUR: 'it returns false'. Refute it at one input. -/
def schedNumbersWrong : ChangeSpec := { name := "schedNumbers", fn := fun _ => fun
  | [] => { results := [.lit (.bool false)], args := [] }
  | _ => none }
def SchedNumbersWrongFalsely : Prop := schedNumbersRow.holds Try.pinned (OpenSpec.ofChange schedNumbersWrong)

/-- 'beadlelaw10.SchedFolds': WHATEVER THE INPUT: true; the input reads as it did. -/
def schedFoldsSpec : ChangeSpec := { name := "schedFolds", fn := fun _ => fun
  | [d1, d2] => { results := [.lit (.bool true)], args := [d1, d2] }
  | _ => none }
def schedFoldsRow : OpenClaim := { program := "ytldhlkkclmifmaa", sum := "cb85c25800e8b58ca523ff2ea295b2ebbbb8bb98ad6e983db171ac395333592d", func := "beadle/beadlelaw10.SchedFolds", spec := "schedFolds", apart := false }
def SchedFoldsSaid : Prop := schedFoldsRow.holds Try.pinned (OpenSpec.ofChange schedFoldsSpec)

/-- ITS FALSE NEIGHBOUR: 'it returns false'. Refute it at one input. -/
def schedFoldsWrong : ChangeSpec := { name := "schedFolds", fn := fun _ => fun
  | [d1, d2] => { results := [.lit (.bool false)], args := [d1, d2] }
  | _ => none }
def SchedFoldsWrongFalsely : Prop := schedFoldsRow.holds Try.pinned (OpenSpec.ofChange schedFoldsWrong)

/-- 'beadlelaw18.BoundsAre': WHATEVER THE INPUT: true; the input reads as it did. -/
def boundsAreSpec : ChangeSpec := { name := "boundsAre", fn := fun _ => fun
  | [d] => { results := [.lit (.bool true)], args := [d] }
  | _ => none }
def boundsAreRow : OpenClaim := { program := "ytldhlkkclmifmaa", sum := "cb85c25800e8b58ca523ff2ea295b2ebbbb8bb98ad6e983db171ac395333592d", func := "beadle/beadlelaw18.BoundsAre", spec := "boundsAre", unfollowed := true, recurses := true, apart := false }
def BoundsAreSaid : Prop := boundsAreRow.holds Try.pinned (OpenSpec.ofChange boundsAreSpec)

/-- ITS FALSE NEIGHBOUR: 'it returns false'. Refute it at one input. -/
def boundsAreWrong : ChangeSpec := { name := "boundsAre", fn := fun _ => fun
  | [d] => { results := [.lit (.bool false)], args := [d] }
  | _ => none }
def BoundsAreWrongFalsely : Prop := boundsAreRow.holds Try.pinned (OpenSpec.ofChange boundsAreWrong)

/-- 'beadlelaw18.BoundsGrow': WHATEVER THE INPUT: true; the input reads as it did. -/
def boundsGrowSpec : ChangeSpec := { name := "boundsGrow", fn := fun _ => fun
  | [d1, d2] => { results := [.lit (.bool true)], args := [d1, d2] }
  | _ => none }
def boundsGrowRow : OpenClaim := { program := "ytldhlkkclmifmaa", sum := "cb85c25800e8b58ca523ff2ea295b2ebbbb8bb98ad6e983db171ac395333592d", func := "beadle/beadlelaw18.BoundsGrow", spec := "boundsGrow", unfollowed := true, recurses := true, apart := false }
def BoundsGrowSaid : Prop := boundsGrowRow.holds Try.pinned (OpenSpec.ofChange boundsGrowSpec)

/-- ITS FALSE NEIGHBOUR: 'it returns false'. Refute it at one input. -/
def boundsGrowWrong : ChangeSpec := { name := "boundsGrow", fn := fun _ => fun
  | [d1, d2] => { results := [.lit (.bool false)], args := [d1, d2] }
  | _ => none }
def BoundsGrowWrongFalsely : Prop := boundsGrowRow.holds Try.pinned (OpenSpec.ofChange boundsGrowWrong)

/-- 'beadlelaw18.BoundsLate': WHATEVER THE INPUT: true; the input reads as it did. -/
def boundsLateSpec : ChangeSpec := { name := "boundsLate", fn := fun _ => fun
  | [d1, d2] => { results := [.lit (.bool true)], args := [d1, d2] }
  | _ => none }
def boundsLateRow : OpenClaim := { program := "ytldhlkkclmifmaa", sum := "cb85c25800e8b58ca523ff2ea295b2ebbbb8bb98ad6e983db171ac395333592d", func := "beadle/beadlelaw18.BoundsLate", spec := "boundsLate", unfollowed := true, recurses := true, apart := false }
def BoundsLateSaid : Prop := boundsLateRow.holds Try.pinned (OpenSpec.ofChange boundsLateSpec)

/-- ITS FALSE NEIGHBOUR: 'it returns false'. Refute it at one input. -/
def boundsLateWrong : ChangeSpec := { name := "boundsLate", fn := fun _ => fun
  | [d1, d2] => { results := [.lit (.bool false)], args := [d1, d2] }
  | _ => none }
def BoundsLateWrongFalsely : Prop := boundsLateRow.holds Try.pinned (OpenSpec.ofChange boundsLateWrong)

/-- 'beadlelaw10.SchedFair': WHATEVER THE INPUT: true; the input reads as it did. -/
def schedFairSpec : ChangeSpec := { name := "schedFair", fn := fun _ => fun
  | [d1, d2] => { results := [.lit (.bool true)], args := [d1, d2] }
  | _ => none }
def schedFairRow : OpenClaim := { program := "ytldhlkkclmifmaa", sum := "cb85c25800e8b58ca523ff2ea295b2ebbbb8bb98ad6e983db171ac395333592d", func := "beadle/beadlelaw10.SchedFair", spec := "schedFair", apart := false }
def SchedFairSaid : Prop := schedFairRow.holds Try.pinned (OpenSpec.ofChange schedFairSpec)

/-- ITS FALSE NEIGHBOUR: 'it returns false'. Refute it at one input. -/
def schedFairWrong : ChangeSpec := { name := "schedFair", fn := fun _ => fun
  | [d1, d2] => { results := [.lit (.bool false)], args := [d1, d2] }
  | _ => none }
def SchedFairWrongFalsely : Prop := schedFairRow.holds Try.pinned (OpenSpec.ofChange schedFairWrong)

/-- 'beadlelaw10.SchedRound': WHATEVER THE INPUT: true; the input reads as it did. -/
def schedRoundSpec : ChangeSpec := { name := "schedRound", fn := fun _ => fun
  | [d1, d2, d3] => { results := [.lit (.bool true)], args := [d1, d2, d3] }
  | _ => none }
def schedRoundRow : OpenClaim := { program := "ytldhlkkclmifmaa", sum := "cb85c25800e8b58ca523ff2ea295b2ebbbb8bb98ad6e983db171ac395333592d", func := "beadle/beadlelaw10.SchedRound", spec := "schedRound", apart := false }
def SchedRoundSaid : Prop := schedRoundRow.holds Try.pinned (OpenSpec.ofChange schedRoundSpec)

/-- ITS FALSE NEIGHBOUR: 'it returns false'. Refute it at one input. -/
def schedRoundWrong : ChangeSpec := { name := "schedRound", fn := fun _ => fun
  | [d1, d2, d3] => { results := [.lit (.bool false)], args := [d1, d2, d3] }
  | _ => none }
def SchedRoundWrongFalsely : Prop := schedRoundRow.holds Try.pinned (OpenSpec.ofChange schedRoundWrong)

/-- 'beadlelaw10.SchedPlays': WHATEVER THE INPUT: true; the input reads as it did. -/
def schedPlaysSpec : ChangeSpec := { name := "schedPlays", fn := fun _ => fun
  | [d1, d2] => { results := [.lit (.bool true)], args := [d1, d2] }
  | _ => none }
def schedPlaysRow : OpenClaim := { program := "ytldhlkkclmifmaa", sum := "cb85c25800e8b58ca523ff2ea295b2ebbbb8bb98ad6e983db171ac395333592d", func := "beadle/beadlelaw10.SchedPlays", spec := "schedPlays", apart := false }
def SchedPlaysSaid : Prop := schedPlaysRow.holds Try.pinned (OpenSpec.ofChange schedPlaysSpec)

/-- ITS FALSE NEIGHBOUR: 'it returns false'. Refute it at one input. -/
def schedPlaysWrong : ChangeSpec := { name := "schedPlays", fn := fun _ => fun
  | [d1, d2] => { results := [.lit (.bool false)], args := [d1, d2] }
  | _ => none }
def SchedPlaysWrongFalsely : Prop := schedPlaysRow.holds Try.pinned (OpenSpec.ofChange schedPlaysWrong)

/- THE SECOND FORM. 'bulk': how many values and letters a reading holds, each counted each time it is reached (what is shared counts as often as it is met; a slice's spare places count too). A statement '..UptoSaid' is the law's where the arguments, and the package variables that the reading takes, are together of bulk at most 1048576: NARROWER than '..Said'. Prove '..Said' where nothing that the law and all that it calls make is longer than what came in: it says more and counts as full. Else prove '..UptoSaid'. A law counts once. -/
mutual
def uptoBulk {H : Type} : DataW H → Nat
  | .lit (.string bytes) => bytes.length + 1
  | .lit _ => 1
  | .nil => 1
  | .ptr d => uptoBulk d + 1
  | .slice elems spare => uptoBulkAll elems + uptoBulkAll spare + 1
  | .agg parts => uptoBulkAll parts + 1
  | .iface _ d => uptoBulk d + 1
  | .map entries => uptoBulkEntries entries + 1
  | .held _ => 1
def uptoBulkAll {H : Type} : List (DataW H) → Nat
  | [] => 0
  | d :: r => uptoBulk d + uptoBulkAll r
def uptoBulkEntries {H : Type} : List (Lit × DataW H) → Nat
  | [] => 0
  | x :: r => uptoBulkEntry x + uptoBulkEntries r
def uptoBulkEntry {H : Type} : Lit × DataW H → Nat
  | (.string bytes, d) => bytes.length + uptoBulk d + 1
  | (_, d) => uptoBulk d + 1
 end
def uptoSmall : (H : Type) → List (DataW H) → Bool := fun _ ds => decide (uptoBulkAll ds ≤ 1048576)
def OpenSpec.upto (s : _root_.Go.ChangeSpec) : _root_.Go.OpenSpec := { _root_.Go.OpenSpec.ofChange s with cond := some uptoSmall }

/-- 'beadlelaw10.SchedNumbers', WHERE WHAT IT READS IS OF BULK AT MOST 1048576: true; the input reads as it did. -/
def schedNumbersUptoRow : OpenClaim := { program := "ytldhlkkclmifmaa", sum := "cb85c25800e8b58ca523ff2ea295b2ebbbb8bb98ad6e983db171ac395333592d", func := "beadle/beadlelaw10.SchedNumbers", spec := "schedNumbers", apart := false, narrowed := true }
def SchedNumbersUptoSaid : Prop := schedNumbersUptoRow.holds Try.pinned (OpenSpec.upto schedNumbersSpec)

/-- 'beadlelaw10.SchedFolds', WHERE WHAT IT READS IS OF BULK AT MOST 1048576: true; the input reads as it did. -/
def schedFoldsUptoRow : OpenClaim := { program := "ytldhlkkclmifmaa", sum := "cb85c25800e8b58ca523ff2ea295b2ebbbb8bb98ad6e983db171ac395333592d", func := "beadle/beadlelaw10.SchedFolds", spec := "schedFolds", apart := false, narrowed := true }
def SchedFoldsUptoSaid : Prop := schedFoldsUptoRow.holds Try.pinned (OpenSpec.upto schedFoldsSpec)

/-- 'beadlelaw18.BoundsAre', WHERE WHAT IT READS IS OF BULK AT MOST 1048576: true; the input reads as it did. -/
def boundsAreUptoRow : OpenClaim := { program := "ytldhlkkclmifmaa", sum := "cb85c25800e8b58ca523ff2ea295b2ebbbb8bb98ad6e983db171ac395333592d", func := "beadle/beadlelaw18.BoundsAre", spec := "boundsAre", unfollowed := true, recurses := true, apart := false, narrowed := true }
def BoundsAreUptoSaid : Prop := boundsAreUptoRow.holds Try.pinned (OpenSpec.upto boundsAreSpec)

/-- 'beadlelaw18.BoundsGrow', WHERE WHAT IT READS IS OF BULK AT MOST 1048576: true; the input reads as it did. -/
def boundsGrowUptoRow : OpenClaim := { program := "ytldhlkkclmifmaa", sum := "cb85c25800e8b58ca523ff2ea295b2ebbbb8bb98ad6e983db171ac395333592d", func := "beadle/beadlelaw18.BoundsGrow", spec := "boundsGrow", unfollowed := true, recurses := true, apart := false, narrowed := true }
def BoundsGrowUptoSaid : Prop := boundsGrowUptoRow.holds Try.pinned (OpenSpec.upto boundsGrowSpec)

/-- 'beadlelaw18.BoundsLate', WHERE WHAT IT READS IS OF BULK AT MOST 1048576: true; the input reads as it did. -/
def boundsLateUptoRow : OpenClaim := { program := "ytldhlkkclmifmaa", sum := "cb85c25800e8b58ca523ff2ea295b2ebbbb8bb98ad6e983db171ac395333592d", func := "beadle/beadlelaw18.BoundsLate", spec := "boundsLate", unfollowed := true, recurses := true, apart := false, narrowed := true }
def BoundsLateUptoSaid : Prop := boundsLateUptoRow.holds Try.pinned (OpenSpec.upto boundsLateSpec)

/-- 'beadlelaw10.SchedFair', WHERE WHAT IT READS IS OF BULK AT MOST 1048576: true; the input reads as it did. -/
def schedFairUptoRow : OpenClaim := { program := "ytldhlkkclmifmaa", sum := "cb85c25800e8b58ca523ff2ea295b2ebbbb8bb98ad6e983db171ac395333592d", func := "beadle/beadlelaw10.SchedFair", spec := "schedFair", apart := false, narrowed := true }
def SchedFairUptoSaid : Prop := schedFairUptoRow.holds Try.pinned (OpenSpec.upto schedFairSpec)

/-- 'beadlelaw10.SchedRound', WHERE WHAT IT READS IS OF BULK AT MOST 1048576: true; the input reads as it did. -/
def schedRoundUptoRow : OpenClaim := { program := "ytldhlkkclmifmaa", sum := "cb85c25800e8b58ca523ff2ea295b2ebbbb8bb98ad6e983db171ac395333592d", func := "beadle/beadlelaw10.SchedRound", spec := "schedRound", apart := false, narrowed := true }
def SchedRoundUptoSaid : Prop := schedRoundUptoRow.holds Try.pinned (OpenSpec.upto schedRoundSpec)

/-- 'beadlelaw10.SchedPlays', WHERE WHAT IT READS IS OF BULK AT MOST 1048576: true; the input reads as it did. -/
def schedPlaysUptoRow : OpenClaim := { program := "ytldhlkkclmifmaa", sum := "cb85c25800e8b58ca523ff2ea295b2ebbbb8bb98ad6e983db171ac395333592d", func := "beadle/beadlelaw10.SchedPlays", spec := "schedPlays", apart := false, narrowed := true }
def SchedPlaysUptoSaid : Prop := schedPlaysUptoRow.holds Try.pinned (OpenSpec.upto schedPlaysSpec)

end Rows
end Go.Proofs.Ytldhlkkclmifmaa
