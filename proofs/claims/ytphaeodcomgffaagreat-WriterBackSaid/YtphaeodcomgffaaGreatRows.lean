/-
  No cell of these rows narrows 'for every input' (looked for: loops, veiled, ifaces, maps, wideKeys, modest, calm, conditions, laid).
  DERIVED. THE GIVEN ROWS OF THIS SEAT. 12 by the template 'for every input the law returns true; each argument reads behind the call as it read before'; 0 by the template 'total and deterministic' (their statements: YtphaeodcomgffaaGreatTotals.lean).
  GIVEN WITH THE SEED: the statements are not yours to turn. If you find one false, say at which input.
  Laid BY PROGRAM, IN A SANDBOX (cutbox-rows.mjs): the forced cells as the released guide's own fill.sh prints them over the translation 32485c9106908317… (all of the seat's roots in one cut). By AI agents, Wed Nov 11 2026. No macro, syntax, notation, axiom, sorry.
-/
import Derived.Test.YtphaeodcomgffaaGreatChecked
import GoSem.Claim
import GoSem.ClaimJoined
import GoSem.ClaimMapViews
import Derived.JoinedTies
import Derived.KernelRfl
namespace Go.Proofs.YtphaeodcomgffaaGreat
/- THE CELL 'sum', in the pinned program and in every row, IS THE sha256 OF THE DUMP (.gsa) THAT YtphaeodcomgffaaGreatProg.lean LOADS. Nothing in Lean hashes anything: it is a label: what it is worth is what the hold of that sum in a sandbox is worth. -/
noncomputable def Tryz.pinned : Pinned := { name := "ytphaeodcomgffaagreat", sum := "32485c91069083179166c0ee715875de39fcf1ee8accf54b5b66dd33a8de8d98", checked := Tryz.checked }
namespace Rows
def none {H : Type} : Left H := { results := [], args := [] }

/-- 'beadlelaw14.ReaderSmall': WHATEVER THE INPUT: true; the input reads as it did. -/
def readerSmallSpec : ChangeSpec := { name := "readerSmall", fn := fun _ => fun
  | [d1, d2] => { results := [.lit (.bool true)], args := [d1, d2] }
  | _ => none }
def readerSmallRow : OpenClaim := { program := "ytphaeodcomgffaagreat", sum := "32485c91069083179166c0ee715875de39fcf1ee8accf54b5b66dd33a8de8d98", func := "beadle/beadlelaw14.ReaderSmall", spec := "readerSmall", inPlace := ["math.Float64frombits", "math.Float64bits", "math.archTrunc", "math.archFloor", "math.sqrt"], unfollowed := true, recurses := true, apart := false }
def ReaderSmallSaid : Prop := readerSmallRow.holds Tryz.pinned (OpenSpec.ofChange readerSmallSpec)

/-- ITS FALSE NEIGHBOUR: 'it returns false'. Refute it at one input. -/
def readerSmallWrong : ChangeSpec := { name := "readerSmall", fn := fun _ => fun
  | [d1, d2] => { results := [.lit (.bool false)], args := [d1, d2] }
  | _ => none }
def ReaderSmallWrongFalsely : Prop := readerSmallRow.holds Tryz.pinned (OpenSpec.ofChange readerSmallWrong)

/-- 'beadlelaw14.ReaderWaits': WHATEVER THE INPUT: true; the input reads as it did. -/
def readerWaitsSpec : ChangeSpec := { name := "readerWaits", fn := fun _ => fun
  | [d] => { results := [.lit (.bool true)], args := [d] }
  | _ => none }
def readerWaitsRow : OpenClaim := { program := "ytphaeodcomgffaagreat", sum := "32485c91069083179166c0ee715875de39fcf1ee8accf54b5b66dd33a8de8d98", func := "beadle/beadlelaw14.ReaderWaits", spec := "readerWaits", inPlace := ["math.Float64frombits", "math.Float64bits", "math.archTrunc", "math.archFloor", "math.sqrt"], unfollowed := true, recurses := true, apart := false }
def ReaderWaitsSaid : Prop := readerWaitsRow.holds Tryz.pinned (OpenSpec.ofChange readerWaitsSpec)

/-- ITS FALSE NEIGHBOUR: 'it returns false'. Refute it at one input. -/
def readerWaitsWrong : ChangeSpec := { name := "readerWaits", fn := fun _ => fun
  | [d] => { results := [.lit (.bool false)], args := [d] }
  | _ => none }
def ReaderWaitsWrongFalsely : Prop := readerWaitsRow.holds Tryz.pinned (OpenSpec.ofChange readerWaitsWrong)

/-- 'beadlelaw14.ReaderSees': WHATEVER THE INPUT: true; the input reads as it did. -/
def readerSeesSpec : ChangeSpec := { name := "readerSees", fn := fun _ => fun
  | [d] => { results := [.lit (.bool true)], args := [d] }
  | _ => none }
def readerSeesRow : OpenClaim := { program := "ytphaeodcomgffaagreat", sum := "32485c91069083179166c0ee715875de39fcf1ee8accf54b5b66dd33a8de8d98", func := "beadle/beadlelaw14.ReaderSees", spec := "readerSees", inPlace := ["math.Float64frombits", "math.Float64bits", "math.archTrunc", "math.archFloor", "math.sqrt"], unfollowed := true, recurses := true, apart := false }
def ReaderSeesSaid : Prop := readerSeesRow.holds Tryz.pinned (OpenSpec.ofChange readerSeesSpec)

/-- ITS FALSE NEIGHBOUR: 'it returns false'. Refute it at one input. -/
def readerSeesWrong : ChangeSpec := { name := "readerSees", fn := fun _ => fun
  | [d] => { results := [.lit (.bool false)], args := [d] }
  | _ => none }
def ReaderSeesWrongFalsely : Prop := readerSeesRow.holds Tryz.pinned (OpenSpec.ofChange readerSeesWrong)

/-- 'beadlelaw14.ReaderSteps': WHATEVER THE INPUT: true; the input reads as it did. -/
def readerStepsSpec : ChangeSpec := { name := "readerSteps", fn := fun _ => fun
  | [d] => { results := [.lit (.bool true)], args := [d] }
  | _ => none }
def readerStepsRow : OpenClaim := { program := "ytphaeodcomgffaagreat", sum := "32485c91069083179166c0ee715875de39fcf1ee8accf54b5b66dd33a8de8d98", func := "beadle/beadlelaw14.ReaderSteps", spec := "readerSteps", inPlace := ["math.Float64frombits", "math.Float64bits", "math.archTrunc", "math.archFloor", "math.sqrt"], unfollowed := true, recurses := true, apart := false }
def ReaderStepsSaid : Prop := readerStepsRow.holds Tryz.pinned (OpenSpec.ofChange readerStepsSpec)

/-- ITS FALSE NEIGHBOUR: 'it returns false'. Refute it at one input. -/
def readerStepsWrong : ChangeSpec := { name := "readerSteps", fn := fun _ => fun
  | [d] => { results := [.lit (.bool false)], args := [d] }
  | _ => none }
def ReaderStepsWrongFalsely : Prop := readerStepsRow.holds Tryz.pinned (OpenSpec.ofChange readerStepsWrong)

/-- 'beadlelaw15.WriterSmall': WHATEVER THE INPUT: true; the input reads as it did. -/
def writerSmallSpec : ChangeSpec := { name := "writerSmall", fn := fun _ => fun
  | [d1, d2] => { results := [.lit (.bool true)], args := [d1, d2] }
  | _ => none }
def writerSmallRow : OpenClaim := { program := "ytphaeodcomgffaagreat", sum := "32485c91069083179166c0ee715875de39fcf1ee8accf54b5b66dd33a8de8d98", func := "beadle/beadlelaw15.WriterSmall", spec := "writerSmall", inPlace := ["math.Float64frombits", "math.Float64bits", "math.archTrunc", "math.archFloor", "math.sqrt"], unfollowed := true, recurses := true, apart := false }
def WriterSmallSaid : Prop := writerSmallRow.holds Tryz.pinned (OpenSpec.ofChange writerSmallSpec)

/-- ITS FALSE NEIGHBOUR: 'it returns false'. Refute it at one input. -/
def writerSmallWrong : ChangeSpec := { name := "writerSmall", fn := fun _ => fun
  | [d1, d2] => { results := [.lit (.bool false)], args := [d1, d2] }
  | _ => none }
def WriterSmallWrongFalsely : Prop := writerSmallRow.holds Tryz.pinned (OpenSpec.ofChange writerSmallWrong)

/-- 'beadlelaw15.WriterHides': WHATEVER THE INPUT: true; the input reads as it did. -/
def writerHidesSpec : ChangeSpec := { name := "writerHides", fn := fun _ => fun
  | [d] => { results := [.lit (.bool true)], args := [d] }
  | _ => none }
def writerHidesRow : OpenClaim := { program := "ytphaeodcomgffaagreat", sum := "32485c91069083179166c0ee715875de39fcf1ee8accf54b5b66dd33a8de8d98", func := "beadle/beadlelaw15.WriterHides", spec := "writerHides", inPlace := ["math.Float64frombits", "math.Float64bits", "math.archTrunc", "math.archFloor", "math.sqrt"], unfollowed := true, recurses := true, apart := false }
def WriterHidesSaid : Prop := writerHidesRow.holds Tryz.pinned (OpenSpec.ofChange writerHidesSpec)

/-- ITS FALSE NEIGHBOUR: 'it returns false'. Refute it at one input. -/
def writerHidesWrong : ChangeSpec := { name := "writerHides", fn := fun _ => fun
  | [d] => { results := [.lit (.bool false)], args := [d] }
  | _ => none }
def WriterHidesWrongFalsely : Prop := writerHidesRow.holds Tryz.pinned (OpenSpec.ofChange writerHidesWrong)

/-- 'beadlelaw15.WriterBack': WHATEVER THE INPUT: true; the input reads as it did. -/
def writerBackSpec : ChangeSpec := { name := "writerBack", fn := fun _ => fun
  | [d] => { results := [.lit (.bool true)], args := [d] }
  | _ => none }
def writerBackRow : OpenClaim := { program := "ytphaeodcomgffaagreat", sum := "32485c91069083179166c0ee715875de39fcf1ee8accf54b5b66dd33a8de8d98", func := "beadle/beadlelaw15.WriterBack", spec := "writerBack", inPlace := ["math.Float64frombits", "math.Float64bits", "math.archTrunc", "math.archFloor", "math.sqrt"], unfollowed := true, recurses := true, apart := false }
def WriterBackSaid : Prop := writerBackRow.holds Tryz.pinned (OpenSpec.ofChange writerBackSpec)

/-- ITS FALSE NEIGHBOUR: 'it returns false'. Refute it at one input. -/
def writerBackWrong : ChangeSpec := { name := "writerBack", fn := fun _ => fun
  | [d] => { results := [.lit (.bool false)], args := [d] }
  | _ => none }
def WriterBackWrongFalsely : Prop := writerBackRow.holds Tryz.pinned (OpenSpec.ofChange writerBackWrong)

/-- 'beadlelaw15.WriterTurn': WHATEVER THE INPUT: true; the input reads as it did. -/
def writerTurnSpec : ChangeSpec := { name := "writerTurn", fn := fun _ => fun
  | [d1, d2] => { results := [.lit (.bool true)], args := [d1, d2] }
  | _ => none }
def writerTurnRow : OpenClaim := { program := "ytphaeodcomgffaagreat", sum := "32485c91069083179166c0ee715875de39fcf1ee8accf54b5b66dd33a8de8d98", func := "beadle/beadlelaw15.WriterTurn", spec := "writerTurn", inPlace := ["math.Float64frombits", "math.Float64bits", "math.archTrunc", "math.archFloor", "math.sqrt"], unfollowed := true, recurses := true, apart := false }
def WriterTurnSaid : Prop := writerTurnRow.holds Tryz.pinned (OpenSpec.ofChange writerTurnSpec)

/-- ITS FALSE NEIGHBOUR: 'it returns false'. Refute it at one input. -/
def writerTurnWrong : ChangeSpec := { name := "writerTurn", fn := fun _ => fun
  | [d1, d2] => { results := [.lit (.bool false)], args := [d1, d2] }
  | _ => none }
def WriterTurnWrongFalsely : Prop := writerTurnRow.holds Tryz.pinned (OpenSpec.ofChange writerTurnWrong)

/-- 'beadlelaw14.ReaderClones': WHATEVER THE INPUT: true; the input reads as it did. -/
def readerClonesSpec : ChangeSpec := { name := "readerClones", fn := fun _ => fun
  | [d1, d2] => { results := [.lit (.bool true)], args := [d1, d2] }
  | _ => none }
def readerClonesRow : OpenClaim := { program := "ytphaeodcomgffaagreat", sum := "32485c91069083179166c0ee715875de39fcf1ee8accf54b5b66dd33a8de8d98", func := "beadle/beadlelaw14.ReaderClones", spec := "readerClones", inPlace := ["math.Float64frombits", "math.Float64bits", "math.archTrunc", "math.archFloor", "math.sqrt", "maps.clone"], unfollowed := true, recurses := true, apart := false }
def ReaderClonesSaid : Prop := readerClonesRow.holds Tryz.pinned (OpenSpec.ofChange readerClonesSpec)

/-- ITS FALSE NEIGHBOUR: 'it returns false'. Refute it at one input. -/
def readerClonesWrong : ChangeSpec := { name := "readerClones", fn := fun _ => fun
  | [d1, d2] => { results := [.lit (.bool false)], args := [d1, d2] }
  | _ => none }
def ReaderClonesWrongFalsely : Prop := readerClonesRow.holds Tryz.pinned (OpenSpec.ofChange readerClonesWrong)

/-- 'beadlelaw15.WriterClones': WHATEVER THE INPUT: true; the input reads as it did. -/
def writerClonesSpec : ChangeSpec := { name := "writerClones", fn := fun _ => fun
  | [d1, d2] => { results := [.lit (.bool true)], args := [d1, d2] }
  | _ => none }
def writerClonesRow : OpenClaim := { program := "ytphaeodcomgffaagreat", sum := "32485c91069083179166c0ee715875de39fcf1ee8accf54b5b66dd33a8de8d98", func := "beadle/beadlelaw15.WriterClones", spec := "writerClones", inPlace := ["math.Float64frombits", "math.Float64bits", "math.archTrunc", "math.archFloor", "math.sqrt", "maps.clone"], unfollowed := true, recurses := true, apart := false }
def WriterClonesSaid : Prop := writerClonesRow.holds Tryz.pinned (OpenSpec.ofChange writerClonesSpec)

/-- ITS FALSE NEIGHBOUR: 'it returns false'. Refute it at one input. -/
def writerClonesWrong : ChangeSpec := { name := "writerClones", fn := fun _ => fun
  | [d1, d2] => { results := [.lit (.bool false)], args := [d1, d2] }
  | _ => none }
def WriterClonesWrongFalsely : Prop := writerClonesRow.holds Tryz.pinned (OpenSpec.ofChange writerClonesWrong)

/-- 'beadlelaw14.ReaderAlone': WHATEVER THE INPUT: true; the input reads as it did. -/
def readerAloneSpec : ChangeSpec := { name := "readerAlone", fn := fun _ => fun
  | [d] => { results := [.lit (.bool true)], args := [d] }
  | _ => none }
def readerAloneRow : OpenClaim := { program := "ytphaeodcomgffaagreat", sum := "32485c91069083179166c0ee715875de39fcf1ee8accf54b5b66dd33a8de8d98", func := "beadle/beadlelaw14.ReaderAlone", spec := "readerAlone", inPlace := ["math.Float64frombits", "math.Float64bits", "math.archTrunc", "math.archFloor", "math.sqrt"], unfollowed := true, recurses := true, apart := false }
def ReaderAloneSaid : Prop := readerAloneRow.holds Tryz.pinned (OpenSpec.ofChange readerAloneSpec)

/-- ITS FALSE NEIGHBOUR: 'it returns false'. Refute it at one input. -/
def readerAloneWrong : ChangeSpec := { name := "readerAlone", fn := fun _ => fun
  | [d] => { results := [.lit (.bool false)], args := [d] }
  | _ => none }
def ReaderAloneWrongFalsely : Prop := readerAloneRow.holds Tryz.pinned (OpenSpec.ofChange readerAloneWrong)

/-- 'beadlelaw15.WriterAlone': WHATEVER THE INPUT: true; the input reads as it did. -/
def writerAloneSpec : ChangeSpec := { name := "writerAlone", fn := fun _ => fun
  | [d] => { results := [.lit (.bool true)], args := [d] }
  | _ => none }
def writerAloneRow : OpenClaim := { program := "ytphaeodcomgffaagreat", sum := "32485c91069083179166c0ee715875de39fcf1ee8accf54b5b66dd33a8de8d98", func := "beadle/beadlelaw15.WriterAlone", spec := "writerAlone", inPlace := ["math.Float64frombits", "math.Float64bits", "math.archTrunc", "math.archFloor", "math.sqrt"], unfollowed := true, recurses := true, apart := false }
def WriterAloneSaid : Prop := writerAloneRow.holds Tryz.pinned (OpenSpec.ofChange writerAloneSpec)

/-- ITS FALSE NEIGHBOUR: 'it returns false'. Refute it at one input. -/
def writerAloneWrong : ChangeSpec := { name := "writerAlone", fn := fun _ => fun
  | [d] => { results := [.lit (.bool false)], args := [d] }
  | _ => none }
def WriterAloneWrongFalsely : Prop := writerAloneRow.holds Tryz.pinned (OpenSpec.ofChange writerAloneWrong)

/- THE SECOND FORM. 'bulk': how many values and letters a reading holds, each counted each time it is reached (what is shared counts as often as it is met; a slice's spare places count too). A statement '..UptoSaid' is the law's where the arguments, and the package variables that the reading takes, are together of bulk at most 1048576: NARROWER than '..Said'. Prove '..Said' where nothing that the law and all that it calls make is longer than what came in: it says more and counts as full. Else prove '..UptoSaid'. A law counts once. -/
mutual
def uptoBulk {H : Type} : DataW H → Nat
  | .lit (.string bytes) => bytes.length + 1
  | .lit _ => 1
  | .nil => 1
  | .ptr d => uptoBulk d + 1
  | .slice elems spare => uptoBulkAll elems + uptoBulkAll spare + 1
  | .agg parts => uptoBulkAll parts + 1
  | .iface _ d => uptoBulk d + 1
  | .map entries => uptoBulkEntries entries + 1
  | .held _ => 1
def uptoBulkAll {H : Type} : List (DataW H) → Nat
  | [] => 0
  | d :: r => uptoBulk d + uptoBulkAll r
def uptoBulkEntries {H : Type} : List (Lit × DataW H) → Nat
  | [] => 0
  | x :: r => uptoBulkEntry x + uptoBulkEntries r
def uptoBulkEntry {H : Type} : Lit × DataW H → Nat
  | (.string bytes, d) => bytes.length + uptoBulk d + 1
  | (_, d) => uptoBulk d + 1
 end
def uptoSmall : (H : Type) → List (DataW H) → Bool := fun _ ds => decide (uptoBulkAll ds ≤ 1048576)
def OpenSpec.upto (s : _root_.Go.ChangeSpec) : _root_.Go.OpenSpec := { _root_.Go.OpenSpec.ofChange s with cond := some uptoSmall }

/-- 'beadlelaw14.ReaderSmall', WHERE WHAT IT READS IS OF BULK AT MOST 1048576: true; the input reads as it did. -/
def readerSmallUptoRow : OpenClaim := { program := "ytphaeodcomgffaagreat", sum := "32485c91069083179166c0ee715875de39fcf1ee8accf54b5b66dd33a8de8d98", func := "beadle/beadlelaw14.ReaderSmall", spec := "readerSmall", inPlace := ["math.Float64frombits", "math.Float64bits", "math.archTrunc", "math.archFloor", "math.sqrt"], unfollowed := true, recurses := true, apart := false, narrowed := true }
def ReaderSmallUptoSaid : Prop := readerSmallUptoRow.holds Tryz.pinned (OpenSpec.upto readerSmallSpec)

/-- 'beadlelaw14.ReaderWaits', WHERE WHAT IT READS IS OF BULK AT MOST 1048576: true; the input reads as it did. -/
def readerWaitsUptoRow : OpenClaim := { program := "ytphaeodcomgffaagreat", sum := "32485c91069083179166c0ee715875de39fcf1ee8accf54b5b66dd33a8de8d98", func := "beadle/beadlelaw14.ReaderWaits", spec := "readerWaits", inPlace := ["math.Float64frombits", "math.Float64bits", "math.archTrunc", "math.archFloor", "math.sqrt"], unfollowed := true, recurses := true, apart := false, narrowed := true }
def ReaderWaitsUptoSaid : Prop := readerWaitsUptoRow.holds Tryz.pinned (OpenSpec.upto readerWaitsSpec)

/-- 'beadlelaw14.ReaderSees', WHERE WHAT IT READS IS OF BULK AT MOST 1048576: true; the input reads as it did. -/
def readerSeesUptoRow : OpenClaim := { program := "ytphaeodcomgffaagreat", sum := "32485c91069083179166c0ee715875de39fcf1ee8accf54b5b66dd33a8de8d98", func := "beadle/beadlelaw14.ReaderSees", spec := "readerSees", inPlace := ["math.Float64frombits", "math.Float64bits", "math.archTrunc", "math.archFloor", "math.sqrt"], unfollowed := true, recurses := true, apart := false, narrowed := true }
def ReaderSeesUptoSaid : Prop := readerSeesUptoRow.holds Tryz.pinned (OpenSpec.upto readerSeesSpec)

/-- 'beadlelaw14.ReaderSteps', WHERE WHAT IT READS IS OF BULK AT MOST 1048576: true; the input reads as it did. -/
def readerStepsUptoRow : OpenClaim := { program := "ytphaeodcomgffaagreat", sum := "32485c91069083179166c0ee715875de39fcf1ee8accf54b5b66dd33a8de8d98", func := "beadle/beadlelaw14.ReaderSteps", spec := "readerSteps", inPlace := ["math.Float64frombits", "math.Float64bits", "math.archTrunc", "math.archFloor", "math.sqrt"], unfollowed := true, recurses := true, apart := false, narrowed := true }
def ReaderStepsUptoSaid : Prop := readerStepsUptoRow.holds Tryz.pinned (OpenSpec.upto readerStepsSpec)

/-- 'beadlelaw15.WriterSmall', WHERE WHAT IT READS IS OF BULK AT MOST 1048576: true; the input reads as it did. -/
def writerSmallUptoRow : OpenClaim := { program := "ytphaeodcomgffaagreat", sum := "32485c91069083179166c0ee715875de39fcf1ee8accf54b5b66dd33a8de8d98", func := "beadle/beadlelaw15.WriterSmall", spec := "writerSmall", inPlace := ["math.Float64frombits", "math.Float64bits", "math.archTrunc", "math.archFloor", "math.sqrt"], unfollowed := true, recurses := true, apart := false, narrowed := true }
def WriterSmallUptoSaid : Prop := writerSmallUptoRow.holds Tryz.pinned (OpenSpec.upto writerSmallSpec)

/-- 'beadlelaw15.WriterHides', WHERE WHAT IT READS IS OF BULK AT MOST 1048576: true; the input reads as it did. -/
def writerHidesUptoRow : OpenClaim := { program := "ytphaeodcomgffaagreat", sum := "32485c91069083179166c0ee715875de39fcf1ee8accf54b5b66dd33a8de8d98", func := "beadle/beadlelaw15.WriterHides", spec := "writerHides", inPlace := ["math.Float64frombits", "math.Float64bits", "math.archTrunc", "math.archFloor", "math.sqrt"], unfollowed := true, recurses := true, apart := false, narrowed := true }
def WriterHidesUptoSaid : Prop := writerHidesUptoRow.holds Tryz.pinned (OpenSpec.upto writerHidesSpec)

/-- 'beadlelaw15.WriterBack', WHERE WHAT IT READS IS OF BULK AT MOST 1048576: true; the input reads as it did. -/
def writerBackUptoRow : OpenClaim := { program := "ytphaeodcomgffaagreat", sum := "32485c91069083179166c0ee715875de39fcf1ee8accf54b5b66dd33a8de8d98", func := "beadle/beadlelaw15.WriterBack", spec := "writerBack", inPlace := ["math.Float64frombits", "math.Float64bits", "math.archTrunc", "math.archFloor", "math.sqrt"], unfollowed := true, recurses := true, apart := false, narrowed := true }
def WriterBackUptoSaid : Prop := writerBackUptoRow.holds Tryz.pinned (OpenSpec.upto writerBackSpec)

/-- 'beadlelaw15.WriterTurn', WHERE WHAT IT READS IS OF BULK AT MOST 1048576: true; the input reads as it did. -/
def writerTurnUptoRow : OpenClaim := { program := "ytphaeodcomgffaagreat", sum := "32485c91069083179166c0ee715875de39fcf1ee8accf54b5b66dd33a8de8d98", func := "beadle/beadlelaw15.WriterTurn", spec := "writerTurn", inPlace := ["math.Float64frombits", "math.Float64bits", "math.archTrunc", "math.archFloor", "math.sqrt"], unfollowed := true, recurses := true, apart := false, narrowed := true }
def WriterTurnUptoSaid : Prop := writerTurnUptoRow.holds Tryz.pinned (OpenSpec.upto writerTurnSpec)

/-- 'beadlelaw14.ReaderClones', WHERE WHAT IT READS IS OF BULK AT MOST 1048576: true; the input reads as it did. -/
def readerClonesUptoRow : OpenClaim := { program := "ytphaeodcomgffaagreat", sum := "32485c91069083179166c0ee715875de39fcf1ee8accf54b5b66dd33a8de8d98", func := "beadle/beadlelaw14.ReaderClones", spec := "readerClones", inPlace := ["math.Float64frombits", "math.Float64bits", "math.archTrunc", "math.archFloor", "math.sqrt", "maps.clone"], unfollowed := true, recurses := true, apart := false, narrowed := true }
def ReaderClonesUptoSaid : Prop := readerClonesUptoRow.holds Tryz.pinned (OpenSpec.upto readerClonesSpec)

/-- 'beadlelaw15.WriterClones', WHERE WHAT IT READS IS OF BULK AT MOST 1048576: true; the input reads as it did. -/
def writerClonesUptoRow : OpenClaim := { program := "ytphaeodcomgffaagreat", sum := "32485c91069083179166c0ee715875de39fcf1ee8accf54b5b66dd33a8de8d98", func := "beadle/beadlelaw15.WriterClones", spec := "writerClones", inPlace := ["math.Float64frombits", "math.Float64bits", "math.archTrunc", "math.archFloor", "math.sqrt", "maps.clone"], unfollowed := true, recurses := true, apart := false, narrowed := true }
def WriterClonesUptoSaid : Prop := writerClonesUptoRow.holds Tryz.pinned (OpenSpec.upto writerClonesSpec)

/-- 'beadlelaw14.ReaderAlone', WHERE WHAT IT READS IS OF BULK AT MOST 1048576: true; the input reads as it did. -/
def readerAloneUptoRow : OpenClaim := { program := "ytphaeodcomgffaagreat", sum := "32485c91069083179166c0ee715875de39fcf1ee8accf54b5b66dd33a8de8d98", func := "beadle/beadlelaw14.ReaderAlone", spec := "readerAlone", inPlace := ["math.Float64frombits", "math.Float64bits", "math.archTrunc", "math.archFloor", "math.sqrt"], unfollowed := true, recurses := true, apart := false, narrowed := true }
def ReaderAloneUptoSaid : Prop := readerAloneUptoRow.holds Tryz.pinned (OpenSpec.upto readerAloneSpec)

/-- 'beadlelaw15.WriterAlone', WHERE WHAT IT READS IS OF BULK AT MOST 1048576: true; the input reads as it did. -/
def writerAloneUptoRow : OpenClaim := { program := "ytphaeodcomgffaagreat", sum := "32485c91069083179166c0ee715875de39fcf1ee8accf54b5b66dd33a8de8d98", func := "beadle/beadlelaw15.WriterAlone", spec := "writerAlone", inPlace := ["math.Float64frombits", "math.Float64bits", "math.archTrunc", "math.archFloor", "math.sqrt"], unfollowed := true, recurses := true, apart := false, narrowed := true }
def WriterAloneUptoSaid : Prop := writerAloneUptoRow.holds Tryz.pinned (OpenSpec.upto writerAloneSpec)

end Rows
end Go.Proofs.YtphaeodcomgffaaGreat
