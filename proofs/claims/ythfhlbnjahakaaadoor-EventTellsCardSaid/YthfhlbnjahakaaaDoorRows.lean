/-
  NARROWER THAN 'FOR EVERY INPUT', by the rows' own cells (each row's printed sentence says how): EventKnown: laid · EventTells: laid · EventOthers: laid · EventNew: laid · EventBounds: laid.
  DERIVED. THE GIVEN ROWS OF THIS SEAT. 5 by the template 'for every input the law returns true; each argument reads behind the call as it read before'; 0 by the template 'total and deterministic' (their statements: YthfhlbnjahakaaaDoorTotals.lean).
  GIVEN WITH THE SEED: the statements are not yours to turn. If you find one false, say at which input.
  Laid BY PROGRAM, IN A SANDBOX (cutbox-rows.mjs): the forced cells as the released guide's own fill.sh prints them over the translation 9673005356b4408a… (all of the seat's roots in one cut). By AI agents, Wed Nov 11 2026. No macro, syntax, notation, axiom, sorry.
-/
import Derived.Test.YthfhlbnjahakaaaDoorChecked
import GoSem.PinnedTables
import GoSem.Claim
import GoSem.ClaimJoined
import GoSem.ClaimMapViews
import Derived.JoinedTies
import Derived.KernelRfl
namespace Go.Proofs.YthfhlbnjahakaaaDoor
/- THE CELL 'sum', in the pinned program and in every row, IS THE sha256 OF THE DUMP (.gsa) THAT YthfhlbnjahakaaaDoorProg.lean LOADS. Nothing in Lean hashes anything: it is a label: what it is worth is what the hold of that sum in a sandbox is worth. -/
noncomputable def Tryd.pinned : Pinned := { name := "ythfhlbnjahakaaadoor", sum := "9673005356b4408a508b6c93e5fe9637e73b5f74727e279b5a6c74f75f18c202", checked := Tryd.checked }
namespace Rows
def none {H : Type} : Left H := { results := [], args := [] }

/- WHAT THE LISTED PACKAGE-LEVEL VARIABLES READ AS WHEN THE CALL BEGINS. Each datum BY PROGRAM (the guide's laid-datum.mjs) off the statement by which the dump's own 'gosem.cut.vars' lays the variable. In a bare row this is a premise. The card (YthfhlbnjahakaaaDoorCards.lean) ties it to the program's text. -/
def laid_unicode_utf8_acceptRanges {H : Type} : DataW H := .agg [.agg [.lit (.int .u8 128), .lit (.int .u8 191)], .agg [.lit (.int .u8 160), .lit (.int .u8 191)], .agg [.lit (.int .u8 128), .lit (.int .u8 159)], .agg [.lit (.int .u8 144), .lit (.int .u8 191)], .agg [.lit (.int .u8 128), .lit (.int .u8 143)], .agg [.lit (.int .u8 0), .lit (.int .u8 0)], .agg [.lit (.int .u8 0), .lit (.int .u8 0)], .agg [.lit (.int .u8 0), .lit (.int .u8 0)], .agg [.lit (.int .u8 0), .lit (.int .u8 0)], .agg [.lit (.int .u8 0), .lit (.int .u8 0)], .agg [.lit (.int .u8 0), .lit (.int .u8 0)], .agg [.lit (.int .u8 0), .lit (.int .u8 0)], .agg [.lit (.int .u8 0), .lit (.int .u8 0)], .agg [.lit (.int .u8 0), .lit (.int .u8 0)], .agg [.lit (.int .u8 0), .lit (.int .u8 0)], .agg [.lit (.int .u8 0), .lit (.int .u8 0)]]
/-- One of Go's own tables, pinned by name: the form's constant. -/
def laid_unicode_utf8_first : DataW Unit := Go.Pinned.utf8First

/-- 'cellaretlaw17.EventKnown': WHATEVER THE INPUT: true; the input reads as it did. -/
def eventKnownSpec : ChangeSpec := { name := "eventKnown", fn := fun _ => fun
  | [] => { results := [.lit (.bool true)], args := [] }
  | _ => none }
def eventKnownRow : OpenClaim := { program := "ythfhlbnjahakaaadoor", sum := "9673005356b4408a508b6c93e5fe9637e73b5f74727e279b5a6c74f75f18c202", func := "cellaret/cellaretlaw17.EventKnown", spec := "eventKnown", unfollowed := true, recurses := true, named := ["unicode/utf8.first", "unicode/utf8.acceptRanges"], apart := false, laid := [("unicode/utf8.acceptRanges", laid_unicode_utf8_acceptRanges), ("unicode/utf8.first", laid_unicode_utf8_first)] }
def EventKnownSaid : Prop := eventKnownRow.holds Tryd.pinned (OpenSpec.ofChange eventKnownSpec)

/-- ITS FALSE NEIGHBOUR: 'it returns false'. Refute it at one input. -/
def eventKnownWrong : ChangeSpec := { name := "eventKnown", fn := fun _ => fun
  | [] => { results := [.lit (.bool false)], args := [] }
  | _ => none }
def EventKnownWrongFalsely : Prop := eventKnownRow.holds Tryd.pinned (OpenSpec.ofChange eventKnownWrong)

/-- 'cellaretlaw17.EventTells': WHATEVER THE INPUT: true; the input reads as it did. -/
def eventTellsSpec : ChangeSpec := { name := "eventTells", fn := fun _ => fun
  | [d] => { results := [.lit (.bool true)], args := [d] }
  | _ => none }
def eventTellsRow : OpenClaim := { program := "ythfhlbnjahakaaadoor", sum := "9673005356b4408a508b6c93e5fe9637e73b5f74727e279b5a6c74f75f18c202", func := "cellaret/cellaretlaw17.EventTells", spec := "eventTells", unfollowed := true, recurses := true, named := ["unicode/utf8.first", "unicode/utf8.acceptRanges"], apart := false, laid := [("unicode/utf8.acceptRanges", laid_unicode_utf8_acceptRanges), ("unicode/utf8.first", laid_unicode_utf8_first)] }
def EventTellsSaid : Prop := eventTellsRow.holds Tryd.pinned (OpenSpec.ofChange eventTellsSpec)

/-- ITS FALSE NEIGHBOUR: 'it returns false'. Refute it at one input. -/
def eventTellsWrong : ChangeSpec := { name := "eventTells", fn := fun _ => fun
  | [d] => { results := [.lit (.bool false)], args := [d] }
  | _ => none }
def EventTellsWrongFalsely : Prop := eventTellsRow.holds Tryd.pinned (OpenSpec.ofChange eventTellsWrong)

/-- 'cellaretlaw17.EventOthers': WHATEVER THE INPUT: true; the input reads as it did. -/
def eventOthersSpec : ChangeSpec := { name := "eventOthers", fn := fun _ => fun
  | [d1, d2, d3] => { results := [.lit (.bool true)], args := [d1, d2, d3] }
  | _ => none }
def eventOthersRow : OpenClaim := { program := "ythfhlbnjahakaaadoor", sum := "9673005356b4408a508b6c93e5fe9637e73b5f74727e279b5a6c74f75f18c202", func := "cellaret/cellaretlaw17.EventOthers", spec := "eventOthers", unfollowed := true, recurses := true, named := ["unicode/utf8.first", "unicode/utf8.acceptRanges"], apart := false, laid := [("unicode/utf8.acceptRanges", laid_unicode_utf8_acceptRanges), ("unicode/utf8.first", laid_unicode_utf8_first)] }
def EventOthersSaid : Prop := eventOthersRow.holds Tryd.pinned (OpenSpec.ofChange eventOthersSpec)

/-- ITS FALSE NEIGHBOUR: 'it returns false'. Refute it at one input. -/
def eventOthersWrong : ChangeSpec := { name := "eventOthers", fn := fun _ => fun
  | [d1, d2, d3] => { results := [.lit (.bool false)], args := [d1, d2, d3] }
  | _ => none }
def EventOthersWrongFalsely : Prop := eventOthersRow.holds Tryd.pinned (OpenSpec.ofChange eventOthersWrong)

/-- 'cellaretlaw17.EventNew': WHATEVER THE INPUT: true; the input reads as it did. -/
def eventNewSpec : ChangeSpec := { name := "eventNew", fn := fun _ => fun
  | [d] => { results := [.lit (.bool true)], args := [d] }
  | _ => none }
def eventNewRow : OpenClaim := { program := "ythfhlbnjahakaaadoor", sum := "9673005356b4408a508b6c93e5fe9637e73b5f74727e279b5a6c74f75f18c202", func := "cellaret/cellaretlaw17.EventNew", spec := "eventNew", unfollowed := true, recurses := true, named := ["unicode/utf8.first", "unicode/utf8.acceptRanges"], apart := false, laid := [("unicode/utf8.acceptRanges", laid_unicode_utf8_acceptRanges), ("unicode/utf8.first", laid_unicode_utf8_first)] }
def EventNewSaid : Prop := eventNewRow.holds Tryd.pinned (OpenSpec.ofChange eventNewSpec)

/-- ITS FALSE NEIGHBOUR: 'it returns false'. Refute it at one input. -/
def eventNewWrong : ChangeSpec := { name := "eventNew", fn := fun _ => fun
  | [d] => { results := [.lit (.bool false)], args := [d] }
  | _ => none }
def EventNewWrongFalsely : Prop := eventNewRow.holds Tryd.pinned (OpenSpec.ofChange eventNewWrong)

/-- 'cellaretlaw17.EventBounds': WHATEVER THE INPUT: true; the input reads as it did. -/
def eventBoundsSpec : ChangeSpec := { name := "eventBounds", fn := fun _ => fun
  | [d1, d2, d3, d4] => { results := [.lit (.bool true)], args := [d1, d2, d3, d4] }
  | _ => none }
def eventBoundsRow : OpenClaim := { program := "ythfhlbnjahakaaadoor", sum := "9673005356b4408a508b6c93e5fe9637e73b5f74727e279b5a6c74f75f18c202", func := "cellaret/cellaretlaw17.EventBounds", spec := "eventBounds", unfollowed := true, recurses := true, named := ["unicode/utf8.first", "unicode/utf8.acceptRanges"], apart := false, laid := [("unicode/utf8.acceptRanges", laid_unicode_utf8_acceptRanges), ("unicode/utf8.first", laid_unicode_utf8_first)] }
def EventBoundsSaid : Prop := eventBoundsRow.holds Tryd.pinned (OpenSpec.ofChange eventBoundsSpec)

/-- ITS FALSE NEIGHBOUR: 'it returns false'. Refute it at one input. -/
def eventBoundsWrong : ChangeSpec := { name := "eventBounds", fn := fun _ => fun
  | [d1, d2, d3, d4] => { results := [.lit (.bool false)], args := [d1, d2, d3, d4] }
  | _ => none }
def EventBoundsWrongFalsely : Prop := eventBoundsRow.holds Tryd.pinned (OpenSpec.ofChange eventBoundsWrong)

/- THE SECOND FORM. 'bulk': how many values and letters a reading holds, each counted each time it is reached (what is shared counts as often as it is met; a slice's spare places count too). A statement '..UptoSaid' is the law's where the arguments, and the package variables that the reading takes, are together of bulk at most 1048576: NARROWER than '..Said'. Prove '..Said' where nothing that the law and all that it calls make is longer than what came in: it says more and counts as full. Else prove '..UptoSaid'. A law counts once. -/
mutual
def uptoBulk {H : Type} : DataW H → Nat
  | .lit (.string bytes) => bytes.length + 1
  | .lit _ => 1
  | .nil => 1
  | .ptr d => uptoBulk d + 1
  | .slice elems spare => uptoBulkAll elems + uptoBulkAll spare + 1
  | .agg parts => uptoBulkAll parts + 1
  | .iface _ d => uptoBulk d + 1
  | .map entries => uptoBulkEntries entries + 1
  | .held _ => 1
def uptoBulkAll {H : Type} : List (DataW H) → Nat
  | [] => 0
  | d :: r => uptoBulk d + uptoBulkAll r
def uptoBulkEntries {H : Type} : List (Lit × DataW H) → Nat
  | [] => 0
  | x :: r => uptoBulkEntry x + uptoBulkEntries r
def uptoBulkEntry {H : Type} : Lit × DataW H → Nat
  | (.string bytes, d) => bytes.length + uptoBulk d + 1
  | (_, d) => uptoBulk d + 1
 end
def uptoSmall : (H : Type) → List (DataW H) → Bool := fun _ ds => decide (uptoBulkAll ds ≤ 1048576)
def OpenSpec.upto (s : _root_.Go.ChangeSpec) : _root_.Go.OpenSpec := { _root_.Go.OpenSpec.ofChange s with cond := some uptoSmall }

/-- 'cellaretlaw17.EventKnown', WHERE WHAT IT READS IS OF BULK AT MOST 1048576: true; the input reads as it did. -/
def eventKnownUptoRow : OpenClaim := { program := "ythfhlbnjahakaaadoor", sum := "9673005356b4408a508b6c93e5fe9637e73b5f74727e279b5a6c74f75f18c202", func := "cellaret/cellaretlaw17.EventKnown", spec := "eventKnown", unfollowed := true, recurses := true, named := ["unicode/utf8.first", "unicode/utf8.acceptRanges"], apart := false, laid := [("unicode/utf8.acceptRanges", laid_unicode_utf8_acceptRanges), ("unicode/utf8.first", laid_unicode_utf8_first)], narrowed := true }
def EventKnownUptoSaid : Prop := eventKnownUptoRow.holds Tryd.pinned (OpenSpec.upto eventKnownSpec)

/-- 'cellaretlaw17.EventTells', WHERE WHAT IT READS IS OF BULK AT MOST 1048576: true; the input reads as it did. -/
def eventTellsUptoRow : OpenClaim := { program := "ythfhlbnjahakaaadoor", sum := "9673005356b4408a508b6c93e5fe9637e73b5f74727e279b5a6c74f75f18c202", func := "cellaret/cellaretlaw17.EventTells", spec := "eventTells", unfollowed := true, recurses := true, named := ["unicode/utf8.first", "unicode/utf8.acceptRanges"], apart := false, laid := [("unicode/utf8.acceptRanges", laid_unicode_utf8_acceptRanges), ("unicode/utf8.first", laid_unicode_utf8_first)], narrowed := true }
def EventTellsUptoSaid : Prop := eventTellsUptoRow.holds Tryd.pinned (OpenSpec.upto eventTellsSpec)

/-- 'cellaretlaw17.EventOthers', WHERE WHAT IT READS IS OF BULK AT MOST 1048576: true; the input reads as it did. -/
def eventOthersUptoRow : OpenClaim := { program := "ythfhlbnjahakaaadoor", sum := "9673005356b4408a508b6c93e5fe9637e73b5f74727e279b5a6c74f75f18c202", func := "cellaret/cellaretlaw17.EventOthers", spec := "eventOthers", unfollowed := true, recurses := true, named := ["unicode/utf8.first", "unicode/utf8.acceptRanges"], apart := false, laid := [("unicode/utf8.acceptRanges", laid_unicode_utf8_acceptRanges), ("unicode/utf8.first", laid_unicode_utf8_first)], narrowed := true }
def EventOthersUptoSaid : Prop := eventOthersUptoRow.holds Tryd.pinned (OpenSpec.upto eventOthersSpec)

/-- 'cellaretlaw17.EventNew', WHERE WHAT IT READS IS OF BULK AT MOST 1048576: true; the input reads as it did. -/
def eventNewUptoRow : OpenClaim := { program := "ythfhlbnjahakaaadoor", sum := "9673005356b4408a508b6c93e5fe9637e73b5f74727e279b5a6c74f75f18c202", func := "cellaret/cellaretlaw17.EventNew", spec := "eventNew", unfollowed := true, recurses := true, named := ["unicode/utf8.first", "unicode/utf8.acceptRanges"], apart := false, laid := [("unicode/utf8.acceptRanges", laid_unicode_utf8_acceptRanges), ("unicode/utf8.first", laid_unicode_utf8_first)], narrowed := true }
def EventNewUptoSaid : Prop := eventNewUptoRow.holds Tryd.pinned (OpenSpec.upto eventNewSpec)

/-- 'cellaretlaw17.EventBounds', WHERE WHAT IT READS IS OF BULK AT MOST 1048576: true; the input reads as it did. -/
def eventBoundsUptoRow : OpenClaim := { program := "ythfhlbnjahakaaadoor", sum := "9673005356b4408a508b6c93e5fe9637e73b5f74727e279b5a6c74f75f18c202", func := "cellaret/cellaretlaw17.EventBounds", spec := "eventBounds", unfollowed := true, recurses := true, named := ["unicode/utf8.first", "unicode/utf8.acceptRanges"], apart := false, laid := [("unicode/utf8.acceptRanges", laid_unicode_utf8_acceptRanges), ("unicode/utf8.first", laid_unicode_utf8_first)], narrowed := true }
def EventBoundsUptoSaid : Prop := eventBoundsUptoRow.holds Tryd.pinned (OpenSpec.upto eventBoundsSpec)

end Rows
end Go.Proofs.YthfhlbnjahakaaaDoor
