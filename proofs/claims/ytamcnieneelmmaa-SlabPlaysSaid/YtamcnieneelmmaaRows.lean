/-
  No cell of these rows narrows 'for every input' (looked for: loops, veiled, ifaces, maps, wideKeys, modest, calm, conditions, laid).
  DERIVED. THE GIVEN ROWS OF THIS SEAT. 7 by the template 'for every input the law returns true; each argument reads behind the call as it read before'; 0 by the template 'total and deterministic' (their statements: YtamcnieneelmmaaTotals.lean).
  GIVEN WITH THE SEED: the statements are not yours to turn. If you find one false, say at which input.
  Laid BY PROGRAM, IN A SANDBOX (cutbox-rows.mjs): the forced cells as the released guide's own fill.sh prints them over the translation 6ec60ff9b4b0e5a8… (all of the seat's roots in one cut). By AI agents, Wed Nov 11 2026. No macro, syntax, notation, axiom, sorry.
-/
import Derived.Test.YtamcnieneelmmaaChecked
import GoSem.Claim
import GoSem.ClaimJoined
import GoSem.ClaimMapViews
import Derived.JoinedTies
import Derived.KernelRfl
namespace Go.Proofs.Ytamcnieneelmmaa
/- THE CELL 'sum', in the pinned program and in every row, IS THE sha256 OF THE DUMP (.gsa) THAT YtamcnieneelmmaaProg.lean LOADS. Nothing in Lean hashes anything: it is a label: what it is worth is what the hold of that sum in a sandbox is worth. -/
noncomputable def Try.pinned : Pinned := { name := "ytamcnieneelmmaa", sum := "6ec60ff9b4b0e5a83e528fd229a3bba21d4e7ba542b101ed66b5f68b6ee171fe", checked := Try.checked }
namespace Rows
def none {H : Type} : Left H := { results := [], args := [] }

/-- 'cellaretlaw11.SlabKnown': WHATEVER THE INPUT: true; the input reads as it did. -/
def slabKnownSpec : ChangeSpec := { name := "slabKnown", fn := fun _ => fun
  | [] => { results := [.lit (.bool true)], args := [] }
  | _ => none }
def slabKnownRow : OpenClaim := { program := "ytamcnieneelmmaa", sum := "6ec60ff9b4b0e5a83e528fd229a3bba21d4e7ba542b101ed66b5f68b6ee171fe", func := "cellaret/cellaretlaw11.SlabKnown", spec := "slabKnown", apart := false }
def SlabKnownSaid : Prop := slabKnownRow.holds Try.pinned (OpenSpec.ofChange slabKnownSpec)

/-- ITS FALSE NEIGHBOUR: 'it returns false'. Refute it at one input. -/
def slabKnownWrong : ChangeSpec := { name := "slabKnown", fn := fun _ => fun
  | [] => { results := [.lit (.bool false)], args := [] }
  | _ => none }
def SlabKnownWrongFalsely : Prop := slabKnownRow.holds Try.pinned (OpenSpec.ofChange slabKnownWrong)

/-- 'cellaretlaw11.SlabPlays': WHATEVER THE INPUT: true; the input reads as it did. -/
def slabPlaysSpec : ChangeSpec := { name := "slabPlays", fn := fun _ => fun
  | [d1, d2, d3] => { results := [.lit (.bool true)], args := [d1, d2, d3] }
  | _ => none }
def slabPlaysRow : OpenClaim := { program := "ytamcnieneelmmaa", sum := "6ec60ff9b4b0e5a83e528fd229a3bba21d4e7ba542b101ed66b5f68b6ee171fe", func := "cellaret/cellaretlaw11.SlabPlays", spec := "slabPlays", apart := false }
def SlabPlaysSaid : Prop := slabPlaysRow.holds Try.pinned (OpenSpec.ofChange slabPlaysSpec)

/-- ITS FALSE NEIGHBOUR: 'it returns false'. Refute it at one input. -/
def slabPlaysWrong : ChangeSpec := { name := "slabPlays", fn := fun _ => fun
  | [d1, d2, d3] => { results := [.lit (.bool false)], args := [d1, d2, d3] }
  | _ => none }
def SlabPlaysWrongFalsely : Prop := slabPlaysRow.holds Try.pinned (OpenSpec.ofChange slabPlaysWrong)

/-- 'cellaretlaw11.SlabApart': WHATEVER THE INPUT: true; the input reads as it did. -/
def slabApartSpec : ChangeSpec := { name := "slabApart", fn := fun _ => fun
  | [d1, d2] => { results := [.lit (.bool true)], args := [d1, d2] }
  | _ => none }
def slabApartRow : OpenClaim := { program := "ytamcnieneelmmaa", sum := "6ec60ff9b4b0e5a83e528fd229a3bba21d4e7ba542b101ed66b5f68b6ee171fe", func := "cellaret/cellaretlaw11.SlabApart", spec := "slabApart", apart := false }
def SlabApartSaid : Prop := slabApartRow.holds Try.pinned (OpenSpec.ofChange slabApartSpec)

/-- ITS FALSE NEIGHBOUR: 'it returns false'. Refute it at one input. -/
def slabApartWrong : ChangeSpec := { name := "slabApart", fn := fun _ => fun
  | [d1, d2] => { results := [.lit (.bool false)], args := [d1, d2] }
  | _ => none }
def SlabApartWrongFalsely : Prop := slabApartRow.holds Try.pinned (OpenSpec.ofChange slabApartWrong)

/-- 'cellaretlaw11.SlabFits': WHATEVER THE INPUT: true; the input reads as it did. -/
def slabFitsSpec : ChangeSpec := { name := "slabFits", fn := fun _ => fun
  | [d] => { results := [.lit (.bool true)], args := [d] }
  | _ => none }
def slabFitsRow : OpenClaim := { program := "ytamcnieneelmmaa", sum := "6ec60ff9b4b0e5a83e528fd229a3bba21d4e7ba542b101ed66b5f68b6ee171fe", func := "cellaret/cellaretlaw11.SlabFits", spec := "slabFits", apart := false }
def SlabFitsSaid : Prop := slabFitsRow.holds Try.pinned (OpenSpec.ofChange slabFitsSpec)

/-- ITS FALSE NEIGHBOUR: 'it returns false'. Refute it at one input. -/
def slabFitsWrong : ChangeSpec := { name := "slabFits", fn := fun _ => fun
  | [d] => { results := [.lit (.bool false)], args := [d] }
  | _ => none }
def SlabFitsWrongFalsely : Prop := slabFitsRow.holds Try.pinned (OpenSpec.ofChange slabFitsWrong)

/-- 'cellaretlaw11.SlabAgain': WHATEVER THE INPUT: true; the input reads as it did. -/
def slabAgainSpec : ChangeSpec := { name := "slabAgain", fn := fun _ => fun
  | [d1, d2, d3, d4] => { results := [.lit (.bool true)], args := [d1, d2, d3, d4] }
  | _ => none }
def slabAgainRow : OpenClaim := { program := "ytamcnieneelmmaa", sum := "6ec60ff9b4b0e5a83e528fd229a3bba21d4e7ba542b101ed66b5f68b6ee171fe", func := "cellaret/cellaretlaw11.SlabAgain", spec := "slabAgain", apart := false }
def SlabAgainSaid : Prop := slabAgainRow.holds Try.pinned (OpenSpec.ofChange slabAgainSpec)

/-- ITS FALSE NEIGHBOUR: 'it returns false'. Refute it at one input. -/
def slabAgainWrong : ChangeSpec := { name := "slabAgain", fn := fun _ => fun
  | [d1, d2, d3, d4] => { results := [.lit (.bool false)], args := [d1, d2, d3, d4] }
  | _ => none }
def SlabAgainWrongFalsely : Prop := slabAgainRow.holds Try.pinned (OpenSpec.ofChange slabAgainWrong)

/-- 'cellaretlaw11.SlabMoves': WHATEVER THE INPUT: true; the input reads as it did. -/
def slabMovesSpec : ChangeSpec := { name := "slabMoves", fn := fun _ => fun
  | [d1, d2, d3] => { results := [.lit (.bool true)], args := [d1, d2, d3] }
  | _ => none }
def slabMovesRow : OpenClaim := { program := "ytamcnieneelmmaa", sum := "6ec60ff9b4b0e5a83e528fd229a3bba21d4e7ba542b101ed66b5f68b6ee171fe", func := "cellaret/cellaretlaw11.SlabMoves", spec := "slabMoves", apart := false }
def SlabMovesSaid : Prop := slabMovesRow.holds Try.pinned (OpenSpec.ofChange slabMovesSpec)

/-- ITS FALSE NEIGHBOUR: 'it returns false'. Refute it at one input. -/
def slabMovesWrong : ChangeSpec := { name := "slabMoves", fn := fun _ => fun
  | [d1, d2, d3] => { results := [.lit (.bool false)], args := [d1, d2, d3] }
  | _ => none }
def SlabMovesWrongFalsely : Prop := slabMovesRow.holds Try.pinned (OpenSpec.ofChange slabMovesWrong)

/-- 'cellaretlaw11.SlabLeft': WHATEVER THE INPUT: true; the input reads as it did. -/
def slabLeftSpec : ChangeSpec := { name := "slabLeft", fn := fun _ => fun
  | [d1, d2] => { results := [.lit (.bool true)], args := [d1, d2] }
  | _ => none }
def slabLeftRow : OpenClaim := { program := "ytamcnieneelmmaa", sum := "6ec60ff9b4b0e5a83e528fd229a3bba21d4e7ba542b101ed66b5f68b6ee171fe", func := "cellaret/cellaretlaw11.SlabLeft", spec := "slabLeft", apart := false }
def SlabLeftSaid : Prop := slabLeftRow.holds Try.pinned (OpenSpec.ofChange slabLeftSpec)

/-- ITS FALSE NEIGHBOUR: 'it returns false'. Refute it at one input. -/
def slabLeftWrong : ChangeSpec := { name := "slabLeft", fn := fun _ => fun
  | [d1, d2] => { results := [.lit (.bool false)], args := [d1, d2] }
  | _ => none }
def SlabLeftWrongFalsely : Prop := slabLeftRow.holds Try.pinned (OpenSpec.ofChange slabLeftWrong)

/- THE SECOND FORM. 'bulk': how many values and letters a reading holds, each counted each time it is reached (what is shared counts as often as it is met; a slice's spare places count too). A statement '..UptoSaid' is the law's where the arguments, and the package variables that the reading takes, are together of bulk at most 1048576: NARROWER than '..Said'. Prove '..Said' where nothing that the law and all that it calls make is longer than what came in: it says more and counts as full. Else prove '..UptoSaid'. A law counts once. -/
mutual
def uptoBulk {H : Type} : DataW H → Nat
  | .lit (.string bytes) => bytes.length + 1
  | .lit _ => 1
  | .nil => 1
  | .ptr d => uptoBulk d + 1
  | .slice elems spare => uptoBulkAll elems + uptoBulkAll spare + 1
  | .agg parts => uptoBulkAll parts + 1
  | .iface _ d => uptoBulk d + 1
  | .map entries => uptoBulkEntries entries + 1
  | .held _ => 1
def uptoBulkAll {H : Type} : List (DataW H) → Nat
  | [] => 0
  | d :: r => uptoBulk d + uptoBulkAll r
def uptoBulkEntries {H : Type} : List (Lit × DataW H) → Nat
  | [] => 0
  | x :: r => uptoBulkEntry x + uptoBulkEntries r
def uptoBulkEntry {H : Type} : Lit × DataW H → Nat
  | (.string bytes, d) => bytes.length + uptoBulk d + 1
  | (_, d) => uptoBulk d + 1
 end
def uptoSmall : (H : Type) → List (DataW H) → Bool := fun _ ds => decide (uptoBulkAll ds ≤ 1048576)
def OpenSpec.upto (s : _root_.Go.ChangeSpec) : _root_.Go.OpenSpec := { _root_.Go.OpenSpec.ofChange s with cond := some uptoSmall }

/-- 'cellaretlaw11.SlabKnown', WHERE WHAT IT READS IS OF BULK AT MOST 1048576: true; the input reads as it did. -/
def slabKnownUptoRow : OpenClaim := { program := "ytamcnieneelmmaa", sum := "6ec60ff9b4b0e5a83e528fd229a3bba21d4e7ba542b101ed66b5f68b6ee171fe", func := "cellaret/cellaretlaw11.SlabKnown", spec := "slabKnown", apart := false, narrowed := true }
def SlabKnownUptoSaid : Prop := slabKnownUptoRow.holds Try.pinned (OpenSpec.upto slabKnownSpec)

/-- 'cellaretlaw11.SlabPlays', WHERE WHAT IT READS IS OF BULK AT MOST 1048576: true; the input reads as it did. -/
def slabPlaysUptoRow : OpenClaim := { program := "ytamcnieneelmmaa", sum := "6ec60ff9b4b0e5a83e528fd229a3bba21d4e7ba542b101ed66b5f68b6ee171fe", func := "cellaret/cellaretlaw11.SlabPlays", spec := "slabPlays", apart := false, narrowed := true }
def SlabPlaysUptoSaid : Prop := slabPlaysUptoRow.holds Try.pinned (OpenSpec.upto slabPlaysSpec)

/-- 'cellaretlaw11.SlabApart', WHERE WHAT IT READS IS OF BULK AT MOST 1048576: true; the input reads as it did. -/
def slabApartUptoRow : OpenClaim := { program := "ytamcnieneelmmaa", sum := "6ec60ff9b4b0e5a83e528fd229a3bba21d4e7ba542b101ed66b5f68b6ee171fe", func := "cellaret/cellaretlaw11.SlabApart", spec := "slabApart", apart := false, narrowed := true }
def SlabApartUptoSaid : Prop := slabApartUptoRow.holds Try.pinned (OpenSpec.upto slabApartSpec)

/-- 'cellaretlaw11.SlabFits', WHERE WHAT IT READS IS OF BULK AT MOST 1048576: true; the input reads as it did. -/
def slabFitsUptoRow : OpenClaim := { program := "ytamcnieneelmmaa", sum := "6ec60ff9b4b0e5a83e528fd229a3bba21d4e7ba542b101ed66b5f68b6ee171fe", func := "cellaret/cellaretlaw11.SlabFits", spec := "slabFits", apart := false, narrowed := true }
def SlabFitsUptoSaid : Prop := slabFitsUptoRow.holds Try.pinned (OpenSpec.upto slabFitsSpec)

/-- 'cellaretlaw11.SlabAgain', WHERE WHAT IT READS IS OF BULK AT MOST 1048576: true; the input reads as it did. -/
def slabAgainUptoRow : OpenClaim := { program := "ytamcnieneelmmaa", sum := "6ec60ff9b4b0e5a83e528fd229a3bba21d4e7ba542b101ed66b5f68b6ee171fe", func := "cellaret/cellaretlaw11.SlabAgain", spec := "slabAgain", apart := false, narrowed := true }
def SlabAgainUptoSaid : Prop := slabAgainUptoRow.holds Try.pinned (OpenSpec.upto slabAgainSpec)

/-- 'cellaretlaw11.SlabMoves', WHERE WHAT IT READS IS OF BULK AT MOST 1048576: true; the input reads as it did. -/
def slabMovesUptoRow : OpenClaim := { program := "ytamcnieneelmmaa", sum := "6ec60ff9b4b0e5a83e528fd229a3bba21d4e7ba542b101ed66b5f68b6ee171fe", func := "cellaret/cellaretlaw11.SlabMoves", spec := "slabMoves", apart := false, narrowed := true }
def SlabMovesUptoSaid : Prop := slabMovesUptoRow.holds Try.pinned (OpenSpec.upto slabMovesSpec)

/-- 'cellaretlaw11.SlabLeft', WHERE WHAT IT READS IS OF BULK AT MOST 1048576: true; the input reads as it did. -/
def slabLeftUptoRow : OpenClaim := { program := "ytamcnieneelmmaa", sum := "6ec60ff9b4b0e5a83e528fd229a3bba21d4e7ba542b101ed66b5f68b6ee171fe", func := "cellaret/cellaretlaw11.SlabLeft", spec := "slabLeft", apart := false, narrowed := true }
def SlabLeftUptoSaid : Prop := slabLeftUptoRow.holds Try.pinned (OpenSpec.upto slabLeftSpec)

end Rows
end Go.Proofs.Ytamcnieneelmmaa
