/-
  No cell of these rows narrows 'for every input' (looked for: loops, veiled, ifaces, maps, wideKeys, modest, calm, conditions, laid).
  DERIVED. THE GIVEN ROWS OF THIS SEAT. 7 by the template 'for every input the law returns true; each argument reads behind the call as it read before'; 0 by the template 'total and deterministic' (their statements: YtefjcjmdmnfbhaaTotals.lean).
  GIVEN WITH THE SEED: the statements are not yours to turn. If you find one false, say at which input.
  Laid BY PROGRAM, IN A SANDBOX (cutbox-rows.mjs): the forced cells as the released guide's own fill.sh prints them over the translation 56695a0028ab184c… (all of the seat's roots in one cut). By AI agents, Wed Nov 11 2026. No macro, syntax, notation, axiom, sorry.
-/
import Derived.Test.YtefjcjmdmnfbhaaChecked
import GoSem.Claim
import GoSem.ClaimJoined
import GoSem.ClaimMapViews
import Derived.JoinedTies
import Derived.KernelRfl
namespace Go.Proofs.Ytefjcjmdmnfbhaa
/- THE CELL 'sum', in the pinned program and in every row, IS THE sha256 OF THE DUMP (.gsa) THAT YtefjcjmdmnfbhaaProg.lean LOADS. Nothing in Lean hashes anything: it is a label: what it is worth is what the hold of that sum in a sandbox is worth. -/
noncomputable def Try.pinned : Pinned := { name := "ytefjcjmdmnfbhaa", sum := "56695a0028ab184c0dc254cdf8393d5061d4d3c6f8b078e3e38ca6f57fc4d1a3", checked := Try.checked }
namespace Rows
def none {H : Type} : Left H := { results := [], args := [] }

/-- 'cellaretlaw12.TableKnown': WHATEVER THE INPUT: true; the input reads as it did. -/
def tableKnownSpec : ChangeSpec := { name := "tableKnown", fn := fun _ => fun
  | [] => { results := [.lit (.bool true)], args := [] }
  | _ => none }
def tableKnownRow : OpenClaim := { program := "ytefjcjmdmnfbhaa", sum := "56695a0028ab184c0dc254cdf8393d5061d4d3c6f8b078e3e38ca6f57fc4d1a3", func := "cellaret/cellaretlaw12.TableKnown", spec := "tableKnown", recurses := true, apart := false }
def TableKnownSaid : Prop := tableKnownRow.holds Try.pinned (OpenSpec.ofChange tableKnownSpec)

/-- ITS FALSE NEIGHBOUR: 'it returns false'. Refute it at one input. -/
def tableKnownWrong : ChangeSpec := { name := "tableKnown", fn := fun _ => fun
  | [] => { results := [.lit (.bool false)], args := [] }
  | _ => none }
def TableKnownWrongFalsely : Prop := tableKnownRow.holds Try.pinned (OpenSpec.ofChange tableKnownWrong)

/-- 'cellaretlaw12.TablePlays': WHATEVER THE INPUT: true; the input reads as it did. -/
def tablePlaysSpec : ChangeSpec := { name := "tablePlays", fn := fun _ => fun
  | [d1, d2] => { results := [.lit (.bool true)], args := [d1, d2] }
  | _ => none }
def tablePlaysRow : OpenClaim := { program := "ytefjcjmdmnfbhaa", sum := "56695a0028ab184c0dc254cdf8393d5061d4d3c6f8b078e3e38ca6f57fc4d1a3", func := "cellaret/cellaretlaw12.TablePlays", spec := "tablePlays", recurses := true, apart := false }
def TablePlaysSaid : Prop := tablePlaysRow.holds Try.pinned (OpenSpec.ofChange tablePlaysSpec)

/-- ITS FALSE NEIGHBOUR: 'it returns false'. Refute it at one input. -/
def tablePlaysWrong : ChangeSpec := { name := "tablePlays", fn := fun _ => fun
  | [d1, d2] => { results := [.lit (.bool false)], args := [d1, d2] }
  | _ => none }
def TablePlaysWrongFalsely : Prop := tablePlaysRow.holds Try.pinned (OpenSpec.ofChange tablePlaysWrong)

/-- 'cellaretlaw12.TableMaps': WHATEVER THE INPUT: true; the input reads as it did. -/
def tableMapsSpec : ChangeSpec := { name := "tableMaps", fn := fun _ => fun
  | [d] => { results := [.lit (.bool true)], args := [d] }
  | _ => none }
def tableMapsRow : OpenClaim := { program := "ytefjcjmdmnfbhaa", sum := "56695a0028ab184c0dc254cdf8393d5061d4d3c6f8b078e3e38ca6f57fc4d1a3", func := "cellaret/cellaretlaw12.TableMaps", spec := "tableMaps", recurses := true, apart := false }
def TableMapsSaid : Prop := tableMapsRow.holds Try.pinned (OpenSpec.ofChange tableMapsSpec)

/-- ITS FALSE NEIGHBOUR: 'it returns false'. Refute it at one input. -/
def tableMapsWrong : ChangeSpec := { name := "tableMaps", fn := fun _ => fun
  | [d] => { results := [.lit (.bool false)], args := [d] }
  | _ => none }
def TableMapsWrongFalsely : Prop := tableMapsRow.holds Try.pinned (OpenSpec.ofChange tableMapsWrong)

/-- 'cellaretlaw12.TableWhole': WHATEVER THE INPUT: true; the input reads as it did. -/
def tableWholeSpec : ChangeSpec := { name := "tableWhole", fn := fun _ => fun
  | [d] => { results := [.lit (.bool true)], args := [d] }
  | _ => none }
def tableWholeRow : OpenClaim := { program := "ytefjcjmdmnfbhaa", sum := "56695a0028ab184c0dc254cdf8393d5061d4d3c6f8b078e3e38ca6f57fc4d1a3", func := "cellaret/cellaretlaw12.TableWhole", spec := "tableWhole", recurses := true, apart := false }
def TableWholeSaid : Prop := tableWholeRow.holds Try.pinned (OpenSpec.ofChange tableWholeSpec)

/-- ITS FALSE NEIGHBOUR: 'it returns false'. Refute it at one input. -/
def tableWholeWrong : ChangeSpec := { name := "tableWhole", fn := fun _ => fun
  | [d] => { results := [.lit (.bool false)], args := [d] }
  | _ => none }
def TableWholeWrongFalsely : Prop := tableWholeRow.holds Try.pinned (OpenSpec.ofChange tableWholeWrong)

/-- 'cellaretlaw12.TableSets': WHATEVER THE INPUT: true; the input reads as it did. -/
def tableSetsSpec : ChangeSpec := { name := "tableSets", fn := fun _ => fun
  | [d1, d2, d3, d4] => { results := [.lit (.bool true)], args := [d1, d2, d3, d4] }
  | _ => none }
def tableSetsRow : OpenClaim := { program := "ytefjcjmdmnfbhaa", sum := "56695a0028ab184c0dc254cdf8393d5061d4d3c6f8b078e3e38ca6f57fc4d1a3", func := "cellaret/cellaretlaw12.TableSets", spec := "tableSets", recurses := true, apart := false }
def TableSetsSaid : Prop := tableSetsRow.holds Try.pinned (OpenSpec.ofChange tableSetsSpec)

/-- ITS FALSE NEIGHBOUR: 'it returns false'. Refute it at one input. -/
def tableSetsWrong : ChangeSpec := { name := "tableSets", fn := fun _ => fun
  | [d1, d2, d3, d4] => { results := [.lit (.bool false)], args := [d1, d2, d3, d4] }
  | _ => none }
def TableSetsWrongFalsely : Prop := tableSetsRow.holds Try.pinned (OpenSpec.ofChange tableSetsWrong)

/-- 'cellaretlaw12.TableKeys': WHATEVER THE INPUT: true; the input reads as it did. -/
def tableKeysSpec : ChangeSpec := { name := "tableKeys", fn := fun _ => fun
  | [d] => { results := [.lit (.bool true)], args := [d] }
  | _ => none }
def tableKeysRow : OpenClaim := { program := "ytefjcjmdmnfbhaa", sum := "56695a0028ab184c0dc254cdf8393d5061d4d3c6f8b078e3e38ca6f57fc4d1a3", func := "cellaret/cellaretlaw12.TableKeys", spec := "tableKeys", recurses := true, apart := false }
def TableKeysSaid : Prop := tableKeysRow.holds Try.pinned (OpenSpec.ofChange tableKeysSpec)

/-- ITS FALSE NEIGHBOUR: 'it returns false'. Refute it at one input. -/
def tableKeysWrong : ChangeSpec := { name := "tableKeys", fn := fun _ => fun
  | [d] => { results := [.lit (.bool false)], args := [d] }
  | _ => none }
def TableKeysWrongFalsely : Prop := tableKeysRow.holds Try.pinned (OpenSpec.ofChange tableKeysWrong)

/-- 'cellaretlaw12.TableGrows': WHATEVER THE INPUT: true; the input reads as it did. -/
def tableGrowsSpec : ChangeSpec := { name := "tableGrows", fn := fun _ => fun
  | [d1, d2] => { results := [.lit (.bool true)], args := [d1, d2] }
  | _ => none }
def tableGrowsRow : OpenClaim := { program := "ytefjcjmdmnfbhaa", sum := "56695a0028ab184c0dc254cdf8393d5061d4d3c6f8b078e3e38ca6f57fc4d1a3", func := "cellaret/cellaretlaw12.TableGrows", spec := "tableGrows", recurses := true, apart := false }
def TableGrowsSaid : Prop := tableGrowsRow.holds Try.pinned (OpenSpec.ofChange tableGrowsSpec)

/-- ITS FALSE NEIGHBOUR: 'it returns false'. Refute it at one input. -/
def tableGrowsWrong : ChangeSpec := { name := "tableGrows", fn := fun _ => fun
  | [d1, d2] => { results := [.lit (.bool false)], args := [d1, d2] }
  | _ => none }
def TableGrowsWrongFalsely : Prop := tableGrowsRow.holds Try.pinned (OpenSpec.ofChange tableGrowsWrong)

/- THE SECOND FORM. 'bulk': how many values and letters a reading holds, each counted each time it is reached (what is shared counts as often as it is met; a slice's spare places count too). A statement '..UptoSaid' is the law's where the arguments, and the package variables that the reading takes, are together of bulk at most 1048576: NARROWER than '..Said'. Prove '..Said' where nothing that the law and all that it calls make is longer than what came in: it says more and counts as full. Else prove '..UptoSaid'. A law counts once. -/
mutual
def uptoBulk {H : Type} : DataW H → Nat
  | .lit (.string bytes) => bytes.length + 1
  | .lit _ => 1
  | .nil => 1
  | .ptr d => uptoBulk d + 1
  | .slice elems spare => uptoBulkAll elems + uptoBulkAll spare + 1
  | .agg parts => uptoBulkAll parts + 1
  | .iface _ d => uptoBulk d + 1
  | .map entries => uptoBulkEntries entries + 1
  | .held _ => 1
def uptoBulkAll {H : Type} : List (DataW H) → Nat
  | [] => 0
  | d :: r => uptoBulk d + uptoBulkAll r
def uptoBulkEntries {H : Type} : List (Lit × DataW H) → Nat
  | [] => 0
  | x :: r => uptoBulkEntry x + uptoBulkEntries r
def uptoBulkEntry {H : Type} : Lit × DataW H → Nat
  | (.string bytes, d) => bytes.length + uptoBulk d + 1
  | (_, d) => uptoBulk d + 1
 end
def uptoSmall : (H : Type) → List (DataW H) → Bool := fun _ ds => decide (uptoBulkAll ds ≤ 1048576)
def OpenSpec.upto (s : _root_.Go.ChangeSpec) : _root_.Go.OpenSpec := { _root_.Go.OpenSpec.ofChange s with cond := some uptoSmall }

/-- 'cellaretlaw12.TableKnown', WHERE WHAT IT READS IS OF BULK AT MOST 1048576: true; the input reads as it did. -/
def tableKnownUptoRow : OpenClaim := { program := "ytefjcjmdmnfbhaa", sum := "56695a0028ab184c0dc254cdf8393d5061d4d3c6f8b078e3e38ca6f57fc4d1a3", func := "cellaret/cellaretlaw12.TableKnown", spec := "tableKnown", recurses := true, apart := false, narrowed := true }
def TableKnownUptoSaid : Prop := tableKnownUptoRow.holds Try.pinned (OpenSpec.upto tableKnownSpec)

/-- 'cellaretlaw12.TablePlays', WHERE WHAT IT READS IS OF BULK AT MOST 1048576: true; the input reads as it did. -/
def tablePlaysUptoRow : OpenClaim := { program := "ytefjcjmdmnfbhaa", sum := "56695a0028ab184c0dc254cdf8393d5061d4d3c6f8b078e3e38ca6f57fc4d1a3", func := "cellaret/cellaretlaw12.TablePlays", spec := "tablePlays", recurses := true, apart := false, narrowed := true }
def TablePlaysUptoSaid : Prop := tablePlaysUptoRow.holds Try.pinned (OpenSpec.upto tablePlaysSpec)

/-- 'cellaretlaw12.TableMaps', WHERE WHAT IT READS IS OF BULK AT MOST 1048576: true; the input reads as it did. -/
def tableMapsUptoRow : OpenClaim := { program := "ytefjcjmdmnfbhaa", sum := "56695a0028ab184c0dc254cdf8393d5061d4d3c6f8b078e3e38ca6f57fc4d1a3", func := "cellaret/cellaretlaw12.TableMaps", spec := "tableMaps", recurses := true, apart := false, narrowed := true }
def TableMapsUptoSaid : Prop := tableMapsUptoRow.holds Try.pinned (OpenSpec.upto tableMapsSpec)

/-- 'cellaretlaw12.TableWhole', WHERE WHAT IT READS IS OF BULK AT MOST 1048576: true; the input reads as it did. -/
def tableWholeUptoRow : OpenClaim := { program := "ytefjcjmdmnfbhaa", sum := "56695a0028ab184c0dc254cdf8393d5061d4d3c6f8b078e3e38ca6f57fc4d1a3", func := "cellaret/cellaretlaw12.TableWhole", spec := "tableWhole", recurses := true, apart := false, narrowed := true }
def TableWholeUptoSaid : Prop := tableWholeUptoRow.holds Try.pinned (OpenSpec.upto tableWholeSpec)

/-- 'cellaretlaw12.TableSets', WHERE WHAT IT READS IS OF BULK AT MOST 1048576: true; the input reads as it did. -/
def tableSetsUptoRow : OpenClaim := { program := "ytefjcjmdmnfbhaa", sum := "56695a0028ab184c0dc254cdf8393d5061d4d3c6f8b078e3e38ca6f57fc4d1a3", func := "cellaret/cellaretlaw12.TableSets", spec := "tableSets", recurses := true, apart := false, narrowed := true }
def TableSetsUptoSaid : Prop := tableSetsUptoRow.holds Try.pinned (OpenSpec.upto tableSetsSpec)

/-- 'cellaretlaw12.TableKeys', WHERE WHAT IT READS IS OF BULK AT MOST 1048576: true; the input reads as it did. -/
def tableKeysUptoRow : OpenClaim := { program := "ytefjcjmdmnfbhaa", sum := "56695a0028ab184c0dc254cdf8393d5061d4d3c6f8b078e3e38ca6f57fc4d1a3", func := "cellaret/cellaretlaw12.TableKeys", spec := "tableKeys", recurses := true, apart := false, narrowed := true }
def TableKeysUptoSaid : Prop := tableKeysUptoRow.holds Try.pinned (OpenSpec.upto tableKeysSpec)

/-- 'cellaretlaw12.TableGrows', WHERE WHAT IT READS IS OF BULK AT MOST 1048576: true; the input reads as it did. -/
def tableGrowsUptoRow : OpenClaim := { program := "ytefjcjmdmnfbhaa", sum := "56695a0028ab184c0dc254cdf8393d5061d4d3c6f8b078e3e38ca6f57fc4d1a3", func := "cellaret/cellaretlaw12.TableGrows", spec := "tableGrows", recurses := true, apart := false, narrowed := true }
def TableGrowsUptoSaid : Prop := tableGrowsUptoRow.holds Try.pinned (OpenSpec.upto tableGrowsSpec)

end Rows
end Go.Proofs.Ytefjcjmdmnfbhaa
