/-
  No cell of these rows narrows 'for every input' (looked for: loops, veiled, ifaces, maps, wideKeys, modest, calm, conditions, laid).
  DERIVED. THE GIVEN ROWS OF THIS SEAT. 6 by the template 'for every input the law returns true; each argument reads behind the call as it read before'; 0 by the template 'total and deterministic' (their statements: YthcalhmiielfkaaTotals.lean).
  GIVEN WITH THE SEED: the statements are not yours to turn. If you find one false, say at which input.
  Laid BY PROGRAM, IN A SANDBOX (cutbox-rows.mjs): the forced cells as the released guide's own fill.sh prints them over the translation 292877e926891d39… (all of the seat's roots in one cut). By AI agents, Wed Nov 11 2026. No macro, syntax, notation, axiom, sorry.
-/
import Derived.Test.YthcalhmiielfkaaChecked
import GoSem.Claim
import GoSem.ClaimJoined
import GoSem.ClaimMapViews
import Derived.JoinedTies
import Derived.KernelRfl
namespace Go.Proofs.Ythcalhmiielfkaa
/- THE CELL 'sum', in the pinned program and in every row, IS THE sha256 OF THE DUMP (.gsa) THAT YthcalhmiielfkaaProg.lean LOADS. Nothing in Lean hashes anything: it is a label: what it is worth is what the hold of that sum in a sandbox is worth. -/
noncomputable def Try.pinned : Pinned := { name := "ythcalhmiielfkaa", sum := "292877e926891d398206bd72e146b453fd5f5c629d840e86d105db1e28a9b077", checked := Try.checked }
namespace Rows
def none {H : Type} : Left H := { results := [], args := [] }

/-- 'cellaretlaw13.SegKnown': WHATEVER THE INPUT: true; the input reads as it did. -/
def segKnownSpec : ChangeSpec := { name := "segKnown", fn := fun _ => fun
  | [] => { results := [.lit (.bool true)], args := [] }
  | _ => none }
def segKnownRow : OpenClaim := { program := "ythcalhmiielfkaa", sum := "292877e926891d398206bd72e146b453fd5f5c629d840e86d105db1e28a9b077", func := "cellaret/cellaretlaw13.SegKnown", spec := "segKnown", inPlace := ["slices.overlaps[int]"], apart := false }
def SegKnownSaid : Prop := segKnownRow.holds Try.pinned (OpenSpec.ofChange segKnownSpec)

/-- ITS FALSE NEIGHBOUR: 'it returns false'. Refute it at one input. -/
def segKnownWrong : ChangeSpec := { name := "segKnown", fn := fun _ => fun
  | [] => { results := [.lit (.bool false)], args := [] }
  | _ => none }
def SegKnownWrongFalsely : Prop := segKnownRow.holds Try.pinned (OpenSpec.ofChange segKnownWrong)

/-- 'cellaretlaw13.SegPlays': WHATEVER THE INPUT: true; the input reads as it did. -/
def segPlaysSpec : ChangeSpec := { name := "segPlays", fn := fun _ => fun
  | [d] => { results := [.lit (.bool true)], args := [d] }
  | _ => none }
def segPlaysRow : OpenClaim := { program := "ythcalhmiielfkaa", sum := "292877e926891d398206bd72e146b453fd5f5c629d840e86d105db1e28a9b077", func := "cellaret/cellaretlaw13.SegPlays", spec := "segPlays", inPlace := ["slices.overlaps[int]"], apart := false }
def SegPlaysSaid : Prop := segPlaysRow.holds Try.pinned (OpenSpec.ofChange segPlaysSpec)

/-- ITS FALSE NEIGHBOUR: 'it returns false'. Refute it at one input. -/
def segPlaysWrong : ChangeSpec := { name := "segPlays", fn := fun _ => fun
  | [d] => { results := [.lit (.bool false)], args := [d] }
  | _ => none }
def SegPlaysWrongFalsely : Prop := segPlaysRow.holds Try.pinned (OpenSpec.ofChange segPlaysWrong)

/-- 'cellaretlaw13.SegOnce': WHATEVER THE INPUT: true; the input reads as it did. -/
def segOnceSpec : ChangeSpec := { name := "segOnce", fn := fun _ => fun
  | [d] => { results := [.lit (.bool true)], args := [d] }
  | _ => none }
def segOnceRow : OpenClaim := { program := "ythcalhmiielfkaa", sum := "292877e926891d398206bd72e146b453fd5f5c629d840e86d105db1e28a9b077", func := "cellaret/cellaretlaw13.SegOnce", spec := "segOnce", inPlace := ["slices.overlaps[int]"], apart := false }
def SegOnceSaid : Prop := segOnceRow.holds Try.pinned (OpenSpec.ofChange segOnceSpec)

/-- ITS FALSE NEIGHBOUR: 'it returns false'. Refute it at one input. -/
def segOnceWrong : ChangeSpec := { name := "segOnce", fn := fun _ => fun
  | [d] => { results := [.lit (.bool false)], args := [d] }
  | _ => none }
def SegOnceWrongFalsely : Prop := segOnceRow.holds Try.pinned (OpenSpec.ofChange segOnceWrong)

/-- 'cellaretlaw13.SegSpares': WHATEVER THE INPUT: true; the input reads as it did. -/
def segSparesSpec : ChangeSpec := { name := "segSpares", fn := fun _ => fun
  | [d1, d2] => { results := [.lit (.bool true)], args := [d1, d2] }
  | _ => none }
def segSparesRow : OpenClaim := { program := "ythcalhmiielfkaa", sum := "292877e926891d398206bd72e146b453fd5f5c629d840e86d105db1e28a9b077", func := "cellaret/cellaretlaw13.SegSpares", spec := "segSpares", inPlace := ["slices.overlaps[int]"], apart := false }
def SegSparesSaid : Prop := segSparesRow.holds Try.pinned (OpenSpec.ofChange segSparesSpec)

/-- ITS FALSE NEIGHBOUR: 'it returns false'. Refute it at one input. -/
def segSparesWrong : ChangeSpec := { name := "segSpares", fn := fun _ => fun
  | [d1, d2] => { results := [.lit (.bool false)], args := [d1, d2] }
  | _ => none }
def SegSparesWrongFalsely : Prop := segSparesRow.holds Try.pinned (OpenSpec.ofChange segSparesWrong)

/-- 'cellaretlaw13.SegOrder': WHATEVER THE INPUT: true; the input reads as it did. -/
def segOrderSpec : ChangeSpec := { name := "segOrder", fn := fun _ => fun
  | [d1, d2] => { results := [.lit (.bool true)], args := [d1, d2] }
  | _ => none }
def segOrderRow : OpenClaim := { program := "ythcalhmiielfkaa", sum := "292877e926891d398206bd72e146b453fd5f5c629d840e86d105db1e28a9b077", func := "cellaret/cellaretlaw13.SegOrder", spec := "segOrder", inPlace := ["slices.overlaps[int]"], apart := false }
def SegOrderSaid : Prop := segOrderRow.holds Try.pinned (OpenSpec.ofChange segOrderSpec)

/-- ITS FALSE NEIGHBOUR: 'it returns false'. Refute it at one input. -/
def segOrderWrong : ChangeSpec := { name := "segOrder", fn := fun _ => fun
  | [d1, d2] => { results := [.lit (.bool false)], args := [d1, d2] }
  | _ => none }
def SegOrderWrongFalsely : Prop := segOrderRow.holds Try.pinned (OpenSpec.ofChange segOrderWrong)

/-- 'cellaretlaw13.SegShares': WHATEVER THE INPUT: true; the input reads as it did. -/
def segSharesSpec : ChangeSpec := { name := "segShares", fn := fun _ => fun
  | [d] => { results := [.lit (.bool true)], args := [d] }
  | _ => none }
def segSharesRow : OpenClaim := { program := "ythcalhmiielfkaa", sum := "292877e926891d398206bd72e146b453fd5f5c629d840e86d105db1e28a9b077", func := "cellaret/cellaretlaw13.SegShares", spec := "segShares", inPlace := ["slices.overlaps[int]"], apart := false }
def SegSharesSaid : Prop := segSharesRow.holds Try.pinned (OpenSpec.ofChange segSharesSpec)

/-- ITS FALSE NEIGHBOUR: 'it returns false'. Refute it at one input. -/
def segSharesWrong : ChangeSpec := { name := "segShares", fn := fun _ => fun
  | [d] => { results := [.lit (.bool false)], args := [d] }
  | _ => none }
def SegSharesWrongFalsely : Prop := segSharesRow.holds Try.pinned (OpenSpec.ofChange segSharesWrong)

/- THE SECOND FORM. 'bulk': how many values and letters a reading holds, each counted each time it is reached (what is shared counts as often as it is met; a slice's spare places count too). A statement '..UptoSaid' is the law's where the arguments, and the package variables that the reading takes, are together of bulk at most 1048576: NARROWER than '..Said'. Prove '..Said' where nothing that the law and all that it calls make is longer than what came in: it says more and counts as full. Else prove '..UptoSaid'. A law counts once. -/
mutual
def uptoBulk {H : Type} : DataW H → Nat
  | .lit (.string bytes) => bytes.length + 1
  | .lit _ => 1
  | .nil => 1
  | .ptr d => uptoBulk d + 1
  | .slice elems spare => uptoBulkAll elems + uptoBulkAll spare + 1
  | .agg parts => uptoBulkAll parts + 1
  | .iface _ d => uptoBulk d + 1
  | .map entries => uptoBulkEntries entries + 1
  | .held _ => 1
def uptoBulkAll {H : Type} : List (DataW H) → Nat
  | [] => 0
  | d :: r => uptoBulk d + uptoBulkAll r
def uptoBulkEntries {H : Type} : List (Lit × DataW H) → Nat
  | [] => 0
  | x :: r => uptoBulkEntry x + uptoBulkEntries r
def uptoBulkEntry {H : Type} : Lit × DataW H → Nat
  | (.string bytes, d) => bytes.length + uptoBulk d + 1
  | (_, d) => uptoBulk d + 1
 end
def uptoSmall : (H : Type) → List (DataW H) → Bool := fun _ ds => decide (uptoBulkAll ds ≤ 1048576)
def OpenSpec.upto (s : _root_.Go.ChangeSpec) : _root_.Go.OpenSpec := { _root_.Go.OpenSpec.ofChange s with cond := some uptoSmall }

/-- 'cellaretlaw13.SegKnown', WHERE WHAT IT READS IS OF BULK AT MOST 1048576: true; the input reads as it did. -/
def segKnownUptoRow : OpenClaim := { program := "ythcalhmiielfkaa", sum := "292877e926891d398206bd72e146b453fd5f5c629d840e86d105db1e28a9b077", func := "cellaret/cellaretlaw13.SegKnown", spec := "segKnown", inPlace := ["slices.overlaps[int]"], apart := false, narrowed := true }
def SegKnownUptoSaid : Prop := segKnownUptoRow.holds Try.pinned (OpenSpec.upto segKnownSpec)

/-- 'cellaretlaw13.SegPlays', WHERE WHAT IT READS IS OF BULK AT MOST 1048576: true; the input reads as it did. -/
def segPlaysUptoRow : OpenClaim := { program := "ythcalhmiielfkaa", sum := "292877e926891d398206bd72e146b453fd5f5c629d840e86d105db1e28a9b077", func := "cellaret/cellaretlaw13.SegPlays", spec := "segPlays", inPlace := ["slices.overlaps[int]"], apart := false, narrowed := true }
def SegPlaysUptoSaid : Prop := segPlaysUptoRow.holds Try.pinned (OpenSpec.upto segPlaysSpec)

/-- 'cellaretlaw13.SegOnce', WHERE WHAT IT READS IS OF BULK AT MOST 1048576: true; the input reads as it did. -/
def segOnceUptoRow : OpenClaim := { program := "ythcalhmiielfkaa", sum := "292877e926891d398206bd72e146b453fd5f5c629d840e86d105db1e28a9b077", func := "cellaret/cellaretlaw13.SegOnce", spec := "segOnce", inPlace := ["slices.overlaps[int]"], apart := false, narrowed := true }
def SegOnceUptoSaid : Prop := segOnceUptoRow.holds Try.pinned (OpenSpec.upto segOnceSpec)

/-- 'cellaretlaw13.SegSpares', WHERE WHAT IT READS IS OF BULK AT MOST 1048576: true; the input reads as it did. -/
def segSparesUptoRow : OpenClaim := { program := "ythcalhmiielfkaa", sum := "292877e926891d398206bd72e146b453fd5f5c629d840e86d105db1e28a9b077", func := "cellaret/cellaretlaw13.SegSpares", spec := "segSpares", inPlace := ["slices.overlaps[int]"], apart := false, narrowed := true }
def SegSparesUptoSaid : Prop := segSparesUptoRow.holds Try.pinned (OpenSpec.upto segSparesSpec)

/-- 'cellaretlaw13.SegOrder', WHERE WHAT IT READS IS OF BULK AT MOST 1048576: true; the input reads as it did. -/
def segOrderUptoRow : OpenClaim := { program := "ythcalhmiielfkaa", sum := "292877e926891d398206bd72e146b453fd5f5c629d840e86d105db1e28a9b077", func := "cellaret/cellaretlaw13.SegOrder", spec := "segOrder", inPlace := ["slices.overlaps[int]"], apart := false, narrowed := true }
def SegOrderUptoSaid : Prop := segOrderUptoRow.holds Try.pinned (OpenSpec.upto segOrderSpec)

/-- 'cellaretlaw13.SegShares', WHERE WHAT IT READS IS OF BULK AT MOST 1048576: true; the input reads as it did. -/
def segSharesUptoRow : OpenClaim := { program := "ythcalhmiielfkaa", sum := "292877e926891d398206bd72e146b453fd5f5c629d840e86d105db1e28a9b077", func := "cellaret/cellaretlaw13.SegShares", spec := "segShares", inPlace := ["slices.overlaps[int]"], apart := false, narrowed := true }
def SegSharesUptoSaid : Prop := segSharesUptoRow.holds Try.pinned (OpenSpec.upto segSharesSpec)

end Rows
end Go.Proofs.Ythcalhmiielfkaa
