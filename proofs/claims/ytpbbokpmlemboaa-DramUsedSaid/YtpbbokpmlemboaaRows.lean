/-
  No cell of these rows narrows 'for every input' (looked for: loops, veiled, ifaces, maps, wideKeys, modest, calm, conditions, laid).
  DERIVED. THE GIVEN ROWS OF THIS SEAT. 6 by the template 'for every input the law returns true; each argument reads behind the call as it read before'; 0 by the template 'total and deterministic' (their statements: YtpbbokpmlemboaaTotals.lean).
  GIVEN WITH THE SEED: the statements are not yours to turn. If you find one false, say at which input.
  Laid BY PROGRAM, IN A SANDBOX (cutbox-rows.mjs): the forced cells as the released guide's own fill.sh prints them over the translation 1be5dce34e081f04… (all of the seat's roots in one cut). By AI agents, Wed Nov 11 2026. No macro, syntax, notation, axiom, sorry.
-/
import Derived.Test.YtpbbokpmlemboaaChecked
import GoSem.Claim
import GoSem.ClaimJoined
import GoSem.ClaimMapViews
import Derived.JoinedTies
import Derived.KernelRfl
namespace Go.Proofs.Ytpbbokpmlemboaa
/- THE CELL 'sum', in the pinned program and in every row, IS THE sha256 OF THE DUMP (.gsa) THAT YtpbbokpmlemboaaProg.lean LOADS. Nothing in Lean hashes anything: it is a label: what it is worth is what the hold of that sum in a sandbox is worth. -/
noncomputable def Try.pinned : Pinned := { name := "ytpbbokpmlemboaa", sum := "1be5dce34e081f04b0ccb248b49ced8cac32c05bc0a82396d1b72a009006489d", checked := Try.checked }
namespace Rows
def none {H : Type} : Left H := { results := [], args := [] }

/-- 'cellaretlaw14.DramKnown': WHATEVER THE INPUT: true; the input reads as it did. -/
def dramKnownSpec : ChangeSpec := { name := "dramKnown", fn := fun _ => fun
  | [] => { results := [.lit (.bool true)], args := [] }
  | _ => none }
def dramKnownRow : OpenClaim := { program := "ytpbbokpmlemboaa", sum := "1be5dce34e081f04b0ccb248b49ced8cac32c05bc0a82396d1b72a009006489d", func := "cellaret/cellaretlaw14.DramKnown", spec := "dramKnown", inPlace := ["slices.overlaps[int]"], unfollowed := true, recurses := true, apart := false }
def DramKnownSaid : Prop := dramKnownRow.holds Try.pinned (OpenSpec.ofChange dramKnownSpec)

/-- ITS FALSE NEIGHBOUR: 'it returns false'. Refute it at one input. -/
def dramKnownWrong : ChangeSpec := { name := "dramKnown", fn := fun _ => fun
  | [] => { results := [.lit (.bool false)], args := [] }
  | _ => none }
def DramKnownWrongFalsely : Prop := dramKnownRow.holds Try.pinned (OpenSpec.ofChange dramKnownWrong)

/-- 'cellaretlaw14.DramRoom': WHATEVER THE INPUT: true; the input reads as it did. -/
def dramRoomSpec : ChangeSpec := { name := "dramRoom", fn := fun _ => fun
  | [d1, d2] => { results := [.lit (.bool true)], args := [d1, d2] }
  | _ => none }
def dramRoomRow : OpenClaim := { program := "ytpbbokpmlemboaa", sum := "1be5dce34e081f04b0ccb248b49ced8cac32c05bc0a82396d1b72a009006489d", func := "cellaret/cellaretlaw14.DramRoom", spec := "dramRoom", inPlace := ["slices.overlaps[int]"], unfollowed := true, recurses := true, apart := false }
def DramRoomSaid : Prop := dramRoomRow.holds Try.pinned (OpenSpec.ofChange dramRoomSpec)

/-- ITS FALSE NEIGHBOUR: 'it returns false'. Refute it at one input. -/
def dramRoomWrong : ChangeSpec := { name := "dramRoom", fn := fun _ => fun
  | [d1, d2] => { results := [.lit (.bool false)], args := [d1, d2] }
  | _ => none }
def DramRoomWrongFalsely : Prop := dramRoomRow.holds Try.pinned (OpenSpec.ofChange dramRoomWrong)

/-- 'cellaretlaw14.DramKeeps': WHATEVER THE INPUT: true; the input reads as it did. -/
def dramKeepsSpec : ChangeSpec := { name := "dramKeeps", fn := fun _ => fun
  | [d1, d2] => { results := [.lit (.bool true)], args := [d1, d2] }
  | _ => none }
def dramKeepsRow : OpenClaim := { program := "ytpbbokpmlemboaa", sum := "1be5dce34e081f04b0ccb248b49ced8cac32c05bc0a82396d1b72a009006489d", func := "cellaret/cellaretlaw14.DramKeeps", spec := "dramKeeps", inPlace := ["slices.overlaps[int]"], unfollowed := true, recurses := true, apart := false }
def DramKeepsSaid : Prop := dramKeepsRow.holds Try.pinned (OpenSpec.ofChange dramKeepsSpec)

/-- ITS FALSE NEIGHBOUR: 'it returns false'. Refute it at one input. -/
def dramKeepsWrong : ChangeSpec := { name := "dramKeeps", fn := fun _ => fun
  | [d1, d2] => { results := [.lit (.bool false)], args := [d1, d2] }
  | _ => none }
def DramKeepsWrongFalsely : Prop := dramKeepsRow.holds Try.pinned (OpenSpec.ofChange dramKeepsWrong)

/-- 'cellaretlaw14.DramDead': WHATEVER THE INPUT: true; the input reads as it did. -/
def dramDeadSpec : ChangeSpec := { name := "dramDead", fn := fun _ => fun
  | [d1, d2] => { results := [.lit (.bool true)], args := [d1, d2] }
  | _ => none }
def dramDeadRow : OpenClaim := { program := "ytpbbokpmlemboaa", sum := "1be5dce34e081f04b0ccb248b49ced8cac32c05bc0a82396d1b72a009006489d", func := "cellaret/cellaretlaw14.DramDead", spec := "dramDead", inPlace := ["slices.overlaps[int]"], unfollowed := true, recurses := true, apart := false }
def DramDeadSaid : Prop := dramDeadRow.holds Try.pinned (OpenSpec.ofChange dramDeadSpec)

/-- ITS FALSE NEIGHBOUR: 'it returns false'. Refute it at one input. -/
def dramDeadWrong : ChangeSpec := { name := "dramDead", fn := fun _ => fun
  | [d1, d2] => { results := [.lit (.bool false)], args := [d1, d2] }
  | _ => none }
def DramDeadWrongFalsely : Prop := dramDeadRow.holds Try.pinned (OpenSpec.ofChange dramDeadWrong)

/-- 'cellaretlaw14.DramClear': WHATEVER THE INPUT: true; the input reads as it did. -/
def dramClearSpec : ChangeSpec := { name := "dramClear", fn := fun _ => fun
  | [d1, d2] => { results := [.lit (.bool true)], args := [d1, d2] }
  | _ => none }
def dramClearRow : OpenClaim := { program := "ytpbbokpmlemboaa", sum := "1be5dce34e081f04b0ccb248b49ced8cac32c05bc0a82396d1b72a009006489d", func := "cellaret/cellaretlaw14.DramClear", spec := "dramClear", inPlace := ["slices.overlaps[int]"], unfollowed := true, recurses := true, apart := false }
def DramClearSaid : Prop := dramClearRow.holds Try.pinned (OpenSpec.ofChange dramClearSpec)

/-- ITS FALSE NEIGHBOUR: 'it returns false'. Refute it at one input. -/
def dramClearWrong : ChangeSpec := { name := "dramClear", fn := fun _ => fun
  | [d1, d2] => { results := [.lit (.bool false)], args := [d1, d2] }
  | _ => none }
def DramClearWrongFalsely : Prop := dramClearRow.holds Try.pinned (OpenSpec.ofChange dramClearWrong)

/-- 'cellaretlaw14.DramUsed': WHATEVER THE INPUT: true; the input reads as it did. -/
def dramUsedSpec : ChangeSpec := { name := "dramUsed", fn := fun _ => fun
  | [d1, d2] => { results := [.lit (.bool true)], args := [d1, d2] }
  | _ => none }
def dramUsedRow : OpenClaim := { program := "ytpbbokpmlemboaa", sum := "1be5dce34e081f04b0ccb248b49ced8cac32c05bc0a82396d1b72a009006489d", func := "cellaret/cellaretlaw14.DramUsed", spec := "dramUsed", inPlace := ["slices.overlaps[int]"], unfollowed := true, recurses := true, apart := false }
def DramUsedSaid : Prop := dramUsedRow.holds Try.pinned (OpenSpec.ofChange dramUsedSpec)

/-- ITS FALSE NEIGHBOUR: 'it returns false'. Refute it at one input. -/
def dramUsedWrong : ChangeSpec := { name := "dramUsed", fn := fun _ => fun
  | [d1, d2] => { results := [.lit (.bool false)], args := [d1, d2] }
  | _ => none }
def DramUsedWrongFalsely : Prop := dramUsedRow.holds Try.pinned (OpenSpec.ofChange dramUsedWrong)

/- THE SECOND FORM. 'bulk': how many values and letters a reading holds, each counted each time it is reached (what is shared counts as often as it is met; a slice's spare places count too). A statement '..UptoSaid' is the law's where the arguments, and the package variables that the reading takes, are together of bulk at most 1048576: NARROWER than '..Said'. Prove '..Said' where nothing that the law and all that it calls make is longer than what came in: it says more and counts as full. Else prove '..UptoSaid'. A law counts once. -/
mutual
def uptoBulk {H : Type} : DataW H → Nat
  | .lit (.string bytes) => bytes.length + 1
  | .lit _ => 1
  | .nil => 1
  | .ptr d => uptoBulk d + 1
  | .slice elems spare => uptoBulkAll elems + uptoBulkAll spare + 1
  | .agg parts => uptoBulkAll parts + 1
  | .iface _ d => uptoBulk d + 1
  | .map entries => uptoBulkEntries entries + 1
  | .held _ => 1
def uptoBulkAll {H : Type} : List (DataW H) → Nat
  | [] => 0
  | d :: r => uptoBulk d + uptoBulkAll r
def uptoBulkEntries {H : Type} : List (Lit × DataW H) → Nat
  | [] => 0
  | x :: r => uptoBulkEntry x + uptoBulkEntries r
def uptoBulkEntry {H : Type} : Lit × DataW H → Nat
  | (.string bytes, d) => bytes.length + uptoBulk d + 1
  | (_, d) => uptoBulk d + 1
 end
def uptoSmall : (H : Type) → List (DataW H) → Bool := fun _ ds => decide (uptoBulkAll ds ≤ 1048576)
def OpenSpec.upto (s : _root_.Go.ChangeSpec) : _root_.Go.OpenSpec := { _root_.Go.OpenSpec.ofChange s with cond := some uptoSmall }

/-- 'cellaretlaw14.DramKnown', WHERE WHAT IT READS IS OF BULK AT MOST 1048576: true; the input reads as it did. -/
def dramKnownUptoRow : OpenClaim := { program := "ytpbbokpmlemboaa", sum := "1be5dce34e081f04b0ccb248b49ced8cac32c05bc0a82396d1b72a009006489d", func := "cellaret/cellaretlaw14.DramKnown", spec := "dramKnown", inPlace := ["slices.overlaps[int]"], unfollowed := true, recurses := true, apart := false, narrowed := true }
def DramKnownUptoSaid : Prop := dramKnownUptoRow.holds Try.pinned (OpenSpec.upto dramKnownSpec)

/-- 'cellaretlaw14.DramRoom', WHERE WHAT IT READS IS OF BULK AT MOST 1048576: true; the input reads as it did. -/
def dramRoomUptoRow : OpenClaim := { program := "ytpbbokpmlemboaa", sum := "1be5dce34e081f04b0ccb248b49ced8cac32c05bc0a82396d1b72a009006489d", func := "cellaret/cellaretlaw14.DramRoom", spec := "dramRoom", inPlace := ["slices.overlaps[int]"], unfollowed := true, recurses := true, apart := false, narrowed := true }
def DramRoomUptoSaid : Prop := dramRoomUptoRow.holds Try.pinned (OpenSpec.upto dramRoomSpec)

/-- 'cellaretlaw14.DramKeeps', WHERE WHAT IT READS IS OF BULK AT MOST 1048576: true; the input reads as it did. -/
def dramKeepsUptoRow : OpenClaim := { program := "ytpbbokpmlemboaa", sum := "1be5dce34e081f04b0ccb248b49ced8cac32c05bc0a82396d1b72a009006489d", func := "cellaret/cellaretlaw14.DramKeeps", spec := "dramKeeps", inPlace := ["slices.overlaps[int]"], unfollowed := true, recurses := true, apart := false, narrowed := true }
def DramKeepsUptoSaid : Prop := dramKeepsUptoRow.holds Try.pinned (OpenSpec.upto dramKeepsSpec)

/-- 'cellaretlaw14.DramDead', WHERE WHAT IT READS IS OF BULK AT MOST 1048576: true; the input reads as it did. -/
def dramDeadUptoRow : OpenClaim := { program := "ytpbbokpmlemboaa", sum := "1be5dce34e081f04b0ccb248b49ced8cac32c05bc0a82396d1b72a009006489d", func := "cellaret/cellaretlaw14.DramDead", spec := "dramDead", inPlace := ["slices.overlaps[int]"], unfollowed := true, recurses := true, apart := false, narrowed := true }
def DramDeadUptoSaid : Prop := dramDeadUptoRow.holds Try.pinned (OpenSpec.upto dramDeadSpec)

/-- 'cellaretlaw14.DramClear', WHERE WHAT IT READS IS OF BULK AT MOST 1048576: true; the input reads as it did. -/
def dramClearUptoRow : OpenClaim := { program := "ytpbbokpmlemboaa", sum := "1be5dce34e081f04b0ccb248b49ced8cac32c05bc0a82396d1b72a009006489d", func := "cellaret/cellaretlaw14.DramClear", spec := "dramClear", inPlace := ["slices.overlaps[int]"], unfollowed := true, recurses := true, apart := false, narrowed := true }
def DramClearUptoSaid : Prop := dramClearUptoRow.holds Try.pinned (OpenSpec.upto dramClearSpec)

/-- 'cellaretlaw14.DramUsed', WHERE WHAT IT READS IS OF BULK AT MOST 1048576: true; the input reads as it did. -/
def dramUsedUptoRow : OpenClaim := { program := "ytpbbokpmlemboaa", sum := "1be5dce34e081f04b0ccb248b49ced8cac32c05bc0a82396d1b72a009006489d", func := "cellaret/cellaretlaw14.DramUsed", spec := "dramUsed", inPlace := ["slices.overlaps[int]"], unfollowed := true, recurses := true, apart := false, narrowed := true }
def DramUsedUptoSaid : Prop := dramUsedUptoRow.holds Try.pinned (OpenSpec.upto dramUsedSpec)

end Rows
end Go.Proofs.Ytpbbokpmlemboaa
