/-
  No cell of these rows narrows 'for every input' (looked for: loops, veiled, ifaces, maps, wideKeys, modest, calm, conditions, laid).
  DERIVED. THE GIVEN ROWS OF THIS SEAT. 20 by the template 'for every input the law returns true; each argument reads behind the call as it read before'; 0 by the template 'total and deterministic' (their statements: YtpdljgjofebgpaaTotals.lean).
  GIVEN WITH THE SEED: the statements are not yours to turn. If you find one false, say at which input.
  Laid BY PROGRAM, IN A SANDBOX (cutbox-rows.mjs): the forced cells as the released guide's own fill.sh prints them over the translation 19585f8bd6146b1e… (all of the seat's roots in one cut). By AI agents, Wed Nov 11 2026. No macro, syntax, notation, axiom, sorry.
-/
import Derived.Test.YtpdljgjofebgpaaChecked
import GoSem.Claim
import GoSem.ClaimJoined
import GoSem.ClaimMapViews
import Derived.JoinedTies
import Derived.KernelRfl
namespace Go.Proofs.Ytpdljgjofebgpaa
/- THE CELL 'sum', in the pinned program and in every row, IS THE sha256 OF THE DUMP (.gsa) THAT YtpdljgjofebgpaaProg.lean LOADS. Nothing in Lean hashes anything: it is a label: what it is worth is what the hold of that sum in a sandbox is worth. -/
noncomputable def Try.pinned : Pinned := { name := "ytpdljgjofebgpaa", sum := "19585f8bd6146b1e91824493953823dd64c0c1f0e0d28e05f5de027cece095ed", checked := Try.checked }
namespace Rows
def none {H : Type} : Left H := { results := [], args := [] }

/-- 'cellaretlaw5.SuperKnown': WHATEVER THE INPUT: true; the input reads as it did. -/
def superKnownSpec : ChangeSpec := { name := "superKnown", fn := fun _ => fun
  | [] => { results := [.lit (.bool true)], args := [] }
  | _ => none }
def superKnownRow : OpenClaim := { program := "ytpdljgjofebgpaa", sum := "19585f8bd6146b1e91824493953823dd64c0c1f0e0d28e05f5de027cece095ed", func := "cellaret/cellaretlaw5.SuperKnown", spec := "superKnown", apart := false }
def SuperKnownSaid : Prop := superKnownRow.holds Try.pinned (OpenSpec.ofChange superKnownSpec)

/-- ITS FALSE NEIGHBOUR: 'it returns false'. Refute it at one input. -/
def superKnownWrong : ChangeSpec := { name := "superKnown", fn := fun _ => fun
  | [] => { results := [.lit (.bool false)], args := [] }
  | _ => none }
def SuperKnownWrongFalsely : Prop := superKnownRow.holds Try.pinned (OpenSpec.ofChange superKnownWrong)

/-- 'cellaretlaw5.SuperBytes': WHATEVER THE INPUT: true; the input reads as it did. -/
def superBytesSpec : ChangeSpec := { name := "superBytes", fn := fun _ => fun
  | [d1, d2] => { results := [.lit (.bool true)], args := [d1, d2] }
  | _ => none }
def superBytesRow : OpenClaim := { program := "ytpdljgjofebgpaa", sum := "19585f8bd6146b1e91824493953823dd64c0c1f0e0d28e05f5de027cece095ed", func := "cellaret/cellaretlaw5.SuperBytes", spec := "superBytes", apart := false }
def SuperBytesSaid : Prop := superBytesRow.holds Try.pinned (OpenSpec.ofChange superBytesSpec)

/-- ITS FALSE NEIGHBOUR: 'it returns false'. Refute it at one input. -/
def superBytesWrong : ChangeSpec := { name := "superBytes", fn := fun _ => fun
  | [d1, d2] => { results := [.lit (.bool false)], args := [d1, d2] }
  | _ => none }
def SuperBytesWrongFalsely : Prop := superBytesRow.holds Try.pinned (OpenSpec.ofChange superBytesWrong)

/-- 'cellaretlaw5.SuperTurns': WHATEVER THE INPUT: true; the input reads as it did. -/
def superTurnsSpec : ChangeSpec := { name := "superTurns", fn := fun _ => fun
  | [d] => { results := [.lit (.bool true)], args := [d] }
  | _ => none }
def superTurnsRow : OpenClaim := { program := "ytpdljgjofebgpaa", sum := "19585f8bd6146b1e91824493953823dd64c0c1f0e0d28e05f5de027cece095ed", func := "cellaret/cellaretlaw5.SuperTurns", spec := "superTurns", apart := false }
def SuperTurnsSaid : Prop := superTurnsRow.holds Try.pinned (OpenSpec.ofChange superTurnsSpec)

/-- ITS FALSE NEIGHBOUR: 'it returns false'. Refute it at one input. -/
def superTurnsWrong : ChangeSpec := { name := "superTurns", fn := fun _ => fun
  | [d] => { results := [.lit (.bool false)], args := [d] }
  | _ => none }
def SuperTurnsWrongFalsely : Prop := superTurnsRow.holds Try.pinned (OpenSpec.ofChange superTurnsWrong)

/-- 'cellaretlaw5.SuperTorn': WHATEVER THE INPUT: true; the input reads as it did. -/
def superTornSpec : ChangeSpec := { name := "superTorn", fn := fun _ => fun
  | [d1, d2, d3] => { results := [.lit (.bool true)], args := [d1, d2, d3] }
  | _ => none }
def superTornRow : OpenClaim := { program := "ytpdljgjofebgpaa", sum := "19585f8bd6146b1e91824493953823dd64c0c1f0e0d28e05f5de027cece095ed", func := "cellaret/cellaretlaw5.SuperTorn", spec := "superTorn", apart := false }
def SuperTornSaid : Prop := superTornRow.holds Try.pinned (OpenSpec.ofChange superTornSpec)

/-- ITS FALSE NEIGHBOUR: 'it returns false'. Refute it at one input. -/
def superTornWrong : ChangeSpec := { name := "superTorn", fn := fun _ => fun
  | [d1, d2, d3] => { results := [.lit (.bool false)], args := [d1, d2, d3] }
  | _ => none }
def SuperTornWrongFalsely : Prop := superTornRow.holds Try.pinned (OpenSpec.ofChange superTornWrong)

/-- 'cellaretlaw5.SuperPages': WHATEVER THE INPUT: true; the input reads as it did. -/
def superPagesSpec : ChangeSpec := { name := "superPages", fn := fun _ => fun
  | [d1, d2, d3, d4, d5] => { results := [.lit (.bool true)], args := [d1, d2, d3, d4, d5] }
  | _ => none }
def superPagesRow : OpenClaim := { program := "ytpdljgjofebgpaa", sum := "19585f8bd6146b1e91824493953823dd64c0c1f0e0d28e05f5de027cece095ed", func := "cellaret/cellaretlaw5.SuperPages", spec := "superPages", apart := false }
def SuperPagesSaid : Prop := superPagesRow.holds Try.pinned (OpenSpec.ofChange superPagesSpec)

/-- ITS FALSE NEIGHBOUR: 'it returns false'. Refute it at one input. -/
def superPagesWrong : ChangeSpec := { name := "superPages", fn := fun _ => fun
  | [d1, d2, d3, d4, d5] => { results := [.lit (.bool false)], args := [d1, d2, d3, d4, d5] }
  | _ => none }
def SuperPagesWrongFalsely : Prop := superPagesRow.holds Try.pinned (OpenSpec.ofChange superPagesWrong)

/-- 'cellaretlaw3.FlashNew': WHATEVER THE INPUT: true; the input reads as it did. -/
def flashNewSpec : ChangeSpec := { name := "flashNew", fn := fun _ => fun
  | [d1, d2, d3] => { results := [.lit (.bool true)], args := [d1, d2, d3] }
  | _ => none }
def flashNewRow : OpenClaim := { program := "ytpdljgjofebgpaa", sum := "19585f8bd6146b1e91824493953823dd64c0c1f0e0d28e05f5de027cece095ed", func := "cellaret/cellaretlaw3.FlashNew", spec := "flashNew", inPlace := ["maps.clone"], unfollowed := true, recurses := true, apart := false }
def FlashNewSaid : Prop := flashNewRow.holds Try.pinned (OpenSpec.ofChange flashNewSpec)

/-- ITS FALSE NEIGHBOUR: 'it returns false'. Refute it at one input. -/
def flashNewWrong : ChangeSpec := { name := "flashNew", fn := fun _ => fun
  | [d1, d2, d3] => { results := [.lit (.bool false)], args := [d1, d2, d3] }
  | _ => none }
def FlashNewWrongFalsely : Prop := flashNewRow.holds Try.pinned (OpenSpec.ofChange flashNewWrong)

/-- 'cellaretlaw3.FlashKnown': WHATEVER THE INPUT: true; the input reads as it did. -/
def flashKnownSpec : ChangeSpec := { name := "flashKnown", fn := fun _ => fun
  | [] => { results := [.lit (.bool true)], args := [] }
  | _ => none }
def flashKnownRow : OpenClaim := { program := "ytpdljgjofebgpaa", sum := "19585f8bd6146b1e91824493953823dd64c0c1f0e0d28e05f5de027cece095ed", func := "cellaret/cellaretlaw3.FlashKnown", spec := "flashKnown", inPlace := ["maps.clone"], unfollowed := true, recurses := true, apart := false }
def FlashKnownSaid : Prop := flashKnownRow.holds Try.pinned (OpenSpec.ofChange flashKnownSpec)

/-- ITS FALSE NEIGHBOUR: 'it returns false'. Refute it at one input. -/
def flashKnownWrong : ChangeSpec := { name := "flashKnown", fn := fun _ => fun
  | [] => { results := [.lit (.bool false)], args := [] }
  | _ => none }
def FlashKnownWrongFalsely : Prop := flashKnownRow.holds Try.pinned (OpenSpec.ofChange flashKnownWrong)

/-- 'cellaretlaw3.FlashLasts': WHATEVER THE INPUT: true; the input reads as it did. -/
def flashLastsSpec : ChangeSpec := { name := "flashLasts", fn := fun _ => fun
  | [d1, d2, d3, d4, d5] => { results := [.lit (.bool true)], args := [d1, d2, d3, d4, d5] }
  | _ => none }
def flashLastsRow : OpenClaim := { program := "ytpdljgjofebgpaa", sum := "19585f8bd6146b1e91824493953823dd64c0c1f0e0d28e05f5de027cece095ed", func := "cellaret/cellaretlaw3.FlashLasts", spec := "flashLasts", inPlace := ["maps.clone"], unfollowed := true, recurses := true, apart := false }
def FlashLastsSaid : Prop := flashLastsRow.holds Try.pinned (OpenSpec.ofChange flashLastsSpec)

/-- ITS FALSE NEIGHBOUR: 'it returns false'. Refute it at one input. -/
def flashLastsWrong : ChangeSpec := { name := "flashLasts", fn := fun _ => fun
  | [d1, d2, d3, d4, d5] => { results := [.lit (.bool false)], args := [d1, d2, d3, d4, d5] }
  | _ => none }
def FlashLastsWrongFalsely : Prop := flashLastsRow.holds Try.pinned (OpenSpec.ofChange flashLastsWrong)

/-- 'cellaretlaw3.FlashPicks': WHATEVER THE INPUT: true; the input reads as it did. -/
def flashPicksSpec : ChangeSpec := { name := "flashPicks", fn := fun _ => fun
  | [d1, d2, d3] => { results := [.lit (.bool true)], args := [d1, d2, d3] }
  | _ => none }
def flashPicksRow : OpenClaim := { program := "ytpdljgjofebgpaa", sum := "19585f8bd6146b1e91824493953823dd64c0c1f0e0d28e05f5de027cece095ed", func := "cellaret/cellaretlaw3.FlashPicks", spec := "flashPicks", inPlace := ["maps.clone"], unfollowed := true, recurses := true, apart := false }
def FlashPicksSaid : Prop := flashPicksRow.holds Try.pinned (OpenSpec.ofChange flashPicksSpec)

/-- ITS FALSE NEIGHBOUR: 'it returns false'. Refute it at one input. -/
def flashPicksWrong : ChangeSpec := { name := "flashPicks", fn := fun _ => fun
  | [d1, d2, d3] => { results := [.lit (.bool false)], args := [d1, d2, d3] }
  | _ => none }
def FlashPicksWrongFalsely : Prop := flashPicksRow.holds Try.pinned (OpenSpec.ofChange flashPicksWrong)

/-- 'cellaretlaw3.FlashArms': WHATEVER THE INPUT: true; the input reads as it did. -/
def flashArmsSpec : ChangeSpec := { name := "flashArms", fn := fun _ => fun
  | [d1, d2, d3] => { results := [.lit (.bool true)], args := [d1, d2, d3] }
  | _ => none }
def flashArmsRow : OpenClaim := { program := "ytpdljgjofebgpaa", sum := "19585f8bd6146b1e91824493953823dd64c0c1f0e0d28e05f5de027cece095ed", func := "cellaret/cellaretlaw3.FlashArms", spec := "flashArms", inPlace := ["maps.clone"], unfollowed := true, recurses := true, apart := false }
def FlashArmsSaid : Prop := flashArmsRow.holds Try.pinned (OpenSpec.ofChange flashArmsSpec)

/-- ITS FALSE NEIGHBOUR: 'it returns false'. Refute it at one input. -/
def flashArmsWrong : ChangeSpec := { name := "flashArms", fn := fun _ => fun
  | [d1, d2, d3] => { results := [.lit (.bool false)], args := [d1, d2, d3] }
  | _ => none }
def FlashArmsWrongFalsely : Prop := flashArmsRow.holds Try.pinned (OpenSpec.ofChange flashArmsWrong)

/-- 'cellaretlaw3.FlashCopies': WHATEVER THE INPUT: true; the input reads as it did. -/
def flashCopiesSpec : ChangeSpec := { name := "flashCopies", fn := fun _ => fun
  | [d1, d2, d3] => { results := [.lit (.bool true)], args := [d1, d2, d3] }
  | _ => none }
def flashCopiesRow : OpenClaim := { program := "ytpdljgjofebgpaa", sum := "19585f8bd6146b1e91824493953823dd64c0c1f0e0d28e05f5de027cece095ed", func := "cellaret/cellaretlaw3.FlashCopies", spec := "flashCopies", inPlace := ["maps.clone"], unfollowed := true, recurses := true, apart := false }
def FlashCopiesSaid : Prop := flashCopiesRow.holds Try.pinned (OpenSpec.ofChange flashCopiesSpec)

/-- ITS FALSE NEIGHBOUR: 'it returns false'. Refute it at one input. -/
def flashCopiesWrong : ChangeSpec := { name := "flashCopies", fn := fun _ => fun
  | [d1, d2, d3] => { results := [.lit (.bool false)], args := [d1, d2, d3] }
  | _ => none }
def FlashCopiesWrongFalsely : Prop := flashCopiesRow.holds Try.pinned (OpenSpec.ofChange flashCopiesWrong)

/-- 'cellaretlaw6.TombKnown': WHATEVER THE INPUT: true; the input reads as it did. -/
def tombKnownSpec : ChangeSpec := { name := "tombKnown", fn := fun _ => fun
  | [] => { results := [.lit (.bool true)], args := [] }
  | _ => none }
def tombKnownRow : OpenClaim := { program := "ytpdljgjofebgpaa", sum := "19585f8bd6146b1e91824493953823dd64c0c1f0e0d28e05f5de027cece095ed", func := "cellaret/cellaretlaw6.TombKnown", spec := "tombKnown", unfollowed := true, recurses := true, apart := false }
def TombKnownSaid : Prop := tombKnownRow.holds Try.pinned (OpenSpec.ofChange tombKnownSpec)

/-- ITS FALSE NEIGHBOUR: 'it returns false'. Refute it at one input. -/
def tombKnownWrong : ChangeSpec := { name := "tombKnown", fn := fun _ => fun
  | [] => { results := [.lit (.bool false)], args := [] }
  | _ => none }
def TombKnownWrongFalsely : Prop := tombKnownRow.holds Try.pinned (OpenSpec.ofChange tombKnownWrong)

/-- 'cellaretlaw6.TombGens': WHATEVER THE INPUT: true; the input reads as it did. -/
def tombGensSpec : ChangeSpec := { name := "tombGens", fn := fun _ => fun
  | [d1, d2, d3] => { results := [.lit (.bool true)], args := [d1, d2, d3] }
  | _ => none }
def tombGensRow : OpenClaim := { program := "ytpdljgjofebgpaa", sum := "19585f8bd6146b1e91824493953823dd64c0c1f0e0d28e05f5de027cece095ed", func := "cellaret/cellaretlaw6.TombGens", spec := "tombGens", unfollowed := true, recurses := true, apart := false }
def TombGensSaid : Prop := tombGensRow.holds Try.pinned (OpenSpec.ofChange tombGensSpec)

/-- ITS FALSE NEIGHBOUR: 'it returns false'. Refute it at one input. -/
def tombGensWrong : ChangeSpec := { name := "tombGens", fn := fun _ => fun
  | [d1, d2, d3] => { results := [.lit (.bool false)], args := [d1, d2, d3] }
  | _ => none }
def TombGensWrongFalsely : Prop := tombGensRow.holds Try.pinned (OpenSpec.ofChange tombGensWrong)

/-- 'cellaretlaw6.TombMost': WHATEVER THE INPUT: true; the input reads as it did. -/
def tombMostSpec : ChangeSpec := { name := "tombMost", fn := fun _ => fun
  | [d1, d2, d3] => { results := [.lit (.bool true)], args := [d1, d2, d3] }
  | _ => none }
def tombMostRow : OpenClaim := { program := "ytpdljgjofebgpaa", sum := "19585f8bd6146b1e91824493953823dd64c0c1f0e0d28e05f5de027cece095ed", func := "cellaret/cellaretlaw6.TombMost", spec := "tombMost", unfollowed := true, recurses := true, apart := false }
def TombMostSaid : Prop := tombMostRow.holds Try.pinned (OpenSpec.ofChange tombMostSpec)

/-- ITS FALSE NEIGHBOUR: 'it returns false'. Refute it at one input. -/
def tombMostWrong : ChangeSpec := { name := "tombMost", fn := fun _ => fun
  | [d1, d2, d3] => { results := [.lit (.bool false)], args := [d1, d2, d3] }
  | _ => none }
def TombMostWrongFalsely : Prop := tombMostRow.holds Try.pinned (OpenSpec.ofChange tombMostWrong)

/-- 'cellaretlaw6.TombPages': WHATEVER THE INPUT: true; the input reads as it did. -/
def tombPagesSpec : ChangeSpec := { name := "tombPages", fn := fun _ => fun
  | [d1, d2] => { results := [.lit (.bool true)], args := [d1, d2] }
  | _ => none }
def tombPagesRow : OpenClaim := { program := "ytpdljgjofebgpaa", sum := "19585f8bd6146b1e91824493953823dd64c0c1f0e0d28e05f5de027cece095ed", func := "cellaret/cellaretlaw6.TombPages", spec := "tombPages", unfollowed := true, recurses := true, apart := false }
def TombPagesSaid : Prop := tombPagesRow.holds Try.pinned (OpenSpec.ofChange tombPagesSpec)

/-- ITS FALSE NEIGHBOUR: 'it returns false'. Refute it at one input. -/
def tombPagesWrong : ChangeSpec := { name := "tombPages", fn := fun _ => fun
  | [d1, d2] => { results := [.lit (.bool false)], args := [d1, d2] }
  | _ => none }
def TombPagesWrongFalsely : Prop := tombPagesRow.holds Try.pinned (OpenSpec.ofChange tombPagesWrong)

/-- 'cellaretlaw6.TombDone': WHATEVER THE INPUT: true; the input reads as it did. -/
def tombDoneSpec : ChangeSpec := { name := "tombDone", fn := fun _ => fun
  | [d1, d2] => { results := [.lit (.bool true)], args := [d1, d2] }
  | _ => none }
def tombDoneRow : OpenClaim := { program := "ytpdljgjofebgpaa", sum := "19585f8bd6146b1e91824493953823dd64c0c1f0e0d28e05f5de027cece095ed", func := "cellaret/cellaretlaw6.TombDone", spec := "tombDone", unfollowed := true, recurses := true, apart := false }
def TombDoneSaid : Prop := tombDoneRow.holds Try.pinned (OpenSpec.ofChange tombDoneSpec)

/-- ITS FALSE NEIGHBOUR: 'it returns false'. Refute it at one input. -/
def tombDoneWrong : ChangeSpec := { name := "tombDone", fn := fun _ => fun
  | [d1, d2] => { results := [.lit (.bool false)], args := [d1, d2] }
  | _ => none }
def TombDoneWrongFalsely : Prop := tombDoneRow.holds Try.pinned (OpenSpec.ofChange tombDoneWrong)

/-- 'cellaretlaw5.SuperLasts': WHATEVER THE INPUT: true; the input reads as it did. -/
def superLastsSpec : ChangeSpec := { name := "superLasts", fn := fun _ => fun
  | [d1, d2, d3, d4] => { results := [.lit (.bool true)], args := [d1, d2, d3, d4] }
  | _ => none }
def superLastsRow : OpenClaim := { program := "ytpdljgjofebgpaa", sum := "19585f8bd6146b1e91824493953823dd64c0c1f0e0d28e05f5de027cece095ed", func := "cellaret/cellaretlaw5.SuperLasts", spec := "superLasts", unfollowed := true, recurses := true, apart := false }
def SuperLastsSaid : Prop := superLastsRow.holds Try.pinned (OpenSpec.ofChange superLastsSpec)

/-- ITS FALSE NEIGHBOUR: 'it returns false'. Refute it at one input. -/
def superLastsWrong : ChangeSpec := { name := "superLasts", fn := fun _ => fun
  | [d1, d2, d3, d4] => { results := [.lit (.bool false)], args := [d1, d2, d3, d4] }
  | _ => none }
def SuperLastsWrongFalsely : Prop := superLastsRow.holds Try.pinned (OpenSpec.ofChange superLastsWrong)

/-- 'cellaretlaw5.SuperPlays': WHATEVER THE INPUT: true; the input reads as it did. -/
def superPlaysSpec : ChangeSpec := { name := "superPlays", fn := fun _ => fun
  | [d] => { results := [.lit (.bool true)], args := [d] }
  | _ => none }
def superPlaysRow : OpenClaim := { program := "ytpdljgjofebgpaa", sum := "19585f8bd6146b1e91824493953823dd64c0c1f0e0d28e05f5de027cece095ed", func := "cellaret/cellaretlaw5.SuperPlays", spec := "superPlays", unfollowed := true, recurses := true, apart := false }
def SuperPlaysSaid : Prop := superPlaysRow.holds Try.pinned (OpenSpec.ofChange superPlaysSpec)

/-- ITS FALSE NEIGHBOUR: 'it returns false'. Refute it at one input. -/
def superPlaysWrong : ChangeSpec := { name := "superPlays", fn := fun _ => fun
  | [d] => { results := [.lit (.bool false)], args := [d] }
  | _ => none }
def SuperPlaysWrongFalsely : Prop := superPlaysRow.holds Try.pinned (OpenSpec.ofChange superPlaysWrong)

/-- 'cellaretlaw6.TombTorn': WHATEVER THE INPUT: true; the input reads as it did. -/
def tombTornSpec : ChangeSpec := { name := "tombTorn", fn := fun _ => fun
  | [d1, d2] => { results := [.lit (.bool true)], args := [d1, d2] }
  | _ => none }
def tombTornRow : OpenClaim := { program := "ytpdljgjofebgpaa", sum := "19585f8bd6146b1e91824493953823dd64c0c1f0e0d28e05f5de027cece095ed", func := "cellaret/cellaretlaw6.TombTorn", spec := "tombTorn", unfollowed := true, recurses := true, apart := false }
def TombTornSaid : Prop := tombTornRow.holds Try.pinned (OpenSpec.ofChange tombTornSpec)

/-- ITS FALSE NEIGHBOUR: 'it returns false'. Refute it at one input. -/
def tombTornWrong : ChangeSpec := { name := "tombTorn", fn := fun _ => fun
  | [d1, d2] => { results := [.lit (.bool false)], args := [d1, d2] }
  | _ => none }
def TombTornWrongFalsely : Prop := tombTornRow.holds Try.pinned (OpenSpec.ofChange tombTornWrong)

/-- 'cellaretlaw6.TombLasts': WHATEVER THE INPUT: true; the input reads as it did. -/
def tombLastsSpec : ChangeSpec := { name := "tombLasts", fn := fun _ => fun
  | [d1, d2, d3] => { results := [.lit (.bool true)], args := [d1, d2, d3] }
  | _ => none }
def tombLastsRow : OpenClaim := { program := "ytpdljgjofebgpaa", sum := "19585f8bd6146b1e91824493953823dd64c0c1f0e0d28e05f5de027cece095ed", func := "cellaret/cellaretlaw6.TombLasts", spec := "tombLasts", unfollowed := true, recurses := true, apart := false }
def TombLastsSaid : Prop := tombLastsRow.holds Try.pinned (OpenSpec.ofChange tombLastsSpec)

/-- ITS FALSE NEIGHBOUR: 'it returns false'. Refute it at one input. -/
def tombLastsWrong : ChangeSpec := { name := "tombLasts", fn := fun _ => fun
  | [d1, d2, d3] => { results := [.lit (.bool false)], args := [d1, d2, d3] }
  | _ => none }
def TombLastsWrongFalsely : Prop := tombLastsRow.holds Try.pinned (OpenSpec.ofChange tombLastsWrong)

/- THE SECOND FORM. 'bulk': how many values and letters a reading holds, each counted each time it is reached (what is shared counts as often as it is met; a slice's spare places count too). A statement '..UptoSaid' is the law's where the arguments, and the package variables that the reading takes, are together of bulk at most 1048576: NARROWER than '..Said'. Prove '..Said' where nothing that the law and all that it calls make is longer than what came in: it says more and counts as full. Else prove '..UptoSaid'. A law counts once. -/
mutual
def uptoBulk {H : Type} : DataW H → Nat
  | .lit (.string bytes) => bytes.length + 1
  | .lit _ => 1
  | .nil => 1
  | .ptr d => uptoBulk d + 1
  | .slice elems spare => uptoBulkAll elems + uptoBulkAll spare + 1
  | .agg parts => uptoBulkAll parts + 1
  | .iface _ d => uptoBulk d + 1
  | .map entries => uptoBulkEntries entries + 1
  | .held _ => 1
def uptoBulkAll {H : Type} : List (DataW H) → Nat
  | [] => 0
  | d :: r => uptoBulk d + uptoBulkAll r
def uptoBulkEntries {H : Type} : List (Lit × DataW H) → Nat
  | [] => 0
  | x :: r => uptoBulkEntry x + uptoBulkEntries r
def uptoBulkEntry {H : Type} : Lit × DataW H → Nat
  | (.string bytes, d) => bytes.length + uptoBulk d + 1
  | (_, d) => uptoBulk d + 1
 end
def uptoSmall : (H : Type) → List (DataW H) → Bool := fun _ ds => decide (uptoBulkAll ds ≤ 1048576)
def OpenSpec.upto (s : _root_.Go.ChangeSpec) : _root_.Go.OpenSpec := { _root_.Go.OpenSpec.ofChange s with cond := some uptoSmall }

/-- 'cellaretlaw5.SuperKnown', WHERE WHAT IT READS IS OF BULK AT MOST 1048576: true; the input reads as it did. -/
def superKnownUptoRow : OpenClaim := { program := "ytpdljgjofebgpaa", sum := "19585f8bd6146b1e91824493953823dd64c0c1f0e0d28e05f5de027cece095ed", func := "cellaret/cellaretlaw5.SuperKnown", spec := "superKnown", apart := false, narrowed := true }
def SuperKnownUptoSaid : Prop := superKnownUptoRow.holds Try.pinned (OpenSpec.upto superKnownSpec)

/-- 'cellaretlaw5.SuperBytes', WHERE WHAT IT READS IS OF BULK AT MOST 1048576: true; the input reads as it did. -/
def superBytesUptoRow : OpenClaim := { program := "ytpdljgjofebgpaa", sum := "19585f8bd6146b1e91824493953823dd64c0c1f0e0d28e05f5de027cece095ed", func := "cellaret/cellaretlaw5.SuperBytes", spec := "superBytes", apart := false, narrowed := true }
def SuperBytesUptoSaid : Prop := superBytesUptoRow.holds Try.pinned (OpenSpec.upto superBytesSpec)

/-- 'cellaretlaw5.SuperTurns', WHERE WHAT IT READS IS OF BULK AT MOST 1048576: true; the input reads as it did. -/
def superTurnsUptoRow : OpenClaim := { program := "ytpdljgjofebgpaa", sum := "19585f8bd6146b1e91824493953823dd64c0c1f0e0d28e05f5de027cece095ed", func := "cellaret/cellaretlaw5.SuperTurns", spec := "superTurns", apart := false, narrowed := true }
def SuperTurnsUptoSaid : Prop := superTurnsUptoRow.holds Try.pinned (OpenSpec.upto superTurnsSpec)

/-- 'cellaretlaw5.SuperTorn', WHERE WHAT IT READS IS OF BULK AT MOST 1048576: true; the input reads as it did. -/
def superTornUptoRow : OpenClaim := { program := "ytpdljgjofebgpaa", sum := "19585f8bd6146b1e91824493953823dd64c0c1f0e0d28e05f5de027cece095ed", func := "cellaret/cellaretlaw5.SuperTorn", spec := "superTorn", apart := false, narrowed := true }
def SuperTornUptoSaid : Prop := superTornUptoRow.holds Try.pinned (OpenSpec.upto superTornSpec)

/-- 'cellaretlaw5.SuperPages', WHERE WHAT IT READS IS OF BULK AT MOST 1048576: true; the input reads as it did. -/
def superPagesUptoRow : OpenClaim := { program := "ytpdljgjofebgpaa", sum := "19585f8bd6146b1e91824493953823dd64c0c1f0e0d28e05f5de027cece095ed", func := "cellaret/cellaretlaw5.SuperPages", spec := "superPages", apart := false, narrowed := true }
def SuperPagesUptoSaid : Prop := superPagesUptoRow.holds Try.pinned (OpenSpec.upto superPagesSpec)

/-- 'cellaretlaw3.FlashNew', WHERE WHAT IT READS IS OF BULK AT MOST 1048576: true; the input reads as it did. -/
def flashNewUptoRow : OpenClaim := { program := "ytpdljgjofebgpaa", sum := "19585f8bd6146b1e91824493953823dd64c0c1f0e0d28e05f5de027cece095ed", func := "cellaret/cellaretlaw3.FlashNew", spec := "flashNew", inPlace := ["maps.clone"], unfollowed := true, recurses := true, apart := false, narrowed := true }
def FlashNewUptoSaid : Prop := flashNewUptoRow.holds Try.pinned (OpenSpec.upto flashNewSpec)

/-- 'cellaretlaw3.FlashKnown', WHERE WHAT IT READS IS OF BULK AT MOST 1048576: true; the input reads as it did. -/
def flashKnownUptoRow : OpenClaim := { program := "ytpdljgjofebgpaa", sum := "19585f8bd6146b1e91824493953823dd64c0c1f0e0d28e05f5de027cece095ed", func := "cellaret/cellaretlaw3.FlashKnown", spec := "flashKnown", inPlace := ["maps.clone"], unfollowed := true, recurses := true, apart := false, narrowed := true }
def FlashKnownUptoSaid : Prop := flashKnownUptoRow.holds Try.pinned (OpenSpec.upto flashKnownSpec)

/-- 'cellaretlaw3.FlashLasts', WHERE WHAT IT READS IS OF BULK AT MOST 1048576: true; the input reads as it did. -/
def flashLastsUptoRow : OpenClaim := { program := "ytpdljgjofebgpaa", sum := "19585f8bd6146b1e91824493953823dd64c0c1f0e0d28e05f5de027cece095ed", func := "cellaret/cellaretlaw3.FlashLasts", spec := "flashLasts", inPlace := ["maps.clone"], unfollowed := true, recurses := true, apart := false, narrowed := true }
def FlashLastsUptoSaid : Prop := flashLastsUptoRow.holds Try.pinned (OpenSpec.upto flashLastsSpec)

/-- 'cellaretlaw3.FlashPicks', WHERE WHAT IT READS IS OF BULK AT MOST 1048576: true; the input reads as it did. -/
def flashPicksUptoRow : OpenClaim := { program := "ytpdljgjofebgpaa", sum := "19585f8bd6146b1e91824493953823dd64c0c1f0e0d28e05f5de027cece095ed", func := "cellaret/cellaretlaw3.FlashPicks", spec := "flashPicks", inPlace := ["maps.clone"], unfollowed := true, recurses := true, apart := false, narrowed := true }
def FlashPicksUptoSaid : Prop := flashPicksUptoRow.holds Try.pinned (OpenSpec.upto flashPicksSpec)

/-- 'cellaretlaw3.FlashArms', WHERE WHAT IT READS IS OF BULK AT MOST 1048576: true; the input reads as it did. -/
def flashArmsUptoRow : OpenClaim := { program := "ytpdljgjofebgpaa", sum := "19585f8bd6146b1e91824493953823dd64c0c1f0e0d28e05f5de027cece095ed", func := "cellaret/cellaretlaw3.FlashArms", spec := "flashArms", inPlace := ["maps.clone"], unfollowed := true, recurses := true, apart := false, narrowed := true }
def FlashArmsUptoSaid : Prop := flashArmsUptoRow.holds Try.pinned (OpenSpec.upto flashArmsSpec)

/-- 'cellaretlaw3.FlashCopies', WHERE WHAT IT READS IS OF BULK AT MOST 1048576: true; the input reads as it did. -/
def flashCopiesUptoRow : OpenClaim := { program := "ytpdljgjofebgpaa", sum := "19585f8bd6146b1e91824493953823dd64c0c1f0e0d28e05f5de027cece095ed", func := "cellaret/cellaretlaw3.FlashCopies", spec := "flashCopies", inPlace := ["maps.clone"], unfollowed := true, recurses := true, apart := false, narrowed := true }
def FlashCopiesUptoSaid : Prop := flashCopiesUptoRow.holds Try.pinned (OpenSpec.upto flashCopiesSpec)

/-- 'cellaretlaw6.TombKnown', WHERE WHAT IT READS IS OF BULK AT MOST 1048576: true; the input reads as it did. -/
def tombKnownUptoRow : OpenClaim := { program := "ytpdljgjofebgpaa", sum := "19585f8bd6146b1e91824493953823dd64c0c1f0e0d28e05f5de027cece095ed", func := "cellaret/cellaretlaw6.TombKnown", spec := "tombKnown", unfollowed := true, recurses := true, apart := false, narrowed := true }
def TombKnownUptoSaid : Prop := tombKnownUptoRow.holds Try.pinned (OpenSpec.upto tombKnownSpec)

/-- 'cellaretlaw6.TombGens', WHERE WHAT IT READS IS OF BULK AT MOST 1048576: true; the input reads as it did. -/
def tombGensUptoRow : OpenClaim := { program := "ytpdljgjofebgpaa", sum := "19585f8bd6146b1e91824493953823dd64c0c1f0e0d28e05f5de027cece095ed", func := "cellaret/cellaretlaw6.TombGens", spec := "tombGens", unfollowed := true, recurses := true, apart := false, narrowed := true }
def TombGensUptoSaid : Prop := tombGensUptoRow.holds Try.pinned (OpenSpec.upto tombGensSpec)

/-- 'cellaretlaw6.TombMost', WHERE WHAT IT READS IS OF BULK AT MOST 1048576: true; the input reads as it did. -/
def tombMostUptoRow : OpenClaim := { program := "ytpdljgjofebgpaa", sum := "19585f8bd6146b1e91824493953823dd64c0c1f0e0d28e05f5de027cece095ed", func := "cellaret/cellaretlaw6.TombMost", spec := "tombMost", unfollowed := true, recurses := true, apart := false, narrowed := true }
def TombMostUptoSaid : Prop := tombMostUptoRow.holds Try.pinned (OpenSpec.upto tombMostSpec)

/-- 'cellaretlaw6.TombPages', WHERE WHAT IT READS IS OF BULK AT MOST 1048576: true; the input reads as it did. -/
def tombPagesUptoRow : OpenClaim := { program := "ytpdljgjofebgpaa", sum := "19585f8bd6146b1e91824493953823dd64c0c1f0e0d28e05f5de027cece095ed", func := "cellaret/cellaretlaw6.TombPages", spec := "tombPages", unfollowed := true, recurses := true, apart := false, narrowed := true }
def TombPagesUptoSaid : Prop := tombPagesUptoRow.holds Try.pinned (OpenSpec.upto tombPagesSpec)

/-- 'cellaretlaw6.TombDone', WHERE WHAT IT READS IS OF BULK AT MOST 1048576: true; the input reads as it did. -/
def tombDoneUptoRow : OpenClaim := { program := "ytpdljgjofebgpaa", sum := "19585f8bd6146b1e91824493953823dd64c0c1f0e0d28e05f5de027cece095ed", func := "cellaret/cellaretlaw6.TombDone", spec := "tombDone", unfollowed := true, recurses := true, apart := false, narrowed := true }
def TombDoneUptoSaid : Prop := tombDoneUptoRow.holds Try.pinned (OpenSpec.upto tombDoneSpec)

/-- 'cellaretlaw5.SuperLasts', WHERE WHAT IT READS IS OF BULK AT MOST 1048576: true; the input reads as it did. -/
def superLastsUptoRow : OpenClaim := { program := "ytpdljgjofebgpaa", sum := "19585f8bd6146b1e91824493953823dd64c0c1f0e0d28e05f5de027cece095ed", func := "cellaret/cellaretlaw5.SuperLasts", spec := "superLasts", unfollowed := true, recurses := true, apart := false, narrowed := true }
def SuperLastsUptoSaid : Prop := superLastsUptoRow.holds Try.pinned (OpenSpec.upto superLastsSpec)

/-- 'cellaretlaw5.SuperPlays', WHERE WHAT IT READS IS OF BULK AT MOST 1048576: true; the input reads as it did. -/
def superPlaysUptoRow : OpenClaim := { program := "ytpdljgjofebgpaa", sum := "19585f8bd6146b1e91824493953823dd64c0c1f0e0d28e05f5de027cece095ed", func := "cellaret/cellaretlaw5.SuperPlays", spec := "superPlays", unfollowed := true, recurses := true, apart := false, narrowed := true }
def SuperPlaysUptoSaid : Prop := superPlaysUptoRow.holds Try.pinned (OpenSpec.upto superPlaysSpec)

/-- 'cellaretlaw6.TombTorn', WHERE WHAT IT READS IS OF BULK AT MOST 1048576: true; the input reads as it did. -/
def tombTornUptoRow : OpenClaim := { program := "ytpdljgjofebgpaa", sum := "19585f8bd6146b1e91824493953823dd64c0c1f0e0d28e05f5de027cece095ed", func := "cellaret/cellaretlaw6.TombTorn", spec := "tombTorn", unfollowed := true, recurses := true, apart := false, narrowed := true }
def TombTornUptoSaid : Prop := tombTornUptoRow.holds Try.pinned (OpenSpec.upto tombTornSpec)

/-- 'cellaretlaw6.TombLasts', WHERE WHAT IT READS IS OF BULK AT MOST 1048576: true; the input reads as it did. -/
def tombLastsUptoRow : OpenClaim := { program := "ytpdljgjofebgpaa", sum := "19585f8bd6146b1e91824493953823dd64c0c1f0e0d28e05f5de027cece095ed", func := "cellaret/cellaretlaw6.TombLasts", spec := "tombLasts", unfollowed := true, recurses := true, apart := false, narrowed := true }
def TombLastsUptoSaid : Prop := tombLastsUptoRow.holds Try.pinned (OpenSpec.upto tombLastsSpec)

end Rows
end Go.Proofs.Ytpdljgjofebgpaa
