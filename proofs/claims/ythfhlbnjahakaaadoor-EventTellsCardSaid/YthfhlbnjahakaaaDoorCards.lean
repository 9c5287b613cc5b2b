/-
  DERIVED. GIVEN WITH THE SEED: THE CARDS: each row of YthfhlbnjahakaaaDoorRows.lean that lists a variable, with what it lists TIED to the program's text (the seventh form; the later family's looks); each row that meets fmt, with fmt's text TOLD by the authors' own Lean function (tested against real Go, not proved from fmt's source: count such statements apart). THE CARD IS WHAT COUNTS. Prove the row's statement (the work); the ties are given (YthfhlbnjahakaaaDoorTie.lean); close each card by the builder's one call (the guide's Derived/Test/ToyasCard.lean, 'card_holds'). Laid BY PROGRAM, IN A SANDBOX (cutbox-door.mjs). By AI agents, Wed Nov 11 2026. No macro, syntax, notation, axiom, sorry.
-/
import Derived.Test.YthfhlbnjahakaaaDoorRows
import GoSem.ClaimSeven
namespace Go.Proofs.YthfhlbnjahakaaaDoor
namespace Rows

/-- THE TIED CARD OF 'cellaretlaw17.EventKnown'. -/
def eventKnownCard : Claim7 := { stood := { row := eventKnownRow, standIns := [], harness := (true, "2ee47cd9900e6e3bf7446ec9fbe4a7e426259fc2e9b642c6307c37525ca775dc"), looks := true }, kinds := [], alts := [], laidByText := true, laidKinds := [.data, .pinned], laidTests := true, laidLooks := .later }
def EventKnownCardSaid : Prop := Claim7.holds Tryd.pinned (.plain (OpenSpec.ofChange eventKnownSpec)) eventKnownCard

/-- THE TIED CARD OF 'cellaretlaw17.EventTells'. -/
def eventTellsCard : Claim7 := { stood := { row := eventTellsRow, standIns := [], harness := (true, "2ee47cd9900e6e3bf7446ec9fbe4a7e426259fc2e9b642c6307c37525ca775dc"), looks := true }, kinds := [], alts := [], laidByText := true, laidKinds := [.data, .pinned], laidTests := true, laidLooks := .later }
def EventTellsCardSaid : Prop := Claim7.holds Tryd.pinned (.plain (OpenSpec.ofChange eventTellsSpec)) eventTellsCard

/-- THE TIED CARD OF 'cellaretlaw17.EventOthers'. -/
def eventOthersCard : Claim7 := { stood := { row := eventOthersRow, standIns := [], harness := (true, "2ee47cd9900e6e3bf7446ec9fbe4a7e426259fc2e9b642c6307c37525ca775dc"), looks := true }, kinds := [], alts := [], laidByText := true, laidKinds := [.data, .pinned], laidTests := true, laidLooks := .later }
def EventOthersCardSaid : Prop := Claim7.holds Tryd.pinned (.plain (OpenSpec.ofChange eventOthersSpec)) eventOthersCard

/-- THE TIED CARD OF 'cellaretlaw17.EventNew'. -/
def eventNewCard : Claim7 := { stood := { row := eventNewRow, standIns := [], harness := (true, "2ee47cd9900e6e3bf7446ec9fbe4a7e426259fc2e9b642c6307c37525ca775dc"), looks := true }, kinds := [], alts := [], laidByText := true, laidKinds := [.data, .pinned], laidTests := true, laidLooks := .later }
def EventNewCardSaid : Prop := Claim7.holds Tryd.pinned (.plain (OpenSpec.ofChange eventNewSpec)) eventNewCard

/-- THE TIED CARD OF 'cellaretlaw17.EventBounds'. -/
def eventBoundsCard : Claim7 := { stood := { row := eventBoundsRow, standIns := [], harness := (true, "2ee47cd9900e6e3bf7446ec9fbe4a7e426259fc2e9b642c6307c37525ca775dc"), looks := true }, kinds := [], alts := [], laidByText := true, laidKinds := [.data, .pinned], laidTests := true, laidLooks := .later }
def EventBoundsCardSaid : Prop := Claim7.holds Tryd.pinned (.plain (OpenSpec.ofChange eventBoundsSpec)) eventBoundsCard

/-- THE SECOND FORM's CARD OF 'cellaretlaw17.EventKnown'. -/
def eventKnownUptoCard : Claim7 := { stood := { row := eventKnownUptoRow, standIns := [], harness := (true, "2ee47cd9900e6e3bf7446ec9fbe4a7e426259fc2e9b642c6307c37525ca775dc"), looks := true }, kinds := [], alts := [], laidByText := true, laidKinds := [.data, .pinned], laidTests := true, laidLooks := .later }
def EventKnownUptoCardSaid : Prop := Claim7.holds Tryd.pinned (.plain (OpenSpec.upto eventKnownSpec)) eventKnownUptoCard

/-- THE SECOND FORM's CARD OF 'cellaretlaw17.EventTells'. -/
def eventTellsUptoCard : Claim7 := { stood := { row := eventTellsUptoRow, standIns := [], harness := (true, "2ee47cd9900e6e3bf7446ec9fbe4a7e426259fc2e9b642c6307c37525ca775dc"), looks := true }, kinds := [], alts := [], laidByText := true, laidKinds := [.data, .pinned], laidTests := true, laidLooks := .later }
def EventTellsUptoCardSaid : Prop := Claim7.holds Tryd.pinned (.plain (OpenSpec.upto eventTellsSpec)) eventTellsUptoCard

/-- THE SECOND FORM's CARD OF 'cellaretlaw17.EventOthers'. -/
def eventOthersUptoCard : Claim7 := { stood := { row := eventOthersUptoRow, standIns := [], harness := (true, "2ee47cd9900e6e3bf7446ec9fbe4a7e426259fc2e9b642c6307c37525ca775dc"), looks := true }, kinds := [], alts := [], laidByText := true, laidKinds := [.data, .pinned], laidTests := true, laidLooks := .later }
def EventOthersUptoCardSaid : Prop := Claim7.holds Tryd.pinned (.plain (OpenSpec.upto eventOthersSpec)) eventOthersUptoCard

/-- THE SECOND FORM's CARD OF 'cellaretlaw17.EventNew'. -/
def eventNewUptoCard : Claim7 := { stood := { row := eventNewUptoRow, standIns := [], harness := (true, "2ee47cd9900e6e3bf7446ec9fbe4a7e426259fc2e9b642c6307c37525ca775dc"), looks := true }, kinds := [], alts := [], laidByText := true, laidKinds := [.data, .pinned], laidTests := true, laidLooks := .later }
def EventNewUptoCardSaid : Prop := Claim7.holds Tryd.pinned (.plain (OpenSpec.upto eventNewSpec)) eventNewUptoCard

/-- THE SECOND FORM's CARD OF 'cellaretlaw17.EventBounds'. -/
def eventBoundsUptoCard : Claim7 := { stood := { row := eventBoundsUptoRow, standIns := [], harness := (true, "2ee47cd9900e6e3bf7446ec9fbe4a7e426259fc2e9b642c6307c37525ca775dc"), looks := true }, kinds := [], alts := [], laidByText := true, laidKinds := [.data, .pinned], laidTests := true, laidLooks := .later }
def EventBoundsUptoCardSaid : Prop := Claim7.holds Tryd.pinned (.plain (OpenSpec.upto eventBoundsSpec)) eventBoundsUptoCard
end Rows
end Go.Proofs.YthfhlbnjahakaaaDoor
