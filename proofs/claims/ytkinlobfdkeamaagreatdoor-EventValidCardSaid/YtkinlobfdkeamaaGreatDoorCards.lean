/-
  DERIVED. GIVEN WITH THE SEED: THE CARDS: each row of YtkinlobfdkeamaaGreatDoorRows.lean that lists a variable, with what it lists TIED to the program's text (the seventh form; the later family's looks); each row that meets fmt, with fmt's text TOLD by the authors' own Lean function (tested against real Go, not proved from fmt's source: count such statements apart). THE CARD IS WHAT COUNTS. Prove the row's statement (the work); the ties are given (YtkinlobfdkeamaaGreatDoorTie.lean); close each card by the builder's one call (the guide's Derived/Test/ToyasCard.lean, 'card_holds'). Laid BY PROGRAM, IN A SANDBOX (cutbox-door.mjs). By AI agents, Wed Nov 11 2026. No macro, syntax, notation, axiom, sorry.
-/
import Derived.Test.YtkinlobfdkeamaaGreatDoorRows
import GoSem.ClaimSeven
namespace Go.Proofs.YtkinlobfdkeamaaGreatDoor
namespace Rows

/-- THE TIED CARD OF 'keyeventlaw14.EventHex'. -/
def eventHexCard : Claim7 := { stood := { row := eventHexRow, standIns := [], harness := (true, "d17c66dee61e4907e9d2540bc06fca410050a8e1e95b7fd600146765e85cf6b7"), looks := true }, kinds := [], alts := [], laidByText := true, laidKinds := [.data, .data, .data, .data, .sentinel, .sentinel, .pinned], laidTests := true, laidLooks := .later }
def EventHexCardSaid : Prop := Claim7.holds Tryz.pinned (.plain (OpenSpec.ofChange eventHexSpec)) eventHexCard

/-- THE TIED CARD OF 'keyeventlaw14.EventValid'. -/
def eventValidCard : Claim7 := { stood := { row := eventValidRow, standIns := [], harness := (true, "d17c66dee61e4907e9d2540bc06fca410050a8e1e95b7fd600146765e85cf6b7"), looks := true }, kinds := [], alts := [], laidByText := true, laidKinds := [.data, .data, .data, .data, .sentinel, .sentinel, .pinned], laidTests := true, laidLooks := .later }
def EventValidCardSaid : Prop := Claim7.holds Tryz.pinned (.plain (OpenSpec.ofChange eventValidSpec)) eventValidCard

/-- THE SECOND FORM's CARD OF 'keyeventlaw14.EventHex'. -/
def eventHexUptoCard : Claim7 := { stood := { row := eventHexUptoRow, standIns := [], harness := (true, "d17c66dee61e4907e9d2540bc06fca410050a8e1e95b7fd600146765e85cf6b7"), looks := true }, kinds := [], alts := [], laidByText := true, laidKinds := [.data, .data, .data, .data, .sentinel, .sentinel, .pinned], laidTests := true, laidLooks := .later }
def EventHexUptoCardSaid : Prop := Claim7.holds Tryz.pinned (.plain (OpenSpec.upto eventHexSpec)) eventHexUptoCard

/-- THE SECOND FORM's CARD OF 'keyeventlaw14.EventValid'. -/
def eventValidUptoCard : Claim7 := { stood := { row := eventValidUptoRow, standIns := [], harness := (true, "d17c66dee61e4907e9d2540bc06fca410050a8e1e95b7fd600146765e85cf6b7"), looks := true }, kinds := [], alts := [], laidByText := true, laidKinds := [.data, .data, .data, .data, .sentinel, .sentinel, .pinned], laidTests := true, laidLooks := .later }
def EventValidUptoCardSaid : Prop := Claim7.holds Tryz.pinned (.plain (OpenSpec.upto eventValidSpec)) eventValidUptoCard
end Rows
end Go.Proofs.YtkinlobfdkeamaaGreatDoor
