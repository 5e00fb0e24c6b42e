/-
  DERIVED. GIVEN WITH THE SEED: THE CARDS: each row of YtipbjiepfnjojaaGreatDoorRows.lean that lists a variable, with what it lists TIED to the program's text (the seventh form; the later family's looks); each row that meets fmt, with fmt's text TOLD by the authors' own Lean function (tested against real Go, not proved from fmt's source: count such statements apart). THE CARD IS WHAT COUNTS. Prove the row's statement (the work); the ties are given (YtipbjiepfnjojaaGreatDoorTie.lean); close each card by the builder's one call (the guide's Derived/Test/ToyasCard.lean, 'card_holds'). Laid BY PROGRAM, IN A SANDBOX (cutbox-door.mjs). By AI agents, Wed Nov 11 2026. No macro, syntax, notation, axiom, sorry.
-/
import Derived.Test.YtipbjiepfnjojaaGreatDoorRows
import GoSem.ClaimSeven
namespace Go.Proofs.YtipbjiepfnjojaaGreatDoor
namespace Rows

/-- THE TIED CARD OF 'undercroftlaw05.LeafRing'. -/
def leafRingCard : Claim7 := { stood := { row := leafRingRow, standIns := [], harness := (true, "4e48970fdb0116ffce228994ed7a2c4056826fb3b1466a5972074d0b2a43d8f8"), looks := false }, kinds := [], alts := [], laidByText := true, laidKinds := [.data], laidTests := true, laidLooks := .later }
def LeafRingCardSaid : Prop := Claim7.holds Tryz.pinned (.plain (OpenSpec.ofChange leafRingSpec)) leafRingCard

/-- THE TIED CARD OF 'undercroftlaw05.LeafApart'. -/
def leafApartCard : Claim7 := { stood := { row := leafApartRow, standIns := [], harness := (true, "4e48970fdb0116ffce228994ed7a2c4056826fb3b1466a5972074d0b2a43d8f8"), looks := false }, kinds := [], alts := [], laidByText := true, laidKinds := [.data], laidTests := true, laidLooks := .later }
def LeafApartCardSaid : Prop := Claim7.holds Tryz.pinned (.plain (OpenSpec.ofChange leafApartSpec)) leafApartCard

/-- THE TIED CARD OF 'undercroftlaw05.LeafFlips'. -/
def leafFlipsCard : Claim7 := { stood := { row := leafFlipsRow, standIns := [], harness := (true, "4e48970fdb0116ffce228994ed7a2c4056826fb3b1466a5972074d0b2a43d8f8"), looks := false }, kinds := [], alts := [], laidByText := true, laidKinds := [.data], laidTests := true, laidLooks := .later }
def LeafFlipsCardSaid : Prop := Claim7.holds Tryz.pinned (.plain (OpenSpec.ofChange leafFlipsSpec)) leafFlipsCard

/-- THE SECOND FORM's CARD OF 'undercroftlaw05.LeafRing'. -/
def leafRingUptoCard : Claim7 := { stood := { row := leafRingUptoRow, standIns := [], harness := (true, "4e48970fdb0116ffce228994ed7a2c4056826fb3b1466a5972074d0b2a43d8f8"), looks := false }, kinds := [], alts := [], laidByText := true, laidKinds := [.data], laidTests := true, laidLooks := .later }
def LeafRingUptoCardSaid : Prop := Claim7.holds Tryz.pinned (.plain (OpenSpec.upto leafRingSpec)) leafRingUptoCard

/-- THE SECOND FORM's CARD OF 'undercroftlaw05.LeafApart'. -/
def leafApartUptoCard : Claim7 := { stood := { row := leafApartUptoRow, standIns := [], harness := (true, "4e48970fdb0116ffce228994ed7a2c4056826fb3b1466a5972074d0b2a43d8f8"), looks := false }, kinds := [], alts := [], laidByText := true, laidKinds := [.data], laidTests := true, laidLooks := .later }
def LeafApartUptoCardSaid : Prop := Claim7.holds Tryz.pinned (.plain (OpenSpec.upto leafApartSpec)) leafApartUptoCard

/-- THE SECOND FORM's CARD OF 'undercroftlaw05.LeafFlips'. -/
def leafFlipsUptoCard : Claim7 := { stood := { row := leafFlipsUptoRow, standIns := [], harness := (true, "4e48970fdb0116ffce228994ed7a2c4056826fb3b1466a5972074d0b2a43d8f8"), looks := false }, kinds := [], alts := [], laidByText := true, laidKinds := [.data], laidTests := true, laidLooks := .later }
def LeafFlipsUptoCardSaid : Prop := Claim7.holds Tryz.pinned (.plain (OpenSpec.upto leafFlipsSpec)) leafFlipsUptoCard
end Rows
end Go.Proofs.YtipbjiepfnjojaaGreatDoor
