/-
  DERIVED. GIVEN WITH THE SEED: THE CARDS: each row of YtolknnmaadkgiaaGreatDoorRows.lean that lists a variable, with what it lists TIED to the program's text (the seventh form; the later family's looks); each row that meets fmt, with fmt's text TOLD by the authors' own Lean function (tested against real Go, not proved from fmt's source: count such statements apart). THE CARD IS WHAT COUNTS. Prove the row's statement (the work); the ties are given (YtolknnmaadkgiaaGreatDoorTie.lean); close each card by the builder's one call (the guide's Derived/Test/ToyasCard.lean, 'card_holds'). Laid BY PROGRAM, IN A SANDBOX (cutbox-door.mjs). By AI agents, Wed Nov 11 2026. No macro, syntax, notation, axiom, sorry.
-/
import Derived.Test.YtolknnmaadkgiaaGreatDoorRows
import GoSem.ClaimSeven
namespace Go.Proofs.YtolknnmaadkgiaaGreatDoor
namespace Rows

/-- THE TIED CARD OF 'undercroftlaw08.VdevLog'. -/
def vdevLogCard : Claim7 := { stood := { row := vdevLogRow, standIns := [], harness := (true, "fbb4278f1a679d87a9ae89385cddf3b25d1180e2f44785d429bd01c986bd10a9"), looks := true }, kinds := [], alts := [], laidByText := true, laidKinds := [.data], laidTests := true, laidLooks := .later }
def VdevLogCardSaid : Prop := Claim7.holds Tryz.pinned (.plain (OpenSpec.ofChange vdevLogSpec)) vdevLogCard

/-- THE TIED CARD OF 'undercroftlaw08.VdevStrange'. -/
def vdevStrangeCard : Claim7 := { stood := { row := vdevStrangeRow, standIns := [], harness := (true, "fbb4278f1a679d87a9ae89385cddf3b25d1180e2f44785d429bd01c986bd10a9"), looks := true }, kinds := [], alts := [], laidByText := true, laidKinds := [.data], laidTests := true, laidLooks := .later }
def VdevStrangeCardSaid : Prop := Claim7.holds Tryz.pinned (.plain (OpenSpec.ofChange vdevStrangeSpec)) vdevStrangeCard

/-- THE TIED CARD OF 'undercroftlaw08.VdevFound'. -/
def vdevFoundCard : Claim7 := { stood := { row := vdevFoundRow, standIns := [], harness := (true, "fbb4278f1a679d87a9ae89385cddf3b25d1180e2f44785d429bd01c986bd10a9"), looks := true }, kinds := [], alts := [], laidByText := true, laidKinds := [.data, .data, .data], laidTests := true, laidLooks := .later }
def VdevFoundCardSaid : Prop := Claim7.holds Tryz.pinned (.plain (OpenSpec.ofChange vdevFoundSpec)) vdevFoundCard

/-- THE SECOND FORM's CARD OF 'undercroftlaw08.VdevLog'. -/
def vdevLogUptoCard : Claim7 := { stood := { row := vdevLogUptoRow, standIns := [], harness := (true, "fbb4278f1a679d87a9ae89385cddf3b25d1180e2f44785d429bd01c986bd10a9"), looks := true }, kinds := [], alts := [], laidByText := true, laidKinds := [.data], laidTests := true, laidLooks := .later }
def VdevLogUptoCardSaid : Prop := Claim7.holds Tryz.pinned (.plain (OpenSpec.upto vdevLogSpec)) vdevLogUptoCard

/-- THE SECOND FORM's CARD OF 'undercroftlaw08.VdevStrange'. -/
def vdevStrangeUptoCard : Claim7 := { stood := { row := vdevStrangeUptoRow, standIns := [], harness := (true, "fbb4278f1a679d87a9ae89385cddf3b25d1180e2f44785d429bd01c986bd10a9"), looks := true }, kinds := [], alts := [], laidByText := true, laidKinds := [.data], laidTests := true, laidLooks := .later }
def VdevStrangeUptoCardSaid : Prop := Claim7.holds Tryz.pinned (.plain (OpenSpec.upto vdevStrangeSpec)) vdevStrangeUptoCard

/-- THE SECOND FORM's CARD OF 'undercroftlaw08.VdevFound'. -/
def vdevFoundUptoCard : Claim7 := { stood := { row := vdevFoundUptoRow, standIns := [], harness := (true, "fbb4278f1a679d87a9ae89385cddf3b25d1180e2f44785d429bd01c986bd10a9"), looks := true }, kinds := [], alts := [], laidByText := true, laidKinds := [.data, .data, .data], laidTests := true, laidLooks := .later }
def VdevFoundUptoCardSaid : Prop := Claim7.holds Tryz.pinned (.plain (OpenSpec.upto vdevFoundSpec)) vdevFoundUptoCard
end Rows
end Go.Proofs.YtolknnmaadkgiaaGreatDoor
