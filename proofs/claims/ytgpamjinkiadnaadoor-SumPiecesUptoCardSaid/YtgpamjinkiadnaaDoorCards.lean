/-
  DERIVED. GIVEN WITH THE SEED: THE CARDS: each row of YtgpamjinkiadnaaDoorRows.lean that lists a variable, with what it lists TIED to the program's text (the seventh form; the later family's looks); each row that meets fmt, with fmt's text TOLD by the authors' own Lean function (tested against real Go, not proved from fmt's source: count such statements apart). THE CARD IS WHAT COUNTS. Prove the row's statement (the work); the ties are given (YtgpamjinkiadnaaDoorTie.lean); close each card by the builder's one call (the guide's Derived/Test/ToyasCard.lean, 'card_holds'). Laid BY PROGRAM, IN A SANDBOX (cutbox-door.mjs). By AI agents, Wed Nov 11 2026. No macro, syntax, notation, axiom, sorry.
-/
import Derived.Test.YtgpamjinkiadnaaDoorRows
import GoSem.ClaimSeven
namespace Go.Proofs.YtgpamjinkiadnaaDoor
namespace Rows

/-- THE TIED CARD OF 'undercroftlaw02.SumOf'. -/
def sumOfCard : Claim7 := { stood := { row := sumOfRow, standIns := [], harness := (true, "e8031b4f68ca7b2804bad60d8487128ea9841ea79824f3289fb9db9fa98e2057"), looks := false }, kinds := [], alts := [], laidByText := true, laidKinds := [.data, .data, .data, .data, .data, .data], laidTests := true, laidLooks := .later }
def SumOfCardSaid : Prop := Claim7.holds Tryd.pinned (.plain (OpenSpec.ofChange sumOfSpec)) sumOfCard

/-- THE TIED CARD OF 'undercroftlaw02.SumCuts'. -/
def sumCutsCard : Claim7 := { stood := { row := sumCutsRow, standIns := [], harness := (true, "e8031b4f68ca7b2804bad60d8487128ea9841ea79824f3289fb9db9fa98e2057"), looks := false }, kinds := [], alts := [], laidByText := true, laidKinds := [.data, .data, .data, .data], laidTests := true, laidLooks := .later }
def SumCutsCardSaid : Prop := Claim7.holds Tryd.pinned (.plain (OpenSpec.ofChange sumCutsSpec)) sumCutsCard

/-- THE TIED CARD OF 'undercroftlaw02.SumJoins'. -/
def sumJoinsCard : Claim7 := { stood := { row := sumJoinsRow, standIns := [], harness := (true, "e8031b4f68ca7b2804bad60d8487128ea9841ea79824f3289fb9db9fa98e2057"), looks := false }, kinds := [], alts := [], laidByText := true, laidKinds := [.data, .data, .data, .data], laidTests := true, laidLooks := .later }
def SumJoinsCardSaid : Prop := Claim7.holds Tryd.pinned (.plain (OpenSpec.ofChange sumJoinsSpec)) sumJoinsCard

/-- THE TIED CARD OF 'undercroftlaw02.SumPieces'. -/
def sumPiecesCard : Claim7 := { stood := { row := sumPiecesRow, standIns := [], harness := (true, "e8031b4f68ca7b2804bad60d8487128ea9841ea79824f3289fb9db9fa98e2057"), looks := false }, kinds := [], alts := [], laidByText := true, laidKinds := [.data, .data, .data, .data], laidTests := true, laidLooks := .later }
def SumPiecesCardSaid : Prop := Claim7.holds Tryd.pinned (.plain (OpenSpec.ofChange sumPiecesSpec)) sumPiecesCard

/-- THE SECOND FORM's CARD OF 'undercroftlaw02.SumOf'. -/
def sumOfUptoCard : Claim7 := { stood := { row := sumOfUptoRow, standIns := [], harness := (true, "e8031b4f68ca7b2804bad60d8487128ea9841ea79824f3289fb9db9fa98e2057"), looks := false }, kinds := [], alts := [], laidByText := true, laidKinds := [.data, .data, .data, .data, .data, .data], laidTests := true, laidLooks := .later }
def SumOfUptoCardSaid : Prop := Claim7.holds Tryd.pinned (.plain (OpenSpec.upto sumOfSpec)) sumOfUptoCard

/-- THE SECOND FORM's CARD OF 'undercroftlaw02.SumCuts'. -/
def sumCutsUptoCard : Claim7 := { stood := { row := sumCutsUptoRow, standIns := [], harness := (true, "e8031b4f68ca7b2804bad60d8487128ea9841ea79824f3289fb9db9fa98e2057"), looks := false }, kinds := [], alts := [], laidByText := true, laidKinds := [.data, .data, .data, .data], laidTests := true, laidLooks := .later }
def SumCutsUptoCardSaid : Prop := Claim7.holds Tryd.pinned (.plain (OpenSpec.upto sumCutsSpec)) sumCutsUptoCard

/-- THE SECOND FORM's CARD OF 'undercroftlaw02.SumJoins'. -/
def sumJoinsUptoCard : Claim7 := { stood := { row := sumJoinsUptoRow, standIns := [], harness := (true, "e8031b4f68ca7b2804bad60d8487128ea9841ea79824f3289fb9db9fa98e2057"), looks := false }, kinds := [], alts := [], laidByText := true, laidKinds := [.data, .data, .data, .data], laidTests := true, laidLooks := .later }
def SumJoinsUptoCardSaid : Prop := Claim7.holds Tryd.pinned (.plain (OpenSpec.upto sumJoinsSpec)) sumJoinsUptoCard

/-- THE SECOND FORM's CARD OF 'undercroftlaw02.SumPieces'. -/
def sumPiecesUptoCard : Claim7 := { stood := { row := sumPiecesUptoRow, standIns := [], harness := (true, "e8031b4f68ca7b2804bad60d8487128ea9841ea79824f3289fb9db9fa98e2057"), looks := false }, kinds := [], alts := [], laidByText := true, laidKinds := [.data, .data, .data, .data], laidTests := true, laidLooks := .later }
def SumPiecesUptoCardSaid : Prop := Claim7.holds Tryd.pinned (.plain (OpenSpec.upto sumPiecesSpec)) sumPiecesUptoCard
end Rows
end Go.Proofs.YtgpamjinkiadnaaDoor
