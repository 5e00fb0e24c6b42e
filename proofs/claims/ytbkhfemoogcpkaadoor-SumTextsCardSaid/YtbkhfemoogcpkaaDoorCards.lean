/-
  DERIVED. GIVEN WITH THE SEED: THE CARDS: each row of YtbkhfemoogcpkaaDoorRows.lean that lists a variable, with what it lists TIED to the program's text (the seventh form; the later family's looks); each row that meets fmt, with fmt's text TOLD by the authors' own Lean function (tested against real Go, not proved from fmt's source: count such statements apart). THE CARD IS WHAT COUNTS. Prove the row's statement (the work); the ties are given (YtbkhfemoogcpkaaDoorTie.lean); close each card by the builder's one call (the guide's Derived/Test/ToyasCard.lean, 'card_holds'). Laid BY PROGRAM, IN A SANDBOX (cutbox-door.mjs). By AI agents, Wed Nov 11 2026. No macro, syntax, notation, axiom, sorry.
-/
import Derived.Test.YtbkhfemoogcpkaaDoorRows
import GoSem.ClaimSeven
namespace Go.Proofs.YtbkhfemoogcpkaaDoor
namespace Rows

/-- THE TIED CARD OF 'undercroftlaw02.SumTexts'. -/
def sumTextsCard : Claim7 := { stood := { row := sumTextsRow, standIns := [], harness := (true, "99def92a568750253ea4f504f47917a1d6d65bbb266cad76f471b0243bb07980"), looks := true }, kinds := [], alts := [], laidByText := true, laidKinds := [.data, .data, .data, .sentinel, .sentinel, .data], laidTests := true, laidLooks := .later }
def SumTextsCardSaid : Prop := Claim7.holds Tryd.pinned (.plain (OpenSpec.ofChange sumTextsSpec)) sumTextsCard

/-- THE SECOND FORM's CARD OF 'undercroftlaw02.SumTexts'. -/
def sumTextsUptoCard : Claim7 := { stood := { row := sumTextsUptoRow, standIns := [], harness := (true, "99def92a568750253ea4f504f47917a1d6d65bbb266cad76f471b0243bb07980"), looks := true }, kinds := [], alts := [], laidByText := true, laidKinds := [.data, .data, .data, .sentinel, .sentinel, .data], laidTests := true, laidLooks := .later }
def SumTextsUptoCardSaid : Prop := Claim7.holds Tryd.pinned (.plain (OpenSpec.upto sumTextsSpec)) sumTextsUptoCard
end Rows
end Go.Proofs.YtbkhfemoogcpkaaDoor
