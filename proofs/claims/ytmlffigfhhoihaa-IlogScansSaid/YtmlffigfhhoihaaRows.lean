/-
  No cell of these rows narrows 'for every input' (looked for: loops, veiled, ifaces, maps, wideKeys, modest, calm, conditions, laid).
  DERIVED. THE GIVEN ROWS OF THIS SEAT. 4 by the template 'for every input the law returns true; each argument reads behind the call as it read before'; 0 by the template 'total and deterministic' (their statements: YtmlffigfhhoihaaTotals.lean).
  GIVEN WITH THE SEED: the statements are not yours to turn. If you find one false, say at which input.
  Laid BY PROGRAM, IN A SANDBOX (cutbox-rows.mjs): the forced cells as the released guide's own fill.sh prints them over the translation cf74475f5240e304… (all of the seat's roots in one cut). By AI agents, Wed Nov 11 2026. No macro, syntax, notation, axiom, sorry.
-/
import Derived.Test.YtmlffigfhhoihaaChecked
import GoSem.Claim
import GoSem.ClaimJoined
import GoSem.ClaimMapViews
import Derived.JoinedTies
import Derived.KernelRfl
namespace Go.Proofs.Ytmlffigfhhoihaa
/- THE CELL 'sum', in the pinned program and in every row, IS THE sha256 OF THE DUMP (.gsa) THAT YtmlffigfhhoihaaProg.lean LOADS. Nothing in Lean hashes anything: it is a label: what it is worth is what the hold of that sum in a sandbox is worth. -/
noncomputable def Try.pinned : Pinned := { name := "ytmlffigfhhoihaa", sum := "cf74475f5240e304541e2547f761ff5afbeba50abaec4912b7356f3f5974e728", checked := Try.checked }
namespace Rows
def none {H : Type} : Left H := { results := [], args := [] }

/-- 'undercroftlaw16.IlogAppends': WHATEVER THE INPUT: true; the input reads as it did. -/
def ilogAppendsSpec : ChangeSpec := { name := "ilogAppends", fn := fun _ => fun
  | [d1, d2, d3] => { results := [.lit (.bool true)], args := [d1, d2, d3] }
  | _ => none }
def ilogAppendsRow : OpenClaim := { program := "ytmlffigfhhoihaa", sum := "cf74475f5240e304541e2547f761ff5afbeba50abaec4912b7356f3f5974e728", func := "undercroft/undercroftlaw16.IlogAppends", spec := "ilogAppends", apart := false }
def IlogAppendsSaid : Prop := ilogAppendsRow.holds Try.pinned (OpenSpec.ofChange ilogAppendsSpec)

/-- ITS FALSE NEIGHBOUR: 'it returns false'. Refute it at one input. -/
def ilogAppendsWrong : ChangeSpec := { name := "ilogAppends", fn := fun _ => fun
  | [d1, d2, d3] => { results := [.lit (.bool false)], args := [d1, d2, d3] }
  | _ => none }
def IlogAppendsWrongFalsely : Prop := ilogAppendsRow.holds Try.pinned (OpenSpec.ofChange ilogAppendsWrong)

/-- 'undercroftlaw16.IlogTorn': WHATEVER THE INPUT: true; the input reads as it did. -/
def ilogTornSpec : ChangeSpec := { name := "ilogTorn", fn := fun _ => fun
  | [d1, d2, d3, d4] => { results := [.lit (.bool true)], args := [d1, d2, d3, d4] }
  | _ => none }
def ilogTornRow : OpenClaim := { program := "ytmlffigfhhoihaa", sum := "cf74475f5240e304541e2547f761ff5afbeba50abaec4912b7356f3f5974e728", func := "undercroft/undercroftlaw16.IlogTorn", spec := "ilogTorn", apart := false }
def IlogTornSaid : Prop := ilogTornRow.holds Try.pinned (OpenSpec.ofChange ilogTornSpec)

/-- ITS FALSE NEIGHBOUR: 'it returns false'. Refute it at one input. -/
def ilogTornWrong : ChangeSpec := { name := "ilogTorn", fn := fun _ => fun
  | [d1, d2, d3, d4] => { results := [.lit (.bool false)], args := [d1, d2, d3, d4] }
  | _ => none }
def IlogTornWrongFalsely : Prop := ilogTornRow.holds Try.pinned (OpenSpec.ofChange ilogTornWrong)

/-- 'undercroftlaw16.IlogScans': WHATEVER THE INPUT: true; the input reads as it did. -/
def ilogScansSpec : ChangeSpec := { name := "ilogScans", fn := fun _ => fun
  | [d1, d2, d3] => { results := [.lit (.bool true)], args := [d1, d2, d3] }
  | _ => none }
def ilogScansRow : OpenClaim := { program := "ytmlffigfhhoihaa", sum := "cf74475f5240e304541e2547f761ff5afbeba50abaec4912b7356f3f5974e728", func := "undercroft/undercroftlaw16.IlogScans", spec := "ilogScans", apart := false }
def IlogScansSaid : Prop := ilogScansRow.holds Try.pinned (OpenSpec.ofChange ilogScansSpec)

/-- ITS FALSE NEIGHBOUR: 'it returns false'. Refute it at one input. -/
def ilogScansWrong : ChangeSpec := { name := "ilogScans", fn := fun _ => fun
  | [d1, d2, d3] => { results := [.lit (.bool false)], args := [d1, d2, d3] }
  | _ => none }
def IlogScansWrongFalsely : Prop := ilogScansRow.holds Try.pinned (OpenSpec.ofChange ilogScansWrong)

/-- 'undercroftlaw16.IlogBack': WHATEVER THE INPUT: true; the input reads as it did. -/
def ilogBackSpec : ChangeSpec := { name := "ilogBack", fn := fun _ => fun
  | [d1, d2, d3] => { results := [.lit (.bool true)], args := [d1, d2, d3] }
  | _ => none }
def ilogBackRow : OpenClaim := { program := "ytmlffigfhhoihaa", sum := "cf74475f5240e304541e2547f761ff5afbeba50abaec4912b7356f3f5974e728", func := "undercroft/undercroftlaw16.IlogBack", spec := "ilogBack", apart := false }
def IlogBackSaid : Prop := ilogBackRow.holds Try.pinned (OpenSpec.ofChange ilogBackSpec)

/-- ITS FALSE NEIGHBOUR: 'it returns false'. Refute it at one input. -/
def ilogBackWrong : ChangeSpec := { name := "ilogBack", fn := fun _ => fun
  | [d1, d2, d3] => { results := [.lit (.bool false)], args := [d1, d2, d3] }
  | _ => none }
def IlogBackWrongFalsely : Prop := ilogBackRow.holds Try.pinned (OpenSpec.ofChange ilogBackWrong)

/- THE SECOND FORM. 'bulk': how many values and letters a reading holds, each counted each time it is reached (what is shared counts as often as it is met; a slice's spare places count too). A statement '..UptoSaid' is the law's where the arguments, and the package variables that the reading takes, are together of bulk at most 1048576: NARROWER than '..Said'. Prove '..Said' where nothing that the law and all that it calls make is longer than what came in: it says more and counts as full. Else prove '..UptoSaid'. A law counts once. -/
mutual
def uptoBulk {H : Type} : DataW H → Nat
  | .lit (.string bytes) => bytes.length + 1
  | .lit _ => 1
  | .nil => 1
  | .ptr d => uptoBulk d + 1
  | .slice elems spare => uptoBulkAll elems + uptoBulkAll spare + 1
  | .agg parts => uptoBulkAll parts + 1
  | .iface _ d => uptoBulk d + 1
  | .map entries => uptoBulkEntries entries + 1
  | .held _ => 1
def uptoBulkAll {H : Type} : List (DataW H) → Nat
  | [] => 0
  | d :: r => uptoBulk d + uptoBulkAll r
def uptoBulkEntries {H : Type} : List (Lit × DataW H) → Nat
  | [] => 0
  | x :: r => uptoBulkEntry x + uptoBulkEntries r
def uptoBulkEntry {H : Type} : Lit × DataW H → Nat
  | (.string bytes, d) => bytes.length + uptoBulk d + 1
  | (_, d) => uptoBulk d + 1
 end
def uptoSmall : (H : Type) → List (DataW H) → Bool := fun _ ds => decide (uptoBulkAll ds ≤ 1048576)
def OpenSpec.upto (s : _root_.Go.ChangeSpec) : _root_.Go.OpenSpec := { _root_.Go.OpenSpec.ofChange s with cond := some uptoSmall }

/-- 'undercroftlaw16.IlogAppends', WHERE WHAT IT READS IS OF BULK AT MOST 1048576: true; the input reads as it did. -/
def ilogAppendsUptoRow : OpenClaim := { program := "ytmlffigfhhoihaa", sum := "cf74475f5240e304541e2547f761ff5afbeba50abaec4912b7356f3f5974e728", func := "undercroft/undercroftlaw16.IlogAppends", spec := "ilogAppends", apart := false, narrowed := true }
def IlogAppendsUptoSaid : Prop := ilogAppendsUptoRow.holds Try.pinned (OpenSpec.upto ilogAppendsSpec)

/-- 'undercroftlaw16.IlogTorn', WHERE WHAT IT READS IS OF BULK AT MOST 1048576: true; the input reads as it did. -/
def ilogTornUptoRow : OpenClaim := { program := "ytmlffigfhhoihaa", sum := "cf74475f5240e304541e2547f761ff5afbeba50abaec4912b7356f3f5974e728", func := "undercroft/undercroftlaw16.IlogTorn", spec := "ilogTorn", apart := false, narrowed := true }
def IlogTornUptoSaid : Prop := ilogTornUptoRow.holds Try.pinned (OpenSpec.upto ilogTornSpec)

/-- 'undercroftlaw16.IlogScans', WHERE WHAT IT READS IS OF BULK AT MOST 1048576: true; the input reads as it did. -/
def ilogScansUptoRow : OpenClaim := { program := "ytmlffigfhhoihaa", sum := "cf74475f5240e304541e2547f761ff5afbeba50abaec4912b7356f3f5974e728", func := "undercroft/undercroftlaw16.IlogScans", spec := "ilogScans", apart := false, narrowed := true }
def IlogScansUptoSaid : Prop := ilogScansUptoRow.holds Try.pinned (OpenSpec.upto ilogScansSpec)

/-- 'undercroftlaw16.IlogBack', WHERE WHAT IT READS IS OF BULK AT MOST 1048576: true; the input reads as it did. -/
def ilogBackUptoRow : OpenClaim := { program := "ytmlffigfhhoihaa", sum := "cf74475f5240e304541e2547f761ff5afbeba50abaec4912b7356f3f5974e728", func := "undercroft/undercroftlaw16.IlogBack", spec := "ilogBack", apart := false, narrowed := true }
def IlogBackUptoSaid : Prop := ilogBackUptoRow.holds Try.pinned (OpenSpec.upto ilogBackSpec)

end Rows
end Go.Proofs.Ytmlffigfhhoihaa
