/-
  No cell of these rows narrows 'for every input' (looked for: loops, veiled, ifaces, maps, wideKeys, modest, calm, conditions, laid).
  DERIVED. THE GIVEN ROWS OF THIS SEAT. 4 by the template 'for every input the law returns true; each argument reads behind the call as it read before'; 0 by the template 'total and deterministic' (their statements: YtiieglfpmmhfiaaTotals.lean).
  GIVEN WITH THE SEED: the statements are not yours to turn. If you find one false, say at which input.
  Laid BY PROGRAM, IN A SANDBOX (cutbox-rows.mjs): the forced cells as the released guide's own fill.sh prints them over the translation d9683b51456d8b2b… (all of the seat's roots in one cut). By AI agents, Wed Nov 11 2026. No macro, syntax, notation, axiom, sorry.
-/
import Derived.Test.YtiieglfpmmhfiaaChecked
import GoSem.Claim
import GoSem.ClaimJoined
import GoSem.ClaimMapViews
import Derived.JoinedTies
import Derived.KernelRfl
namespace Go.Proofs.Ytiieglfpmmhfiaa
/- THE CELL 'sum', in the pinned program and in every row, IS THE sha256 OF THE DUMP (.gsa) THAT YtiieglfpmmhfiaaProg.lean LOADS. Nothing in Lean hashes anything: it is a label: what it is worth is what the hold of that sum in a sandbox is worth. -/
noncomputable def Try.pinned : Pinned := { name := "ytiieglfpmmhfiaa", sum := "d9683b51456d8b2b5005607563d2d6f2a1a22589f0e07eb60886908bf8c5d3df", checked := Try.checked }
namespace Rows
def none {H : Type} : Left H := { results := [], args := [] }

/-- 'undercroftlaw15.DictAnyOrder': WHATEVER THE INPUT: true; the input reads as it did. -/
def dictAnyOrderSpec : ChangeSpec := { name := "dictAnyOrder", fn := fun _ => fun
  | [d1, d2] => { results := [.lit (.bool true)], args := [d1, d2] }
  | _ => none }
def dictAnyOrderRow : OpenClaim := { program := "ytiieglfpmmhfiaa", sum := "d9683b51456d8b2b5005607563d2d6f2a1a22589f0e07eb60886908bf8c5d3df", func := "undercroft/undercroftlaw15.DictAnyOrder", spec := "dictAnyOrder", inPlace := ["internal/bytealg.abigen_runtime_cmpstring", "slices.overlaps[undercroft/api.Entry]"], unfollowed := true, recurses := true, apart := false }
def DictAnyOrderSaid : Prop := dictAnyOrderRow.holds Try.pinned (OpenSpec.ofChange dictAnyOrderSpec)

/-- ITS FALSE NEIGHBOUR: 'it returns false'. Refute it at one input. -/
def dictAnyOrderWrong : ChangeSpec := { name := "dictAnyOrder", fn := fun _ => fun
  | [d1, d2] => { results := [.lit (.bool false)], args := [d1, d2] }
  | _ => none }
def DictAnyOrderWrongFalsely : Prop := dictAnyOrderRow.holds Try.pinned (OpenSpec.ofChange dictAnyOrderWrong)

/-- 'undercroftlaw15.DictDoes': WHATEVER THE INPUT: true; the input reads as it did. -/
def dictDoesSpec : ChangeSpec := { name := "dictDoes", fn := fun _ => fun
  | [d] => { results := [.lit (.bool true)], args := [d] }
  | _ => none }
def dictDoesRow : OpenClaim := { program := "ytiieglfpmmhfiaa", sum := "d9683b51456d8b2b5005607563d2d6f2a1a22589f0e07eb60886908bf8c5d3df", func := "undercroft/undercroftlaw15.DictDoes", spec := "dictDoes", inPlace := ["internal/bytealg.abigen_runtime_cmpstring", "slices.overlaps[undercroft/api.Entry]"], unfollowed := true, recurses := true, apart := false }
def DictDoesSaid : Prop := dictDoesRow.holds Try.pinned (OpenSpec.ofChange dictDoesSpec)

/-- ITS FALSE NEIGHBOUR: 'it returns false'. Refute it at one input. -/
def dictDoesWrong : ChangeSpec := { name := "dictDoes", fn := fun _ => fun
  | [d] => { results := [.lit (.bool false)], args := [d] }
  | _ => none }
def DictDoesWrongFalsely : Prop := dictDoesRow.holds Try.pinned (OpenSpec.ofChange dictDoesWrong)

/-- 'undercroftlaw15.DictOpens': WHATEVER THE INPUT: true; the input reads as it did. -/
def dictOpensSpec : ChangeSpec := { name := "dictOpens", fn := fun _ => fun
  | [d1, d2, d3, d4] => { results := [.lit (.bool true)], args := [d1, d2, d3, d4] }
  | _ => none }
def dictOpensRow : OpenClaim := { program := "ytiieglfpmmhfiaa", sum := "d9683b51456d8b2b5005607563d2d6f2a1a22589f0e07eb60886908bf8c5d3df", func := "undercroft/undercroftlaw15.DictOpens", spec := "dictOpens", inPlace := ["internal/bytealg.abigen_runtime_cmpstring", "slices.overlaps[undercroft/api.Entry]"], unfollowed := true, recurses := true, apart := false }
def DictOpensSaid : Prop := dictOpensRow.holds Try.pinned (OpenSpec.ofChange dictOpensSpec)

/-- ITS FALSE NEIGHBOUR: 'it returns false'. Refute it at one input. -/
def dictOpensWrong : ChangeSpec := { name := "dictOpens", fn := fun _ => fun
  | [d1, d2, d3, d4] => { results := [.lit (.bool false)], args := [d1, d2, d3, d4] }
  | _ => none }
def DictOpensWrongFalsely : Prop := dictOpensRow.holds Try.pinned (OpenSpec.ofChange dictOpensWrong)

/-- 'undercroftlaw15.DictMaps': WHATEVER THE INPUT: true; the input reads as it did. -/
def dictMapsSpec : ChangeSpec := { name := "dictMaps", fn := fun _ => fun
  | [d1, d2] => { results := [.lit (.bool true)], args := [d1, d2] }
  | _ => none }
def dictMapsRow : OpenClaim := { program := "ytiieglfpmmhfiaa", sum := "d9683b51456d8b2b5005607563d2d6f2a1a22589f0e07eb60886908bf8c5d3df", func := "undercroft/undercroftlaw15.DictMaps", spec := "dictMaps", inPlace := ["internal/bytealg.abigen_runtime_cmpstring", "slices.overlaps[undercroft/api.Entry]"], unfollowed := true, recurses := true, apart := false }
def DictMapsSaid : Prop := dictMapsRow.holds Try.pinned (OpenSpec.ofChange dictMapsSpec)

/-- ITS FALSE NEIGHBOUR: 'it returns false'. Refute it at one input. -/
def dictMapsWrong : ChangeSpec := { name := "dictMaps", fn := fun _ => fun
  | [d1, d2] => { results := [.lit (.bool false)], args := [d1, d2] }
  | _ => none }
def DictMapsWrongFalsely : Prop := dictMapsRow.holds Try.pinned (OpenSpec.ofChange dictMapsWrong)

/- THE SECOND FORM. 'bulk': how many values and letters a reading holds, each counted each time it is reached (what is shared counts as often as it is met; a slice's spare places count too). A statement '..UptoSaid' is the law's where the arguments, and the package variables that the reading takes, are together of bulk at most 1048576: NARROWER than '..Said'. Prove '..Said' where nothing that the law and all that it calls make is longer than what came in: it says more and counts as full. Else prove '..UptoSaid'. A law counts once. -/
mutual
def uptoBulk {H : Type} : DataW H → Nat
  | .lit (.string bytes) => bytes.length + 1
  | .lit _ => 1
  | .nil => 1
  | .ptr d => uptoBulk d + 1
  | .slice elems spare => uptoBulkAll elems + uptoBulkAll spare + 1
  | .agg parts => uptoBulkAll parts + 1
  | .iface _ d => uptoBulk d + 1
  | .map entries => uptoBulkEntries entries + 1
  | .held _ => 1
def uptoBulkAll {H : Type} : List (DataW H) → Nat
  | [] => 0
  | d :: r => uptoBulk d + uptoBulkAll r
def uptoBulkEntries {H : Type} : List (Lit × DataW H) → Nat
  | [] => 0
  | x :: r => uptoBulkEntry x + uptoBulkEntries r
def uptoBulkEntry {H : Type} : Lit × DataW H → Nat
  | (.string bytes, d) => bytes.length + uptoBulk d + 1
  | (_, d) => uptoBulk d + 1
 end
def uptoSmall : (H : Type) → List (DataW H) → Bool := fun _ ds => decide (uptoBulkAll ds ≤ 1048576)
def OpenSpec.upto (s : _root_.Go.ChangeSpec) : _root_.Go.OpenSpec := { _root_.Go.OpenSpec.ofChange s with cond := some uptoSmall }

/-- 'undercroftlaw15.DictAnyOrder', WHERE WHAT IT READS IS OF BULK AT MOST 1048576: true; the input reads as it did. -/
def dictAnyOrderUptoRow : OpenClaim := { program := "ytiieglfpmmhfiaa", sum := "d9683b51456d8b2b5005607563d2d6f2a1a22589f0e07eb60886908bf8c5d3df", func := "undercroft/undercroftlaw15.DictAnyOrder", spec := "dictAnyOrder", inPlace := ["internal/bytealg.abigen_runtime_cmpstring", "slices.overlaps[undercroft/api.Entry]"], unfollowed := true, recurses := true, apart := false, narrowed := true }
def DictAnyOrderUptoSaid : Prop := dictAnyOrderUptoRow.holds Try.pinned (OpenSpec.upto dictAnyOrderSpec)

/-- 'undercroftlaw15.DictDoes', WHERE WHAT IT READS IS OF BULK AT MOST 1048576: true; the input reads as it did. -/
def dictDoesUptoRow : OpenClaim := { program := "ytiieglfpmmhfiaa", sum := "d9683b51456d8b2b5005607563d2d6f2a1a22589f0e07eb60886908bf8c5d3df", func := "undercroft/undercroftlaw15.DictDoes", spec := "dictDoes", inPlace := ["internal/bytealg.abigen_runtime_cmpstring", "slices.overlaps[undercroft/api.Entry]"], unfollowed := true, recurses := true, apart := false, narrowed := true }
def DictDoesUptoSaid : Prop := dictDoesUptoRow.holds Try.pinned (OpenSpec.upto dictDoesSpec)

/-- 'undercroftlaw15.DictOpens', WHERE WHAT IT READS IS OF BULK AT MOST 1048576: true; the input reads as it did. -/
def dictOpensUptoRow : OpenClaim := { program := "ytiieglfpmmhfiaa", sum := "d9683b51456d8b2b5005607563d2d6f2a1a22589f0e07eb60886908bf8c5d3df", func := "undercroft/undercroftlaw15.DictOpens", spec := "dictOpens", inPlace := ["internal/bytealg.abigen_runtime_cmpstring", "slices.overlaps[undercroft/api.Entry]"], unfollowed := true, recurses := true, apart := false, narrowed := true }
def DictOpensUptoSaid : Prop := dictOpensUptoRow.holds Try.pinned (OpenSpec.upto dictOpensSpec)

/-- 'undercroftlaw15.DictMaps', WHERE WHAT IT READS IS OF BULK AT MOST 1048576: true; the input reads as it did. -/
def dictMapsUptoRow : OpenClaim := { program := "ytiieglfpmmhfiaa", sum := "d9683b51456d8b2b5005607563d2d6f2a1a22589f0e07eb60886908bf8c5d3df", func := "undercroft/undercroftlaw15.DictMaps", spec := "dictMaps", inPlace := ["internal/bytealg.abigen_runtime_cmpstring", "slices.overlaps[undercroft/api.Entry]"], unfollowed := true, recurses := true, apart := false, narrowed := true }
def DictMapsUptoSaid : Prop := dictMapsUptoRow.holds Try.pinned (OpenSpec.upto dictMapsSpec)

end Rows
end Go.Proofs.Ytiieglfpmmhfiaa
