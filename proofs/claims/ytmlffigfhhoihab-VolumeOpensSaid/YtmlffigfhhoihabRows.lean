/-
  No cell of these rows narrows 'for every input' (looked for: loops, veiled, ifaces, maps, wideKeys, modest, calm, conditions, laid).
  DERIVED. THE GIVEN ROWS OF THIS SEAT. 4 by the template 'for every input the law returns true; each argument reads behind the call as it read before'; 0 by the template 'total and deterministic' (their statements: YtmlffigfhhoihabTotals.lean).
  GIVEN WITH THE SEED: the statements are not yours to turn. If you find one false, say at which input.
  Laid BY PROGRAM, IN A SANDBOX (cutbox-rows.mjs): the forced cells as the released guide's own fill.sh prints them over the translation 0b5da27eeab7c6da… (all of the seat's roots in one cut). By AI agents, Wed Nov 11 2026. No macro, syntax, notation, axiom, sorry.
-/
import Derived.Test.YtmlffigfhhoihabChecked
import GoSem.Claim
import GoSem.ClaimJoined
import GoSem.ClaimMapViews
import Derived.JoinedTies
import Derived.KernelRfl
namespace Go.Proofs.Ytmlffigfhhoihab
/- THE CELL 'sum', in the pinned program and in every row, IS THE sha256 OF THE DUMP (.gsa) THAT YtmlffigfhhoihabProg.lean LOADS. Nothing in Lean hashes anything: it is a label: what it is worth is what the hold of that sum in a sandbox is worth. -/
noncomputable def Try.pinned : Pinned := { name := "ytmlffigfhhoihab", sum := "0b5da27eeab7c6da65604bb9a178704560f484f8c8d723d8c3f55af7cf7c632d", checked := Try.checked }
namespace Rows
def none {H : Type} : Left H := { results := [], args := [] }

/-- 'undercroftlaw19.VolumeApart': WHATEVER THE INPUT: true; the input reads as it did. -/
def volumeApartSpec : ChangeSpec := { name := "volumeApart", fn := fun _ => fun
  | [d1, d2, d3, d4] => { results := [.lit (.bool true)], args := [d1, d2, d3, d4] }
  | _ => none }
def volumeApartRow : OpenClaim := { program := "ytmlffigfhhoihab", sum := "0b5da27eeab7c6da65604bb9a178704560f484f8c8d723d8c3f55af7cf7c632d", func := "undercroft/undercroftlaw19.VolumeApart", spec := "volumeApart", apart := false }
def VolumeApartSaid : Prop := volumeApartRow.holds Try.pinned (OpenSpec.ofChange volumeApartSpec)

/-- ITS FALSE NEIGHBOUR: 'it returns false'. Refute it at one input. -/
def volumeApartWrong : ChangeSpec := { name := "volumeApart", fn := fun _ => fun
  | [d1, d2, d3, d4] => { results := [.lit (.bool false)], args := [d1, d2, d3, d4] }
  | _ => none }
def VolumeApartWrongFalsely : Prop := volumeApartRow.holds Try.pinned (OpenSpec.ofChange volumeApartWrong)

/-- 'undercroftlaw19.VolumeReads': WHATEVER THE INPUT: true; the input reads as it did. -/
def volumeReadsSpec : ChangeSpec := { name := "volumeReads", fn := fun _ => fun
  | [d1, d2] => { results := [.lit (.bool true)], args := [d1, d2] }
  | _ => none }
def volumeReadsRow : OpenClaim := { program := "ytmlffigfhhoihab", sum := "0b5da27eeab7c6da65604bb9a178704560f484f8c8d723d8c3f55af7cf7c632d", func := "undercroft/undercroftlaw19.VolumeReads", spec := "volumeReads", unfollowed := true, recurses := true, apart := false }
def VolumeReadsSaid : Prop := volumeReadsRow.holds Try.pinned (OpenSpec.ofChange volumeReadsSpec)

/-- ITS FALSE NEIGHBOUR: 'it returns false'. Refute it at one input. -/
def volumeReadsWrong : ChangeSpec := { name := "volumeReads", fn := fun _ => fun
  | [d1, d2] => { results := [.lit (.bool false)], args := [d1, d2] }
  | _ => none }
def VolumeReadsWrongFalsely : Prop := volumeReadsRow.holds Try.pinned (OpenSpec.ofChange volumeReadsWrong)

/-- 'undercroftlaw19.VolumeDoes': WHATEVER THE INPUT: true; the input reads as it did. -/
def volumeDoesSpec : ChangeSpec := { name := "volumeDoes", fn := fun _ => fun
  | [d1, d2] => { results := [.lit (.bool true)], args := [d1, d2] }
  | _ => none }
def volumeDoesRow : OpenClaim := { program := "ytmlffigfhhoihab", sum := "0b5da27eeab7c6da65604bb9a178704560f484f8c8d723d8c3f55af7cf7c632d", func := "undercroft/undercroftlaw19.VolumeDoes", spec := "volumeDoes", unfollowed := true, recurses := true, apart := false }
def VolumeDoesSaid : Prop := volumeDoesRow.holds Try.pinned (OpenSpec.ofChange volumeDoesSpec)

/-- ITS FALSE NEIGHBOUR: 'it returns false'. Refute it at one input. -/
def volumeDoesWrong : ChangeSpec := { name := "volumeDoes", fn := fun _ => fun
  | [d1, d2] => { results := [.lit (.bool false)], args := [d1, d2] }
  | _ => none }
def VolumeDoesWrongFalsely : Prop := volumeDoesRow.holds Try.pinned (OpenSpec.ofChange volumeDoesWrong)

/-- 'undercroftlaw19.VolumeOpens': WHATEVER THE INPUT: true; the input reads as it did. -/
def volumeOpensSpec : ChangeSpec := { name := "volumeOpens", fn := fun _ => fun
  | [d1, d2] => { results := [.lit (.bool true)], args := [d1, d2] }
  | _ => none }
def volumeOpensRow : OpenClaim := { program := "ytmlffigfhhoihab", sum := "0b5da27eeab7c6da65604bb9a178704560f484f8c8d723d8c3f55af7cf7c632d", func := "undercroft/undercroftlaw19.VolumeOpens", spec := "volumeOpens", unfollowed := true, recurses := true, apart := false }
def VolumeOpensSaid : Prop := volumeOpensRow.holds Try.pinned (OpenSpec.ofChange volumeOpensSpec)

/-- ITS FALSE NEIGHBOUR: 'it returns false'. Refute it at one input. -/
def volumeOpensWrong : ChangeSpec := { name := "volumeOpens", fn := fun _ => fun
  | [d1, d2] => { results := [.lit (.bool false)], args := [d1, d2] }
  | _ => none }
def VolumeOpensWrongFalsely : Prop := volumeOpensRow.holds Try.pinned (OpenSpec.ofChange volumeOpensWrong)

/- THE SECOND FORM. 'bulk': how many values and letters a reading holds, each counted each time it is reached (what is shared counts as often as it is met; a slice's spare places count too). A statement '..UptoSaid' is the law's where the arguments, and the package variables that the reading takes, are together of bulk at most 1048576: NARROWER than '..Said'. Prove '..Said' where nothing that the law and all that it calls make is longer than what came in: it says more and counts as full. Else prove '..UptoSaid'. A law counts once. -/
mutual
def uptoBulk {H : Type} : DataW H → Nat
  | .lit (.string bytes) => bytes.length + 1
  | .lit _ => 1
  | .nil => 1
  | .ptr d => uptoBulk d + 1
  | .slice elems spare => uptoBulkAll elems + uptoBulkAll spare + 1
  | .agg parts => uptoBulkAll parts + 1
  | .iface _ d => uptoBulk d + 1
  | .map entries => uptoBulkEntries entries + 1
  | .held _ => 1
def uptoBulkAll {H : Type} : List (DataW H) → Nat
  | [] => 0
  | d :: r => uptoBulk d + uptoBulkAll r
def uptoBulkEntries {H : Type} : List (Lit × DataW H) → Nat
  | [] => 0
  | x :: r => uptoBulkEntry x + uptoBulkEntries r
def uptoBulkEntry {H : Type} : Lit × DataW H → Nat
  | (.string bytes, d) => bytes.length + uptoBulk d + 1
  | (_, d) => uptoBulk d + 1
 end
def uptoSmall : (H : Type) → List (DataW H) → Bool := fun _ ds => decide (uptoBulkAll ds ≤ 1048576)
def OpenSpec.upto (s : _root_.Go.ChangeSpec) : _root_.Go.OpenSpec := { _root_.Go.OpenSpec.ofChange s with cond := some uptoSmall }

/-- 'undercroftlaw19.VolumeApart', WHERE WHAT IT READS IS OF BULK AT MOST 1048576: true; the input reads as it did. -/
def volumeApartUptoRow : OpenClaim := { program := "ytmlffigfhhoihab", sum := "0b5da27eeab7c6da65604bb9a178704560f484f8c8d723d8c3f55af7cf7c632d", func := "undercroft/undercroftlaw19.VolumeApart", spec := "volumeApart", apart := false, narrowed := true }
def VolumeApartUptoSaid : Prop := volumeApartUptoRow.holds Try.pinned (OpenSpec.upto volumeApartSpec)

/-- 'undercroftlaw19.VolumeReads', WHERE WHAT IT READS IS OF BULK AT MOST 1048576: true; the input reads as it did. -/
def volumeReadsUptoRow : OpenClaim := { program := "ytmlffigfhhoihab", sum := "0b5da27eeab7c6da65604bb9a178704560f484f8c8d723d8c3f55af7cf7c632d", func := "undercroft/undercroftlaw19.VolumeReads", spec := "volumeReads", unfollowed := true, recurses := true, apart := false, narrowed := true }
def VolumeReadsUptoSaid : Prop := volumeReadsUptoRow.holds Try.pinned (OpenSpec.upto volumeReadsSpec)

/-- 'undercroftlaw19.VolumeDoes', WHERE WHAT IT READS IS OF BULK AT MOST 1048576: true; the input reads as it did. -/
def volumeDoesUptoRow : OpenClaim := { program := "ytmlffigfhhoihab", sum := "0b5da27eeab7c6da65604bb9a178704560f484f8c8d723d8c3f55af7cf7c632d", func := "undercroft/undercroftlaw19.VolumeDoes", spec := "volumeDoes", unfollowed := true, recurses := true, apart := false, narrowed := true }
def VolumeDoesUptoSaid : Prop := volumeDoesUptoRow.holds Try.pinned (OpenSpec.upto volumeDoesSpec)

/-- 'undercroftlaw19.VolumeOpens', WHERE WHAT IT READS IS OF BULK AT MOST 1048576: true; the input reads as it did. -/
def volumeOpensUptoRow : OpenClaim := { program := "ytmlffigfhhoihab", sum := "0b5da27eeab7c6da65604bb9a178704560f484f8c8d723d8c3f55af7cf7c632d", func := "undercroft/undercroftlaw19.VolumeOpens", spec := "volumeOpens", unfollowed := true, recurses := true, apart := false, narrowed := true }
def VolumeOpensUptoSaid : Prop := volumeOpensUptoRow.holds Try.pinned (OpenSpec.upto volumeOpensSpec)

end Rows
end Go.Proofs.Ytmlffigfhhoihab
