/- What the laid tables give. -/
import Derived.Test.YtgpamjinkiadnaaDoorRows
import Derived.Test.YtgpamjinkiadnaaDoorU12
import Derived.Lib.LaidTab
import Derived.Stop.LaidErr
import Derived.MakeChecks
namespace Go.Proofs.YtgpamjinkiadnaaDoor
open Go.RowKit Go.Uc

def deBruijnZ : List Int := [0, 1, 56, 2, 57, 49, 28, 3, 61, 58, 42, 50, 38, 29, 17, 4, 62, 47, 59, 36, 45, 43, 51, 22, 53, 39, 33, 30, 24, 18, 12, 5, 63, 55, 48, 27, 60, 41, 37, 16, 46, 35, 44, 21, 52, 32, 23, 11, 54, 26, 40, 15, 34, 20, 31, 10, 25, 14, 19, 9, 13, 8, 7, 6]
theorem rounds_words : (List.range 64).all (fun i => roundsZ.getD i 0 == v32 (roundsK.getD i 0)) = true := by kernel_rfl
theorem good_of {W : World} {a c : String × DataW Unit} (h : laidMet Tryd.prog [a, ("math/bits.deBruijn64tab", Rows.laid_math_bits_deBruijn64tab), c, ("undercroft/sum.rounds", Rows.laid_undercroft_sum_rounds)] W) : Good W := by
  have h1 := laidMet.tail h
  have t1 : Lib.TabIs Tryd.prog W "math/bits.deBruijn64tab" .u8 deBruijnZ :=
    Lib.tabIs_of_head (g := 6) (t := 59) (e := 5) (n := 64) (by kernel_rfl) (by kernel_rfl) Tryd.underlying59 Tryd.underlying5 (by kernel_rfl) (by kernel_rfl) h1
  have h3 := laidMet.tail (laidMet.tail h1)
  have t3 : Lib.TabIs Tryd.prog W "undercroft/sum.rounds" .u32 roundsZ :=
    Lib.tabIs_of_head (g := 2) (t := 57) (e := 54) (n := 64) (by kernel_rfl) (by kernel_rfl) Tryd.underlying57 Tryd.underlying54 (by kernel_rfl) (by kernel_rfl) h3
  refine ⟨fun i hi => ?_, ?_⟩
  · have hi64 : i < 64 := hi
    rw [Lib.TabIs.cell t3 (g := 2) (by kernel_rfl) i hi64]
    have := List.all_eq_true.1 rounds_words i (List.mem_range.2 hi64)
    rw [eq_of_beq this]
  · exact Lib.TabIs.cell t1 (g := 6) (by kernel_rfl) 15 (by decide)
#print axioms good_of
end Go.Proofs.YtgpamjinkiadnaaDoor
