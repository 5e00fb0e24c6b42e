/- A sum as an argument; what the laid tables and errors give. -/
import Derived.Test.YtbkhfemoogcpkaaDoorRows
import Derived.Test.YtbkhfemoogcpkaaDoorW8
import Derived.Test.YtbkhfemoogcpkaaDoorBasef
import Derived.Lib.LaidTab
import Derived.Stop.LaidErr
import Derived.LaidLaws
import Derived.MakeChecks
namespace Go.Proofs.YtbkhfemoogcpkaaDoor
set_option maxRecDepth 100000
open Go.RowKit Go.Uc Go.ChangeShapes Go.WideShapes

theorem cells24 : Tryd.prog.cellsOf 24 = 4 := by kernel_rfl
theorem cells22 : Tryd.prog.cellsOf 22 = 1 := by kernel_rfl
section
variable {H : Type} {enc : TypeId × Value → H} {w : World} {base : Nat} {held : Bool} {cs : List Value}
theorem u64_open (h : Rd enc Tryd.prog w base held 22 cs) : ∃ x : BitVec 64, cs = [.int .u64 (v64 x)] := by
  obtain ⟨n, e, hw⟩ := h.int Tryd.underlying22
  have hb : 0 ≤ n ∧ n ≤ 18446744073709551615 := by simpa [Lit.wf, IntKind.min, IntKind.max, IntKind.signed, IntKind.bits] using hw
  refine ⟨BitVec.ofNat 64 n.toNat, ?_⟩
  rw [e]
  unfold v64
  rw [BitVec.toNat_ofNat, Nat.mod_eq_of_lt (by omega)]
  congr 2
  omega
set_option maxRecDepth 100000 in
theorem sum_open (h : Rd enc Tryd.prog w base held 24 cs) : ∃ s : Sum4, cs = [.int .u64 (v64 s.a), .int .u64 (v64 s.b), .int .u64 (v64 s.c), .int .u64 (v64 s.d)] := by
  obtain ⟨hl, hf⟩ := h.struct Tryd.underlying24
  rw [cells24] at hl
  match cs, hl with
  | [c0, c1, c2, c3], _ =>
    have g0 : Rd enc Tryd.prog w base held 22 [c0] := by
      have h' : Rd enc Tryd.prog w base held 22 (([c0, c1, c2, c3].drop 0).take (Tryd.prog.cellsOf 22)) := hf 0 _ rfl
      rw [cells22] at h'
      exact h'
    obtain ⟨x0, e0⟩ := u64_open g0
    have g1 : Rd enc Tryd.prog w base held 22 [c1] := by
      have h' : Rd enc Tryd.prog w base held 22 (([c0, c1, c2, c3].drop 1).take (Tryd.prog.cellsOf 22)) := hf 1 _ rfl
      rw [cells22] at h'
      exact h'
    obtain ⟨x1, e1⟩ := u64_open g1
    have g2 : Rd enc Tryd.prog w base held 22 [c2] := by
      have h' : Rd enc Tryd.prog w base held 22 (([c0, c1, c2, c3].drop 2).take (Tryd.prog.cellsOf 22)) := hf 2 _ rfl
      rw [cells22] at h'
      exact h'
    obtain ⟨x2, e2⟩ := u64_open g2
    have g3 : Rd enc Tryd.prog w base held 22 [c3] := by
      have h' : Rd enc Tryd.prog w base held 22 (([c0, c1, c2, c3].drop 3).take (Tryd.prog.cellsOf 22)) := hf 3 _ rfl
      rw [cells22] at h'
      exact h'
    obtain ⟨x3, e3⟩ := u64_open g3
    exact ⟨⟨x0, x1, x2, x3⟩, by simp_all⟩
end


def deBruijnZ : List Int := [0, 1, 56, 2, 57, 49, 28, 3, 61, 58, 42, 50, 38, 29, 17, 4, 62, 47, 59, 36, 45, 43, 51, 22, 53, 39, 33, 30, 24, 18, 12, 5, 63, 55, 48, 27, 60, 41, 37, 16, 46, 35, 44, 21, 52, 32, 23, 11, 54, 26, 40, 15, 34, 20, 31, 10, 25, 14, 19, 9, 13, 8, 7, 6]
theorem rounds_words : (List.range 64).all (fun i => roundsZ.getD i 0 == v32 (roundsK.getD i 0)) = true := by kernel_rfl
theorem starE : "*errors.errorString" = "*" ++ "errors.errorString" := by decide
theorem rowErr (u : TypeId) (h : Tryd.prog.typeName? 3 u = some "*errors.errorString") : u = 106 :=
  typeName_ptr_named (nm := "errors.errorString") (by rw [← starE]; kernel_rfl) (by kernel_rfl) (by decide) u (by rw [← starE]; exact h)
theorem good_of {W : World} {a c d : String × DataW Unit} (h : laidMet Tryd.prog [a, ("math/bits.deBruijn64tab", Rows.laid_math_bits_deBruijn64tab), c, d, ("strconv.ErrSyntax", Rows.laid_strconv_ErrSyntax), ("undercroft/sum.rounds", Rows.laid_undercroft_sum_rounds)] W) : Good W ∧ ErrW W := by
  have h1 := laidMet.tail h
  have t1 : Lib.TabIs Tryd.prog W "math/bits.deBruijn64tab" .u8 deBruijnZ :=
    Lib.tabIs_of_head (g := 6) (t := 72) (e := 5) (n := 64) (by kernel_rfl) (by kernel_rfl) Tryd.underlying72 Tryd.underlying5 (by kernel_rfl) (by kernel_rfl) h1
  have h4 := laidMet.tail (laidMet.tail (laidMet.tail h1))
  obtain ⟨a0, s0, hv0, -⟩ := laid_sentinel (g := 2) (ti := 40) (tp := 106) h4 (by kernel_rfl) (by kernel_rfl) Tryd.underlying40 rowErr Tryd.underlying106 Tryd.underlying108 rfl rfl Tryd.underlying9 (by kernel_rfl) (by kernel_rfl)
  have h5 := laidMet.tail h4
  have t3 : Lib.TabIs Tryd.prog W "undercroft/sum.rounds" .u32 roundsZ :=
    Lib.tabIs_of_head (g := 0) (t := 70) (e := 67) (n := 64) (by kernel_rfl) (by kernel_rfl) Tryd.underlying70 Tryd.underlying67 (by kernel_rfl) (by kernel_rfl) h5
  refine ⟨⟨fun i hi => ?_, ?_⟩, 106, .pointer (some a0), ?_⟩
  · have hi64 : i < 64 := hi
    rw [Lib.TabIs.cell t3 (g := 0) (by kernel_rfl) i hi64]
    have := List.all_eq_true.1 rounds_words i (List.mem_range.2 hi64)
    rw [eq_of_beq this]
  · exact Lib.TabIs.cell t1 (g := 6) (by kernel_rfl) 15 (by decide)
  · have := World.var?_cell (show Tryd.prog.globalNamed "strconv.ErrSyntax" = some 2 by kernel_rfl) hv0 0
    simpa using this
end Go.Proofs.YtbkhfemoogcpkaaDoor
