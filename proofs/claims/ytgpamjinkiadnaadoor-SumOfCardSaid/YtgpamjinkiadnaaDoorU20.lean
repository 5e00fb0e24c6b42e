/- A sum as an argument; what the six laid tables give. -/
import Derived.Test.YtgpamjinkiadnaaDoorU14
import Derived.Test.YtgpamjinkiadnaaDoorU16
import Derived.Test.YtgpamjinkiadnaaDoorBasef
namespace Go.Proofs.YtgpamjinkiadnaaDoor
open Go.RowKit Go.Uc Go.ChangeShapes Go.WideShapes

theorem cells25 : Tryd.prog.cellsOf 25 = 4 := by kernel_rfl
theorem cells23 : Tryd.prog.cellsOf 23 = 1 := by kernel_rfl
section
variable {H : Type} {enc : TypeId × Value → H} {w : World} {base : Nat} {held : Bool} {cs : List Value}
theorem u64_open (h : Rd enc Tryd.prog w base held 23 cs) : ∃ x : BitVec 64, cs = [.int .u64 (v64 x)] := by
  obtain ⟨n, e, hw⟩ := h.int Tryd.underlying23
  have hb : 0 ≤ n ∧ n ≤ 18446744073709551615 := by simpa [Lit.wf, IntKind.min, IntKind.max, IntKind.signed, IntKind.bits] using hw
  refine ⟨BitVec.ofNat 64 n.toNat, ?_⟩
  rw [e]
  unfold v64
  rw [BitVec.toNat_ofNat, Nat.mod_eq_of_lt (by omega)]
  congr 2
  omega
set_option maxRecDepth 100000 in
theorem sum_open (h : Rd enc Tryd.prog w base held 25 cs) : ∃ s : Sum4, cs = [.int .u64 (v64 s.a), .int .u64 (v64 s.b), .int .u64 (v64 s.c), .int .u64 (v64 s.d)] := by
  obtain ⟨hl, hf⟩ := h.struct Tryd.underlying25
  rw [cells25] at hl
  match cs, hl with
  | [c0, c1, c2, c3], _ =>
    have g0 : Rd enc Tryd.prog w base held 23 [c0] := by
      have h' : Rd enc Tryd.prog w base held 23 (([c0, c1, c2, c3].drop 0).take (Tryd.prog.cellsOf 23)) := hf 0 _ rfl
      rw [cells23] at h'
      exact h'
    obtain ⟨x0, e0⟩ := u64_open g0
    have g1 : Rd enc Tryd.prog w base held 23 [c1] := by
      have h' : Rd enc Tryd.prog w base held 23 (([c0, c1, c2, c3].drop 1).take (Tryd.prog.cellsOf 23)) := hf 1 _ rfl
      rw [cells23] at h'
      exact h'
    obtain ⟨x1, e1⟩ := u64_open g1
    have g2 : Rd enc Tryd.prog w base held 23 [c2] := by
      have h' : Rd enc Tryd.prog w base held 23 (([c0, c1, c2, c3].drop 2).take (Tryd.prog.cellsOf 23)) := hf 2 _ rfl
      rw [cells23] at h'
      exact h'
    obtain ⟨x2, e2⟩ := u64_open g2
    have g3 : Rd enc Tryd.prog w base held 23 [c3] := by
      have h' : Rd enc Tryd.prog w base held 23 (([c0, c1, c2, c3].drop 3).take (Tryd.prog.cellsOf 23)) := hf 3 _ rfl
      rw [cells23] at h'
      exact h'
    obtain ⟨x3, e3⟩ := u64_open g3
    exact ⟨⟨x0, x1, x2, x3⟩, by simp_all⟩
end

def firstZ : List Int := [1779033703, 3144134277, 1013904242, 2773480762, 1359893119, 2600822924, 528734635, 1541459225]
theorem first_words : (List.range 8).all (fun i => firstZ.getD i 0 == v32 (oct0.words.getD i 0)) = true := by kernel_rfl
theorem good2_of {W : World} {a c : String × DataW Unit} (h : laidMet Tryd.prog [a, ("math/bits.deBruijn64tab", Rows.laid_math_bits_deBruijn64tab), c, ("undercroft/undercroftref02.first", Rows.laid_undercroft_undercroftref02_first), ("undercroft/undercroftref02.rounds", Rows.laid_undercroft_undercroftref02_rounds), ("undercroft/sum.rounds", Rows.laid_undercroft_sum_rounds)] W) : Good2 W := by
  have h1 := laidMet.tail h
  have t1 : Lib.TabIs Tryd.prog W "math/bits.deBruijn64tab" .u8 deBruijnZ :=
    Lib.tabIs_of_head (g := 6) (t := 59) (e := 5) (n := 64) (by kernel_rfl) (by kernel_rfl) Tryd.underlying59 Tryd.underlying5 (by kernel_rfl) (by kernel_rfl) h1
  have h3 := laidMet.tail (laidMet.tail h1)
  have t3 : Lib.TabIs Tryd.prog W "undercroft/undercroftref02.first" .u32 firstZ :=
    Lib.tabIs_of_head (g := 0) (t := 55) (e := 54) (n := 8) (by kernel_rfl) (by kernel_rfl) Tryd.underlying55 Tryd.underlying54 (by kernel_rfl) (by kernel_rfl) h3
  have h4 := laidMet.tail h3
  have t4 : Lib.TabIs Tryd.prog W "undercroft/undercroftref02.rounds" .u32 roundsZ :=
    Lib.tabIs_of_head (g := 1) (t := 57) (e := 54) (n := 64) (by kernel_rfl) (by kernel_rfl) Tryd.underlying57 Tryd.underlying54 (by kernel_rfl) (by kernel_rfl) h4
  have h5 := laidMet.tail h4
  have t5 : Lib.TabIs Tryd.prog W "undercroft/sum.rounds" .u32 roundsZ :=
    Lib.tabIs_of_head (g := 2) (t := 57) (e := 54) (n := 64) (by kernel_rfl) (by kernel_rfl) Tryd.underlying57 Tryd.underlying54 (by kernel_rfl) (by kernel_rfl) h5
  refine ⟨⟨fun i hi => ?_, ?_⟩, fun i hi => ?_, fun i hi => ?_⟩
  · have hi64 : i < 64 := hi
    rw [Lib.TabIs.cell t5 (g := 2) (by kernel_rfl) i hi64]
    have := List.all_eq_true.1 rounds_words i (List.mem_range.2 hi64)
    rw [eq_of_beq this]
  · exact Lib.TabIs.cell t1 (g := 6) (by kernel_rfl) 15 (by decide)
  · have hi8 : i < 8 := hi
    rw [Lib.TabIs.cell t3 (g := 0) (by kernel_rfl) i hi8]
    have := List.all_eq_true.1 first_words i (List.mem_range.2 hi8)
    rw [eq_of_beq this]
  · have hi64 : i < 64 := hi
    rw [Lib.TabIs.cell t4 (g := 1) (by kernel_rfl) i hi64]
    have := List.all_eq_true.1 rounds_words i (List.mem_range.2 hi64)
    rw [eq_of_beq this]
#print axioms good2_of
#print axioms sum_open
end Go.Proofs.YtgpamjinkiadnaaDoor
