/- How scripts among the arguments are read. -/
import Derived.Test.YtiieglfpmmhfiaaD32
import Derived.Test.YtiieglfpmmhfiaaBasef
namespace Go.Proofs.Ytiieglfpmmhfiaa
open Go.ChangeShapes Go.WideShapes Go.ChangeAt Go.RowKit Go.Uc

theorem cells3 : Try.prog.cellsOf 3 = 1 := by kernel_rfl
theorem cells5 : Try.prog.cellsOf 5 = 1 := by kernel_rfl
theorem cells9 : Try.prog.cellsOf 9 = 1 := by kernel_rfl
theorem cells42 : Try.prog.cellsOf 42 = 1 := by kernel_rfl
theorem cells53 : Try.prog.cellsOf 53 = 1 := by kernel_rfl
theorem cells44 : Try.prog.cellsOf 44 = 5 := by kernel_rfl
theorem rd_text' {H : Type} {enc : TypeId × Value → H} {P : Program} {w : World} {base : Nat} {held : Bool} {t : TypeId} {cs : List Value} (h : Rd enc P w base held t cs) (ht : P.underlying t = some .string) : ∃ L : List UInt8, cs = [.string (str L)] ∧ L.length ≤ 140737488355328 := by
  obtain ⟨fuel, x, h, hw⟩ := h
  obtain ⟨s, e, ex, -⟩ := DataW.trod_string ht h
  refine ⟨s.data.toList, by rw [str_data]; exact e, ?_⟩
  rw [ex] at hw
  have := hw s.data.toList.length (by simp [DataW.weights])
  simp [reachBytes] at this
  simp
  omega
section
variable {H : Type} {enc : TypeId × Value → H} {w : World} {base : Nat} {held : Bool} {cs : List Value}
/-- Pages among the arguments. -/
theorem pages_open (h : Rd enc Try.prog w base held 42 cs) : ∃ A c rs, cs = [.slice A rs.length c] ∧ PgR w A rs ∧ rs.length ≤ c ∧ rs.length ≤ 5864062014804 ∧ ∀ p ∈ rs, p.length ≤ 140737488351232 := by
  obtain ⟨A, n, c, rfl, hl, hb, hx⟩ := h.slice Try.underlying42 cells53 (by omega)
  rw [show Try.prog.bytesOf 53 = 24 from by kernel_rfl] at hb
  obtain ⟨rs, hrs, hr⟩ := gather (n := n) (Q := fun i (p : List UInt8) => (∃ b off Ai ci, A = some ⟨b, off, none⟩ ∧ w.cell? ⟨b, off + i, none⟩ = some (.slice Ai p.length ci) ∧ At w Ai p) ∧ p.length ≤ 140737488351232) (fun i hi => by
    obtain ⟨b, off, cs', rfl, hcl, hc, hr⟩ := hx i hi
    obtain ⟨Ai, ci, bs, rfl, h1, h2, h3⟩ := Rd.bytes hr Try.underlying53 Try.underlying5 cells5 (by kernel_rfl)
    have := hc 0 (by omega)
    exact ⟨bs, ⟨b, off, Ai, ci, rfl, by simpa using this, h1⟩, h3⟩)
  subst hrs
  exact ⟨A, c, rs, rfl, fun i hi => (hr i hi).1, hl, by omega, fun p hp => by obtain ⟨i, hi, rfl⟩ := List.getElem_of_mem hp; exact (hr i hi).2⟩
set_option maxRecDepth 100000 in
theorem op_open (h : Rd enc Try.prog w base held 44 cs) : ∃ (o : Og) (rs : List (List UInt8)), cs = (ogCells o).toList ∧ o.fit ∧ o.raw.n = rs.length ∧ PgR w o.raw.A rs ∧ rs.length ≤ 5864062014804 ∧ ∀ p ∈ rs, p.length ≤ 140737488351232 := by
  obtain ⟨hl, hf⟩ := h.struct Try.underlying44
  rw [cells44] at hl
  match cs, hl with
  | [c0, c1, c2, c3, c4], _ =>
    have g0 : Rd enc Try.prog w base held 3 [c0] := by
      have h' : Rd enc Try.prog w base held 3 (([c0, c1, c2, c3, c4].drop 0).take (Try.prog.cellsOf 3)) := hf 0 _ rfl
      rw [cells3] at h'
      exact h'
    have g1 : Rd enc Try.prog w base held 3 [c1] := by
      have h' : Rd enc Try.prog w base held 3 (([c0, c1, c2, c3, c4].drop 1).take (Try.prog.cellsOf 3)) := hf 1 _ rfl
      rw [cells3] at h'
      exact h'
    have g2 : Rd enc Try.prog w base held 9 [c2] := by
      have h' : Rd enc Try.prog w base held 9 (([c0, c1, c2, c3, c4].drop 2).take (Try.prog.cellsOf 9)) := hf 2 _ rfl
      rw [cells9] at h'
      exact h'
    have g3 : Rd enc Try.prog w base held 3 [c3] := by
      have h' : Rd enc Try.prog w base held 3 (([c0, c1, c2, c3, c4].drop 3).take (Try.prog.cellsOf 3)) := hf 3 _ rfl
      rw [cells3] at h'
      exact h'
    have g4 : Rd enc Try.prog w base held 42 [c4] := by
      have h' : Rd enc Try.prog w base held 42 (([c0, c1, c2, c3, c4].drop 4).take (Try.prog.cellsOf 42)) := hf 4 _ rfl
      rw [cells42] at h'
      exact h'
    obtain ⟨n0, e0, b0⟩ := Rd.i64 g0 Try.underlying3
    obtain ⟨n1, e1, b1⟩ := Rd.i64 g1 Try.underlying3
    obtain ⟨L, e2, h2⟩ := rd_text' g2 Try.underlying9
    obtain ⟨n3, e3, b3⟩ := Rd.i64 g3 Try.underlying3
    obtain ⟨A, c, rs, e4, hR, hlc, hlm, hpm⟩ := pages_open g4
    simp at e0 e1 e2 e3 e4
    subst e0 e1 e2 e3 e4
    exact ⟨⟨n0, n1, L, n3, ⟨A, rs.length, c⟩⟩, rs, rfl, ⟨b0.1, b0.2, b1.1, b1.2, h2, b3.1, b3.2⟩, rfl, hR, hlm, hpm⟩
instance : Inhabited Og := ⟨⟨0, 0, [], 0, ⟨none, 0, 0⟩⟩⟩
theorem script_open (h : Rd enc Try.prog w base held 35 cs) : ∃ A c ops, cs = [.slice A ops.length c] ∧ Script w A ops ∧ ops.length ≤ c ∧ ops.length ≤ 2199023255488 ∧ ∀ i (hi : i < ops.length), ∃ rs : List (List UInt8), ops[i].raw.n = rs.length ∧ PgR w ops[i].raw.A rs ∧ rs.length ≤ 5864062014804 ∧ ∀ p ∈ rs, p.length ≤ 140737488351232 := by
  obtain ⟨A, n, c, rfl, hl, hb, hx⟩ := h.slice Try.underlying35 cells44 (by omega)
  rw [show Try.prog.bytesOf 44 = 64 from by kernel_rfl] at hb
  obtain ⟨ops, hops, ho⟩ := gather (n := n) (Q := fun i (o : Og) => (∃ b off, A = some ⟨b, off, none⟩ ∧ (∀ j, j < 5 → w.cell? ⟨b, off + i * 5 + j, none⟩ = (ogCells o)[j]?) ∧ o.fit) ∧ ∃ rs : List (List UInt8), o.raw.n = rs.length ∧ PgR w o.raw.A rs ∧ rs.length ≤ 5864062014804 ∧ ∀ p ∈ rs, p.length ≤ 140737488351232) (fun i hi => by
    obtain ⟨b, off, cs', rfl, hcl, hc, hr⟩ := hx i hi
    obtain ⟨o, rs, rfl, hf, h1, h2, h3, h4⟩ := op_open hr
    exact ⟨o, ⟨b, off, rfl, fun j hj => by rw [hc j hj]; simp, hf⟩, rs, h1, h2, h3, h4⟩)
  subst hops
  exact ⟨A, c, ops, rfl, fun i hi => (ho i hi).1, hl, by omega, fun i hi => (ho i hi).2⟩
end
end Go.Proofs.Ytiieglfpmmhfiaa
