/- How scripts among the arguments are read. -/
import Derived.Test.YtmlffigfhhoihacS11
import Derived.Test.YtmlffigfhhoihacBasef
namespace Go.Proofs.Ytmlffigfhhoihac
open Go.RowKit Go.Uc

theorem cells3 : Try.prog.cellsOf 3 = 1 := by kernel_rfl
theorem cells27 : Try.prog.cellsOf 27 = 1 := by kernel_rfl
theorem cells9 : Try.prog.cellsOf 9 = 1 := by kernel_rfl
theorem cells28 : Try.prog.cellsOf 28 = 1 := by kernel_rfl
theorem cells29 : Try.prog.cellsOf 29 = 1 := by kernel_rfl
theorem cells26 : Try.prog.cellsOf 26 = 1 := by kernel_rfl
theorem cells31 : Try.prog.cellsOf 31 = 7 := by kernel_rfl
theorem cells33 : Try.prog.cellsOf 33 = 10 := by kernel_rfl
theorem cells5 : Try.prog.cellsOf 5 = 1 := by kernel_rfl
instance : Inhabited Rp := ⟨Rp.none⟩
instance : Inhabited Opn := ⟨⟨0, 0, Rp.none, []⟩⟩

section
variable {H : Type} {enc : TypeId × Value → H} {w : World} {base : Nat} {held : Bool} {cs : List Value}
set_option maxRecDepth 100000 in
theorem reply_open (h : Rd enc Try.prog w base held 31 cs) : ∃ r l d, cs = [.int .i64 r.ses, .int .i64 r.id, .int .i64 r.err, .int .i64 r.num, .string r.text, l, d] ∧ RdR w l d r ∧ RpB r ∧ I64 r.ses ∧ I64 r.id := by
  obtain ⟨hl, hf⟩ := h.struct Try.underlying31
  rw [cells31] at hl
  match cs, hl with
  | [c0, c1, c2, c3, c4, c5, c6], _ =>
    have g0 : Rd enc Try.prog w base held 3 [c0] := by
      have h' : Rd enc Try.prog w base held 3 (([c0, c1, c2, c3, c4, c5, c6].drop 0).take (Try.prog.cellsOf 3)) := hf 0 _ rfl
      rw [cells3] at h'
      exact h'
    have g1 : Rd enc Try.prog w base held 3 [c1] := by
      have h' : Rd enc Try.prog w base held 3 (([c0, c1, c2, c3, c4, c5, c6].drop 1).take (Try.prog.cellsOf 3)) := hf 1 _ rfl
      rw [cells3] at h'
      exact h'
    have g2 : Rd enc Try.prog w base held 27 [c2] := by
      have h' : Rd enc Try.prog w base held 27 (([c0, c1, c2, c3, c4, c5, c6].drop 2).take (Try.prog.cellsOf 27)) := hf 2 _ rfl
      rw [cells27] at h'
      exact h'
    have g3 : Rd enc Try.prog w base held 3 [c3] := by
      have h' : Rd enc Try.prog w base held 3 (([c0, c1, c2, c3, c4, c5, c6].drop 3).take (Try.prog.cellsOf 3)) := hf 3 _ rfl
      rw [cells3] at h'
      exact h'
    have g4 : Rd enc Try.prog w base held 9 [c4] := by
      have h' : Rd enc Try.prog w base held 9 (([c0, c1, c2, c3, c4, c5, c6].drop 4).take (Try.prog.cellsOf 9)) := hf 4 _ rfl
      rw [cells9] at h'
      exact h'
    have g5 : Rd enc Try.prog w base held 28 [c5] := by
      have h' : Rd enc Try.prog w base held 28 (([c0, c1, c2, c3, c4, c5, c6].drop 5).take (Try.prog.cellsOf 28)) := hf 5 _ rfl
      rw [cells28] at h'
      exact h'
    have g6 : Rd enc Try.prog w base held 29 [c6] := by
      have h' : Rd enc Try.prog w base held 29 (([c0, c1, c2, c3, c4, c5, c6].drop 6).take (Try.prog.cellsOf 29)) := hf 6 _ rfl
      rw [cells29] at h'
      exact h'
    obtain ⟨n0, e0, b0⟩ := Rd.i64 g0 Try.underlying3
    obtain ⟨n1, e1, b1⟩ := Rd.i64 g1 Try.underlying3
    obtain ⟨n2, e2, b2⟩ := Rd.i64 g2 Try.underlying27
    obtain ⟨n3, e3, b3⟩ := Rd.i64 g3 Try.underlying3
    obtain ⟨s, e4⟩ := Rd.string g4 Try.underlying9
    obtain ⟨Al, cl, xs, e5, h1, h2, h3⟩ := Rd.strs g5 Try.underlying28 Try.underlying9 cells9
    obtain ⟨Ad, cd, bs, e6, h4, h5, h6⟩ := Rd.bytes g6 Try.underlying29 Try.underlying5 cells5 (by kernel_rfl)
    simp at e0 e1 e2 e3 e4 e5 e6
    subst e0 e1 e2 e3 e4 e5 e6
    rw [show Try.prog.bytesOf 9 = 16 from by kernel_rfl] at h3
    exact ⟨⟨n0, n1, n2, n3, s, xs, bs⟩, _, _, rfl, ⟨Al, cl, Ad, cd, rfl, rfl, h1, h4, h2, h5⟩, ⟨by simp only; omega, by simp only; omega⟩, b0, b1⟩
theorem reps_open {A : Option Addr} {n c : Nat} (h : Rd enc Try.prog w base held 26 [.slice A n c]) : ∃ rs : List Rp, rs.length = n ∧ Reps w A rs ∧ n ≤ c ∧ (n + 1) * 96 ≤ 140737488355328 := by
  obtain ⟨A', n', c', e, hl, hb, hx⟩ := h.slice Try.underlying26 cells31 (by omega)
  simp at e
  obtain ⟨rfl, rfl, rfl⟩ := e
  rw [show Try.prog.bytesOf 31 = 96 from by kernel_rfl] at hb
  obtain ⟨rs, hrs, hr⟩ := gather (n := n) (Q := fun i (r : Rp) => ∃ b off l d, A = some ⟨b, off, none⟩ ∧ w.cell? ⟨b, off + i * 7, none⟩ = some (.int .i64 r.ses) ∧ w.cell? ⟨b, off + i * 7 + 1, none⟩ = some (.int .i64 r.id) ∧ w.cell? ⟨b, off + i * 7 + 2, none⟩ = some (.int .i64 r.err) ∧
    w.cell? ⟨b, off + i * 7 + 3, none⟩ = some (.int .i64 r.num) ∧ w.cell? ⟨b, off + i * 7 + 4, none⟩ = some (.string r.text) ∧ w.cell? ⟨b, off + i * 7 + 5, none⟩ = some l ∧ w.cell? ⟨b, off + i * 7 + 6, none⟩ = some d ∧ RdR w l d r ∧ RpB r ∧ I64 r.ses ∧ I64 r.id) (fun i hi => by
      obtain ⟨b, off, cs', rfl, hcl, hc, hr⟩ := hx i hi
      obtain ⟨r, l, d, rfl, h1, h2, h3, h4⟩ := reply_open hr
      exact ⟨r, b, off, l, d, rfl, hc 0 (by omega), hc 1 (by omega), hc 2 (by omega), hc 3 (by omega), hc 4 (by omega), hc 5 (by omega), hc 6 (by omega), h1, h2, h3, h4⟩)
  exact ⟨rs, hrs, hr, hl, by omega⟩
set_option maxRecDepth 100000 in
theorem opns_open {A : Option Addr} {n c : Nat} (h : Rd enc Try.prog w base held 22 [.slice A n c]) : ∃ os : List Opn, os.length = n ∧ Opns w A os ∧ n ≤ c ∧ (n + 1) * 96 ≤ 140737488355328 := by
  obtain ⟨A', n', c', e, hl, hb, hx⟩ := h.slice Try.underlying22 cells33 (by omega)
  simp at e
  obtain ⟨rfl, rfl, rfl⟩ := e
  rw [show Try.prog.bytesOf 33 = 136 from by kernel_rfl] at hb
  obtain ⟨os, hos, ho⟩ := gather (n := n) (Q := fun i (o : Opn) => ∃ b off l d AL cL, A = some ⟨b, off, none⟩ ∧ w.cell? ⟨b, off + i * 10, none⟩ = some (.int .i64 o.kind) ∧ w.cell? ⟨b, off + i * 10 + 1, none⟩ = some (.int .i64 o.which) ∧
    w.cell? ⟨b, off + i * 10 + 2, none⟩ = some (.int .i64 o.r.ses) ∧ w.cell? ⟨b, off + i * 10 + 3, none⟩ = some (.int .i64 o.r.id) ∧ w.cell? ⟨b, off + i * 10 + 4, none⟩ = some (.int .i64 o.r.err) ∧ w.cell? ⟨b, off + i * 10 + 5, none⟩ = some (.int .i64 o.r.num) ∧
    w.cell? ⟨b, off + i * 10 + 6, none⟩ = some (.string o.r.text) ∧ w.cell? ⟨b, off + i * 10 + 7, none⟩ = some l ∧ w.cell? ⟨b, off + i * 10 + 8, none⟩ = some d ∧ w.cell? ⟨b, off + i * 10 + 9, none⟩ = some (.slice AL o.l.length cL) ∧
    RdR w l d o.r ∧ RpB o.r ∧ I64 o.kind ∧ I64 o.which ∧ I64 o.r.ses ∧ I64 o.r.id ∧ Reps w AL o.l ∧ o.l.length ≤ cL ∧ (o.l.length + 1) * 96 ≤ 140737488355328) (fun i hi => by
      obtain ⟨b, off, cs', rfl, hcl, hc, hr⟩ := hx i hi
      obtain ⟨hl10, hf⟩ := hr.struct Try.underlying33
      match cs', hcl with
      | [c0, c1, c2, c3, c4, c5, c6, c7, c8, c9], _ =>
        have g0 : Rd enc Try.prog w base held 3 [c0] := by
          have h' : Rd enc Try.prog w base held 3 (([c0, c1, c2, c3, c4, c5, c6, c7, c8, c9].drop 0).take (Try.prog.cellsOf 3)) := hf 0 _ rfl
          rw [cells3] at h'
          exact h'
        have g1 : Rd enc Try.prog w base held 3 [c1] := by
          have h' : Rd enc Try.prog w base held 3 (([c0, c1, c2, c3, c4, c5, c6, c7, c8, c9].drop 1).take (Try.prog.cellsOf 3)) := hf 1 _ rfl
          rw [cells3] at h'
          exact h'
        have g2 : Rd enc Try.prog w base held 31 [c2, c3, c4, c5, c6, c7, c8] := by
          have h' : Rd enc Try.prog w base held 31 (([c0, c1, c2, c3, c4, c5, c6, c7, c8, c9].drop 2).take (Try.prog.cellsOf 31)) := hf 2 _ rfl
          rw [cells31] at h'
          exact h'
        have g3 : Rd enc Try.prog w base held 26 [c9] := by
          have h' : Rd enc Try.prog w base held 26 (([c0, c1, c2, c3, c4, c5, c6, c7, c8, c9].drop 9).take (Try.prog.cellsOf 26)) := hf 3 _ rfl
          rw [cells26] at h'
          exact h'
        obtain ⟨n0, e0, b0⟩ := Rd.i64 g0 Try.underlying3
        obtain ⟨n1, e1, b1⟩ := Rd.i64 g1 Try.underlying3
        obtain ⟨r, l, d, e2, h1, h2, h3, h4⟩ := reply_open g2
        obtain ⟨AL, nL, cL, e3, -⟩ := Rd.slice g3 Try.underlying26 cells31 (by omega)
        rw [e3] at g3
        obtain ⟨rs, hrs, hR, hlc, hlb⟩ := reps_open g3
        simp at e0 e1 e2 e3
        obtain ⟨rfl, rfl, rfl, rfl, rfl, rfl, rfl⟩ := e2
        subst e0 e1 e3 hrs
        exact ⟨⟨n0, n1, r, rs⟩, b, off, c7, c8, AL, cL, rfl, hc 0 (by omega), hc 1 (by omega), hc 2 (by omega), hc 3 (by omega), hc 4 (by omega), hc 5 (by omega), hc 6 (by omega), hc 7 (by omega), hc 8 (by omega), hc 9 (by omega), h1, h2, b0, b1, h3, h4, hR, hlc, hlb⟩)
  exact ⟨os, hos, ho, hl, by omega⟩
end
end Go.Proofs.Ytmlffigfhhoihac
