/- How jobs and scripts among the arguments are read. -/
import Derived.Test.YteigjlkgbpgkjaaR24
import Derived.Test.YteigjlkgbpgkjaaBasef
namespace Go.Proofs.Yteigjlkgbpgkjaa
open Go.RowKit Go.Uc

theorem cells3 : Try.prog.cellsOf 3 = 1 := by kernel_rfl
theorem cells4 : Try.prog.cellsOf 4 = 1 := by kernel_rfl
theorem cells5 : Try.prog.cellsOf 5 = 1 := by kernel_rfl
theorem cells9 : Try.prog.cellsOf 9 = 1 := by kernel_rfl
theorem cells23 : Try.prog.cellsOf 23 = 8 := by kernel_rfl
theorem cells27 : Try.prog.cellsOf 27 = 1 := by kernel_rfl
theorem cells34 : Try.prog.cellsOf 34 = 1 := by kernel_rfl
theorem cells35 : Try.prog.cellsOf 35 = 1 := by kernel_rfl
theorem cells37 : Try.prog.cellsOf 37 = 7 := by kernel_rfl
theorem cells39 : Try.prog.cellsOf 39 = 9 := by kernel_rfl
instance : Inhabited Rp := ⟨Rp.none⟩
instance : Inhabited Opn := ⟨⟨0, Rp.none, false⟩⟩

section
variable {H : Type} {enc : TypeId × Value → H} {w : World} {base : Nat} {held : Bool} {cs : List Value}
theorem Rd.flag {P : Program} {t : TypeId} (h : Rd enc P w base held t cs) (ht : P.underlying t = some .bool) : ∃ b, cs = [.bool b] := by
  obtain ⟨fuel, x, h, -⟩ := h
  obtain ⟨b, e, -⟩ := DataW.trod_bool ht h
  exact ⟨b, e⟩
set_option maxRecDepth 100000 in
theorem job_open (h : Rd enc Try.prog w base held 23 cs) : ∃ j : Job, cs = [.string j.name, .string j.snap, .string j.base, .bool j.deep, .string j.to_, .int .i64 j.ses, .int .i64 j.first, .bool j.anew] := by
  obtain ⟨hl, hf⟩ := h.struct Try.underlying23
  rw [cells23] at hl
  match cs, hl with
  | [c0, c1, c2, c3, c4, c5, c6, c7], _ =>
    have g0 : Rd enc Try.prog w base held 9 [c0] := by
      have h' : Rd enc Try.prog w base held 9 (([c0, c1, c2, c3, c4, c5, c6, c7].drop 0).take (Try.prog.cellsOf 9)) := hf 0 _ rfl
      rw [cells9] at h'
      exact h'
    have g1 : Rd enc Try.prog w base held 9 [c1] := by
      have h' : Rd enc Try.prog w base held 9 (([c0, c1, c2, c3, c4, c5, c6, c7].drop 1).take (Try.prog.cellsOf 9)) := hf 1 _ rfl
      rw [cells9] at h'
      exact h'
    have g2 : Rd enc Try.prog w base held 9 [c2] := by
      have h' : Rd enc Try.prog w base held 9 (([c0, c1, c2, c3, c4, c5, c6, c7].drop 2).take (Try.prog.cellsOf 9)) := hf 2 _ rfl
      rw [cells9] at h'
      exact h'
    have g3 : Rd enc Try.prog w base held 4 [c3] := by
      have h' : Rd enc Try.prog w base held 4 (([c0, c1, c2, c3, c4, c5, c6, c7].drop 3).take (Try.prog.cellsOf 4)) := hf 3 _ rfl
      rw [cells4] at h'
      exact h'
    have g4 : Rd enc Try.prog w base held 9 [c4] := by
      have h' : Rd enc Try.prog w base held 9 (([c0, c1, c2, c3, c4, c5, c6, c7].drop 4).take (Try.prog.cellsOf 9)) := hf 4 _ rfl
      rw [cells9] at h'
      exact h'
    have g5 : Rd enc Try.prog w base held 3 [c5] := by
      have h' : Rd enc Try.prog w base held 3 (([c0, c1, c2, c3, c4, c5, c6, c7].drop 5).take (Try.prog.cellsOf 3)) := hf 5 _ rfl
      rw [cells3] at h'
      exact h'
    have g6 : Rd enc Try.prog w base held 3 [c6] := by
      have h' : Rd enc Try.prog w base held 3 (([c0, c1, c2, c3, c4, c5, c6, c7].drop 6).take (Try.prog.cellsOf 3)) := hf 6 _ rfl
      rw [cells3] at h'
      exact h'
    have g7 : Rd enc Try.prog w base held 4 [c7] := by
      have h' : Rd enc Try.prog w base held 4 (([c0, c1, c2, c3, c4, c5, c6, c7].drop 7).take (Try.prog.cellsOf 4)) := hf 7 _ rfl
      rw [cells4] at h'
      exact h'
    obtain ⟨s0, e0⟩ := Rd.string g0 Try.underlying9
    obtain ⟨s1, e1⟩ := Rd.string g1 Try.underlying9
    obtain ⟨s2, e2⟩ := Rd.string g2 Try.underlying9
    obtain ⟨b3, e3⟩ := Rd.flag g3 Try.underlying4
    obtain ⟨s4, e4⟩ := Rd.string g4 Try.underlying9
    obtain ⟨n5, e5, -⟩ := Rd.i64 g5 Try.underlying3
    obtain ⟨n6, e6, -⟩ := Rd.i64 g6 Try.underlying3
    obtain ⟨b7, e7⟩ := Rd.flag g7 Try.underlying4
    simp at e0 e1 e2 e3 e4 e5 e6 e7
    subst e0 e1 e2 e3 e4 e5 e6 e7
    exact ⟨⟨s0, s1, s2, b3, s4, n5, n6, b7⟩, rfl⟩
set_option maxRecDepth 100000 in
theorem reply_open (h : Rd enc Try.prog w base held 37 cs) : ∃ (r : Rp) (Al : Option Addr) (cl : Nat) (Ad : Option Addr) (cd : Nat), cs = [.int .i64 r.ses, .int .i64 r.id, .int .i64 r.err, .int .i64 r.num, .string r.text, .slice Al r.list.length cl, .slice Ad r.data.length cd] ∧ AtS w Al r.list ∧ At w Ad r.data ∧ RpB r := by
  obtain ⟨hl, hf⟩ := h.struct Try.underlying37
  rw [cells37] at hl
  match cs, hl with
  | [c0, c1, c2, c3, c4, c5, c6], _ =>
    have g0 : Rd enc Try.prog w base held 3 [c0] := by
      have h' : Rd enc Try.prog w base held 3 (([c0, c1, c2, c3, c4, c5, c6].drop 0).take (Try.prog.cellsOf 3)) := hf 0 _ rfl
      rw [cells3] at h'
      exact h'
    have g1 : Rd enc Try.prog w base held 3 [c1] := by
      have h' : Rd enc Try.prog w base held 3 (([c0, c1, c2, c3, c4, c5, c6].drop 1).take (Try.prog.cellsOf 3)) := hf 1 _ rfl
      rw [cells3] at h'
      exact h'
    have g2 : Rd enc Try.prog w base held 27 [c2] := by
      have h' : Rd enc Try.prog w base held 27 (([c0, c1, c2, c3, c4, c5, c6].drop 2).take (Try.prog.cellsOf 27)) := hf 2 _ rfl
      rw [cells27] at h'
      exact h'
    have g3 : Rd enc Try.prog w base held 3 [c3] := by
      have h' : Rd enc Try.prog w base held 3 (([c0, c1, c2, c3, c4, c5, c6].drop 3).take (Try.prog.cellsOf 3)) := hf 3 _ rfl
      rw [cells3] at h'
      exact h'
    have g4 : Rd enc Try.prog w base held 9 [c4] := by
      have h' : Rd enc Try.prog w base held 9 (([c0, c1, c2, c3, c4, c5, c6].drop 4).take (Try.prog.cellsOf 9)) := hf 4 _ rfl
      rw [cells9] at h'
      exact h'
    have g5 : Rd enc Try.prog w base held 34 [c5] := by
      have h' : Rd enc Try.prog w base held 34 (([c0, c1, c2, c3, c4, c5, c6].drop 5).take (Try.prog.cellsOf 34)) := hf 5 _ rfl
      rw [cells34] at h'
      exact h'
    have g6 : Rd enc Try.prog w base held 35 [c6] := by
      have h' : Rd enc Try.prog w base held 35 (([c0, c1, c2, c3, c4, c5, c6].drop 6).take (Try.prog.cellsOf 35)) := hf 6 _ rfl
      rw [cells35] at h'
      exact h'
    obtain ⟨n0, e0, b0⟩ := Rd.i64 g0 Try.underlying3
    obtain ⟨n1, e1, b1⟩ := Rd.i64 g1 Try.underlying3
    obtain ⟨n2, e2, b2⟩ := Rd.i64 g2 Try.underlying27
    obtain ⟨n3, e3, b3⟩ := Rd.i64 g3 Try.underlying3
    obtain ⟨s, e4⟩ := Rd.string g4 Try.underlying9
    obtain ⟨Al, cl, xs, e5, h1, h2, h3⟩ := Rd.strs g5 Try.underlying34 Try.underlying9 cells9
    obtain ⟨Ad, cd, bs, e6, h4, h5, h6⟩ := Rd.bytes g6 Try.underlying35 Try.underlying5 cells5 (by kernel_rfl)
    simp at e0 e1 e2 e3 e4 e5 e6
    subst e0 e1 e2 e3 e4 e5 e6
    rw [show Try.prog.bytesOf 9 = 16 from by kernel_rfl] at h3
    exact ⟨⟨n0, n1, n2, n3, s, xs, bs⟩, Al, cl, Ad, cd, rfl, h1, h4, ⟨by simp only; omega, by simp only; omega⟩⟩
set_option maxRecDepth 100000 in
theorem opns_open {A : Option Addr} {n c : Nat} (h : Rd enc Try.prog w base held 24 [.slice A n c]) : ∃ os : List Opn, os.length = n ∧ Opns w A os ∧ n ≤ 2000000000000 := by
  obtain ⟨A', n', c', e, hl, hb, hx⟩ := h.slice Try.underlying24 cells39 (by omega)
  simp at e
  obtain ⟨rfl, rfl, rfl⟩ := e
  rw [show Try.prog.bytesOf 39 = 112 from by kernel_rfl] at hb
  obtain ⟨os, hos, ho⟩ := gather (n := n) (Q := fun i (o : Opn) => ∃ b off Al cl Ad cd, A = some ⟨b, off, none⟩ ∧ w.cell? ⟨b, off + i * 9, none⟩ = some (.int .i64 o.who) ∧
    w.cell? ⟨b, off + i * 9 + 1, none⟩ = some (.int .i64 o.r.ses) ∧ w.cell? ⟨b, off + i * 9 + 2, none⟩ = some (.int .i64 o.r.id) ∧ w.cell? ⟨b, off + i * 9 + 3, none⟩ = some (.int .i64 o.r.err) ∧ w.cell? ⟨b, off + i * 9 + 4, none⟩ = some (.int .i64 o.r.num) ∧
    w.cell? ⟨b, off + i * 9 + 5, none⟩ = some (.string o.r.text) ∧ w.cell? ⟨b, off + i * 9 + 6, none⟩ = some (.slice Al o.r.list.length cl) ∧ w.cell? ⟨b, off + i * 9 + 7, none⟩ = some (.slice Ad o.r.data.length cd) ∧ w.cell? ⟨b, off + i * 9 + 8, none⟩ = some (.bool o.near) ∧
    AtS w Al o.r.list ∧ At w Ad o.r.data ∧ RpB o.r) (fun i hi => by
      obtain ⟨b, off, cs', rfl, hcl, hc, hr⟩ := hx i hi
      obtain ⟨hl9, hf⟩ := hr.struct Try.underlying39
      match cs', hcl with
      | [c0, c1, c2, c3, c4, c5, c6, c7, c8], _ =>
        have g0 : Rd enc Try.prog w base held 3 [c0] := by
          have h' : Rd enc Try.prog w base held 3 (([c0, c1, c2, c3, c4, c5, c6, c7, c8].drop 0).take (Try.prog.cellsOf 3)) := hf 0 _ rfl
          rw [cells3] at h'
          exact h'
        have g1 : Rd enc Try.prog w base held 37 [c1, c2, c3, c4, c5, c6, c7] := by
          have h' : Rd enc Try.prog w base held 37 (([c0, c1, c2, c3, c4, c5, c6, c7, c8].drop 1).take (Try.prog.cellsOf 37)) := hf 1 _ rfl
          rw [cells37] at h'
          exact h'
        have g2 : Rd enc Try.prog w base held 4 [c8] := by
          have h' : Rd enc Try.prog w base held 4 (([c0, c1, c2, c3, c4, c5, c6, c7, c8].drop 8).take (Try.prog.cellsOf 4)) := hf 2 _ rfl
          rw [cells4] at h'
          exact h'
        obtain ⟨n0, e0, b0⟩ := Rd.i64 g0 Try.underlying3
        obtain ⟨r, Al, cl, Ad, cd, e1, h1, h2, h3⟩ := reply_open g1
        obtain ⟨b2, e2⟩ := Rd.flag g2 Try.underlying4
        simp at e0 e1 e2
        obtain ⟨rfl, rfl, rfl, rfl, rfl, rfl, rfl⟩ := e1
        subst e0 e2
        exact ⟨⟨n0, r, b2⟩, b, off, Al, cl, Ad, cd, rfl, hc 0 (by omega), hc 1 (by omega), hc 2 (by omega), hc 3 (by omega), hc 4 (by omega), hc 5 (by omega), hc 6 (by omega), hc 7 (by omega), hc 8 (by omega), h1, h2, h3⟩)
  exact ⟨os, hos, ho, by omega⟩
end
end Go.Proofs.Yteigjlkgbpgkjaa
