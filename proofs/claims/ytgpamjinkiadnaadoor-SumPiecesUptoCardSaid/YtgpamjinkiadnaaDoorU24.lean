/- A slice of pieces as an argument. -/
import Derived.Test.YtgpamjinkiadnaaDoorU22
import Derived.Test.YtgpamjinkiadnaaDoorU23
namespace Go.Proofs.YtgpamjinkiadnaaDoor
open Go.RowKit Go.Uc Go.ChangeShapes Go.WideShapes Go.Joins Go.Deep

theorem cells43 : Tryd.prog.cellsOf 43 = 2 := by kernel_rfl
theorem cells22 : Tryd.prog.cellsOf 22 = 1 := by kernel_rfl
theorem cells4 : Tryd.prog.cellsOf 4 = 1 := by kernel_rfl
theorem sum_le {α : Type} (f : α → Nat) (l : List α) : ∀ (β : Nat → Nat), (∀ i (h : i < l.length), f l[i] ≤ β i) → (l.map f).sum ≤ ((List.range l.length).map β).sum := by
  induction l with
  | nil => intro β _; simp
  | cons x l ih =>
    intro β h
    rw [List.length_cons, List.range_succ_eq_map, List.map_cons, List.map_cons, List.sum_cons, List.sum_cons, List.map_map]
    have h0 := h 0 (by simp)
    have h1 := ih (β ∘ Nat.succ) (fun i hi => h (i + 1) (by simpa using hi))
    simp only [List.getElem_cons_zero] at h0
    omega
section
variable {H : Type} {enc : TypeId × Value → H} {w : World} {base : Nat} {held : Bool} {cs : List Value} {b : Nat}
theorem Rdb.pos {P : Program} {t : TypeId} (h : Rdb enc P w base held t cs b) : 0 < b := by
  obtain ⟨fuel, x, -, -, h⟩ := h
  have := bulk_one x.1
  omega
theorem bool_open (h : Rdb enc Tryd.prog w base held 4 cs b) : ∃ x, cs = [.bool x] := by
  obtain ⟨fuel, x, h, -⟩ := h
  obtain ⟨y, e, -⟩ := DataW.trod_bool Tryd.underlying4 h
  exact ⟨y, e⟩
set_option maxRecDepth 100000 in
theorem piece_open (h : Rdb enc Tryd.prog w base held 43 cs b) : ∃ A c bs x, cs = [.slice A bs.length c, .bool x] ∧ At w A bs ∧ bs.length ≤ c ∧ bs.length + 1 ≤ b := by
  obtain ⟨hl, hf⟩ := h.struct Tryd.underlying43
  rw [cells43] at hl
  match cs, hl with
  | [c0, c1], _ =>
    have g0 : Rdb enc Tryd.prog w base held 22 [c0] b := by
      have h' : Rdb enc Tryd.prog w base held 22 (([c0, c1].drop 0).take (Tryd.prog.cellsOf 22)) b := hf 0 _ rfl
      rw [cells22] at h'
      exact h'
    have g1 : Rdb enc Tryd.prog w base held 4 [c1] b := by
      have h' : Rdb enc Tryd.prog w base held 4 (([c0, c1].drop 1).take (Tryd.prog.cellsOf 4)) b := hf 1 _ rfl
      rw [cells4] at h'
      exact h'
    obtain ⟨A, c, bs, e0, hA, hc, hb⟩ := g0.bytes Tryd.underlying22 Tryd.underlying5 (by kernel_rfl) (by kernel_rfl) g0.pos
    obtain ⟨x, e1⟩ := bool_open g1
    injection e0 with e0
    injection e1 with e1
    subst e0 e1
    exact ⟨A, c, bs, x, rfl, hA, hc, hb⟩
theorem pcs_open (h : Rdb enc Tryd.prog w base held 41 cs b) : ∃ A c ps, cs = [.slice A ps.length c] ∧ ps.length ≤ c ∧ Pcs w A ps ∧ ps.length ≤ b ∧ lens ps ≤ b := by
  obtain ⟨A, n, c, β, rfl, hnc, -, hs, hn, he⟩ := h.slice Tryd.underlying41 cells43 (by decide) h.pos
  have key : ∀ i, i < n → ∃ a : List UInt8 × Bool, (∃ bk off Ai ci, A = some ⟨bk, off, none⟩ ∧ w.cell? ⟨bk, off + i * 2, none⟩ = some (.slice Ai a.1.length ci) ∧ w.cell? ⟨bk, off + i * 2 + 1, none⟩ = some (.bool a.2) ∧ At w Ai a.1 ∧ a.1.length ≤ ci) ∧ a.1.length ≤ β i := by
    intro i hi
    obtain ⟨bk, off, cs', rfl, hcl, hcell, hr⟩ := he i hi
    obtain ⟨Ai, ci, bs, x, rfl, hA, hc, hb⟩ := piece_open hr
    refine ⟨(bs, x), ⟨bk, off, Ai, ci, rfl, ?_, ?_, hA, hc⟩, by show bs.length ≤ _; omega⟩
    · exact hcell 0 (by decide)
    · exact hcell 1 (by decide)
  obtain ⟨ps, hpl, hps⟩ := gather key
  subst hpl
  refine ⟨A, c, ps, rfl, hnc, fun i hi => (hps i hi).1, by omega, ?_⟩
  have := sum_le (fun x : List UInt8 × Bool => x.1.length) ps β (fun i hi => (hps i hi).2)
  unfold lens
  omega
end
end Go.Proofs.YtgpamjinkiadnaaDoor
