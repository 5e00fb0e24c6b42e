/- How this seat's arguments are read: truths, and where a slice lies. -/
import Derived.Test.YtolknnmaadkgiaaGreatDoorW8
import Derived.Deep.Grids
import Derived.LaidLaws
import Derived.LaidMore
import Derived.Lay
import Derived.LaidOnce
import Derived.SevenTiedAt
set_option linter.unusedVariables false
set_option linter.unusedSimpArgs false
namespace Go.Proofs.YtolknnmaadkgiaaGreatDoor
open Go.ChangeShapes Go.WideShapes Go.ChangeAt Go.RowKit Go.Uc
theorem shape_lt {w : World} {b : Nat} {x : TypeId × Nat} (h : w.shape? b = some x) : b < w.heap.size := by
 unfold World.shape? at h
 rcases Nat.lt_or_ge b w.heap.size with hlt | hge
 · exact hlt
 · rw [Array.getElem?_eq_none hge] at h; cases h
theorem okWide_block {P : Program} {w : World} {r : Reach} {base : Nat} {t e : TypeId} {A : Option Addr} {n c : Nat} (ht : P.underlying t = some (.slice e)) (h : Value.okWide P w r base t (.slice A n c)) : ∀ ad, A = some ad → ad.block < w.heap.size := by
 intro ad e'
 subst e'
 simp only [Value.okWide, ht, Cell.okWide, Cell.ok] at h
 obtain ⟨-, -, -, -, row, cells, hs, -⟩ := h
 exact shape_lt hs
theorem bools_open {H : Type} {enc : TypeId × Value → H} {P : Program} {w : World} {base : Nat} {held : Bool} {t e : TypeId} {fuel n c : Nat} {A : Option Addr} {x : DataW H × List MemPlace} (ht : P.underlying t = some (.slice e)) (he : P.underlying e = some .bool) (ce : P.cellsOf e = 1) (be : P.bytesOf e = 1)
   (h : DataW.trod enc P w base (fun _ => true) held fuel t [.slice A n c] = some x) (hw : ∀ m ∈ x.1.weights P t, m ≤ reachBytes) :
   ∃ bs : List Bool, bs.length = n ∧ AtB w A bs ∧ n ≤ c ∧ c ≤ 140737488351232 := by
 rcases Go.Deep.open_bools ht he ce h with ⟨hcs, _⟩ | ⟨a, len, cap, B, hcs, _, hl, hm, hx, hcell⟩
 · simp at hcs
   obtain ⟨rfl, rfl, rfl⟩ := hcs
   exact ⟨[], rfl, AtB.nil _ _, Nat.le_refl _, by omega⟩
 · simp at hcs
   obtain ⟨rfl, rfl, rfl⟩ := hcs
   have hcap : c ≤ reachBytes := by
     have hx1 : x.1 = Go.Deep.boolRow (some a) n c B := by rw [hx]
     rw [hx1] at hw
     have := hw (c * 1) (by simp [Go.Deep.boolRow, DataW.weights, ht, be]; left; omega)
     omega
   refine ⟨(List.range n).map B, by simp, fun i hi => ?_, hl, by simpa [reachBytes] using hcap⟩
   simp at hi
   have h0 := hcell i (by omega)
   obtain ⟨b, off, sp⟩ := a
   have hsp : sp = none := by
     have := World.cell?_spot (hcell 0 (by omega))
     simpa [Addr.add] using this
   subst hsp
   refine ⟨b, off, rfl, ?_⟩
   rw [addr_add_none] at h0
   rw [h0]
   simp
end Go.Proofs.YtolknnmaadkgiaaGreatDoor
