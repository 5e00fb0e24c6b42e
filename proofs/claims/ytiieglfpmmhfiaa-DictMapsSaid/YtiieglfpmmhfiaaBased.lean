/- How slices of numbers and of bytes among the arguments are read. -/
import Derived.Test.YtiieglfpmmhfiaaBasec
namespace Go.Uc
open Go.RowKit Go.ChangeShapes Go.WideShapes

/-- A slice of numbers that came in. -/
def Nums (w : World) (A : Option Addr) (zs : List Int) : Prop := ∀ i (h : i < zs.length), ∃ b off, A = some ⟨b, off, none⟩ ∧ w.cell? ⟨b, off + i, none⟩ = some (.int .i64 zs[i]) ∧ -9223372036854775808 ≤ zs[i] ∧ zs[i] ≤ 9223372036854775807
section
variable {H : Type} {enc : TypeId × Value → H} {P : Program} {w : World} {base : Nat} {held : Bool}
theorem nums_open {t e : TypeId} {fuel n c : Nat} {A : Option Addr} {x : DataW H × List MemPlace} (ht : P.underlying t = some (.slice e)) (he : P.underlying e = some (.int .i64)) (ce : P.cellsOf e = 1) (be : P.bytesOf e = 8)
    (h : DataW.trod enc P w base (fun _ => true) held fuel t [.slice A n c] = some x) (hw : ∀ m ∈ x.1.weights P t, m ≤ reachBytes) :
    ∃ zs : List Int, zs.length = n ∧ Nums w A zs ∧ n ≤ c ∧ n ≤ 17592186043904 := by
  rcases open_ints ht he ce h with ⟨hcs, _⟩ | ⟨a, len, cap, zs, hcs, _, hl, hm, hz, hx, hcell, hwf⟩
  · simp at hcs
    obtain ⟨rfl, rfl, rfl⟩ := hcs
    exact ⟨[], rfl, fun i h => absurd h (by simp), Nat.le_refl _, by omega⟩
  · simp at hcs
    obtain ⟨rfl, rfl, rfl⟩ := hcs
    simp only [if_true] at hz
    have hcap : c * 8 ≤ reachBytes := by
      have hx1 : x.1 = .slice (lits .i64 (zs.take n)) (lits .i64 (zs.drop n)) := by rw [hx]
      rw [hx1] at hw
      have := hw (c * 8) (by simp [DataW.weights, ht, be, lits, hz]; left; omega)
      exact this
    refine ⟨zs.take n, by simp; omega, fun i hi => ?_, hl, by simp [reachBytes] at hcap; omega⟩
    simp at hi
    obtain ⟨b, off, rfl, hall⟩ := ints_at hcell (by omega)
    have hi2 : i < zs.length := by omega
    have b1 := bounds_i64 (hwf zs[i] (List.getElem_mem _))
    refine ⟨b, off, rfl, ?_, ?_, ?_⟩
    · rw [hall i hi2, List.getElem_take]
      simp [List.getD, hi2]
    · rw [List.getElem_take]; exact b1.1
    · rw [List.getElem_take]; exact b1.2
theorem bytes_open {t e : TypeId} {fuel n c : Nat} {A : Option Addr} {x : DataW H × List MemPlace} (ht : P.underlying t = some (.slice e)) (he : P.underlying e = some (.int .u8)) (ce : P.cellsOf e = 1) (be : P.bytesOf e = 1)
    (h : DataW.trod enc P w base (fun _ => true) held fuel t [.slice A n c] = some x) (hw : ∀ m ∈ x.1.weights P t, m ≤ reachBytes) :
    ∃ bs : List UInt8, bs.length = n ∧ At w A bs ∧ n ≤ c ∧ c ≤ 140737488351232 := by
  rcases open_ints ht he ce h with ⟨hcs, _⟩ | ⟨a, len, cap, zs, hcs, _, hl, hm, hz, hx, hcell, hwf⟩
  · simp at hcs
    obtain ⟨rfl, rfl, rfl⟩ := hcs
    exact ⟨[], rfl, At.nil _ _, Nat.le_refl _, by omega⟩
  · simp at hcs
    obtain ⟨rfl, rfl, rfl⟩ := hcs
    simp only [if_true] at hz
    have hcap : c ≤ reachBytes := by
      have hx1 : x.1 = .slice (lits .u8 (zs.take n)) (lits .u8 (zs.drop n)) := by rw [hx]
      rw [hx1] at hw
      have := hw c (by simp [DataW.weights, ht, be, lits, hz]; left; omega)
      exact this
    refine ⟨toBytes (zs.take n), by rw [toBytes_length]; simp; omega, at_of_ints hl hz hwf (fun h => by cases h) (fun a' ha' i hi => ?_), hl, by simpa [reachBytes] using hcap⟩
    injection ha' with ha'
    subst ha'
    exact hcell i (by omega)
end
end Go.Uc
