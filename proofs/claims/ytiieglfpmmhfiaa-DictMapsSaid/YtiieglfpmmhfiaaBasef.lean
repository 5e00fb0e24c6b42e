/- How arguments of any depth are read: 'Rd': these cells read as a value of that type, none of whose slices is longer than a machine reaches. -/
import Derived.Test.YtiieglfpmmhfiaaBased
import Derived.Lib.SmallJoins
import Derived.Deep.Slices
import Derived.Deep.Fields
import Derived.Deep.Strs
namespace Go.Uc
open Go.RowKit Go.ChangeShapes Go.WideShapes Go.Joins Go.Deep

section
variable {H : Type} (enc : TypeId × Value → H) (P : Program) (w : World) (base : Nat) (held : Bool)
/-- These cells read as a value of the type t. -/
def Rd (t : TypeId) (cs : List Value) : Prop := ∃ fuel x, DataW.trod enc P w base (fun _ => true) held fuel t cs = some x ∧ ∀ m ∈ x.1.weights P t, m ≤ reachBytes
end
/-- Strings, wherever they lie. -/
def StrsAt (w : World) (A : Option Addr) (xs : List ByteArray) : Prop := ∀ i (h : i < xs.length), ∃ ad, A = some ad ∧ w.cell? (ad.add i) = some (.string xs[i])
section
variable {H : Type} {enc : TypeId × Value → H} {P : Program} {w : World} {base : Nat} {held : Bool} {t : TypeId} {cs : List Value}
theorem addr_add_none (b off j : Nat) : (⟨b, off, none⟩ : Addr).add j = ⟨b, off + j, none⟩ := by unfold Addr.add; split <;> simp_all
theorem Rd.int {k : IntKind} (h : Rd enc P w base held t cs) (ht : P.underlying t = some (.int k)) : ∃ n, cs = [.int k n] ∧ (Lit.int k n).wf = true := by
  obtain ⟨fuel, x, h, -⟩ := h
  obtain ⟨n, e, -, hw⟩ := DataW.trod_int ht h
  exact ⟨n, e, hw⟩
theorem Rd.i64 (h : Rd enc P w base held t cs) (ht : P.underlying t = some (.int .i64)) : ∃ n, cs = [.int .i64 n] ∧ -9223372036854775808 ≤ n ∧ n ≤ 9223372036854775807 := by
  obtain ⟨n, e, hw⟩ := h.int ht
  have := bounds_i64 hw
  exact ⟨n, e, this.1, this.2⟩
theorem Rd.string (h : Rd enc P w base held t cs) (ht : P.underlying t = some .string) : ∃ s, cs = [.string s] := by
  obtain ⟨fuel, x, h, -⟩ := h
  obtain ⟨s, e, -⟩ := DataW.trod_string ht h
  exact ⟨s, e⟩
theorem Rd.struct {fs : Array Field} (h : Rd enc P w base held t cs) (ht : P.underlying t = some (.struct fs)) : cs.length = P.cellsOf t ∧
    ∀ (i : Nat) (f : Field), fs[i]? = some f → Rd enc P w base held f.type ((cs.drop f.offset).take (P.cellsOf f.type)) := by
  obtain ⟨fuel, x, h, hw⟩ := h
  obtain ⟨xs, n, -, rfl, hl, hlen, hf⟩ := DataW.trod_struct ht h
  refine ⟨hl, fun i f hi => ?_⟩
  have hi2 : i < fs.size := by
    rcases Nat.lt_or_ge i fs.size with h | h
    · exact h
    · rw [Array.getElem?_eq_none h] at hi; cases hi
  have hx := hf i f hi
  rw [List.getElem?_eq_getElem (by omega)] at hx
  refine ⟨n, xs[i], hx, fun m hm => hw m ?_⟩
  simp only [DataW.weights, ht]
  refine DataW.weights_mem_each (j := i) (t := f.type) (d := xs[i].1) ?_ ?_ m hm
  · rw [List.getElem?_map]
    have : fs.toList[i]? = some f := by simpa using hi
    rw [this]; rfl
  · rw [List.getElem?_map, List.getElem?_eq_getElem (by omega)]; rfl
theorem Rd.slice {e : TypeId} {N : Nat} (h : Rd enc P w base held t cs) (ht : P.underlying t = some (.slice e)) (ce : P.cellsOf e = N) (hN : 0 < N) :
    ∃ A n c, cs = [.slice A n c] ∧ n ≤ c ∧ n * P.bytesOf e ≤ 140737488351232 ∧ ∀ i, i < n → ∃ b off cs', A = some ⟨b, off, none⟩ ∧ cs'.length = N ∧ (∀ j, j < N → w.cell? ⟨b, off + i * N + j, none⟩ = cs'[j]?) ∧ Rd enc P w base held e cs' := by
  obtain ⟨fuel, x, h, hw⟩ := h
  rcases open_slice ht h with ⟨rfl, _⟩ | ⟨a, len, cap, mm, nn, D, Pl, rfl, _, hl, hm, hmm, hx, hi⟩
  · exact ⟨none, 0, 0, rfl, Nat.le_refl _, by omega, fun i hi => absurd hi (by omega)⟩
  · simp only [if_true] at hmm
    subst hmm
    have hx1 : x.1 = .slice ((List.range len).map D) ((List.range (mm - len)).map fun j => D (len + j)) := by rw [hx]
    rw [hx1] at hw
    simp only [DataW.weights, ht] at hw
    have hcap := hw _ (List.mem_cons_self ..)
    simp only [List.length_map, List.length_range, reachBytes] at hcap
    rw [show len + (mm - len) = mm by omega] at hcap
    have h5 : len * P.bytesOf e ≤ mm * P.bytesOf e := Nat.mul_le_mul_right _ (by omega)
    refine ⟨some a, len, mm, rfl, hl, by omega, fun i hin => ?_⟩
    obtain ⟨cs', hc, ht'⟩ := hi i (by omega)
    rw [ce] at hc
    obtain ⟨_, hcl, hat⟩ := World.cells?_some hc
    obtain ⟨b, off, sp⟩ := a
    have hsp : sp = none := by
      obtain ⟨cs0, hc0, _⟩ := hi 0 (by omega)
      rw [ce] at hc0
      obtain ⟨_, hcl0, hat0⟩ := World.cells?_some hc0
      have h00 := hat0 0 (by omega)
      rw [List.getElem?_eq_getElem (by omega)] at h00
      have := World.cell?_spot h00
      simpa [Addr.add] using this
    subst hsp
    have hmem : D i ∈ (List.range len).map D := List.mem_map.2 ⟨i, List.mem_range.2 hin, rfl⟩
    refine ⟨b, off, cs', rfl, hcl, fun j hj => ?_, nn, (D i, Pl i), ht', fun m hm => hw m (List.mem_cons_of_mem _ (List.mem_append_left _ (mem_weightsAll (P := P) (e := e) hmem m hm)))⟩
    have := hat j hj
    rwa [addr_add_none, addr_add_none] at this
theorem Rd.bytes {q : TypeId} (h : Rd enc P w base held t cs) (ht : P.underlying t = some (.slice q)) (hq : P.underlying q = some (.int .u8)) (cq : P.cellsOf q = 1) (bq : P.bytesOf q = 1) :
    ∃ A c bs, cs = [.slice A bs.length c] ∧ At w A bs ∧ bs.length ≤ c ∧ bs.length ≤ 140737488351232 := by
  obtain ⟨A, n, c, rfl, -⟩ := h.slice ht cq (by omega)
  obtain ⟨fuel, x, h, hw⟩ := h
  obtain ⟨bs, rfl, hA, hl, hm⟩ := bytes_open ht hq cq bq h hw
  exact ⟨A, c, bs, rfl, hA, hl, by omega⟩
theorem Rd.strs {q : TypeId} (h : Rd enc P w base held t cs) (ht : P.underlying t = some (.slice q)) (hq : P.underlying q = some .string) (cq : P.cellsOf q = 1) :
    ∃ A c xs, cs = [.slice A xs.length c] ∧ StrsAt w A xs ∧ xs.length ≤ c ∧ xs.length * P.bytesOf q ≤ 140737488351232 := by
  obtain ⟨A, n, c, rfl, hl, hb, he⟩ := h.slice ht cq (by omega)
  have key : ∀ i, i < n → ∃ s ad, A = some ad ∧ w.cell? (ad.add i) = some (.string s) := fun i hi => by
    obtain ⟨b, off, cs', rfl, hcl, hc, hr⟩ := he i hi
    obtain ⟨s, rfl⟩ := hr.string hq
    refine ⟨s, _, rfl, ?_⟩
    rw [addr_add_none]
    have := hc 0 (by omega)
    simpa using this
  have ch : ∀ i, ∃ s, i < n → ∃ ad, A = some ad ∧ w.cell? (ad.add i) = some (.string s) := fun i => by
    by_cases h : i < n
    · obtain ⟨s, hs⟩ := key i h
      exact ⟨s, fun _ => hs⟩
    · exact ⟨ByteArray.empty, fun h' => absurd h' h⟩
  refine ⟨A, c, (List.range n).map fun i => (ch i).choose, by simp, fun i hi => ?_, by simpa using hl, by simpa using hb⟩
  simp at hi
  obtain ⟨ad, h1, h2⟩ := (ch i).choose_spec hi
  exact ⟨ad, h1, by simpa using h2⟩
/-- What each element of a slice reads as, gathered into a list. -/
theorem gather {α : Type} {n : Nat} {Q : Nat → α → Prop} [Inhabited α] (h : ∀ i, i < n → ∃ a, Q i a) : ∃ xs : List α, xs.length = n ∧ ∀ i (hi : i < xs.length), Q i xs[i] := by
  have ch : ∀ i, ∃ a, i < n → Q i a := fun i => by
    by_cases hi : i < n
    · obtain ⟨a, ha⟩ := h i hi
      exact ⟨a, fun _ => ha⟩
    · exact ⟨default, fun h' => absurd h' hi⟩
  refine ⟨(List.range n).map fun i => (ch i).choose, by simp, fun i hi => ?_⟩
  simp at hi
  simpa using (ch i).choose_spec hi
end
end Go.Uc
