/- How arguments are read, and how much they hold ('bulk'). -/
import Derived.Test.YtgpamjinkiadnaaDoorRows
import Derived.Test.YtgpamjinkiadnaaDoorBasef
namespace Go.Proofs.YtgpamjinkiadnaaDoor
open Go.RowKit Go.Uc Go.ChangeShapes Go.WideShapes Go.Joins Go.Deep

section
variable {H : Type} (enc : TypeId × Value → H) (P : Program) (w : World) (base : Nat) (held : Bool)
/-- These cells read as a value of the type t that holds at most b. -/
def Rdb (t : TypeId) (cs : List Value) (b : Nat) : Prop := ∃ fuel x, DataW.trod enc P w base (fun _ => true) held fuel t cs = some x ∧ (∀ m ∈ x.1.weights P t, m ≤ reachBytes) ∧ Rows.uptoBulk x.1 ≤ b
end
section
variable {H : Type} {enc : TypeId × Value → H} {P : Program} {w : World} {base : Nat} {held : Bool} {t : TypeId} {cs : List Value} {b : Nat}
theorem bulk_one (d : DataW H) : 1 ≤ Rows.uptoBulk d := by
  cases d with
  | lit l => cases l <;> simp [Rows.uptoBulk]
  | nil => simp [Rows.uptoBulk]
  | ptr d => simp [Rows.uptoBulk]
  | slice elems spare => simp [Rows.uptoBulk]
  | agg parts => simp [Rows.uptoBulk]
  | iface t d => simp [Rows.uptoBulk]
  | map entries => simp [Rows.uptoBulk]
  | held h => simp [Rows.uptoBulk]
theorem bulk_sum (l : List (DataW H)) : Rows.uptoBulkAll l = (l.map Rows.uptoBulk).sum := by
  induction l with
  | nil => simp [Rows.uptoBulkAll]
  | cons x l ih => simp only [Rows.uptoBulkAll, ih, List.map_cons, List.sum_cons]
theorem bulk_mem {d : DataW H} {l : List (DataW H)} (h : d ∈ l) : Rows.uptoBulk d ≤ Rows.uptoBulkAll l := by
  induction l with
  | nil => cases h
  | cons x r ih =>
    simp only [Rows.uptoBulkAll]
    cases List.mem_cons.1 h with
    | inl e => subst e; omega
    | inr e => have := ih e; omega
theorem bulk_length (l : List (DataW H)) : l.length ≤ Rows.uptoBulkAll l := by
  induction l with
  | nil => simp [Rows.uptoBulkAll]
  | cons x r ih => have := bulk_one x; simp only [Rows.uptoBulkAll, List.length_cons]; omega
theorem Rdb.rd (h : Rdb enc P w base held t cs b) : Rd enc P w base held t cs := by
  obtain ⟨fuel, x, h1, h2, -⟩ := h
  exact ⟨fuel, x, h1, h2⟩
theorem Rdb.le {c : Nat} (h : Rdb enc P w base held t cs b) (hc : b ≤ c) : Rdb enc P w base held t cs c := by
  obtain ⟨fuel, x, h1, h2, h3⟩ := h
  exact ⟨fuel, x, h1, h2, Nat.le_trans h3 hc⟩
theorem Rdb.struct {fs : Array Field} (h : Rdb enc P w base held t cs b) (ht : P.underlying t = some (.struct fs)) : cs.length = P.cellsOf t ∧
    ∀ (i : Nat) (f : Field), fs[i]? = some f → Rdb enc P w base held f.type ((cs.drop f.offset).take (P.cellsOf f.type)) b := by
  obtain ⟨fuel, x, h, hw, hb⟩ := h
  obtain ⟨xs, n, -, rfl, hl, hlen, hf⟩ := DataW.trod_struct ht h
  refine ⟨hl, fun i f hi => ?_⟩
  have hi2 : i < fs.size := by
    rcases Nat.lt_or_ge i fs.size with h | h
    · exact h
    · rw [Array.getElem?_eq_none h] at hi; cases hi
  have hx := hf i f hi
  rw [List.getElem?_eq_getElem (by omega)] at hx
  refine ⟨n, xs[i], hx, fun m hm => hw m ?_, ?_⟩
  · simp only [DataW.weights, ht]
    refine DataW.weights_mem_each (j := i) (t := f.type) (d := xs[i].1) ?_ ?_ m hm
    · rw [List.getElem?_map]
      have : fs.toList[i]? = some f := by simpa using hi
      rw [this]; rfl
    · rw [List.getElem?_map, List.getElem?_eq_getElem (by omega)]; rfl
  · simp only [Rows.uptoBulk] at hb
    have := bulk_mem (d := xs[i].1) (l := xs.map (·.1)) (List.mem_map.2 ⟨_, List.getElem_mem _, rfl⟩)
    omega
theorem Rdb.slice {e : TypeId} {N : Nat} (h : Rdb enc P w base held t cs b) (ht : P.underlying t = some (.slice e)) (ce : P.cellsOf e = N) (hN : 0 < N) (hb0 : 0 < b) :
    ∃ A n c, ∃ β : Nat → Nat, cs = [.slice A n c] ∧ n ≤ c ∧ n * P.bytesOf e ≤ 140737488351232 ∧ ((List.range n).map β).sum + 1 ≤ b ∧ n + 1 ≤ b ∧ ∀ i, i < n → ∃ bk off cs', A = some ⟨bk, off, none⟩ ∧ cs'.length = N ∧ (∀ j, j < N → w.cell? ⟨bk, off + i * N + j, none⟩ = cs'[j]?) ∧ Rdb enc P w base held e cs' (β i) := by
  obtain ⟨fuel, x, h, hw, hb⟩ := h
  rcases open_slice ht h with ⟨rfl, _⟩ | ⟨a, len, cap, mm, nn, D, Pl, rfl, _, hl, hm, hmm, hx, hi⟩
  · exact ⟨none, 0, 0, fun _ => 0, rfl, Nat.le_refl _, by omega, by simp; omega, by omega, fun i hi => absurd hi (by omega)⟩
  · simp only [if_true] at hmm
    subst hmm
    have hx1 : x.1 = .slice ((List.range len).map D) ((List.range (mm - len)).map fun j => D (len + j)) := by rw [hx]
    rw [hx1] at hw hb
    simp only [DataW.weights, ht] at hw
    simp only [Rows.uptoBulk] at hb
    have hb1 := bulk_length ((List.range len).map D)
    rw [List.length_map, List.length_range] at hb1
    have hb2 := bulk_sum ((List.range len).map D)
    rw [List.map_map] at hb2
    have hcap := hw _ (List.mem_cons_self ..)
    simp only [List.length_map, List.length_range, reachBytes] at hcap
    rw [show len + (mm - len) = mm by omega] at hcap
    have h5 : len * P.bytesOf e ≤ mm * P.bytesOf e := Nat.mul_le_mul_right _ (by omega)
    refine ⟨some a, len, mm, Rows.uptoBulk ∘ D, rfl, hl, by omega, by omega, by omega, fun i hin => ?_⟩
    obtain ⟨cs', hc, ht'⟩ := hi i (by omega)
    rw [ce] at hc
    obtain ⟨_, hcl, hat⟩ := World.cells?_some hc
    obtain ⟨bk, off, sp⟩ := a
    have hsp : sp = none := by
      obtain ⟨cs0, hc0, _⟩ := hi 0 (by omega)
      rw [ce] at hc0
      obtain ⟨_, hcl0, hat0⟩ := World.cells?_some hc0
      have h00 := hat0 0 (by omega)
      rw [List.getElem?_eq_getElem (by omega)] at h00
      have := World.cell?_spot h00
      simpa [Addr.add] using this
    subst hsp
    have hmem : D i ∈ (List.range len).map D := List.mem_map.2 ⟨i, List.mem_range.2 hin, rfl⟩
    refine ⟨bk, off, cs', rfl, hcl, fun j hj => ?_, nn, (D i, Pl i), ht', fun m hm => hw m (List.mem_cons_of_mem _ (List.mem_append_left _ (mem_weightsAll (P := P) (e := e) hmem m hm))), Nat.le_refl _⟩
    have := hat j hj
    rwa [addr_add_none, addr_add_none] at this
theorem Rdb.bytes {q : TypeId} (h : Rdb enc P w base held t cs b) (ht : P.underlying t = some (.slice q)) (hq : P.underlying q = some (.int .u8)) (cq : P.cellsOf q = 1) (bq : P.bytesOf q = 1) (hb0 : 0 < b) :
    ∃ A c bs, cs = [.slice A bs.length c] ∧ At w A bs ∧ bs.length ≤ c ∧ bs.length + 1 ≤ b := by
  obtain ⟨A, n, c, β, rfl, -, -, -, hn, -⟩ := h.slice ht cq (by omega) hb0
  obtain ⟨fuel, x, h, hw, -⟩ := h
  obtain ⟨bs, rfl, hA, hl, hm⟩ := bytes_open ht hq cq bq h hw
  exact ⟨A, c, bs, rfl, hA, hl, hn⟩
end
end Go.Proofs.YtgpamjinkiadnaaDoor
