/- How arguments of any depth are read: 'Rd': these cells read as a value of that type, none of whose slices is longer than a machine reaches. How scripts among the arguments are read. How arguments are read, and how much they hold ('bulk'). How pages among the arguments are read, with their bulk. -/
import Derived.Test.YtiieglfpmmhfiaaG1
import Derived.Lib.SmallJoins
import Derived.Deep.Slices
import Derived.Deep.Fields
import Derived.Deep.Strs
import Derived.Test.YtiieglfpmmhfiaaD32
import Derived.Test.YtiieglfpmmhfiaaRows
import Derived.Test.YtiieglfpmmhfiaaG14
namespace Go.Uc
open Go.RowKit Go.ChangeShapes Go.WideShapes Go.Joins Go.Deep

section
variable {H : Type} (enc : TypeId × Value → H) (P : Program) (w : World) (base : Nat) (held : Bool)
/-- These cells read as a value of the type t. -/
def Rd (t : TypeId) (cs : List Value) : Prop := ∃ fuel x, DataW.trod enc P w base (fun _ => true) held fuel t cs = some x ∧ ∀ m ∈ x.1.weights P t, m ≤ reachBytes
end
/-- Strings, wherever they lie. -/
def StrsAt (w : World) (A : Option Addr) (xs : List ByteArray) : Prop := ∀ i (h : i < xs.length), ∃ ad, A = some ad ∧ w.cell? (ad.add i) = some (.string xs[i])
section
variable {H : Type} {enc : TypeId × Value → H} {P : Program} {w : World} {base : Nat} {held : Bool} {t : TypeId} {cs : List Value}
theorem addr_add_none (b off j : Nat) : (⟨b, off, none⟩ : Addr).add j = ⟨b, off + j, none⟩ := by unfold Addr.add; split <;> simp_all
theorem Rd.int {k : IntKind} (h : Rd enc P w base held t cs) (ht : P.underlying t = some (.int k)) : ∃ n, cs = [.int k n] ∧ (Lit.int k n).wf = true := by
  obtain ⟨fuel, x, h, -⟩ := h
  obtain ⟨n, e, -, hw⟩ := DataW.trod_int ht h
  exact ⟨n, e, hw⟩
theorem Rd.i64 (h : Rd enc P w base held t cs) (ht : P.underlying t = some (.int .i64)) : ∃ n, cs = [.int .i64 n] ∧ -9223372036854775808 ≤ n ∧ n ≤ 9223372036854775807 := by
  obtain ⟨n, e, hw⟩ := h.int ht
  have := bounds_i64 hw
  exact ⟨n, e, this.1, this.2⟩
theorem Rd.string (h : Rd enc P w base held t cs) (ht : P.underlying t = some .string) : ∃ s, cs = [.string s] := by
  obtain ⟨fuel, x, h, -⟩ := h
  obtain ⟨s, e, -⟩ := DataW.trod_string ht h
  exact ⟨s, e⟩
theorem Rd.struct {fs : Array Field} (h : Rd enc P w base held t cs) (ht : P.underlying t = some (.struct fs)) : cs.length = P.cellsOf t ∧
    ∀ (i : Nat) (f : Field), fs[i]? = some f → Rd enc P w base held f.type ((cs.drop f.offset).take (P.cellsOf f.type)) := by
  obtain ⟨fuel, x, h, hw⟩ := h
  obtain ⟨xs, n, -, rfl, hl, hlen, hf⟩ := DataW.trod_struct ht h
  refine ⟨hl, fun i f hi => ?_⟩
  have hi2 : i < fs.size := by
    rcases Nat.lt_or_ge i fs.size with h | h
    · exact h
    · rw [Array.getElem?_eq_none h] at hi; cases hi
  have hx := hf i f hi
  rw [List.getElem?_eq_getElem (by omega)] at hx
  refine ⟨n, xs[i], hx, fun m hm => hw m ?_⟩
  simp only [DataW.weights, ht]
  refine DataW.weights_mem_each (j := i) (t := f.type) (d := xs[i].1) ?_ ?_ m hm
  · rw [List.getElem?_map]
    have : fs.toList[i]? = some f := by simpa using hi
    rw [this]; rfl
  · rw [List.getElem?_map, List.getElem?_eq_getElem (by omega)]; rfl
theorem Rd.slice {e : TypeId} {N : Nat} (h : Rd enc P w base held t cs) (ht : P.underlying t = some (.slice e)) (ce : P.cellsOf e = N) (hN : 0 < N) :
    ∃ A n c, cs = [.slice A n c] ∧ n ≤ c ∧ n * P.bytesOf e ≤ 140737488351232 ∧ ∀ i, i < n → ∃ b off cs', A = some ⟨b, off, none⟩ ∧ cs'.length = N ∧ (∀ j, j < N → w.cell? ⟨b, off + i * N + j, none⟩ = cs'[j]?) ∧ Rd enc P w base held e cs' := by
  obtain ⟨fuel, x, h, hw⟩ := h
  rcases open_slice ht h with ⟨rfl, _⟩ | ⟨a, len, cap, mm, nn, D, Pl, rfl, _, hl, hm, hmm, hx, hi⟩
  · exact ⟨none, 0, 0, rfl, Nat.le_refl _, by omega, fun i hi => absurd hi (by omega)⟩
  · simp only [if_true] at hmm
    subst hmm
    have hx1 : x.1 = .slice ((List.range len).map D) ((List.range (mm - len)).map fun j => D (len + j)) := by rw [hx]
    rw [hx1] at hw
    simp only [DataW.weights, ht] at hw
    have hcap := hw _ (List.mem_cons_self ..)
    simp only [List.length_map, List.length_range, reachBytes] at hcap
    rw [show len + (mm - len) = mm by omega] at hcap
    have h5 : len * P.bytesOf e ≤ mm * P.bytesOf e := Nat.mul_le_mul_right _ (by omega)
    refine ⟨some a, len, mm, rfl, hl, by omega, fun i hin => ?_⟩
    obtain ⟨cs', hc, ht'⟩ := hi i (by omega)
    rw [ce] at hc
    obtain ⟨_, hcl, hat⟩ := World.cells?_some hc
    obtain ⟨b, off, sp⟩ := a
    have hsp : sp = none := by
      obtain ⟨cs0, hc0, _⟩ := hi 0 (by omega)
      rw [ce] at hc0
      obtain ⟨_, hcl0, hat0⟩ := World.cells?_some hc0
      have h00 := hat0 0 (by omega)
      rw [List.getElem?_eq_getElem (by omega)] at h00
      have := World.cell?_spot h00
      simpa [Addr.add] using this
    subst hsp
    have hmem : D i ∈ (List.range len).map D := List.mem_map.2 ⟨i, List.mem_range.2 hin, rfl⟩
    refine ⟨b, off, cs', rfl, hcl, fun j hj => ?_, nn, (D i, Pl i), ht', fun m hm => hw m (List.mem_cons_of_mem _ (List.mem_append_left _ (mem_weightsAll (P := P) (e := e) hmem m hm)))⟩
    have := hat j hj
    rwa [addr_add_none, addr_add_none] at this
theorem Rd.bytes {q : TypeId} (h : Rd enc P w base held t cs) (ht : P.underlying t = some (.slice q)) (hq : P.underlying q = some (.int .u8)) (cq : P.cellsOf q = 1) (bq : P.bytesOf q = 1) :
    ∃ A c bs, cs = [.slice A bs.length c] ∧ At w A bs ∧ bs.length ≤ c ∧ bs.length ≤ 140737488351232 := by
  obtain ⟨A, n, c, rfl, -⟩ := h.slice ht cq (by omega)
  obtain ⟨fuel, x, h, hw⟩ := h
  obtain ⟨bs, rfl, hA, hl, hm⟩ := bytes_open ht hq cq bq h hw
  exact ⟨A, c, bs, rfl, hA, hl, by omega⟩
theorem Rd.strs {q : TypeId} (h : Rd enc P w base held t cs) (ht : P.underlying t = some (.slice q)) (hq : P.underlying q = some .string) (cq : P.cellsOf q = 1) :
    ∃ A c xs, cs = [.slice A xs.length c] ∧ StrsAt w A xs ∧ xs.length ≤ c ∧ xs.length * P.bytesOf q ≤ 140737488351232 := by
  obtain ⟨A, n, c, rfl, hl, hb, he⟩ := h.slice ht cq (by omega)
  have key : ∀ i, i < n → ∃ s ad, A = some ad ∧ w.cell? (ad.add i) = some (.string s) := fun i hi => by
    obtain ⟨b, off, cs', rfl, hcl, hc, hr⟩ := he i hi
    obtain ⟨s, rfl⟩ := hr.string hq
    refine ⟨s, _, rfl, ?_⟩
    rw [addr_add_none]
    have := hc 0 (by omega)
    simpa using this
  have ch : ∀ i, ∃ s, i < n → ∃ ad, A = some ad ∧ w.cell? (ad.add i) = some (.string s) := fun i => by
    by_cases h : i < n
    · obtain ⟨s, hs⟩ := key i h
      exact ⟨s, fun _ => hs⟩
    · exact ⟨ByteArray.empty, fun h' => absurd h' h⟩
  refine ⟨A, c, (List.range n).map fun i => (ch i).choose, by simp, fun i hi => ?_, by simpa using hl, by simpa using hb⟩
  simp at hi
  obtain ⟨ad, h1, h2⟩ := (ch i).choose_spec hi
  exact ⟨ad, h1, by simpa using h2⟩
/-- What each element of a slice reads as, gathered into a list. -/
theorem gather {α : Type} {n : Nat} {Q : Nat → α → Prop} [Inhabited α] (h : ∀ i, i < n → ∃ a, Q i a) : ∃ xs : List α, xs.length = n ∧ ∀ i (hi : i < xs.length), Q i xs[i] := by
  have ch : ∀ i, ∃ a, i < n → Q i a := fun i => by
    by_cases hi : i < n
    · obtain ⟨a, ha⟩ := h i hi
      exact ⟨a, fun _ => ha⟩
    · exact ⟨default, fun h' => absurd h' hi⟩
  refine ⟨(List.range n).map fun i => (ch i).choose, by simp, fun i hi => ?_⟩
  simp at hi
  simpa using (ch i).choose_spec hi
end
end Go.Uc
namespace Go.Proofs.Ytiieglfpmmhfiaa
open Go.ChangeShapes Go.WideShapes Go.ChangeAt Go.RowKit Go.Uc

theorem cells3 : Try.prog.cellsOf 3 = 1 := by kernel_rfl
theorem cells5 : Try.prog.cellsOf 5 = 1 := by kernel_rfl
theorem cells9 : Try.prog.cellsOf 9 = 1 := by kernel_rfl
theorem cells42 : Try.prog.cellsOf 42 = 1 := by kernel_rfl
theorem cells53 : Try.prog.cellsOf 53 = 1 := by kernel_rfl
theorem cells44 : Try.prog.cellsOf 44 = 5 := by kernel_rfl
theorem rd_text' {H : Type} {enc : TypeId × Value → H} {P : Program} {w : World} {base : Nat} {held : Bool} {t : TypeId} {cs : List Value} (h : Rd enc P w base held t cs) (ht : P.underlying t = some .string) : ∃ L : List UInt8, cs = [.string (str L)] ∧ L.length ≤ 140737488355328 := by
  obtain ⟨fuel, x, h, hw⟩ := h
  obtain ⟨s, e, ex, -⟩ := DataW.trod_string ht h
  refine ⟨s.data.toList, by rw [str_data]; exact e, ?_⟩
  rw [ex] at hw
  have := hw s.data.toList.length (by simp [DataW.weights])
  simp [reachBytes] at this
  simp
  omega
section
variable {H : Type} {enc : TypeId × Value → H} {w : World} {base : Nat} {held : Bool} {cs : List Value}
/-- Pages among the arguments. -/
theorem pages_open (h : Rd enc Try.prog w base held 42 cs) : ∃ A c rs, cs = [.slice A rs.length c] ∧ PgR w A rs ∧ rs.length ≤ c ∧ rs.length ≤ 5864062014804 ∧ ∀ p ∈ rs, p.length ≤ 140737488351232 := by
  obtain ⟨A, n, c, rfl, hl, hb, hx⟩ := h.slice Try.underlying42 cells53 (by omega)
  rw [show Try.prog.bytesOf 53 = 24 from by kernel_rfl] at hb
  obtain ⟨rs, hrs, hr⟩ := gather (n := n) (Q := fun i (p : List UInt8) => (∃ b off Ai ci, A = some ⟨b, off, none⟩ ∧ w.cell? ⟨b, off + i, none⟩ = some (.slice Ai p.length ci) ∧ At w Ai p) ∧ p.length ≤ 140737488351232) (fun i hi => by
    obtain ⟨b, off, cs', rfl, hcl, hc, hr⟩ := hx i hi
    obtain ⟨Ai, ci, bs, rfl, h1, h2, h3⟩ := Rd.bytes hr Try.underlying53 Try.underlying5 cells5 (by kernel_rfl)
    have := hc 0 (by omega)
    exact ⟨bs, ⟨b, off, Ai, ci, rfl, by simpa using this, h1⟩, h3⟩)
  subst hrs
  exact ⟨A, c, rs, rfl, fun i hi => (hr i hi).1, hl, by omega, fun p hp => by obtain ⟨i, hi, rfl⟩ := List.getElem_of_mem hp; exact (hr i hi).2⟩
set_option maxRecDepth 100000 in
theorem op_open (h : Rd enc Try.prog w base held 44 cs) : ∃ (o : Og) (rs : List (List UInt8)), cs = (ogCells o).toList ∧ o.fit ∧ o.raw.n = rs.length ∧ PgR w o.raw.A rs ∧ rs.length ≤ 5864062014804 ∧ ∀ p ∈ rs, p.length ≤ 140737488351232 := by
  obtain ⟨hl, hf⟩ := h.struct Try.underlying44
  rw [cells44] at hl
  match cs, hl with
  | [c0, c1, c2, c3, c4], _ =>
    have g0 : Rd enc Try.prog w base held 3 [c0] := by
      have h' : Rd enc Try.prog w base held 3 (([c0, c1, c2, c3, c4].drop 0).take (Try.prog.cellsOf 3)) := hf 0 _ rfl
      rw [cells3] at h'
      exact h'
    have g1 : Rd enc Try.prog w base held 3 [c1] := by
      have h' : Rd enc Try.prog w base held 3 (([c0, c1, c2, c3, c4].drop 1).take (Try.prog.cellsOf 3)) := hf 1 _ rfl
      rw [cells3] at h'
      exact h'
    have g2 : Rd enc Try.prog w base held 9 [c2] := by
      have h' : Rd enc Try.prog w base held 9 (([c0, c1, c2, c3, c4].drop 2).take (Try.prog.cellsOf 9)) := hf 2 _ rfl
      rw [cells9] at h'
      exact h'
    have g3 : Rd enc Try.prog w base held 3 [c3] := by
      have h' : Rd enc Try.prog w base held 3 (([c0, c1, c2, c3, c4].drop 3).take (Try.prog.cellsOf 3)) := hf 3 _ rfl
      rw [cells3] at h'
      exact h'
    have g4 : Rd enc Try.prog w base held 42 [c4] := by
      have h' : Rd enc Try.prog w base held 42 (([c0, c1, c2, c3, c4].drop 4).take (Try.prog.cellsOf 42)) := hf 4 _ rfl
      rw [cells42] at h'
      exact h'
    obtain ⟨n0, e0, b0⟩ := Rd.i64 g0 Try.underlying3
    obtain ⟨n1, e1, b1⟩ := Rd.i64 g1 Try.underlying3
    obtain ⟨L, e2, h2⟩ := rd_text' g2 Try.underlying9
    obtain ⟨n3, e3, b3⟩ := Rd.i64 g3 Try.underlying3
    obtain ⟨A, c, rs, e4, hR, hlc, hlm, hpm⟩ := pages_open g4
    simp at e0 e1 e2 e3 e4
    subst e0 e1 e2 e3 e4
    exact ⟨⟨n0, n1, L, n3, ⟨A, rs.length, c⟩⟩, rs, rfl, ⟨b0.1, b0.2, b1.1, b1.2, h2, b3.1, b3.2⟩, rfl, hR, hlm, hpm⟩
instance : Inhabited Og := ⟨⟨0, 0, [], 0, ⟨none, 0, 0⟩⟩⟩
theorem script_open (h : Rd enc Try.prog w base held 35 cs) : ∃ A c ops, cs = [.slice A ops.length c] ∧ Script w A ops ∧ ops.length ≤ c ∧ ops.length ≤ 2199023255488 ∧ ∀ i (hi : i < ops.length), ∃ rs : List (List UInt8), ops[i].raw.n = rs.length ∧ PgR w ops[i].raw.A rs ∧ rs.length ≤ 5864062014804 ∧ ∀ p ∈ rs, p.length ≤ 140737488351232 := by
  obtain ⟨A, n, c, rfl, hl, hb, hx⟩ := h.slice Try.underlying35 cells44 (by omega)
  rw [show Try.prog.bytesOf 44 = 64 from by kernel_rfl] at hb
  obtain ⟨ops, hops, ho⟩ := gather (n := n) (Q := fun i (o : Og) => (∃ b off, A = some ⟨b, off, none⟩ ∧ (∀ j, j < 5 → w.cell? ⟨b, off + i * 5 + j, none⟩ = (ogCells o)[j]?) ∧ o.fit) ∧ ∃ rs : List (List UInt8), o.raw.n = rs.length ∧ PgR w o.raw.A rs ∧ rs.length ≤ 5864062014804 ∧ ∀ p ∈ rs, p.length ≤ 140737488351232) (fun i hi => by
    obtain ⟨b, off, cs', rfl, hcl, hc, hr⟩ := hx i hi
    obtain ⟨o, rs, rfl, hf, h1, h2, h3, h4⟩ := op_open hr
    exact ⟨o, ⟨b, off, rfl, fun j hj => by rw [hc j hj]; simp, hf⟩, rs, h1, h2, h3, h4⟩)
  subst hops
  exact ⟨A, c, ops, rfl, fun i hi => (ho i hi).1, hl, by omega, fun i hi => (ho i hi).2⟩
end
end Go.Proofs.Ytiieglfpmmhfiaa
namespace Go.Proofs.Ytiieglfpmmhfiaa
open Go.RowKit Go.Uc Go.ChangeShapes Go.WideShapes Go.Joins Go.Deep

section
variable {H : Type} (enc : TypeId × Value → H) (P : Program) (w : World) (base : Nat) (held : Bool)
/-- These cells read as a value of the type t that holds at most b. -/
def Rdb (t : TypeId) (cs : List Value) (b : Nat) : Prop := ∃ fuel x, DataW.trod enc P w base (fun _ => true) held fuel t cs = some x ∧ (∀ m ∈ x.1.weights P t, m ≤ reachBytes) ∧ Rows.uptoBulk x.1 ≤ b
end
section
variable {H : Type} {enc : TypeId × Value → H} {P : Program} {w : World} {base : Nat} {held : Bool} {t : TypeId} {cs : List Value} {b : Nat}
theorem bulk_one (d : DataW H) : 1 ≤ Rows.uptoBulk d := by
  cases d with
  | lit l => cases l <;> simp [Rows.uptoBulk]
  | nil => simp [Rows.uptoBulk]
  | ptr d => simp [Rows.uptoBulk]
  | slice elems spare => simp [Rows.uptoBulk]
  | agg parts => simp [Rows.uptoBulk]
  | iface t d => simp [Rows.uptoBulk]
  | map entries => simp [Rows.uptoBulk]
  | held h => simp [Rows.uptoBulk]
theorem bulk_sum (l : List (DataW H)) : Rows.uptoBulkAll l = (l.map Rows.uptoBulk).sum := by
  induction l with
  | nil => simp [Rows.uptoBulkAll]
  | cons x l ih => simp only [Rows.uptoBulkAll, ih, List.map_cons, List.sum_cons]
theorem bulk_mem {d : DataW H} {l : List (DataW H)} (h : d ∈ l) : Rows.uptoBulk d ≤ Rows.uptoBulkAll l := by
  induction l with
  | nil => cases h
  | cons x r ih =>
    simp only [Rows.uptoBulkAll]
    cases List.mem_cons.1 h with
    | inl e => subst e; omega
    | inr e => have := ih e; omega
theorem bulk_length (l : List (DataW H)) : l.length ≤ Rows.uptoBulkAll l := by
  induction l with
  | nil => simp [Rows.uptoBulkAll]
  | cons x r ih => have := bulk_one x; simp only [Rows.uptoBulkAll, List.length_cons]; omega
theorem Rdb.rd (h : Rdb enc P w base held t cs b) : Rd enc P w base held t cs := by
  obtain ⟨fuel, x, h1, h2, -⟩ := h
  exact ⟨fuel, x, h1, h2⟩
theorem Rdb.le {c : Nat} (h : Rdb enc P w base held t cs b) (hc : b ≤ c) : Rdb enc P w base held t cs c := by
  obtain ⟨fuel, x, h1, h2, h3⟩ := h
  exact ⟨fuel, x, h1, h2, Nat.le_trans h3 hc⟩
theorem Rdb.struct {fs : Array Field} (h : Rdb enc P w base held t cs b) (ht : P.underlying t = some (.struct fs)) : cs.length = P.cellsOf t ∧
    ∀ (i : Nat) (f : Field), fs[i]? = some f → Rdb enc P w base held f.type ((cs.drop f.offset).take (P.cellsOf f.type)) b := by
  obtain ⟨fuel, x, h, hw, hb⟩ := h
  obtain ⟨xs, n, -, rfl, hl, hlen, hf⟩ := DataW.trod_struct ht h
  refine ⟨hl, fun i f hi => ?_⟩
  have hi2 : i < fs.size := by
    rcases Nat.lt_or_ge i fs.size with h | h
    · exact h
    · rw [Array.getElem?_eq_none h] at hi; cases hi
  have hx := hf i f hi
  rw [List.getElem?_eq_getElem (by omega)] at hx
  refine ⟨n, xs[i], hx, fun m hm => hw m ?_, ?_⟩
  · simp only [DataW.weights, ht]
    refine DataW.weights_mem_each (j := i) (t := f.type) (d := xs[i].1) ?_ ?_ m hm
    · rw [List.getElem?_map]
      have : fs.toList[i]? = some f := by simpa using hi
      rw [this]; rfl
    · rw [List.getElem?_map, List.getElem?_eq_getElem (by omega)]; rfl
  · simp only [Rows.uptoBulk] at hb
    have := bulk_mem (d := xs[i].1) (l := xs.map (·.1)) (List.mem_map.2 ⟨_, List.getElem_mem _, rfl⟩)
    omega
theorem Rdb.slice {e : TypeId} {N : Nat} (h : Rdb enc P w base held t cs b) (ht : P.underlying t = some (.slice e)) (ce : P.cellsOf e = N) (hN : 0 < N) (hb0 : 0 < b) :
    ∃ A n c, ∃ β : Nat → Nat, cs = [.slice A n c] ∧ n ≤ c ∧ n * P.bytesOf e ≤ 140737488351232 ∧ ((List.range n).map β).sum + 1 ≤ b ∧ n + 1 ≤ b ∧ ∀ i, i < n → ∃ bk off cs', A = some ⟨bk, off, none⟩ ∧ cs'.length = N ∧ (∀ j, j < N → w.cell? ⟨bk, off + i * N + j, none⟩ = cs'[j]?) ∧ Rdb enc P w base held e cs' (β i) := by
  obtain ⟨fuel, x, h, hw, hb⟩ := h
  rcases open_slice ht h with ⟨rfl, _⟩ | ⟨a, len, cap, mm, nn, D, Pl, rfl, _, hl, hm, hmm, hx, hi⟩
  · exact ⟨none, 0, 0, fun _ => 0, rfl, Nat.le_refl _, by omega, by simp; omega, by omega, fun i hi => absurd hi (by omega)⟩
  · simp only [if_true] at hmm
    subst hmm
    have hx1 : x.1 = .slice ((List.range len).map D) ((List.range (mm - len)).map fun j => D (len + j)) := by rw [hx]
    rw [hx1] at hw hb
    simp only [DataW.weights, ht] at hw
    simp only [Rows.uptoBulk] at hb
    have hb1 := bulk_length ((List.range len).map D)
    rw [List.length_map, List.length_range] at hb1
    have hb2 := bulk_sum ((List.range len).map D)
    rw [List.map_map] at hb2
    have hcap := hw _ (List.mem_cons_self ..)
    simp only [List.length_map, List.length_range, reachBytes] at hcap
    rw [show len + (mm - len) = mm by omega] at hcap
    have h5 : len * P.bytesOf e ≤ mm * P.bytesOf e := Nat.mul_le_mul_right _ (by omega)
    refine ⟨some a, len, mm, Rows.uptoBulk ∘ D, rfl, hl, by omega, by omega, by omega, fun i hin => ?_⟩
    obtain ⟨cs', hc, ht'⟩ := hi i (by omega)
    rw [ce] at hc
    obtain ⟨_, hcl, hat⟩ := World.cells?_some hc
    obtain ⟨bk, off, sp⟩ := a
    have hsp : sp = none := by
      obtain ⟨cs0, hc0, _⟩ := hi 0 (by omega)
      rw [ce] at hc0
      obtain ⟨_, hcl0, hat0⟩ := World.cells?_some hc0
      have h00 := hat0 0 (by omega)
      rw [List.getElem?_eq_getElem (by omega)] at h00
      have := World.cell?_spot h00
      simpa [Addr.add] using this
    subst hsp
    have hmem : D i ∈ (List.range len).map D := List.mem_map.2 ⟨i, List.mem_range.2 hin, rfl⟩
    refine ⟨bk, off, cs', rfl, hcl, fun j hj => ?_, nn, (D i, Pl i), ht', fun m hm => hw m (List.mem_cons_of_mem _ (List.mem_append_left _ (mem_weightsAll (P := P) (e := e) hmem m hm))), Nat.le_refl _⟩
    have := hat j hj
    rwa [addr_add_none, addr_add_none] at this
theorem Rdb.bytes {q : TypeId} (h : Rdb enc P w base held t cs b) (ht : P.underlying t = some (.slice q)) (hq : P.underlying q = some (.int .u8)) (cq : P.cellsOf q = 1) (bq : P.bytesOf q = 1) (hb0 : 0 < b) :
    ∃ A c bs, cs = [.slice A bs.length c] ∧ At w A bs ∧ bs.length ≤ c ∧ bs.length + 1 ≤ b := by
  obtain ⟨A, n, c, β, rfl, -, -, -, hn, -⟩ := h.slice ht cq (by omega) hb0
  obtain ⟨fuel, x, h, hw, -⟩ := h
  obtain ⟨bs, rfl, hA, hl, hm⟩ := bytes_open ht hq cq bq h hw
  exact ⟨A, c, bs, rfl, hA, hl, hn⟩
end
end Go.Proofs.Ytiieglfpmmhfiaa
namespace Go.Proofs.Ytiieglfpmmhfiaa
open Go.ChangeShapes Go.WideShapes Go.ChangeAt Go.RowKit Go.Uc

section
variable {H : Type} {enc : TypeId × Value → H} {w : World} {base : Nat} {held : Bool} {cs : List Value} {b : Nat}
theorem sum_mem (β : Nat → Nat) : ∀ (n i : Nat), i < n → β i ≤ ((List.range n).map β).sum := by
  intro n
  induction n with
  | zero => intro i hi; omega
  | succ n ih =>
    intro i hi
    rw [List.range_succ, List.map_append, List.sum_append]
    simp only [List.map_cons, List.map_nil, List.sum_cons, List.sum_nil]
    rcases Nat.lt_or_ge i n with h | h
    · have := ih i h; omega
    · have : i = n := by omega
      subst this; omega
theorem Rdb.pos {P : Program} {t : TypeId} (h : Rdb enc P w base held t cs b) : 0 < b := by
  obtain ⟨fuel, x, -, -, h⟩ := h
  have := bulk_one x.1
  omega
/-- Pages among the arguments, no more than the bulk. -/
theorem pagesb_open (h : Rdb enc Try.prog w base held 42 cs b) : ∃ A c rs, cs = [.slice A rs.length c] ∧ PgQ w A rs ∧ rs.length ≤ b ∧ ∀ p ∈ rs, p.length ≤ b := by
  obtain ⟨A, n, c, β, rfl, hl, hb, hs, hn, hx⟩ := h.slice Try.underlying42 cells53 (by omega) h.pos
  obtain ⟨rs, hrs, hr⟩ := gather (n := n) (Q := fun i (p : List UInt8) => (∃ b off Ai ci, A = some ⟨b, off, none⟩ ∧ w.cell? ⟨b, off + i, none⟩ = some (.slice Ai p.length ci) ∧ At w Ai p ∧ p.length ≤ ci) ∧ p.length ≤ b) (fun i hi => by
    obtain ⟨bk, off, cs', rfl, hcl, hc, hr⟩ := hx i hi
    obtain ⟨Ai, ci, bs, rfl, h1, h2, h3⟩ := Rdb.bytes hr Try.underlying53 Try.underlying5 cells5 (by kernel_rfl) hr.pos
    have := hc 0 (by omega)
    have := sum_mem β n i hi
    exact ⟨bs, ⟨bk, off, Ai, ci, rfl, by simpa using hc 0 (by omega), h1, h2⟩, by omega⟩)
  subst hrs
  exact ⟨A, c, rs, rfl, fun i hi => (hr i hi).1, by omega, fun p hp => by obtain ⟨i, hi, rfl⟩ := List.getElem_of_mem hp; exact (hr i hi).2⟩
end
end Go.Proofs.Ytiieglfpmmhfiaa
