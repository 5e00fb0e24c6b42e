/- How slices of structs of three numbers and bytes, and such a struct by value, are read. -/
import Derived.Test.YtmlffigfhhoihabBased
import Derived.Lib.SmallJoins
import Derived.Deep.Slices
import Derived.Deep.Fields
namespace Go.Uc
open Go.RowKit Go.ChangeShapes Go.WideShapes Go.Joins Go.Deep

section
variable {H : Type} {enc : TypeId × Value → H} {P : Program} {w : World} {base : Nat} {held : Bool} {spare : Nat → Bool}
theorem slice_val {t e : TypeId} {fuel : Nat} {v : Value} {x : DataW H × List MemPlace} (ht : P.underlying t = some (.slice e)) (h : DataW.trod enc P w base spare held fuel t [v] = some x) : ∃ A n c, v = .slice A n c := by
  rcases DataW.trod_slice ht h with ⟨h0, _⟩ | ⟨a, len, cap, elems, rest, n, _, h0, _⟩
  · simp at h0; exact ⟨none, 0, 0, h0⟩
  · simp at h0; exact ⟨some a, len, cap, h0⟩
theorem Addr.add_none (b off j : Nat) : (⟨b, off, none⟩ : Addr).add j = ⟨b, off + j, none⟩ := by unfold Addr.add; split <;> simp_all

/-- An element of four one-cell fields: three numbers and bytes. -/
def Quad (w : World) (A : Option Addr) (i : Nat) (k a m : Int) (bs : List UInt8) : Prop := ∃ b off Ai ci, A = some ⟨b, off, none⟩ ∧ w.cell? ⟨b, off + i * 4, none⟩ = some (.int .i64 k) ∧ w.cell? ⟨b, off + i * 4 + 1, none⟩ = some (.int .i64 a) ∧
  w.cell? ⟨b, off + i * 4 + 2, none⟩ = some (.int .i64 m) ∧ w.cell? ⟨b, off + i * 4 + 3, none⟩ = some (.slice Ai bs.length ci) ∧ At w Ai bs ∧ bs.length ≤ ci ∧ bs.length ≤ 140737488351232 ∧
  (-9223372036854775808 ≤ k ∧ k ≤ 9223372036854775807) ∧ (-9223372036854775808 ≤ a ∧ a ≤ 9223372036854775807) ∧ (-9223372036854775808 ≤ m ∧ m ≤ 9223372036854775807)

theorem quads_open {t e q : TypeId} {f0 f1 f2 f3 : Field} {fuel n c : Nat} {A : Option Addr} {x : DataW H × List MemPlace} (ht : P.underlying t = some (.slice e)) (he : P.underlying e = some (.struct #[f0, f1, f2, f3]))
    (hone : oneCellFields P #[f0, f1, f2, f3] = true) (ce : P.cellsOf e = 4) (be : 1 ≤ P.bytesOf e) (h0 : P.underlying f0.type = some (.int .i64)) (h1 : P.underlying f1.type = some (.int .i64)) (h2 : P.underlying f2.type = some (.int .i64))
    (h3 : P.underlying f3.type = some (.slice q)) (hq : P.underlying q = some (.int .u8)) (cq : P.cellsOf q = 1) (bq : P.bytesOf q = 1)
    (h : DataW.trod enc P w base (fun _ => true) held fuel t [.slice A n c] = some x) (hw : ∀ m ∈ x.1.weights P t, m ≤ reachBytes) :
    ∃ (k a m : Nat → Int) (B : Nat → List UInt8), n ≤ c ∧ n ≤ 140737488351232 ∧ ∀ i, i < n → Quad w A i (k i) (a i) (m i) (B i) := by
  rcases open_slice ht h with ⟨hcs, _⟩ | ⟨a, len, cap, mm, nn, D, Pl, hcs, _, hl, hm, hmm, hx, hi⟩
  · simp at hcs
    obtain ⟨rfl, rfl, rfl⟩ := hcs
    exact ⟨fun _ => 0, fun _ => 0, fun _ => 0, fun _ => [], Nat.le_refl _, by omega, fun i hi => absurd hi (by omega)⟩
  · simp at hcs
    obtain ⟨rfl, rfl, rfl⟩ := hcs
    simp only [if_true] at hmm
    subst hmm
    have hx1 : x.1 = .slice ((List.range n).map D) ((List.range (mm - n)).map fun j => D (n + j)) := by rw [hx]
    rw [hx1] at hw
    simp only [DataW.weights, ht] at hw
    have hcap : n ≤ 140737488351232 := by
      have := hw _ (List.mem_cons_self ..)
      simp only [List.length_map, List.length_range, reachBytes] at this
      have h5 : mm ≤ mm * P.bytesOf e := Nat.le_mul_of_pos_right _ be
      rw [show n + (mm - n) = mm by omega] at this
      omega
    have key : ∀ i, i < n → ∃ k a' m bs, Quad w (some a) i k a' m bs := by
      intro i hin
      obtain ⟨cs', hc, ht'⟩ := hi i (by omega)
      rw [ce] at hc
      obtain ⟨y0, y1, y2, y3, n', hy, hlen, g0, g1, g2, g3⟩ := trod_struct4 he ht'
      obtain ⟨o0, k0⟩ := hone_of hone 0 f0 rfl
      obtain ⟨o1, k1⟩ := hone_of hone 1 f1 rfl
      obtain ⟨o2, k2⟩ := hone_of hone 2 f2 rfl
      obtain ⟨o3, k3⟩ := hone_of hone 3 f3 rfl
      obtain ⟨_, hcl, hat⟩ := World.cells?_some hc
      obtain ⟨c0, c1, c2, c3, rfl⟩ : ∃ c0 c1 c2 c3, cs' = [c0, c1, c2, c3] := by
        match cs', hcl with
        | [c0, c1, c2, c3], _ => exact ⟨c0, c1, c2, c3, rfl⟩
      rw [o0, k0] at g0
      rw [o1, k1] at g1
      rw [o2, k2] at g2
      rw [o3, k3] at g3
      simp at g0 g1 g2 g3
      obtain ⟨n0, e0, _, w0⟩ := DataW.trod_int h0 g0
      obtain ⟨n1, e1, _, w1⟩ := DataW.trod_int h1 g1
      obtain ⟨n2, e2, _, w2⟩ := DataW.trod_int h2 g2
      simp at e0 e1 e2
      subst e0 e1 e2
      obtain ⟨A3, l3, c3', rfl⟩ := slice_val h3 g3
      have hD : D i = .agg [y0.1, y1.1, y2.1, y3.1] := by have := congrArg Prod.fst hy; exact this
      have hmem : D i ∈ (List.range n).map D := List.mem_map.2 ⟨i, List.mem_range.2 hin, rfl⟩
      obtain ⟨bs, rfl, hA, hlc, hlm⟩ := bytes_open h3 hq cq bq g3 (fun m hm => by
        refine hw m (List.mem_cons_of_mem _ (List.mem_append_left _ (mem_weightsAll (P := P) (e := e) hmem m ?_)))
        rw [hD]
        simp only [DataW.weights, he]
        exact DataW.weights_mem_each (j := 3) (t := f3.type) rfl rfl m hm)
      have q0 := hat 0 (by omega)
      have q1 := hat 1 (by omega)
      have q2 := hat 2 (by omega)
      have q3 := hat 3 (by omega)
      simp at q0 q1 q2 q3
      obtain ⟨b, off, sp⟩ := a
      have hsp : sp = none := by
        obtain ⟨cs0, hc0, _⟩ := hi 0 (by omega)
        rw [ce] at hc0
        obtain ⟨_, hcl0, hat0⟩ := World.cells?_some hc0
        have h00 := hat0 0 (by omega)
        rw [List.getElem?_eq_getElem (by omega)] at h00
        have := World.cell?_spot h00
        simpa [Addr.add] using this
      subst hsp
      rw [Addr.add_none, Addr.add_none] at q0 q1 q2 q3
      exact ⟨n0, n1, n2, bs, b, off, A3, c3', rfl, by simpa using q0, q1, q2, q3, hA, hlc, by omega, bounds_i64 w0, bounds_i64 w1, bounds_i64 w2⟩
    have ch : ∀ i, ∃ k a' m bs, i < n → Quad w (some a) i k a' m bs := fun i => by
      by_cases h : i < n
      · obtain ⟨k, a', m, bs, hQ⟩ := key i h
        exact ⟨k, a', m, bs, fun _ => hQ⟩
      · exact ⟨0, 0, 0, [], fun h' => absurd h' h⟩
    refine ⟨fun i => (ch i).choose, fun i => (ch i).choose_spec.choose, fun i => (ch i).choose_spec.choose_spec.choose, fun i => (ch i).choose_spec.choose_spec.choose_spec.choose, hl, hcap, fun i hin => ?_⟩
    exact (ch i).choose_spec.choose_spec.choose_spec.choose_spec hin

theorem slice_weight {t e : TypeId} {fuel n c : Nat} {A : Option Addr} {x : DataW H × List MemPlace} (ht : P.underlying t = some (.slice e))
    (h : DataW.trod enc P w base (fun _ => true) held fuel t [.slice A n c] = some x) (hw : ∀ m ∈ x.1.weights P t, m ≤ reachBytes) : n * P.bytesOf e ≤ 140737488351232 := by
  rcases open_slice ht h with ⟨hcs, _⟩ | ⟨a, len, cap, mm, nn, D, Pl, hcs, _, hl, hm, hmm, hx, hi⟩
  · simp at hcs
    obtain ⟨rfl, rfl, rfl⟩ := hcs
    omega
  · simp at hcs
    obtain ⟨rfl, rfl, rfl⟩ := hcs
    simp only [if_true] at hmm
    subst hmm
    have hx1 : x.1 = .slice ((List.range n).map D) ((List.range (mm - n)).map fun j => D (n + j)) := by rw [hx]
    rw [hx1] at hw
    simp only [DataW.weights, ht] at hw
    have := hw _ (List.mem_cons_self ..)
    simp only [List.length_map, List.length_range, reachBytes] at this
    rw [show n + (mm - n) = mm by omega] at this
    have h5 : n * P.bytesOf e ≤ mm * P.bytesOf e := Nat.mul_le_mul_right _ (by omega)
    omega

/-- Such a struct by value. -/
theorem quad_value {r : Reach} {b0 : Nat} {t q : TypeId} {f0 f1 f2 f3 : Field} {v : Value} {d : DataW H} {p : List MemPlace} (he : P.underlying t = some (.struct #[f0, f1, f2, f3])) (hone : oneCellFields P #[f0, f1, f2, f3] = true) (ce : P.cellsOf t = 4)
    (h0 : P.underlying f0.type = some (.int .i64)) (h1 : P.underlying f1.type = some (.int .i64)) (h2 : P.underlying f2.type = some (.int .i64)) (h3 : P.underlying f3.type = some (.slice q)) (hq : P.underlying q = some (.int .u8)) (cq : P.cellsOf q = 1) (bq : P.bytesOf q = 1)
    (hv : Value.okWide P w r b0 t v) (h : DataW.Trod enc P w base (fun _ => true) held t v d p) (hw : ∀ m ∈ d.weights P t, m ≤ reachBytes) :
    ∃ (k a m : Int) (bs : List UInt8) (A : Option Addr) (c : Nat), v = .agg #[.int .i64 k, .int .i64 a, .int .i64 m, .slice A bs.length c] ∧ At w A bs ∧ bs.length ≤ c ∧ bs.length ≤ 140737488351232 ∧
      (-9223372036854775808 ≤ k ∧ k ≤ 9223372036854775807) ∧ (-9223372036854775808 ≤ a ∧ a ≤ 9223372036854775807) ∧ (-9223372036854775808 ≤ m ∧ m ≤ 9223372036854775807) := by
  obtain ⟨v0, v1, v2, v3, y0, y1, y2, y3, n, rfl, rfl, rfl, g0, g1, g2, g3⟩ := open_agg4 he hone ce hv h
  obtain ⟨n0, e0, _, w0⟩ := DataW.trod_int h0 g0
  obtain ⟨n1, e1, _, w1⟩ := DataW.trod_int h1 g1
  obtain ⟨n2, e2, _, w2⟩ := DataW.trod_int h2 g2
  simp at e0 e1 e2
  subst e0 e1 e2
  obtain ⟨A3, l3, c3', rfl⟩ := slice_val h3 g3
  obtain ⟨bs, rfl, hA, hlc, hlm⟩ := bytes_open h3 hq cq bq g3 (fun m hm => by
    refine hw m ?_
    simp only [DataW.weights, he]
    exact DataW.weights_mem_each (j := 3) (t := f3.type) rfl rfl m hm)
  exact ⟨n0, n1, n2, bs, A3, c3', rfl, hA, hlc, by omega, bounds_i64 w0, bounds_i64 w1, bounds_i64 w2⟩
end
end Go.Uc
