/- An append that fits; clear of one element; Delete. -/
import Derived.Test.YtiieglfpmmhfiaaD4
import Derived.Laws.OwnMore
namespace Go.Uc
open Go.RowKit
section fits
variable {α : Type} {P : Program} {ops : Array Oper} {rest : List Oper} {o : Oper} {a : Act} {w : World} {Q : Exit → Act → World → Prop}
theorem wp_append_fit {K : Act → World → Prop} (s x : Operand) (t : TypeId)
    (ho : o.op = .call { callee := .builtin .append, args := #[s, x], argTypes := #[t, t] })
    (e : TypeId) (k : Nat) (enc : α → List Value) (z : Value) (bytes : Nat) (ht : P.underlying t = some (.slice e)) (hi : (P.info? e).map (fun i => (i.zero, i.size, i.bytes)) = some (some z, k, bytes))
    (hk : 0 < k) (henc : ∀ x, (enc x).length = k) (h1 : ∀ x, ∀ u ∈ enc x, u.oneCell' = true)
    (g cap : Nat) (xs : List α) (n : Nat) (hn : n = xs.length) (hs : a.eval s = .slice (some ⟨g, 0, none⟩) n cap) (hrow : RowP w e k enc (.slice (some ⟨g, 0, none⟩) xs.length cap) xs)
    (A : Option Addr) (m c : Nat) (ys : List α) (hx : a.eval x = .slice A m c) (hm : m = ys.length) (hr : Ats w A (ys.flatMap enc)) (hroom : xs.length + ys.length ≤ cap) (N : Nat) (hN : N = xs.length + ys.length)
    (h : ∀ w', RowP w' e k enc (.slice (some ⟨g, 0, none⟩) N cap) (xs ++ ys) → Keeps (Only g) w w' → K (a.put o.dst (.slice (some ⟨g, 0, none⟩) N cap)) w') : o.wp P a w K Q := by
  obtain ⟨i, hi0, hz0, hz1, hz2⟩ := info_p hi
  subst hm
  subst hn
  subst hN
  have hrun : ∃ w', (Builtin.append_ #[t, t] o.type #[.slice (some ⟨g, 0, none⟩) xs.length cap, .slice A ys.length c]).run P w = .ok (.slice (some ⟨g, 0, none⟩) (xs.length + ys.length) cap) w' ∧
      RowP w' e k enc (.slice (some ⟨g, 0, none⟩) (xs.length + ys.length) cap) (xs ++ ys) ∧ Keeps (Only g) w w' := by
    by_cases hp : 0 < (ys.flatMap enc).length
    · obtain ⟨ad, rfl, hc⟩ := hr hp
      obtain ⟨w', hrun, h2, h3⟩ := run_append_fits (P := P) w 0 t o.type e i k ht hi0 hz1 g xs.length cap (xs.flatMap enc) hrow ad ys.length c (ys.flatMap enc) (flat_len henc ys) hc (fun u hu => by obtain ⟨x, _, hu⟩ := List.mem_flatMap.1 hu; exact h1 x u hu) hroom
      refine ⟨w', hrun, ?_, keeps_grown (v := .slice (some ⟨g, 0, none⟩) xs.length cap) h3 |>.mono fun q hq => ?_⟩
      · unfold RowP
        rw [List.length_append, List.flatMap_append]
        exact h2
      · have : some g = some q := hq
        injection this with e1; exact e1.symm
    · have hy0 : (ys.flatMap enc).length = 0 := by omega
      cases A with
      | none =>
        have hl : ys.length = 0 := by
          rw [flat_len henc] at hy0
          rcases Nat.mul_eq_zero.1 hy0 with h | h
          · exact h
          · omega
        obtain rfl : ys = [] := List.eq_nil_of_length_eq_zero hl
        exact ⟨w, run_append_of_nil 0 t o.type e i k ht hi0 _ xs.length (xs.flatMap enc) hrow c, by simpa using hrow, Keeps.refl _ _⟩
      | some ad =>
        obtain ⟨w', hrun, h2, h3⟩ := run_append_fits (P := P) w 0 t o.type e i k ht hi0 hz1 g xs.length cap (xs.flatMap enc) hrow ad ys.length c (ys.flatMap enc) (flat_len henc ys) (fun j u hj => by have := (List.getElem?_eq_some_iff.1 hj).1; omega) (fun u hu => by obtain ⟨x, _, hu⟩ := List.mem_flatMap.1 hu; exact h1 x u hu) hroom
        refine ⟨w', hrun, ?_, keeps_grown (v := .slice (some ⟨g, 0, none⟩) xs.length cap) h3 |>.mono fun q hq => ?_⟩
        · unfold RowP
          rw [List.length_append, List.flatMap_append]
          exact h2
        · have : some g = some q := hq
          injection this with e1; exact e1.symm
  obtain ⟨w', hrun, h2, h3⟩ := hrun
  unfold Oper.wp execOp
  simp only [ho, resolve, invoke, builtin, Sem.run_bind, Sem.run_pure, Result.andThen_ok, List.map_toArray, List.map_cons, List.map_nil, hs, hx, hrun]
  exact h w' h2 h3
theorem step_append_fit {K : Act → World → Prop} {E : Prop} (hgd : o.guard = none) (s x : Operand) (t : TypeId)
    (ho : o.op = .call { callee := .builtin .append, args := #[s, x], argTypes := #[t, t] })
    (e : TypeId) (k : Nat) (enc : α → List Value) (z : Value) (bytes : Nat) (ht : P.underlying t = some (.slice e)) (hi : (P.info? e).map (fun i => (i.zero, i.size, i.bytes)) = some (some z, k, bytes))
    (hk : 0 < k) (henc : ∀ x, (enc x).length = k) (h1 : ∀ x, ∀ u ∈ enc x, u.oneCell' = true)
    (g cap : Nat) (xs : List α) (n : Nat) (hn : n = xs.length) (hs : a.eval s = .slice (some ⟨g, 0, none⟩) n cap) (hrow : RowP w e k enc (.slice (some ⟨g, 0, none⟩) xs.length cap) xs)
    (A : Option Addr) (m c : Nat) (ys : List α) (hx : a.eval x = .slice A m c) (hm : m = ys.length) (hr : Ats w A (ys.flatMap enc)) (hroom : xs.length + ys.length ≤ cap) (N : Nat) (hN : N = xs.length + ys.length)
    (h : ∀ w', RowP w' e k enc (.slice (some ⟨g, 0, none⟩) N cap) (xs ++ ys) → Keeps (Only g) w w' → K (a.put o.dst (.slice (some ⟨g, 0, none⟩) N cap)) w') :
    if Region.wanted o (yielded ops a.tmps) = true then Oper.wp P o a w K Q else E := by
  have hw : Region.wanted o (yielded ops a.tmps) = true := by simp [Region.wanted, hgd]
  rw [if_pos hw]
  exact wp_append_fit s x t ho e k enc z bytes ht hi hk henc h1 g cap xs n hn hs hrow A m c ys hx hm hr hroom N hN h
/-- 'clear(s)', s of one element. -/
theorem wpList_clear_one (hgd : o.guard = none) (s : Operand) (t : TypeId)
    (ho : o.op = .call { callee := .builtin .clear, args := #[s], argTypes := #[t] }) (e : TypeId) (ht : P.underlying t = some (.slice e)) (z : Value) (hz : ∀ w, (zeroValue e).run P w = .ok z w) (h1 : ∀ u ∈ z.cells, u.oneCell' = true)
    (g off c : Nat) (hs : a.eval s = .slice (some ⟨g, off, none⟩) 1 c) (cur : Array Value) (ty : TypeId) (hg : Blk w g ty cur) (hfit : off + z.cells.size ≤ cur.size)
    (h : ∀ w', Blk w' g ty (cur.toList.take off ++ (z.cells.toList ++ cur.toList.drop (off + z.cells.size))).toArray → Keeps (Only g) w w' → wpList P ops Q rest (a.put o.dst (.tuple #[])) w') : wpList P ops Q (o :: rest) a w := by
  have hzc : (Builtin.zeroCells z.cells 1).toList = z.cells.toList := by
    simp [Builtin.zeroCells]
    apply List.ext_getElem
    · simp
    · intro i h1 h2
      simp at h1 ⊢
      simp only [Nat.mod_eq_of_lt h1]
      exact getElem!_pos z.cells i h1
  have hst := run_storeCells_at (P := P) g off ty z.cells.toList 0 cur w hg (by simpa using hfit) (fun v hv => h1 v (by simpa using hv))
  simp only [Nat.add_zero, Array.length_toList] at hst
  have hrun : (Builtin.clear_ #[t] o.type #[.slice (some ⟨g, off, none⟩) 1 c]).run P w = .ok (.tuple #[]) (w.setRow g (cur.toList.take off ++ z.cells.toList ++ cur.toList.drop (off + z.cells.size)).toArray) := by
    simp [Builtin.clear_, run_underlying ht, hz, hzc, hst]
  refine wpList_plain hgd fun K hK => ?_
  unfold Oper.wp
  simp [execOp, ho, resolve, invoke, builtin, hs, hrun, Result.andThen]
  exact hK _ _ (h _ (hg.row _) (Keeps.row _ _ _))
end fits
/-- A shorter row in the same block. -/
theorem RowP.front {α : Type} {w : World} {e : TypeId} {k : Nat} {enc : α → List Value} {g cap : Nat} {xs : List α} (henc : ∀ x, (enc x).length = k) (h : RowP w e k enc (.slice (some ⟨g, 0, none⟩) xs.length cap) xs) (n : Nat) (hn : n ≤ xs.length) :
    RowP w e k enc (.slice (some ⟨g, 0, none⟩) n cap) (xs.take n) := by
  rcases h.form with ⟨e1, -⟩ | ⟨g', cap', cur, e1, hB, h4, h5, h6, h7⟩
  · cases e1
  injection e1 with e1 _ e2
  injection e1 with e1
  injection e1 with e1
  subst e1 e2
  have hl : (xs.take n).length = n := by simp; omega
  have := RowP.mk (xs := xs.take n) henc hB (by rw [hl]; omega) h5 h6 ?_
  · rw [hl] at this; exact this
  · rw [hl]
    have h8 : n * k ≤ xs.length * k := Nat.mul_le_mul_right _ hn
    have h9 := congrArg (List.take (n * k)) h7
    rw [List.take_take, Nat.min_eq_left h8] at h9
    rw [h9]
    have h10 : xs.flatMap enc = (xs.take n).flatMap enc ++ (xs.drop n).flatMap enc := by rw [← List.flatMap_append, List.take_append_drop]
    rw [h10]
    exact List.take_left' (by rw [flat_len henc, hl])
end Go.Uc
