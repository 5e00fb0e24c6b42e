/- Rows of whatever elements: a slice of the program's own, each element laid by enc in k cells. -/
import Derived.Test.YtiieglfpmmhfiaaBase
import Derived.Deep.RegionLaw
namespace Go.Uc
open Go.RowKit

/-- The block of a slice, if it has one. -/
def own (v : Value) : List Nat := v.ownBlock.toList
theorem mem_own {v : Value} {g : Nat} : g ∈ own v ↔ v.ownBlock = some g := by unfold own; cases v.ownBlock <;> simp [eq_comm]
theorem own_slice (g n c : Nat) : own (.slice (some ⟨g, 0, none⟩) n c) = [g] := rfl
theorem own_nil (n c : Nat) : own (.slice none n c) = [] := rfl
section rows
variable {α : Type} {w w' : World} {e : TypeId} {k : Nat} {enc : α → List Value} {v : Value} {xs : List α}
def RowP (w : World) (e : TypeId) (k : Nat) (enc : α → List Value) (v : Value) (xs : List α) : Prop := w.ownsRow 0 e k v xs.length (xs.flatMap enc)

theorem flat_len (henc : ∀ x, (enc x).length = k) (xs : List α) : (xs.flatMap enc).length = xs.length * k := by
  induction xs with
  | nil => simp
  | cons x xs ih => rw [List.flatMap_cons, List.length_append, ih, henc, List.length_cons, Nat.succ_mul, Nat.add_comm]
theorem flat_get (henc : ∀ x, (enc x).length = k) : ∀ (xs : List α) (i j : Nat) (hi : i < xs.length), j < k → (xs.flatMap enc)[i * k + j]? = (enc xs[i])[j]? := by
  intro xs
  induction xs with
  | nil => intro i j hi; simp at hi
  | cons x xs ih =>
    intro i j hi hj
    rw [List.flatMap_cons]
    cases i with
    | zero =>
      rw [Nat.zero_mul, Nat.zero_add, List.getElem?_append_left (by rw [henc]; exact hj)]
      rfl
    | succ i =>
      simp at hi
      rw [List.getElem?_append_right (by rw [henc, Nat.succ_mul]; omega), henc, show (i + 1) * k + j - k = i * k + j by rw [Nat.succ_mul]; omega, ih i j hi hj]
      rfl
theorem RowP.nil (w : World) (e : TypeId) (k : Nat) (enc : α → List Value) : RowP w e k enc (.slice none 0 0) [] := World.ownsRow_nil _ _ _ _
theorem RowP.keep {S : Nat → Prop} (h : RowP w e k enc v xs) (hk : Keeps S w w') (hb : ∀ g ∈ own v, ¬ S g) : RowP w' e k enc v xs := row_keep h hk fun g hg => hb g (mem_own.2 hg)
theorem RowP.non (h : RowP w e k enc v xs) (hk : Keeps Non w w') : RowP w' e k enc v xs := h.keep hk fun _ _ e => e
theorem RowP.form (h : RowP w e k enc v xs) : (v = .slice none 0 0 ∧ xs = []) ∨ ∃ g cap cur, v = .slice (some ⟨g, 0, none⟩) xs.length cap ∧ Blk w g e cur ∧ xs.length ≤ cap ∧ cap ≤ maxLen ∧ cur.size = cap * k ∧ cur.toList.take (xs.length * k) = xs.flatMap enc := by
  rcases h.2 with ⟨h1, h2⟩ | ⟨g, cap, cur, h1, _, h3, h4, h5, h6, h7⟩
  · exact .inl ⟨h1, List.eq_nil_of_length_eq_zero h2⟩
  · exact .inr ⟨g, cap, cur, h1, h3, h4, h5, h6, h7⟩
theorem RowP.mk {g cap : Nat} {cur : Array Value} (henc : ∀ x, (enc x).length = k) (hB : Blk w g e cur) (hl : xs.length ≤ cap) (hc : cap ≤ maxLen) (hs : cur.size = cap * k) (ht : cur.toList.take (xs.length * k) = xs.flatMap enc) : RowP w e k enc (.slice (some ⟨g, 0, none⟩) xs.length cap) xs :=
  ⟨flat_len henc xs, .inr ⟨g, cap, cur, rfl, Nat.zero_le _, hB, hl, hc, hs, ht⟩⟩
theorem RowP.val (h : RowP w e k enc v xs) : ∃ A c, v = .slice A xs.length c ∧ xs.length ≤ c ∧ c ≤ maxLen := by
  rcases h.form with ⟨rfl, rfl⟩ | ⟨g, cap, cur, rfl, _, h4, h5, _⟩
  · exact ⟨none, 0, rfl, Nat.le_refl _, by decide⟩
  · exact ⟨_, cap, rfl, h4, h5⟩
theorem RowP.lt (h : RowP w e k enc v xs) : ∀ g ∈ own v, g < w.heap.size := by
  intro g hg
  rcases h.form with ⟨rfl, rfl⟩ | ⟨g', cap, cur, rfl, h3, _⟩
  · simp [own_nil] at hg
  · simp [own_slice] at hg
    subst hg
    exact h3.lt
/-- The cells of element i. -/
theorem RowP.at_ (henc : ∀ x, (enc x).length = k) (h : RowP w e k enc v xs) {i : Nat} (hi : i < xs.length) : ∃ g cap, v = .slice (some ⟨g, 0, none⟩) xs.length cap ∧ xs.length ≤ cap ∧ cap ≤ maxLen ∧ (∀ j, j < k → w.cell? ⟨g, i * k + j, none⟩ = (enc xs[i])[j]?) ∧ (∀ j, w.frozen? ⟨g, j, none⟩ = false) ∧ g < w.heap.size := by
  rcases h.form with ⟨rfl, rfl⟩ | ⟨g, cap, cur, rfl, h3, h4, h5, h6, h7⟩
  · simp at hi
  · refine ⟨g, cap, rfl, h4, h5, fun j hj => ?_, fun j => h3.frozen j, h3.lt⟩
    rw [h3.cell, ← flat_get henc xs i j hi hj, ← h7]
    have : i * k + j < xs.length * k := by
      calc i * k + j < i * k + k := by omega
        _ = (i + 1) * k := by rw [Nat.succ_mul]
        _ ≤ xs.length * k := Nat.mul_le_mul_right _ (by omega)
    rw [List.getElem?_take, if_pos this]
    simp
/-- What an append reads of it. -/
theorem RowP.ats (h : RowP w e k enc v xs) (henc : ∀ x, (enc x).length = k) : ∃ A c, v = .slice A xs.length c ∧ xs.length ≤ c ∧ Ats w A (xs.flatMap enc) := by
  rcases h.form with ⟨rfl, rfl⟩ | ⟨g, cap, cur, rfl, h3, h4, h5, h6, h7⟩
  · exact ⟨none, 0, rfl, Nat.le_refl _, fun h => absurd h (by simp)⟩
  · refine ⟨_, cap, rfl, h4, fun _ => ⟨_, rfl, fun j u hj => ?_⟩⟩
    have hlt : j < (xs.flatMap enc).length := (List.getElem?_eq_some_iff.1 hj).1
    rw [flat_len henc] at hlt
    rw [show (⟨g, 0, none⟩ : Addr).add j = ⟨g, j, none⟩ from by unfold Addr.add; split <;> simp_all, h3.cell]
    rw [← h7, List.getElem?_take, if_pos hlt] at hj
    simpa using hj
/-- Another row in the same cells. -/
theorem RowP.put {g cap : Nat} {cur : Array Value} {ys : List α} (h : RowP w e k enc (.slice (some ⟨g, 0, none⟩) xs.length cap) xs) (henc : ∀ x, (enc x).length = k) (hB : Blk w' g e cur) (hl : ys.length ≤ cap) (hs : cur.size = cap * k) (hg : ∀ p, p < ys.length * k → cur[p]? = (ys.flatMap enc)[p]?) : RowP w' e k enc (.slice (some ⟨g, 0, none⟩) ys.length cap) ys := by
  obtain ⟨A, c, e1, _, hc⟩ := h.val
  injection e1 with _ _ e1
  subst e1
  refine RowP.mk henc hB hl hc hs ?_
  apply List.ext_getElem?
  intro p
  rw [List.getElem?_take]
  by_cases hp : p < ys.length * k
  · rw [if_pos hp, ← hg p hp]
    simp
  · rw [if_neg hp, List.getElem?_eq_none (by rw [flat_len henc]; omega)]
theorem info_p {P : Program} {e : TypeId} {z : Value} {k bytes : Nat} (h : (P.info? e).map (fun i => (i.zero, i.size, i.bytes)) = some (some z, k, bytes)) : ∃ i, P.info? e = some i ∧ i.zero = some z ∧ i.size = k ∧ i.bytes = bytes := by
  cases hi : P.info? e with
  | none => simp [hi] at h
  | some i => simp [hi] at h; exact ⟨i, rfl, h.1, h.2.1, h.2.2⟩

variable {P : Program} {ops : Array Oper} {rest : List Oper} {o : Oper} {a : Act} {Q : Exit → Act → World → Prop}
theorem wp_append_row {K : Act → World → Prop} (s x : Operand) (t : TypeId)
    (ho : o.op = .call { callee := .builtin .append, args := #[s, x], argTypes := #[t, t] })
    (e : TypeId) (k : Nat) (enc : α → List Value) (z : Value) (bytes : Nat) (ht : P.underlying t = some (.slice e)) (hi : (P.info? e).map (fun i => (i.zero, i.size, i.bytes)) = some (some z, k, bytes)) (hz : z.cells.size = k) (hk : 0 < k)
    (henc : ∀ x, (enc x).length = k) (h1 : ∀ x, ∀ u ∈ enc x, u.oneCell' = true)
    (v : Value) (xs : List α) (hs : a.eval s = v) (hrow : RowP w e k enc v xs)
    (A : Option Addr) (m c : Nat) (ys : List α) (hx : a.eval x = .slice A m c) (hm : m = ys.length) (hr : Ats w A (ys.flatMap enc))
    (hmax : xs.length + ys.length ≤ maxLen) (hbytes : (xs.length + ys.length) * bytes ≤ 140737488355328)
    (h : ∀ v' w', RowP w' e k enc v' (xs ++ ys) → Keeps (· ∈ own v) w w' → (v'.ownBlock = v.ownBlock ∨ v'.ownBlock = some w.heap.size) → K (a.put o.dst v') w') : o.wp P a w K Q := by
  obtain ⟨i, hi0, hz0, hz1, hz2⟩ := info_p hi
  subst hm
  refine wp_append_any s x t ho 0 e i z k bytes ht hi0 hz0 hz1 hz2 hz hk v xs.length (xs.flatMap enc) hs hrow A ys.length c (ys.flatMap enc) hx (flat_len henc ys) hr ?_ hmax hbytes (Nat.zero_le _) fun v' w' h2 h3 h4 => h v' w' ?_ (h3.mono fun g hg => mem_own.2 hg) h4
  · intro u hu
    obtain ⟨x, _, hu⟩ := List.mem_flatMap.1 hu
    exact h1 x u hu
  · unfold RowP
    rw [List.length_append, List.flatMap_append]
    exact h2
theorem wpList_append_row (hgd : o.guard = none) (s x : Operand) (t : TypeId)
    (ho : o.op = .call { callee := .builtin .append, args := #[s, x], argTypes := #[t, t] })
    (e : TypeId) (k : Nat) (enc : α → List Value) (z : Value) (bytes : Nat) (ht : P.underlying t = some (.slice e)) (hi : (P.info? e).map (fun i => (i.zero, i.size, i.bytes)) = some (some z, k, bytes)) (hz : z.cells.size = k) (hk : 0 < k)
    (henc : ∀ x, (enc x).length = k) (h1 : ∀ x, ∀ u ∈ enc x, u.oneCell' = true)
    (v : Value) (xs : List α) (hs : a.eval s = v) (hrow : RowP w e k enc v xs)
    (A : Option Addr) (m c : Nat) (ys : List α) (hx : a.eval x = .slice A m c) (hm : m = ys.length) (hr : Ats w A (ys.flatMap enc))
    (hmax : xs.length + ys.length ≤ maxLen) (hbytes : (xs.length + ys.length) * bytes ≤ 140737488355328)
    (h : ∀ v' w', RowP w' e k enc v' (xs ++ ys) → Keeps (· ∈ own v) w w' → (v'.ownBlock = v.ownBlock ∨ v'.ownBlock = some w.heap.size) → wpList P ops Q rest (a.put o.dst v') w') : wpList P ops Q (o :: rest) a w :=
  wpList_plain hgd fun _ hK => wp_append_row s x t ho e k enc z bytes ht hi hz hk henc h1 v xs hs hrow A m c ys hx hm hr hmax hbytes fun v' w' h2 h3 h4 => hK _ _ (h v' w' h2 h3 h4)
theorem step_append_row {K : Act → World → Prop} {E : Prop} (hgd : o.guard = none) (s x : Operand) (t : TypeId)
    (ho : o.op = .call { callee := .builtin .append, args := #[s, x], argTypes := #[t, t] })
    (e : TypeId) (k : Nat) (enc : α → List Value) (z : Value) (bytes : Nat) (ht : P.underlying t = some (.slice e)) (hi : (P.info? e).map (fun i => (i.zero, i.size, i.bytes)) = some (some z, k, bytes)) (hz : z.cells.size = k) (hk : 0 < k)
    (henc : ∀ x, (enc x).length = k) (h1 : ∀ x, ∀ u ∈ enc x, u.oneCell' = true)
    (v : Value) (xs : List α) (hs : a.eval s = v) (hrow : RowP w e k enc v xs)
    (A : Option Addr) (m c : Nat) (ys : List α) (hx : a.eval x = .slice A m c) (hm : m = ys.length) (hr : Ats w A (ys.flatMap enc))
    (hmax : xs.length + ys.length ≤ maxLen) (hbytes : (xs.length + ys.length) * bytes ≤ 140737488355328)
    (h : ∀ v' w', RowP w' e k enc v' (xs ++ ys) → Keeps (· ∈ own v) w w' → (v'.ownBlock = v.ownBlock ∨ v'.ownBlock = some w.heap.size) → K (a.put o.dst v') w') :
    if Region.wanted o (yielded ops a.tmps) = true then Oper.wp P o a w K Q else E := by
  have hw : Region.wanted o (yielded ops a.tmps) = true := by simp [Region.wanted, hgd]
  rw [if_pos hw]
  exact wp_append_row s x t ho e k enc z bytes ht hi hz hk henc h1 v xs hs hrow A m c ys hx hm hr hmax hbytes h
/-- A literal just laid, of whatever length. -/
theorem Ats.lit (w : World) (cs : Array Value) (t : TypeId) (L : List Value) (h : cs = L.toArray) : Ats (w.alloc (.cells cs t)) (some ⟨w.heap.size, 0, none⟩) L := fun _ => ⟨_, rfl, fun j u hj => by
  rw [show (⟨w.heap.size, 0, none⟩ : Addr).add j = ⟨w.heap.size, j, none⟩ from by unfold Addr.add; split <;> simp_all, (Blk.new w t cs).cell, h]
  simpa using hj⟩
theorem Ats.non {A : Option Addr} {L : List Value} (h : Ats w A L) (hk : Keeps Non w w') : Ats w' A L := fun hp => by
  obtain ⟨ad, e, hc⟩ := h hp
  exact ⟨ad, e, fun j u hj => hk.cell (hc j u hj) id⟩
theorem Ats.keep {S : Nat → Prop} {A : Option Addr} {L : List Value} (h : Ats w A L) (hk : Keeps S w w') (hb : ∀ ad, A = some ad → ¬ S ad.block) : Ats w' A L := fun hp => by
  obtain ⟨ad, e, hc⟩ := h hp
  exact ⟨ad, e, fun j u hj => hk.cell (hc j u hj) (by rw [Addr.add_block]; exact hb ad e)⟩
/-- A row just laid by a literal. -/
theorem RowP.lit (henc : ∀ x, (enc x).length = k) (w : World) (e : TypeId) (xs : List α) (cs : Array Value) (h : cs = (xs.flatMap enc).toArray) (hm : xs.length ≤ maxLen) : RowP (w.alloc (.cells cs e)) e k enc (.slice (some ⟨w.heap.size, 0, none⟩) xs.length xs.length) xs := by
  subst h
  refine RowP.mk henc (Blk.new w e _) (Nat.le_refl _) hm ?_ ?_
  · simp [flat_len henc]
  · simp [List.take_of_length_le, flat_len henc]
end rows
end Go.Uc
