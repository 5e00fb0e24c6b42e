import Derived.Test.YtmlffigfhhoihaaT9
namespace Go.Proofs.Ytmlffigfhhoihaa
open Go.RowKit Go.Uc

theorem info31 : (Try.prog.info? 31).map (fun i => (i.zero, i.size, i.bytes)) = some (some (.slice none 0 0), 1, 24) := by kernel_rfl

/-- A slice value that reads as bytes. -/
def SlB (w : World) (v : Value) (xs : List UInt8) : Prop := ∃ A c, v = .slice A xs.length c ∧ At w A xs ∧ xs.length ≤ c ∧ xs.length ≤ 140737488351232
/-- A row of the call's own whose elements are such slices. -/
def RowB (w : World) (B : Nat) (E : Value → List UInt8 → Prop) (v : Value) (ls : List (List UInt8)) : Prop := ∃ vs : List Value, w.ownsRow B 31 1 v ls.length vs ∧ vs.length = ls.length ∧ ∀ i (h : i < ls.length) (h' : i < vs.length), E vs[i] ls[i]
theorem RowB.nil (w : World) (B : Nat) (E : Value → List UInt8 → Prop) : RowB w B E (.slice none 0 0) [] := ⟨[], World.ownsRow_nil _ _ _ _, rfl, fun i h => absurd h (by simp)⟩
theorem RowB.mono {w : World} {B : Nat} {E E' : Value → List UInt8 → Prop} {v : Value} {ls : List (List UInt8)} (h : RowB w B E v ls) (he : ∀ v xs, E v xs → E' v xs) : RowB w B E' v ls := by
  obtain ⟨vs, h1, h2, h3⟩ := h
  exact ⟨vs, h1, h2, fun i a b => he _ _ (h3 i a b)⟩
theorem RowB.keep {w w' : World} {S : Nat → Prop} {B : Nat} {E : Value → List UInt8 → Prop} {v : Value} {ls : List (List UInt8)} (h : RowB w B E v ls) (hk : Keeps S w w') (hb : ∀ g, v.ownBlock = some g → ¬ S g) : RowB w' B E v ls := by
  obtain ⟨vs, h1, h2, h3⟩ := h
  exact ⟨vs, row_keep h1 hk hb, h2, h3⟩
theorem RowB.snoc {w : World} {B : Nat} {E : Value → List UInt8 → Prop} {v u : Value} {ls : List (List UInt8)} {xs : List UInt8} {vs : List Value} (h1 : w.ownsRow B 31 1 v (ls.length + 1) (vs ++ [u])) (h2 : vs.length = ls.length)
    (h3 : ∀ i (h : i < ls.length) (h' : i < vs.length), E vs[i] ls[i]) (hu : E u xs) : RowB w B E v (ls ++ [xs]) := by
  refine ⟨vs ++ [u], by simpa using h1, by simp [h2], fun i a b => ?_⟩
  rcases Nat.lt_or_ge i ls.length with hi | hi
  · rw [List.getElem_append_left (by omega), List.getElem_append_left hi]; exact h3 i hi (by omega)
  · simp at a
    obtain rfl : i = ls.length := by omega
    rw [List.getElem_append_right (by omega), List.getElem_append_right (by omega)]
    simpa [h2] using hu
theorem RowB.recs {w : World} {B : Nat} {v : Value} {ls : List (List UInt8)} (h : RowB w B (SlB w) v ls) : ∃ A c, v = .slice A ls.length c ∧ Recs w A ls ∧ ls.length ≤ c := by
  obtain ⟨vs, h1, h2, h3⟩ := h
  rcases h1.2 with ⟨rfl, h4⟩ | ⟨g, cap, cur, rfl, h4, h5, h6, h7, h8, h9⟩
  · obtain rfl := List.eq_nil_of_length_eq_zero h4
    exact ⟨none, 0, rfl, fun i h => absurd h (by simp), Nat.le_refl _⟩
  · refine ⟨_, cap, rfl, fun i hi => ?_, h6⟩
    obtain ⟨A, c, e, hA, hc, h64⟩ := h3 i hi (by omega)
    refine ⟨g, 0, A, c, rfl, ?_, hA, hc, h64⟩
    rw [Nat.zero_add, cell_of_row w g i cur 31 (0, 0) h5, ← e]
    have e1 : (cur.toList.take (ls.length * 1))[i]? = some (vs[i]'(by omega)) := by rw [h9]; simp
    rw [List.getElem?_take, if_pos (by omega)] at e1
    simpa using e1
theorem OwnB.slb {w : World} {B : Nat} {v : Value} {xs : List UInt8} (h : OwnB w B 5 v xs) (h64 : xs.length ≤ 140737488351232) : SlB w v xs := by
  obtain ⟨A, c, h1, h2, h3, _⟩ := h.open
  exact ⟨A, c, h1, h3, h2, h64⟩
theorem SlB.keep {w w' : World} {v : Value} {xs : List UInt8} (h : SlB w v xs) (hk : Keeps Non w w') : SlB w' v xs := by
  obtain ⟨A, c, h1, h2, h3⟩ := h
  exact ⟨A, c, h1, h2.non hk, h3⟩
theorem recs_non {w w' : World} {A : Option Addr} {rs : List (List UInt8)} (h : Recs w A rs) (hk : Keeps Non w w') : Recs w' A rs := fun i hi => by
  obtain ⟨b, off, Ai, ci, h1, h2, h3, h4, h5⟩ := h i hi
  exact ⟨b, off, Ai, ci, h1, hk.cell h2 id, h3.non hk, h4, h5⟩

theorem str_inj {a b : List UInt8} (h : str a = str b) : a = b := by
  unfold str at h
  injection h with h
  injection h

set_option maxHeartbeats 1000000 in
/-- Same: are two lists of records the same? -/
theorem same_any (A B : Option Addr) (c d : Nat) (xs ys : List (List UInt8)) (w : World) (hA : Recs w A xs) (hB : Recs w B ys) (h1 : xs.length ≤ 140737488351232) (h2 : ys.length ≤ 140737488351232) (hxy : xs = ys) :
    Calls Try.prog 18 #[.slice A xs.length c, .slice B ys.length d] w fun e w' => e = .returned (.bool true) ∧ Keeps Non w w' := by
  subst hxy
  have HA := Lib.hid hA
  have HB := Lib.hid hB
  clear hA hB
  go_enter Try.func18, Try.ntmps18
  go_wp2
  go_loopw [5] (fun i wr => ∃ k : Nat, k ≤ xs.length ∧ i = .int .i64 k ∧ Keeps Non w wr) (fun i _ => xs.length - (intOf i).toNat)
  case atStart => exact ⟨0, by omega, rfl, Keeps.refl _ _⟩
  case round =>
    obtain ⟨k, hk, rfl, hK⟩ := hrel
    by_cases hlt : k < xs.length
    · obtain ⟨b, off, Ai, ci, rfl, hc, hAt, hci, h64⟩ := HA.out k hlt
      obtain ⟨b2, off2, Bi, di, rfl, hc2, hBt, hdi, _⟩ := HB.out k hlt
      have q1 := hK.cell hc id
      have q2 := hK.cell hc2 id
      have cv1 : ∀ nq, (convert 31 9 (.slice Ai xs[k].length ci)).run Try.prog (wr.drewN nq) = .ok (.string (str xs[k])) (wr.drewN nq) := fun nq =>
        run_convert_at 31 9 5 Try.underlying31 Try.underlying5 Try.underlying9 _ _ (hAt.non (hK.drewN nq)) _ _ rfl
      have cv2 : ∀ nq, (convert 31 9 (.slice Bi xs[k].length di)).run Try.prog (wr.drewN nq) = .ok (.string (str xs[k])) (wr.drewN nq) := fun nq =>
        run_convert_at 31 9 5 Try.underlying31 Try.underlying5 Try.underlying9 _ _ (hBt.non (hK.drewN nq)) _ _ rfl
      clear hc hc2 hAt hBt
      go_wp2
      go_quiet (fail)
      go_wp2
      go_roundw
      case rel => exact ⟨k + 1, by omega, by go_num, hK.drewN _⟩
      case measure => simp [intOf]; omega
    · go_wp2
      go_ret
      exact ⟨rfl, hK⟩
end Go.Proofs.Ytmlffigfhhoihaa
