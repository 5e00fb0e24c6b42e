/- A leaf split. -/
import Derived.Test.YtiieglfpmmhfiaaD6
import Derived.Test.YtiieglfpmmhfiaaP2
namespace Go.Proofs.Ytiieglfpmmhfiaa
set_option maxRecDepth 100000
open Go.RowKit Go.Uc

/-- What a change of a dictionary leaves. -/
def DoneD (T L : TypeId) (w : World) (g : Nat) (t l : Sl) (ps : List (Nat × Sl)) (d' : Dic) (w' : World) : Prop :=
  ∃ t2 l2 ps2, DictM T L w' g d' t2 l2 ps2 ∧ Keeps (· ∈ foot g t l ps) w w' ∧ ∀ q ∈ foot g t2 l2 ps2, q ∈ foot g t l ps ∨ w.heap.size ≤ q
/-- Twice as many places. -/
theorem widen_mem {T L : TypeId} {w w7 w8 : World} {g : Nat} {d : Dic} {t l : Sl} {ps : List (Nat × Sl)} (h : DictM T L w g d t l ps) {s8 : Sl} (w6 : World) (hw6 : w6 = w.setCell ⟨g, 1, none⟩ (.int .i64 ((d.depth + 1 : Nat) : Int)))
    (hK7 : Keeps Non w6.drew w7) (hO : RowN w8 s8.v (d.table ++ d.table)) (hK8 : Keeps (· ∈ own t.v) w7 w8) (hat : s8.v.ownBlock = t.v.ownBlock ∨ s8.v.ownBlock = some w7.heap.size) :
    DictM T L (w8.setCell ⟨g, 2, none⟩ s8.v) g { d with depth := d.depth + 1, table := d.table ++ d.table } s8 l ps ∧ Keeps (· ∈ foot g t l ps) w (w8.setCell ⟨g, 2, none⟩ s8.v) ∧ ∀ q ∈ own s8.v, q ∈ own t.v ∨ w.heap.size ≤ q := by
  have hn := nod_iff.1 h.nod
  have hlow := h.low
  have k1 : Keeps (Only g) w w6 := by rw [hw6]; exact (Keeps.refl (Only g) _).set (p := ⟨g, 1, none⟩) rfl _
  have k7 : Keeps (Only g) w w7 := (k1.drew).non hK7
  have k9 : Keeps (Only g) w8 (w8.setCell ⟨g, 2, none⟩ s8.v) := (Keeps.refl (Only g) _).set (p := ⟨g, 2, none⟩) rfl _
  have hsz : w.heap.size ≤ w7.heap.size := k7.size
  have h8 : ∀ q ∈ own s8.v, q ∈ own t.v ∨ q = w7.heap.size := fun q hq => by
    rw [mem_own] at hq
    rcases hat with e | e
    · rw [e] at hq; exact .inl (mem_own.2 hq)
    · rw [e] at hq; injection hq with hq; exact .inr hq.symm
  have hg8 : g ∉ own s8.v := fun hq => by
    rcases h8 _ hq with h' | h'
    · exact hn.gt h'
    · have := hlow g foot_g; omega
  have hb6 : Blk w6 g T #[.bool d.small, .int .i64 ((d.depth + 1 : Nat) : Int), t.v, l.v] := by rw [hw6]; exact h.blk.set 1 _
  have hb9 := ((hb6.drew.non hK7).keep hK8 hn.gt).set 2 s8.v
  refine ⟨⟨hb9, ?_, ?_, h.len, h.dep, ?_, nod_iff.2 (hn.table fun q hq => ?_)⟩, ?_, fun q hq => ?_⟩
  · exact hO.keep k9 fun q hq e => hg8 (by unfold Only at e; exact e ▸ hq)
  · exact ((h.lvs.keep k7 fun q hq e => hn.gl (by unfold Only at e; exact e ▸ hq)).keep hK8 fun q hq hq' => hn.tl q hq' hq).keep k9 fun q hq e => hn.gl (by unfold Only at e; exact e ▸ hq)
  · intro i hi hi'
    have hm : ∀ q ∈ own ps[i].2.v, q ∈ ents ps := fun q hq => mem_ents.2 ⟨i, hi, hq⟩
    exact (((h.ent i hi hi').keep k7 fun q hq e => hn.ge (by unfold Only at e; exact e ▸ hm q hq)).keep hK8 fun q hq hq' => hn.te q hq' (hm q hq)).keep k9 fun q hq e => hn.ge (by unfold Only at e; exact e ▸ hm q hq)
  · rcases h8 _ hq with h' | h'
    · exact ⟨fun e => hn.gt (e ▸ h'), fun hl => hn.tl _ h' hl, hn.te _ h'⟩
    · have hq' : ∀ x ∈ foot g t l ps, q ≠ x := fun x hx e => by have := hlow x hx; omega
      exact ⟨hq' _ foot_g, fun ht => hq' q (foot_l ht) rfl, fun he => hq' q (mem_foot.2 (.inr (.inr (.inr he)))) rfl⟩
  · have a1 : Keeps (· ∈ foot g t l ps) w w7 := k7.mono fun q e => by unfold Only at e; exact e ▸ foot_g
    have a2 : Keeps (· ∈ foot g t l ps) w w8 := a1.trans (hK8.mono fun q hq => foot_t hq)
    exact a2.trans (k9.mono fun q e => by unfold Only at e; exact e ▸ foot_g)
  · rcases h8 _ hq with h' | h'
    · exact .inl h'
    · exact .inr (by omega)


/-- A leaf's entries shared out so far. -/
structure Part (w1 w : World) (ow : Nat) (L : List Ent) (k : Nat) (a b : Sl) : Prop where
  keep : Keeps Non w1 w
  stay : RowE w a.v (stayL ow (L.take k))
  over : RowE w b.v (overL ow (L.take k))
  na : ∀ q ∈ own a.v, w1.heap.size ≤ q
  nb : ∀ q ∈ own b.v, w1.heap.size ≤ q
  ab : ∀ q ∈ own a.v, q ∉ own b.v
theorem Part.non {w1 w w' : World} {ow k : Nat} {L : List Ent} {a b : Sl} (h : Part w1 w ow L k a b) (hk : Keeps Non w w') : Part w1 w' ow L k a b :=
  ⟨h.keep.non hk, h.stay.non hk, h.over.non hk, h.na, h.nb, h.ab⟩
theorem Part.zero (w : World) (ow : Nat) (L : List Ent) : Part w w ow L 0 ⟨none, 0, 0⟩ ⟨none, 0, 0⟩ :=
  ⟨Keeps.refl _ _, RowP.nil _ _ _ _, RowP.nil _ _ _ _, fun q hq => absurd (show q ∈ ([] : List Nat) from hq) (by simp), fun q hq => absurd (show q ∈ ([] : List Nat) from hq) (by simp), fun q hq => absurd (show q ∈ ([] : List Nat) from hq) (by simp)⟩
theorem Part.goB {w1 w2 w4 : World} {ow k : Nat} {L : List Ent} {a b u : Sl} (h : Part w1 w2 ow L k a b) (hk : k < L.length) (hg : goes ow L[k] = true)
    (hO : RowE w4 u.v (overL ow (L.take k) ++ [L[k]])) (hK : Keeps (· ∈ own b.v) w2 w4) (hat : u.v.ownBlock = b.v.ownBlock ∨ u.v.ownBlock = some w2.heap.size) : Part w1 w4 ow L (k + 1) a u := by
  have hz := h.keep.size
  refine ⟨keeps_own h.keep hK h.nb, ?_, ?_, h.na, own_new h.nb hz hat, fun q hq hq' => ?_⟩
  · have : stayL ow (L.take (k + 1)) = stayL ow (L.take k) := by unfold stayL; rw [filter_snoc _ _ _ hk]; simp [hg]
    rw [this]
    exact h.stay.keep hK fun q hq hq' => h.ab q hq hq'
  · have : overL ow (L.take (k + 1)) = overL ow (L.take k) ++ [L[k]] := by unfold overL; rw [filter_snoc _ _ _ hk]; simp [hg]
    rw [this]; exact hO
  · rw [mem_own] at hq'
    rcases hat with e | e
    · rw [e] at hq'; exact h.ab q hq (mem_own.2 hq')
    · rw [e] at hq'; injection hq' with hq'
      have := h.stay.lt q hq; omega
theorem Part.goA {w1 w2 w4 : World} {ow k : Nat} {L : List Ent} {a b u : Sl} (h : Part w1 w2 ow L k a b) (hk : k < L.length) (hg : goes ow L[k] = false)
    (hO : RowE w4 u.v (stayL ow (L.take k) ++ [L[k]])) (hK : Keeps (· ∈ own a.v) w2 w4) (hat : u.v.ownBlock = a.v.ownBlock ∨ u.v.ownBlock = some w2.heap.size) : Part w1 w4 ow L (k + 1) u b := by
  have hz := h.keep.size
  refine ⟨keeps_own h.keep hK h.na, ?_, ?_, own_new h.na hz hat, h.nb, fun q hq hq' => ?_⟩
  · have : stayL ow (L.take (k + 1)) = stayL ow (L.take k) ++ [L[k]] := by unfold stayL; rw [filter_snoc _ _ _ hk]; simp [hg]
    rw [this]; exact hO
  · have : overL ow (L.take (k + 1)) = overL ow (L.take k) := by unfold overL; rw [filter_snoc _ _ _ hk]; simp [hg]
    rw [this]
    exact h.over.keep hK fun q hq hq' => h.ab q hq' hq
  · rw [mem_own] at hq
    rcases hat with e | e
    · rw [e] at hq; exact h.ab q (mem_own.2 hq) hq'
    · rw [e] at hq; injection hq with hq
      have := h.over.lt q hq'; omega
theorem name_room (l : List Ent) : ∀ j (hj : j < l.length), l[j].name.length ≤ roomE l := by
  induction l with
  | nil => intro j hj; simp at hj
  | cons x l ih =>
    intro j hj
    have hr : roomE (x :: l) = 5 + x.name.length + roomE l := by simp [roomE]
    cases j with
    | zero => simp only [List.getElem_cons_zero]; omega
    | succ j => have := ih j (by simpa using hj); simp only [List.getElem_cons_succ]; omega
/-- The bit asked for. -/
theorem goes_code (e : Ent) (ow : Nat) : (bits .and .u32 (v32 (hashB e.name) / 2 ^ ow) 1 == 1) = goes ow e := by
  rw [shr32, bit_code]
  unfold goes bitB
  have : (hashB e.name).toNat = hash e.name := rfl
  rw [this]
  generalize hash e.name / 2 ^ ow % 2 = m
  by_cases h : m = 1
  · subst h; rfl
  · have h1 : ¬ ((m : Int) = 1) := by omega
    exact (beq_eq_false_iff_ne.2 h1).trans (beq_eq_false_iff_ne.2 h).symm
end Go.Proofs.Ytiieglfpmmhfiaa
