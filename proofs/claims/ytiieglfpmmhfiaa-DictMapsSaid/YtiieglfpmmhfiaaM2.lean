/- The blocks of a dictionary, one by one. -/
import Derived.Test.YtiieglfpmmhfiaaM1
namespace Go.Proofs.Ytiieglfpmmhfiaa
open Go.RowKit Go.Uc

def ents (ps : List (Nat × Sl)) : List Nat := ps.flatMap fun p => own p.2.v
theorem own_nodup (v : Value) : (own v).Nodup := by unfold own; cases v.ownBlock <;> simp
/-- What it is that no block is met twice. -/
structure Nod (g : Nat) (t l : Sl) (ps : List (Nat × Sl)) : Prop where
  gt : g ∉ own t.v
  gl : g ∉ own l.v
  ge : g ∉ ents ps
  tl : ∀ k ∈ own t.v, k ∉ own l.v
  te : ∀ k ∈ own t.v, k ∉ ents ps
  le : ∀ k ∈ own l.v, k ∉ ents ps
  ee : (ents ps).Nodup
theorem nod_iff {g : Nat} {t l : Sl} {ps : List (Nat × Sl)} : (foot g t l ps).Nodup ↔ Nod g t l ps := by
  show (g :: (own t.v ++ (own l.v ++ ents ps))).Nodup ↔ _
  rw [List.nodup_cons, List.nodup_append, List.nodup_append]
  simp only [List.mem_append, not_or]
  constructor
  · rintro ⟨⟨h1, h2, h3⟩, h4, ⟨h5, h6, h7⟩, h8⟩
    exact ⟨h1, h2, h3, fun k hk hk' => h8 k hk k (.inl hk') rfl, fun k hk hk' => h8 k hk k (.inr hk') rfl, fun k hk hk' => h7 k hk k hk' rfl, h6⟩
  · intro h
    refine ⟨⟨h.gt, h.gl, h.ge⟩, own_nodup _, ⟨own_nodup _, h.ee, ?_⟩, ?_⟩
    · rintro k hk k' hk' rfl; exact h.le k hk hk'
    · rintro k hk k' hk' rfl
      rcases hk' with hk' | hk'
      · exact h.tl k hk hk'
      · exact h.te k hk hk'
theorem mem_foot {g : Nat} {t l : Sl} {ps : List (Nat × Sl)} {k : Nat} : k ∈ foot g t l ps ↔ k = g ∨ k ∈ own t.v ∨ k ∈ own l.v ∨ k ∈ ents ps := by
  show k ∈ g :: (own t.v ++ (own l.v ++ ents ps)) ↔ _
  simp [List.mem_append]
theorem ents_snoc (ps : List (Nat × Sl)) (p : Nat × Sl) : ents (ps ++ [p]) = ents ps ++ own p.2.v := by simp [ents]
theorem mem_ents {ps : List (Nat × Sl)} {k : Nat} : k ∈ ents ps ↔ ∃ i, ∃ h : i < ps.length, k ∈ own ps[i].2.v := by
  unfold ents
  rw [List.mem_flatMap]
  constructor
  · rintro ⟨p, hp, hk⟩
    obtain ⟨i, hi, rfl⟩ := List.getElem_of_mem hp
    exact ⟨i, hi, hk⟩
  · rintro ⟨i, hi, hk⟩
    exact ⟨_, List.getElem_mem hi, hk⟩
/-- Another row of leaves. -/
theorem Nod.leaves {g : Nat} {t l l' : Sl} {ps : List (Nat × Sl)} (h : Nod g t l ps) (hl : ∀ k ∈ own l'.v, k ≠ g ∧ k ∉ own t.v ∧ k ∉ ents ps) : Nod g t l' ps :=
  ⟨h.gt, fun hk => (hl _ hk).1 rfl, h.ge, fun k hk hk' => (hl k hk').2.1 hk, h.te, fun k hk => (hl k hk).2.2, h.ee⟩
theorem Nod.table {g : Nat} {t t' l : Sl} {ps : List (Nat × Sl)} (h : Nod g t l ps) (hl : ∀ k ∈ own t'.v, k ≠ g ∧ k ∉ own l.v ∧ k ∉ ents ps) : Nod g t' l ps :=
  ⟨fun hk => (hl _ hk).1 rfl, h.gl, h.ge, fun k hk => (hl k hk).2.1, fun k hk => (hl k hk).2.2, h.le, h.ee⟩
/-- One more leaf. -/
theorem Nod.snoc {g : Nat} {t l : Sl} {ps : List (Nat × Sl)} {p : Nat × Sl} (h : Nod g t l ps) (hp : ∀ k ∈ own p.2.v, k ≠ g ∧ k ∉ own t.v ∧ k ∉ own l.v ∧ k ∉ ents ps) : Nod g t l (ps ++ [p]) := by
  have hm : ∀ k, k ∈ ents (ps ++ [p]) ↔ k ∈ ents ps ∨ k ∈ own p.2.v := fun k => by rw [ents_snoc, List.mem_append]
  refine ⟨h.gt, h.gl, fun hk => ?_, h.tl, fun k hk hk' => ?_, fun k hk hk' => ?_, ?_⟩
  · rcases (hm _).1 hk with hk | hk
    · exact h.ge hk
    · exact (hp _ hk).1 rfl
  · rcases (hm _).1 hk' with hk' | hk'
    · exact h.te k hk hk'
    · exact (hp _ hk').2.1 hk
  · rcases (hm _).1 hk' with hk' | hk'
    · exact h.le k hk hk'
    · exact (hp _ hk').2.2.1 hk
  · rw [ents_snoc, List.nodup_append]
    refine ⟨h.ee, own_nodup _, ?_⟩
    rintro k hk k' hk' rfl
    exact (hp k hk').2.2.2 hk
theorem ents_set {ps : List (Nat × Sl)} {i : Nat} (hi : i < ps.length) (p : Nat × Sl) : ents (ps.set i p) = ents (ps.take i) ++ (own p.2.v ++ ents (ps.drop (i + 1))) := by
  unfold ents
  rw [List.set_eq_take_append_cons_drop, if_pos hi, List.flatMap_append, List.flatMap_cons]
theorem ents_at {ps : List (Nat × Sl)} {i : Nat} (hi : i < ps.length) : ents ps = ents (ps.take i) ++ (own ps[i].2.v ++ ents (ps.drop (i + 1))) := by
  have := ents_set hi ps[i]
  rwa [List.set_getElem_self] at this
/-- One leaf's entries elsewhere. -/
theorem Nod.set {g : Nat} {t l : Sl} {ps : List (Nat × Sl)} {i : Nat} (hi : i < ps.length) {p : Nat × Sl} (h : Nod g t l ps) (hp : ∀ k ∈ own p.2.v, k ∈ own ps[i].2.v ∨ (k ≠ g ∧ k ∉ own t.v ∧ k ∉ own l.v ∧ k ∉ ents ps)) : Nod g t l (ps.set i p) := by
  have hm : ∀ k, k ∈ ents (ps.set i p) → k ∈ ents ps ∨ (k ∈ own p.2.v ∧ k ∉ own ps[i].2.v) := fun k hk => by
    rw [ents_set hi] at hk
    rw [ents_at hi]
    simp only [List.mem_append] at hk ⊢
    rcases hk with hk | hk | hk
    · exact .inl (.inl hk)
    · by_cases hk' : k ∈ own ps[i].2.v
      · exact .inl (.inr (.inl hk'))
      · exact .inr ⟨hk, hk'⟩
    · exact .inl (.inr (.inr hk))
  have hq : ∀ k ∈ own p.2.v, k ∉ own ps[i].2.v → k ≠ g ∧ k ∉ own t.v ∧ k ∉ own l.v ∧ k ∉ ents ps := fun k hk hk' => (hp k hk).resolve_left hk'
  refine ⟨h.gt, h.gl, fun hk => ?_, h.tl, fun k hk hk' => ?_, fun k hk hk' => ?_, ?_⟩
  · rcases hm _ hk with hk | ⟨hk, hk'⟩
    · exact h.ge hk
    · exact (hq _ hk hk').1 rfl
  · rcases hm _ hk' with hk' | ⟨hk', hk''⟩
    · exact h.te k hk hk'
    · exact (hq _ hk' hk'').2.1 hk
  · rcases hm _ hk' with hk' | ⟨hk', hk''⟩
    · exact h.le k hk hk'
    · exact (hq _ hk' hk'').2.2.1 hk
  · have h1 := h.ee
    rw [ents_at hi, List.nodup_append, List.nodup_append] at h1
    obtain ⟨a1, ⟨a2, a3, a4⟩, a5⟩ := h1
    rw [ents_set hi, List.nodup_append, List.nodup_append]
    refine ⟨a1, ⟨own_nodup _, a3, ?_⟩, ?_⟩
    · rintro k hk k' hk' rfl
      rcases hp k hk with h2 | h2
      · exact a4 k h2 k hk' rfl
      · exact h2.2.2.2 (by rw [ents_at hi]; simp [hk'])
    · rintro k hk k' hk' rfl
      rcases List.mem_append.1 hk' with hk' | hk'
      · rcases hp k hk' with h2 | h2
        · exact a5 k hk k (by simp [h2]) rfl
        · exact h2.2.2.2 (by rw [ents_at hi]; simp [hk])
      · exact a5 k hk k (by simp [hk']) rfl
/-- Entries of one leaf are no other leaf's. -/
theorem Nod.other {g : Nat} {t l : Sl} {ps : List (Nat × Sl)} (h : Nod g t l ps) {i j : Nat} (hi : i < ps.length) (hj : j < ps.length) (hne : i ≠ j) {k : Nat} (hk : k ∈ own ps[i].2.v) : k ∉ own ps[j].2.v := by
  intro hk'
  have h1 := h.ee
  rw [ents_at hi, List.nodup_append, List.nodup_append] at h1
  obtain ⟨a1, ⟨a2, a3, a4⟩, a5⟩ := h1
  rcases Nat.lt_or_ge j i with hlt | hge
  · have : k ∈ ents (ps.take i) := mem_ents.2 ⟨j, by rw [List.length_take]; omega, by rw [List.getElem_take]; exact hk'⟩
    exact a5 k this k (by simp [hk]) rfl
  · have : k ∈ ents (ps.drop (i + 1)) := mem_ents.2 ⟨j - (i + 1), by rw [List.length_drop]; omega, by rw [List.getElem_drop]; simpa [show i + 1 + (j - (i + 1)) = j by omega] using hk'⟩
    exact a4 k hk k this rfl
end Go.Proofs.Ytiieglfpmmhfiaa
