/- What the dictionary holds, beside a plain list. -/
import Derived.Test.YtiieglfpmmhfiaaD18
import Derived.Test.YtiieglfpmmhfiaaD21
namespace Go.Proofs.Ytiieglfpmmhfiaa
open Go.Uc

/-- Put, whatever the value. -/
theorem putD_spec {d : Dic} (h : Inv d) (n : List UInt8) (v : Int) :
    Inv (putD d n v).2 ∧ ((putD d n v).1 = 0 ∧ nameB n = true ∧ (∀ m, val (putD d n v).2 m = if n = m then some v else val d m) ∨ (putD d n v).1 ≠ 0 ∧ (putD d n v).2 = d ∧ ((val d n).isSome = true → nameB n = true → (putD d n v).1 = 1)) := by
  cases hb : nameB n
  · have e : putD d n v = (150, d) := by unfold putD; rw [hb, if_pos rfl]
    rw [e]
    exact ⟨h, .inr ⟨by show (150 : Int) ≠ 0; decide, rfl, fun _ h => by cases h⟩⟩
  · by_cases hv : v < 0 ∨ 2147483647 < v
    · have e : putD d n v = (1, d) := by unfold putD; rw [hb, if_neg (by simp), if_pos hv]
      rw [e]
      exact ⟨h, .inr ⟨by show (1 : Int) ≠ 0; decide, rfl, fun _ _ => rfl⟩⟩
    · obtain ⟨h1, h2⟩ := putD_cases h n v (by omega) (by omega)
      refine ⟨h1, ?_⟩
      have hc : (putD d n v).1 = 0 ∨ (putD d n v = (152, d) ∧ has (leafAt d (kOf d n)).l n ≠ true) := by
        unfold putD
        rw [hb, if_neg (by simp), if_neg hv]
        by_cases hh : has (leafAt d (kOf d n)).l n = true
        · rw [if_pos hh]; exact .inl rfl
        · rw [if_neg hh]
          cases putL 8 d ⟨n, v⟩ with
          | none => exact .inr ⟨rfl, hh⟩
          | some d' => exact .inl rfl
      rcases hc with hc | ⟨hc, hh⟩
      · rcases h2 with ⟨h3 | h3, _⟩ | ⟨_, h3⟩
        · omega
        · rw [hb] at h3; cases h3
        · exact .inl ⟨hc, rfl, h3⟩
      · rw [hc]
        refine .inr ⟨by show (152 : Int) ≠ 0; decide, rfl, fun hi _ => ?_⟩
        rw [has_getE] at hh
        exact absurd hi hh
/-- A list that says what the dictionary holds. -/
structure Same (d : Dic) (l : List Ent) : Prop where
  nod : (l.map (·.name)).Nodup
  mem : ∀ e, e ∈ l ↔ val d e.name = some e.val
/-- Without one name. -/
def but (l : List Ent) (n : List UInt8) : List Ent := l.filter fun e => !(e.name == n)
theorem Same.empty : Same emptyD [] := ⟨by simp, fun e => by rw [val_empty]; simp⟩
theorem nodup_names {l : List Ent} (h : (l.map (·.name)).Nodup) : l.Nodup := by
  unfold List.Nodup at *
  rw [List.pairwise_map] at h
  exact h.imp fun h e => h (by rw [e])
theorem Same.perm {d : Dic} (hi : Inv0 d) {l : List Ent} (h : Same d l) : l.Perm (allE d.leaves) :=
  (List.perm_ext_iff_of_nodup (nodup_names h.nod) (nodup_names (allE_nodup hi))).2 fun e => by rw [h.mem, mem_allE hi]
theorem all_le {d : Dic} (hi : Inv0 d) : (allE d.leaves).length ≤ 1600 := by
  have h1 := allE_len d.leaves fun x hx => (fitE_len (hi.ok.fit x hx)).1
  have h2 := hi.ok.many
  omega
theorem Same.len {d : Dic} (hi : Inv0 d) {l : List Ent} (h : Same d l) : l.length ≤ 1600 := by rw [(h.perm hi).length_eq]; exact all_le hi
theorem Same.was {d : Dic} {l : List Ent} (h : Same d l) (n : List UInt8) : (l.any fun e => e.name == n) = (val d n).isSome := by
  rw [Bool.eq_iff_iff, List.any_eq_true, Option.isSome_iff_exists]
  constructor
  · rintro ⟨e, he, hn⟩
    have hn : e.name = n := by simpa using hn
    exact ⟨e.val, by rw [← hn]; exact (h.mem e).1 he⟩
  · rintro ⟨v, hv⟩
    exact ⟨⟨n, v⟩, (h.mem ⟨n, v⟩).2 hv, by simp⟩
theorem mem_but {l : List Ent} {n : List UInt8} {e : Ent} : e ∈ but l n ↔ e ∈ l ∧ e.name ≠ n := by unfold but; simp
theorem but_nodup {l : List Ent} (h : (l.map (·.name)).Nodup) (n : List UInt8) : ((but l n).map (·.name)).Nodup := List.Nodup.sublist (List.Sublist.map _ List.filter_sublist) h
theorem Same.put {d d' : Dic} {l : List Ent} (h : Same d l) (n : List UInt8) (v : Int) (hv : ∀ m, val d' m = if n = m then some v else val d m) : Same d' (but l n ++ [⟨n, v⟩]) := by
  refine ⟨?_, fun e => ?_⟩
  · rw [List.map_append, List.nodup_append]
    refine ⟨but_nodup h.nod n, by simp, ?_⟩
    intro a ha b hb
    obtain ⟨e, he, rfl⟩ := List.mem_map.1 ha
    simp at hb
    rw [hb]
    exact (mem_but.1 he).2
  · rw [List.mem_append, mem_but, h.mem, List.mem_singleton, hv]
    by_cases hn : n = e.name
    · rw [if_pos hn]
      constructor
      · rintro (⟨_, h2⟩ | rfl)
        · exact absurd hn.symm h2
        · rfl
      · intro e1
        injection e1 with e1
        right
        exact Ent.ext' hn.symm e1.symm
    · rw [if_neg hn]
      constructor
      · rintro (⟨h1, _⟩ | rfl)
        · exact h1
        · exact absurd rfl hn
      · intro h1
        exact .inl ⟨h1, fun e1 => hn e1.symm⟩
theorem Same.drop {d d' : Dic} {l : List Ent} (h : Same d l) (n : List UInt8) (hv : ∀ m, val d' m = if n = m then none else val d m) : Same d' (but l n) := by
  refine ⟨but_nodup h.nod n, fun e => ?_⟩
  rw [mem_but, h.mem, hv]
  by_cases hn : n = e.name
  · rw [if_pos hn]
    constructor
    · rintro ⟨_, h2⟩; exact absurd hn.symm h2
    · intro e1; cases e1
  · rw [if_neg hn]
    exact ⟨fun h => h.1, fun h1 => ⟨h1, fun e1 => hn e1.symm⟩⟩
/-- What holds asks for. -/
structure Held (d : Dic) (l : List Ent) (n : List UInt8) : Prop where
  vals : ∀ e ∈ l, e.name ≠ n → val d e.name = some e.val
  many : (allE d.leaves).length = (but l n).length + (if n = [] then 0 else 1)
theorem val_name {d : Dic} (hi : Inv0 d) {n : List UInt8} {v : Int} (h : val d n = some v) : nameB n = true := by
  have := (mem_allE hi ⟨n, v⟩).2 h
  unfold allE at this
  obtain ⟨x, hx, he⟩ := List.mem_flatMap.1 this
  obtain ⟨k, hk, rfl⟩ := List.getElem_of_mem hx
  rw [← leafAt_get hk] at he
  have hg := hi.good k hk _ he
  unfold nameB
  simp [hg.1, hg.2.1]
/-- Behind one more call of Put. -/
theorem Same.held_put {d d' : Dic} (hi : Inv0 d') {l : List Ent} (h : Same d l) (n : List UInt8) (v : Int) (hn : nameB n = true) (hv : ∀ m, val d' m = if n = m then some v else val d m) : Held d' l n := by
  have h' := h.put n v hv
  refine ⟨fun e he hne => ?_, ?_⟩
  · rw [hv, if_neg fun e1 => hne e1.symm]
    exact (h.mem e).1 he
  · rw [← (h'.perm hi).length_eq, List.length_append]
    rw [if_neg (by rintro rfl; unfold nameB at hn; simp at hn)]
    rfl
theorem Same.held {d : Dic} (hi : Inv0 d) {l : List Ent} (h : Same d l) : Held d l [] := by
  refine ⟨fun e he _ => (h.mem e).1 he, ?_⟩
  rw [← (h.perm hi).length_eq, if_pos rfl]
  have : but l [] = l := by
    unfold but
    rw [List.filter_eq_self]
    intro e he
    have := val_name hi ((h.mem e).1 he)
    have hne : e.name ≠ [] := by intro e1; rw [e1] at this; unfold nameB at this; simp at this
    simp [hne]
  rw [this]
  rfl
end Go.Proofs.Ytiieglfpmmhfiaa
