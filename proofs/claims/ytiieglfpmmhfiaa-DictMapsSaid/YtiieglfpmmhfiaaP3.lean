/- What a dictionary keeps, plainly. -/
import Derived.Test.YtiieglfpmmhfiaaP2
namespace Go.Proofs.Ytiieglfpmmhfiaa
open Go.Uc

def tAt (d : Dic) (i : Nat) : Nat := d.table.getD i 0
def GoodE (e : Ent) : Prop := 1 ≤ e.name.length ∧ e.name.length ≤ 24 ∧ 0 ≤ e.val ∧ e.val ≤ 2147483647
/-- Table and leaves belong together. -/
structure Inv0 (d : Dic) : Prop where
  ok : Ok d
  pre : ∀ k, k < d.leaves.length → ∃ p, p < 2 ^ (leafAt d k).depth ∧ ∀ i, i < d.table.length → (tAt d i = k ↔ i % 2 ^ (leafAt d k).depth = p)
  at_ : ∀ k, k < d.leaves.length → ∀ e ∈ (leafAt d k).l, kOf d e.name = k
  good : ∀ k, k < d.leaves.length → ∀ e ∈ (leafAt d k).l, GoodE e
  sm : d.small = true → d.depth = 0 ∧ d.leaves.length = 1
/-- And some leaf is as deep as the table. -/
structure Inv (d : Dic) : Prop extends Inv0 d where
  deep : ∃ k, k < d.leaves.length ∧ (leafAt d k).depth = d.depth
theorem cover_le : ∀ (M : Nat) (l : List Nat), (∀ j, j < M → j ∈ l) → M ≤ l.length := by
  intro M
  induction M with
  | zero => intro l _; omega
  | succ M ih =>
    intro l h
    have h1 := ih (l.erase M) fun j hj => (List.mem_erase_of_ne (by omega)).2 (h j (by omega))
    have h2 := h M (by omega)
    rw [List.length_erase_of_mem h2] at h1
    have : 0 < l.length := List.length_pos_of_mem h2
    omega
theorem tAt_get {d : Dic} {i : Nat} (h : i < d.table.length) : tAt d i = d.table[i] := by unfold tAt; rw [List.getD_eq_getElem?_getD, List.getElem?_eq_getElem h]; rfl
theorem kOf_tAt (d : Dic) (n : List UInt8) : kOf d n = tAt d (plc d n) := rfl
theorem fitE_sub {a b : List Ent} (h : a.Sublist b) (hb : fitE b = true) : fitE a = true := by
  have h1 : roomE a ≤ roomE b := by
    clear hb
    induction h with
    | slnil => exact Nat.le_refl _
    | cons x _ ih => simp only [roomE, List.map_cons, List.sum_cons] at *; omega
    | cons_cons x _ ih => simp only [roomE, List.map_cons, List.sum_cons] at *; omega
  unfold fitE at *
  have := of_decide_eq_true hb
  exact decide_eq_true (by omega)
theorem pow_le5 {a b : Nat} (h : a ≤ b) : 2 ^ a ≤ 2 ^ b := Nat.pow_le_pow_right (by omega) h
theorem mod_low (i a b : Nat) (h : a ≤ b) : i % 2 ^ b % 2 ^ a = i % 2 ^ a := Nat.mod_mod_of_dvd _ (Nat.pow_dvd_pow 2 h)
theorem bit_low (i a b : Nat) (h : a < b) : bitB a (i % 2 ^ b) = bitB a i := by
  have h1 : ∀ x, bitB a x = x.testBit a := fun x => by
    rw [Nat.testBit_eq_decide_div_mod_eq]; unfold bitB
    by_cases hx : x / 2 ^ a % 2 = 1 <;> simp [hx]
  rw [h1, h1, Nat.testBit_mod_two_pow]
  simp [h]
theorem bit_mod (i a p : Nat) (hp : p < 2 ^ a) : (i % 2 ^ a = p ∧ ¬ bitB a i = true) ↔ i % 2 ^ (a + 1) = p := by
  have h1 : i % 2 ^ (a + 1) = i % 2 ^ a + 2 ^ a * (i / 2 ^ a % 2) := by rw [Nat.mod_pow_succ]
  have h2 : i / 2 ^ a % 2 = 0 ∨ i / 2 ^ a % 2 = 1 := by omega
  have h3 := Nat.mod_lt i (show 0 < 2 ^ a from Nat.pow_pos (by omega))
  rw [h1]
  unfold bitB
  rcases h2 with e | e <;> rw [e] <;> simp <;> omega
theorem bit_mod1 (i a p : Nat) (_hp : p < 2 ^ a) : (i % 2 ^ a = p ∧ bitB a i = true) ↔ i % 2 ^ (a + 1) = p + 2 ^ a := by
  have h1 : i % 2 ^ (a + 1) = i % 2 ^ a + 2 ^ a * (i / 2 ^ a % 2) := by rw [Nat.mod_pow_succ]
  have h2 : i / 2 ^ a % 2 = 0 ∨ i / 2 ^ a % 2 = 1 := by omega
  have h3 := Nat.mod_lt i (show 0 < 2 ^ a from Nat.pow_pos (by omega))
  rw [h1]
  unfold bitB
  rcases h2 with e | e <;> rw [e] <;> simp <;> omega

theorem double_get (t : List Nat) (i : Nat) (hi : i < 2 * t.length) : (t ++ t).getD i 0 = t.getD (i % t.length) 0 := by
  rw [List.getD_eq_getElem?_getD, List.getD_eq_getElem?_getD]
  rcases Nat.lt_or_ge i t.length with h | h
  · rw [List.getElem?_append_left h, Nat.mod_eq_of_lt h]
  · rw [List.getElem?_append_right h]
    rw [show i % t.length = i - t.length by rw [Nat.mod_eq_sub_mod h, Nat.mod_eq_of_lt (by omega)]]
/-- Twice as many places for the same leaves. -/
theorem widen_inv {d : Dic} (h : Inv0 d) (ow : Nat) (h5 : ow ≠ 5) (hs : d.small = false) : Inv0 (widen d ow) := by
  unfold widen
  split
  case isFalse => exact h
  case isTrue hw =>
  have ho := h.ok
  have hd5 : d.depth < 5 := by have := ho.dep; omega
  have hlen : (d.table ++ d.table).length = 2 * d.table.length := by simp; omega
  have hpow : 2 ^ (d.depth + 1) = 2 * 2 ^ d.depth := by rw [Nat.pow_succ]; omega
  have ht : ∀ i, i < 2 * d.table.length → tAt { d with depth := d.depth + 1, table := d.table ++ d.table } i = tAt d (i % d.table.length) := fun i hi => double_get d.table i hi
  have hk : ∀ n, kOf { d with depth := d.depth + 1, table := d.table ++ d.table } n = kOf d n := fun n => by
    rw [kOf_tAt, ht, kOf_tAt]
    · unfold plc
      show tAt d (hash n % 2 ^ (d.depth + 1) % d.table.length) = tAt d (hash n % 2 ^ d.depth)
      rw [ho.tab, mod_low _ _ _ (by omega)]
    · unfold plc
      show hash n % 2 ^ (d.depth + 1) < _
      rw [ho.tab, ← hpow]
      exact Nat.mod_lt _ (Nat.pow_pos (by omega))
  refine ⟨⟨?_, ?_, ?_, ho.many, ho.srt, ho.fit, ?_⟩, ?_, ?_, h.good, fun e => ?_⟩
  · show d.depth + 1 ≤ 5; omega
  · show (d.table ++ d.table).length = 2 ^ (d.depth + 1)
    rw [hlen, hpow, ho.tab]
  · intro x hx
    rcases List.mem_append.1 hx with hx | hx <;> exact ho.rng x hx
  · intro x hx; have := ho.low x hx; show x.depth ≤ d.depth + 1; omega
  · intro k hk0
    obtain ⟨p, hp, hi⟩ := h.pre k hk0
    refine ⟨p, hp, fun i hi' => ?_⟩
    have hi2 : i < 2 * d.table.length := by rw [← hlen]; exact hi'
    have hlt : i % d.table.length < d.table.length := Nat.mod_lt _ (by omega)
    rw [ht i hi2, hi _ hlt]
    show i % d.table.length % 2 ^ (leafAt d k).depth = p ↔ i % 2 ^ (leafAt d k).depth = p
    rw [ho.tab, mod_low _ _ _ (ho.low _ (by rw [leafAt_get (d := d) hk0]; exact List.getElem_mem _))]
  · intro k hk0 e he; rw [hk]; exact h.at_ k hk0 e he
  · rw [hs] at e; cases e
theorem leaf_split (L : List Leaf) (k : Nat) (a b : Leaf) (hk : k < L.length) (j : Nat) (hj : j < L.length + 1) : (L.set k a ++ [b]).getD j ⟨0, []⟩ = if j = k then a else if j = L.length then b else L.getD j ⟨0, []⟩ := by
  rw [List.getD_eq_getElem?_getD, List.getD_eq_getElem?_getD]
  rcases Nat.lt_or_ge j L.length with h | h
  · rw [List.getElem?_append_left (by simpa using h), List.getElem?_set]
    by_cases hjk : j = k
    · subst hjk; simp [h]
    · rw [if_neg (fun e => hjk e.symm), if_neg hjk, if_neg (by omega)]
  · obtain rfl : j = L.length := by omega
    rw [List.getElem?_append_right (by simp)]
    simp
    intro e; omega
/-- A leaf parted, the table wide enough. -/
theorem part_inv {d : Dic} (h : Inv0 d) (hs : d.small = false) (k : Nat) (hk : k < d.leaves.length) (hlow : (leafAt d k).depth < d.depth) :
    Inv0 { d with table := turnT (leafAt d k).depth k d.leaves.length d.table d.table.length, leaves := d.leaves.set k ⟨(leafAt d k).depth + 1, stayL (leafAt d k).depth (leafAt d k).l⟩ ++ [⟨(leafAt d k).depth + 1, overL (leafAt d k).depth (leafAt d k).l⟩] }
    ∧ (∀ n, kOf { d with table := turnT (leafAt d k).depth k d.leaves.length d.table d.table.length, leaves := d.leaves.set k ⟨(leafAt d k).depth + 1, stayL (leafAt d k).depth (leafAt d k).l⟩ ++ [⟨(leafAt d k).depth + 1, overL (leafAt d k).depth (leafAt d k).l⟩] } n = if kOf d n = k ∧ bitB (leafAt d k).depth (hash n) = true then d.leaves.length else kOf d n) := by
  obtain ⟨ow, how⟩ : ∃ o, o = (leafAt d k).depth := ⟨_, rfl⟩
  obtain ⟨l0, hl0⟩ : ∃ l, l = (leafAt d k).l := ⟨_, rfl⟩
  rw [← how, ← hl0]
  rw [← how] at hlow
  obtain ⟨d2, hd2⟩ : ∃ D, D = ({ d with table := turnT ow k d.leaves.length d.table d.table.length, leaves := d.leaves.set k ⟨ow + 1, stayL ow l0⟩ ++ [⟨ow + 1, overL ow l0⟩] } : Dic) := ⟨_, rfl⟩
  rw [← hd2]
  have ho := h.ok
  obtain ⟨m, hm⟩ : ∃ m, m = d.leaves.length := ⟨_, rfl⟩
  have hk' : k < m := by omega
  have hT : d2.table = turnT ow k m d.table d.table.length := by rw [hd2, hm]
  have hTl : d2.table.length = d.table.length := by rw [hT, turnT_len]
  have hDp : d2.depth = d.depth := by rw [hd2]
  have hSm : d2.small = d.small := by rw [hd2]
  have hLl : d2.leaves.length = m + 1 := by rw [hd2, hm]; simp
  have hLf : ∀ j, j < m + 1 → leafAt d2 j = if j = k then ⟨ow + 1, stayL ow l0⟩ else if j = m then ⟨ow + 1, overL ow l0⟩ else leafAt d j := fun j hj => by
    unfold leafAt; rw [hd2, hm]; exact leaf_split d.leaves k _ _ hk j (by rw [← hm]; exact hj)
  have hLk : leafAt d2 k = ⟨ow + 1, stayL ow l0⟩ := by rw [hLf k (by omega), if_pos rfl]
  have hLm : leafAt d2 m = ⟨ow + 1, overL ow l0⟩ := by rw [hLf m (by omega), if_neg (by omega), if_pos rfl]
  have hLo : ∀ j, j < m → j ≠ k → leafAt d2 j = leafAt d j := fun j hj hjk => by rw [hLf j (by omega), if_neg hjk, if_neg (by omega)]
  have hrng : ∀ i, i < d.table.length → tAt d i < m := fun i hi => by rw [tAt_get hi, hm]; exact ho.rng _ (List.getElem_mem _)
  have hTt : ∀ i, i < d.table.length → tAt d2 i = if tAt d i = k ∧ bitB ow i = true then m else tAt d i := fun i hi => by
    rw [tAt_get (by rw [hTl]; exact hi), tAt_get hi]
    simp only [hT]
    rw [turnT_get _ _ _ _ _ _ hi]
    simp [hi]
  have hpl : ∀ n, plc d2 n = plc d n := fun n => by unfold plc; rw [hDp]
  have hbp : ∀ n, bitB ow (plc d n) = bitB ow (hash n) := fun n => by unfold plc; rw [bit_low _ _ _ hlow]
  have hkf : ∀ n, kOf d2 n = if kOf d n = k ∧ bitB ow (hash n) = true then m else kOf d n := fun n => by
    rw [kOf_tAt, hpl, hTt _ (plc_lt ho n), hbp]; rfl
  have hpow : d2.table.length = 2 ^ d2.depth := by rw [hTl, hDp]; exact ho.tab
  obtain ⟨p, hp, hpi⟩ := h.pre k hk
  rw [← how] at hp hpi
  have hpre : ∀ j, j < d2.leaves.length → ∃ p, p < 2 ^ (leafAt d2 j).depth ∧ ∀ i, i < d2.table.length → (tAt d2 i = j ↔ i % 2 ^ (leafAt d2 j).depth = p) := by
    intro j hj
    rw [hLl] at hj
    rw [hTl]
    have hpw : 2 ^ (ow + 1) = 2 * 2 ^ ow := by rw [Nat.pow_succ]; omega
    by_cases hjk : j = k
    · subst hjk
      rw [hLk]
      refine ⟨p, by show p < 2 ^ (ow + 1); omega, fun i hi => ?_⟩
      show _ ↔ i % 2 ^ (ow + 1) = p
      rw [hTt i hi, ← bit_mod i ow p hp, ← hpi i hi]
      by_cases hb : bitB ow i = true
      · by_cases he : tAt d i = j
        · rw [if_pos ⟨he, hb⟩]; constructor
          · intro e; omega
          · intro e; exact absurd hb e.2
        · rw [if_neg (fun e => he e.1)]; simp [he]
      · rw [if_neg (fun e => hb e.2)]; simp [hb]
    · by_cases hjm : j = m
      · subst hjm
        rw [hLm]
        refine ⟨p + 2 ^ ow, by show _ < 2 ^ (ow + 1); omega, fun i hi => ?_⟩
        show _ ↔ i % 2 ^ (ow + 1) = p + 2 ^ ow
        rw [hTt i hi, ← bit_mod1 i ow p hp, ← hpi i hi]
        have := hrng i hi
        by_cases he : tAt d i = k ∧ bitB ow i = true
        · rw [if_pos he]; simp [he]
        · rw [if_neg he]
          constructor
          · intro e; omega
          · intro e; exact absurd e he
      · have hj' : j < m := by omega
        rw [hLo j hj' hjk]
        obtain ⟨q, hq, hqi⟩ := h.pre j (by omega)
        refine ⟨q, hq, fun i hi => ?_⟩
        rw [← hqi i hi, hTt i hi]
        by_cases he : tAt d i = k ∧ bitB ow i = true
        · rw [if_pos he, he.1]
          constructor
          · intro e; omega
          · intro e; exact absurd e.symm hjk
        · rw [if_neg he]
  have hlw : ∀ j, j < d2.leaves.length → (leafAt d2 j).depth ≤ d2.depth := fun j hj => by
    rw [hLl] at hj
    rw [hLf j hj, hDp]
    split
    · show ow + 1 ≤ _; omega
    · split
      · show ow + 1 ≤ _; omega
      · have hjm : j < d.leaves.length := by omega
        exact ho.low _ (by rw [leafAt_get hjm]; exact List.getElem_mem _)
  have hmany : d2.leaves.length ≤ 32 := by
    have h1 : d2.leaves.length ≤ d2.table.length := by
      refine cover_le _ _ fun j hj => ?_
      obtain ⟨q, hq, hqi⟩ := hpre j hj
      have hle := pow_le5 (hlw j hj)
      have hq' : q < d2.table.length := by rw [hpow]; omega
      have := (hqi q hq').2 (Nat.mod_eq_of_lt hq)
      rw [tAt_get hq'] at this
      rw [← this]
      exact List.getElem_mem _
    have h2 : d2.table.length ≤ 32 := by rw [hTl, ho.tab]; have := two_pow d.depth ho.dep; omega
    omega
  have hmem : ∀ x ∈ d2.leaves, ∃ j, j < m + 1 ∧ leafAt d2 j = x := fun x hx => by
    obtain ⟨j, hj, rfl⟩ := List.getElem_of_mem hx
    exact ⟨j, by rw [← hLl]; exact hj, leafAt_get hj⟩
  have hm0 : leafAt d k ∈ d.leaves := by rw [leafAt_get hk]; exact List.getElem_mem _
  refine ⟨⟨⟨by rw [hDp]; exact ho.dep, hpow, ?_, hmany, ?_, ?_, ?_⟩, hpre, ?_, ?_, fun e => ?_⟩, by rw [← hm]; exact hkf⟩
  · intro x hx
    obtain ⟨i, hi, rfl⟩ := List.getElem_of_mem hx
    rw [← tAt_get hi, hTt i (by rw [← hTl]; exact hi), hLl]
    have := hrng i (by rw [← hTl]; exact hi)
    split <;> omega
  · intro x hx
    obtain ⟨j, hj, rfl⟩ := hmem x hx
    rw [hLf j hj]
    split
    · exact List.Pairwise.sublist List.filter_sublist (by rw [hl0]; exact ho.srt _ hm0)
    · split
      · exact List.Pairwise.sublist List.filter_sublist (by rw [hl0]; exact ho.srt _ hm0)
      · have hjm : j < d.leaves.length := by omega
        exact ho.srt _ (by rw [leafAt_get hjm]; exact List.getElem_mem _)
  · intro x hx
    obtain ⟨j, hj, rfl⟩ := hmem x hx
    rw [hLf j hj]
    split
    · exact fitE_sub List.filter_sublist (by rw [hl0]; exact ho.fit _ hm0)
    · split
      · exact fitE_sub List.filter_sublist (by rw [hl0]; exact ho.fit _ hm0)
      · have hjm : j < d.leaves.length := by omega
        exact ho.fit _ (by rw [leafAt_get hjm]; exact List.getElem_mem _)
  · intro x hx
    obtain ⟨j, hj, rfl⟩ := hmem x hx
    exact hlw j (by rw [hLl]; exact hj)
  · intro j hj e he
    rw [hLl] at hj
    rw [hkf]
    by_cases hjk : j = k
    · subst hjk
      rw [hLk] at he
      have he' := List.mem_filter.1 he
      have h1 := h.at_ j hk e (by rw [← hl0]; exact he'.1)
      have h2 : bitB ow (hash e.name) = false := by have := he'.2; unfold goes at this; simpa using this
      rw [h1, if_neg (by simp [h2])]
    · by_cases hjm : j = m
      · subst hjm
        rw [hLm] at he
        have he' := List.mem_filter.1 he
        have h1 := h.at_ k hk e (by rw [← hl0]; exact he'.1)
        have h2 : bitB ow (hash e.name) = true := he'.2
        rw [if_pos ⟨h1, h2⟩]
      · rw [hLo j (by omega) hjk] at he
        have h1 := h.at_ j (by omega) e he
        rw [h1, if_neg (fun e => hjk e.1)]
  · intro j hj e he
    rw [hLl] at hj
    rw [hLf j hj] at he
    split at he
    · exact h.good k hk e (by rw [← hl0]; exact (List.mem_filter.1 he).1)
    · split at he
      · exact h.good k hk e (by rw [← hl0]; exact (List.mem_filter.1 he).1)
      · exact h.good j (by omega) e he
  · rw [hSm, hs] at e; cases e
end Go.Proofs.Ytiieglfpmmhfiaa
