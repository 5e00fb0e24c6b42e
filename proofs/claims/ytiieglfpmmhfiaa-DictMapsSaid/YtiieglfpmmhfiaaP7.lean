/- Pages read, plainly: the dictionary that pages are of. -/
import Derived.Test.YtiieglfpmmhfiaaP6
namespace Go.Proofs.Ytiieglfpmmhfiaa
open Go.Uc

/-- These are the pages of this dictionary. -/
def Opens (rs : List (List UInt8)) (d : Dic) : Prop := Inv d ∧ pagesD d = rs
def oneL (l : List Ent) : Dic := ⟨true, 0, [0], [⟨0, l⟩]⟩
theorem ofNat_back (n : Nat) (h : n < 256) : (UInt8.ofNat n).toNat = n := ofNat_toNat n h
theorem pages_small_len {d : Dic} (h : d.small = true) : (pagesD d).length = 1 := by unfold pagesD; rw [if_pos h]; rfl
theorem pages_large_len {d : Dic} (h : d.small = false) : (pagesD d).length = d.leaves.length + 1 := by unfold pagesD; rw [if_neg (by simp [h])]; simp
theorem inv_leaf {d : Dic} (h : Inv d) : 0 < d.leaves.length := by obtain ⟨k, hk, -⟩ := h.deep; omega
theorem opens_small {rs : List (List UInt8)} {d : Dic} (h : Opens rs d) (h1 : rs.length = 1) : ∃ l, d = oneL l ∧ rs = [laidB 109 (UInt8.ofNat l.length) 0 l] ∧ fitE l = true ∧ (∀ e ∈ l, GoodE e) ∧ Srt l := by
  obtain ⟨hi, hp⟩ := h
  have hs : d.small = true := by
    cases hs : d.small
    · have := pages_large_len hs
      rw [hp, h1] at this
      have := inv_leaf hi
      omega
    · rfl
  obtain ⟨hd, hl⟩ := hi.sm hs
  have hk : 0 < d.leaves.length := by omega
  refine ⟨(leafAt d 0).l, ?_, ?_, hi.ok.fit _ (leaf_mem hk), hi.good 0 hk, hi.ok.srt _ (leaf_mem hk)⟩
  · have ht := hi.ok.tab
    rw [hd] at ht
    obtain ⟨small, depth, table, leaves⟩ := d
    simp only at hd hl ht hs
    subst hd hs
    match table, ht, hi.ok.rng with
    | [x], _, hr =>
      have := hr x (by simp)
      rw [show leaves.length = 1 from hl] at this
      obtain rfl : x = 0 := by omega
      match leaves, hl, hi.ok.low with
      | [y], _, hlow =>
        have := hlow y (by simp)
        obtain ⟨yd, yl⟩ := y
        simp only [Nat.le_zero] at this
        subst this
        rfl
  · rw [← hp]
    unfold pagesD
    rw [if_pos hs]
theorem plc_zero {l : List Ent} (n : List UInt8) : kOf (oneL l) n = 0 := by
  have h : plc (oneL l) n = 0 := by unfold plc oneL; simp [Nat.mod_one]
  unfold kOf
  rw [h]
  rfl
theorem opens_oneL {l : List Ent} (hf : fitE l = true) (hg : ∀ e ∈ l, GoodE e) (hs : Srt l) : Inv (oneL l) := by
  have hl : ∀ k, k < (oneL l).leaves.length → k = 0 := fun k hk => by
    have : k < 1 := hk
    omega
  refine ⟨⟨⟨by show 0 ≤ 5; omega, rfl, ?_, by show 1 ≤ 32; omega, ?_, ?_, ?_⟩, ?_, ?_, ?_, fun _ => ⟨rfl, rfl⟩⟩, ⟨0, by show 0 < 1; omega, rfl⟩⟩
  · intro x hx; have : x = 0 := by simpa [oneL] using hx
    subst this; show 0 < 1; omega
  · intro x hx; have : x = ⟨0, l⟩ := by simpa [oneL] using hx
    rw [this]; exact hs
  · intro x hx; have : x = ⟨0, l⟩ := by simpa [oneL] using hx
    rw [this]; exact hf
  · intro x hx; have : x = ⟨0, l⟩ := by simpa [oneL] using hx
    rw [this]; exact Nat.le_refl _
  · intro k hk
    obtain rfl := hl k hk
    refine ⟨0, by show 0 < 2 ^ 0; decide, fun i hi => ?_⟩
    have : i < 1 := hi
    obtain rfl : i = 0 := by omega
    simp [tAt, oneL]
  · intro k hk e _
    obtain rfl := hl k hk
    exact plc_zero _
  · intro k hk e he
    obtain rfl := hl k hk
    exact hg e he
/-- A single page that is taken. -/
theorem opens_of_page {p : List UInt8} {l : List Ent} (hp : p.length = 256) (h : entF p (p.getD 1 0).toNat = some l) (h0 : p.getD 0 0 = 109) (h2 : p.getD 2 0 = 0) : Opens [p] (oneL l) := by
  obtain ⟨e1, e2, e3, e4, e5⟩ := entF_some hp h
  refine ⟨opens_oneL e2 e3 e4, ?_⟩
  have : UInt8.ofNat l.length = p.getD 1 0 := by rw [e1]; simp
  show [laidB 109 (UInt8.ofNat l.length) 0 l] = [p]
  rw [h0, h2] at e5
  rw [this]
  exact congrArg (fun x => [x]) e5.symm
theorem laid_head {a b c : UInt8} {l : List Ent} : (laidB a b c l).getD 0 0 = a ∧ (laidB a b c l).getD 1 0 = b ∧ (laidB a b c l).getD 2 0 = c := by
  unfold laidB pad
  exact ⟨rfl, rfl, rfl⟩
theorem laid_256 {a b c : UInt8} {l : List Ent} (hf : fitE l = true) : (laidB a b c l).length = 256 := laid_len hf
/-- What a single page that is taken says. -/
theorem page_of_opens {p : List UInt8} {d : Dic} (h : Opens [p] d) : ∃ l, d = oneL l ∧ entF p (p.getD 1 0).toNat = some l ∧ p.getD 0 0 = 109 ∧ p.getD 2 0 = 0 := by
  obtain ⟨l, rfl, e, hf, hg, hs⟩ := opens_small h rfl
  injection e with e
  subst e
  obtain ⟨h0, h1, h2⟩ := @laid_head 109 (UInt8.ofNat l.length) 0 l
  have := (fitE_len hf).1
  refine ⟨l, rfl, ?_, h0, h2⟩
  rw [h1, ofNat_toNat _ (by omega)]
  exact entF_laid _ _ _ hf hg hs
/-- Leaves that are told rightly. -/
def LeafOk (d : Dic) (k : Nat) : Prop := ∃ p, p < d.table.length ∧ tAt d p = k ∧ (∀ i, i < d.table.length → (tAt d i = k ↔ i % 2 ^ (leafAt d k).depth = p % 2 ^ (leafAt d k).depth)) ∧ ∀ e ∈ (leafAt d k).l, hash e.name % 2 ^ (leafAt d k).depth = p % 2 ^ (leafAt d k).depth
def Whole (d : Dic) : Prop := (∀ k, k < d.leaves.length → LeafOk d k) ∧ ∃ k, k < d.leaves.length ∧ (leafAt d k).depth = d.depth
/-- What stands in pages, byte by byte. -/
structure Read (r : List UInt8) (ps : List (List UInt8)) (d : Dic) : Prop where
  sm : d.small = false
  r0 : r.getD 0 0 = 114
  dep : (r.getD 1 0).toNat = d.depth
  d5 : d.depth ≤ 5
  tl : d.table.length = 2 ^ d.depth
  tb : ∀ i, i < 2 ^ d.depth → (r.getD (2 + i) 0).toNat = tAt d i + 1
  tz : ∀ i, 2 + 2 ^ d.depth ≤ i → i < 256 → r.getD i 0 = 0
  ll : d.leaves.length = ps.length
  rng : ∀ i, i < 2 ^ d.depth → tAt d i < ps.length
  lf : ∀ k, k < ps.length → (ps.getD k []).getD 0 0 = 108 ∧ ((ps.getD k []).getD 1 0).toNat = (leafAt d k).depth ∧ (leafAt d k).depth ≤ d.depth ∧ entF (ps.getD k []) ((ps.getD k []).getD 2 0).toNat = some (leafAt d k).l
theorem tab_ext {t t' : List Nat} (hl : t.length = t'.length) (h : ∀ i, i < t.length → t.getD i 0 = t'.getD i 0) : t = t' := by
  apply List.ext_getElem hl
  intro i h1 h2
  have := h i h1
  rw [List.getD_eq_getElem?_getD, List.getD_eq_getElem?_getD, List.getElem?_eq_getElem h1, List.getElem?_eq_getElem h2] at this
  exact this
theorem leaves_ext {t t' : List Leaf} (hl : t.length = t'.length) (h : ∀ i, i < t.length → t.getD i ⟨0, []⟩ = t'.getD i ⟨0, []⟩) : t = t' := by
  apply List.ext_getElem hl
  intro i h1 h2
  have := h i h1
  rw [List.getD_eq_getElem?_getD, List.getD_eq_getElem?_getD, List.getElem?_eq_getElem h1, List.getElem?_eq_getElem h2] at this
  exact this
theorem leaf_eq {a b : Leaf} (h1 : a.depth = b.depth) (h2 : a.l = b.l) : a = b := by cases a; cases b; simp_all
theorem read_unique {r : List UInt8} {ps : List (List UInt8)} {d d' : Dic} (h : Read r ps d) (h' : Read r ps d') : d = d' := by
  have hd : d.depth = d'.depth := by rw [← h.dep, h'.dep]
  have ht : d.table = d'.table := tab_ext (by rw [h.tl, h'.tl, hd]) fun i hi => by
    rw [h.tl] at hi
    have e1 := h.tb i hi
    have e2 := h'.tb i (by rw [← hd]; exact hi)
    have : tAt d i = tAt d' i := by omega
    exact this
  have hL : d.leaves = d'.leaves := leaves_ext (by rw [h.ll, h'.ll]) fun i hi => by
    rw [h.ll] at hi
    obtain ⟨-, a2, -, a4⟩ := h.lf i hi
    obtain ⟨-, b2, -, b4⟩ := h'.lf i hi
    rw [a4] at b4
    injection b4 with b4
    exact leaf_eq (by rw [show (d.leaves.getD i ⟨0, []⟩).depth = (leafAt d i).depth from rfl, ← a2, b2]; rfl) b4
  have hs : d.small = d'.small := by rw [h.sm, h'.sm]
  cases d; cases d'
  simp_all
theorem getD_map {α β : Type} (f : α → β) (l : List α) (i : Nat) (a : α) (b : β) (h : i < l.length) : (l.map f).getD i b = f (l.getD i a) := by
  rw [List.getD_eq_getElem?_getD, List.getD_eq_getElem?_getD, List.getElem?_map, List.getElem?_eq_getElem h]; rfl
theorem root_get (d : Dic) (_hl : d.table.length ≤ 250) (i : Nat) : (rootB d).getD i 0 = if i = 0 then 114 else if i = 1 then UInt8.ofNat d.depth else if i < 2 + d.table.length then UInt8.ofNat (tAt d (i - 2) + 1) else 0 := by
  unfold rootB pad
  match i with
  | 0 => rfl
  | 1 => rfl
  | i + 2 =>
    rw [if_neg (by omega), if_neg (by omega)]
    show ((d.table.map fun x => UInt8.ofNat (x + 1)) ++ zeros _).getD i 0 = _
    by_cases hi : i < d.table.length
    · rw [if_pos (by omega), List.getD_eq_getElem?_getD, List.getElem?_append_left (by simpa using hi), List.getElem?_map]
      unfold tAt
      rw [List.getD_eq_getElem?_getD, Nat.add_sub_cancel, List.getElem?_eq_getElem hi]
      rfl
    · rw [if_neg (by omega), List.getD_eq_getElem?_getD, List.getElem?_append_right (by simpa using hi)]
      unfold zeros
      rw [List.getElem?_replicate]
      split <;> rfl
/-- What pages that are a dictionary's say. -/
theorem read_of_opens {r : List UInt8} {ps : List (List UInt8)} {d : Dic} (h : Opens (r :: ps) d) (hp : ps ≠ []) : Read r ps d ∧ Whole d := by
  obtain ⟨hi, hpg⟩ := h
  have hs : d.small = false := by
    cases hs : d.small
    · rfl
    · have := pages_small_len hs
      rw [hpg] at this
      simp at this
      exact absurd this hp
  have hpd : pagesD d = rootB d :: d.leaves.map leafB := by unfold pagesD; rw [if_neg (by simp [hs])]
  rw [hpg] at hpd
  injection hpd with e1 e2
  have hd5 := hi.ok.dep
  have htl := hi.ok.tab
  have hpw := two_pow d.depth hd5
  have hrg := root_get d (by omega)
  have hll : d.leaves.length = ps.length := by rw [e2]; simp
  have hm := hi.ok.many
  have htlt : ∀ i, i < 2 ^ d.depth → tAt d i < d.leaves.length := fun i hi' => by
    rw [tAt_get (by omega)]; exact hi.ok.rng _ (List.getElem_mem _)
  refine ⟨⟨hs, ?_, ?_, hd5, htl, ?_, ?_, hll, fun i hi' => by rw [← hll]; exact htlt i hi', ?_⟩, ?_, hi.deep⟩
  · rw [e1, hrg, if_pos rfl]
  · rw [e1, hrg, if_neg (by omega), if_pos rfl, ofNat_toNat _ (by omega)]
  · intro i hi'
    have := htlt i hi'
    rw [e1, hrg, if_neg (by omega), if_neg (by omega), if_pos (by omega), Nat.add_sub_cancel_left, ofNat_toNat _ (by omega)]
  · intro i h1 h2
    rw [e1, hrg, if_neg (by omega), if_neg (by omega), if_neg (by omega)]
  · intro k hk
    have hkd : k < d.leaves.length := by omega
    have hpk : ps.getD k [] = leafB (leafAt d k) := by rw [e2]; exact getD_map leafB d.leaves k ⟨0, []⟩ [] hkd
    have hmem := leaf_mem hkd
    have hlow := hi.ok.low _ hmem
    have hf := hi.ok.fit _ hmem
    have h50 := (fitE_len hf).1
    obtain ⟨h0, h1, h2⟩ := @laid_head 108 (UInt8.ofNat (leafAt d k).depth) (UInt8.ofNat (leafAt d k).l.length) (leafAt d k).l
    rw [hpk]
    unfold leafB
    rw [h0, h1, h2, ofNat_toNat _ (by omega), ofNat_toNat _ (by omega)]
    exact ⟨rfl, rfl, hlow, entF_laid _ _ _ hf (hi.good k hkd) (hi.ok.srt _ hmem)⟩
  · intro k hk
    obtain ⟨p, hp1, hp2⟩ := hi.pre k hk
    have hlow := hi.ok.low _ (leaf_mem hk)
    have hpl : p < d.table.length := by
      have := pow_le5 hlow
      omega
    have hpm : p % 2 ^ (leafAt d k).depth = p := Nat.mod_eq_of_lt hp1
    refine ⟨p, hpl, (hp2 p hpl).2 hpm, fun i hi' => by rw [hpm]; exact hp2 i hi', fun e he => ?_⟩
    have h1 := hi.at_ k hk e he
    rw [kOf_tAt, hp2 _ (plc_lt hi.ok _)] at h1
    rw [hpm, ← h1]
    unfold plc
    rw [mod_low _ _ _ hlow]
/-- Pages that say a dictionary. -/
theorem opens_of_read {r : List UInt8} {ps : List (List UInt8)} {d : Dic} (h : Read r ps d) (hw : Whole d) (hr : r.length = 256) (hps : ∀ p ∈ ps, p.length = 256) (hm : ps.length ≤ 32) : Opens (r :: ps) d := by
  have hd5 := h.d5
  have htl := h.tl
  have hpw := two_pow d.depth hd5
  have hll := h.ll
  have hpk : ∀ k, k < ps.length → ps.getD k [] ∈ ps := fun k hk => by
    rw [List.getD_eq_getElem?_getD, List.getElem?_eq_getElem hk]; exact List.getElem_mem _
  have hleaf : ∀ k, k < ps.length → fitE (leafAt d k).l = true ∧ (∀ e ∈ (leafAt d k).l, GoodE e) ∧ Srt (leafAt d k).l ∧ (leafAt d k).depth ≤ d.depth ∧ ps.getD k [] = leafB (leafAt d k) := fun k hk => by
    obtain ⟨a1, a2, a3, a4⟩ := h.lf k hk
    obtain ⟨b1, b2, b3, b4, b5⟩ := entF_some (hps _ (hpk k hk)) a4
    refine ⟨b2, b3, b4, a3, ?_⟩
    rw [b5]
    unfold leafB
    rw [a1]
    congr 1
    · rw [← a2]; simp
    · rw [b1]; simp
  have hmem : ∀ x ∈ d.leaves, ∃ k, k < ps.length ∧ x = leafAt d k := fun x hx => by
    obtain ⟨k, hk, rfl⟩ := List.getElem_of_mem hx
    exact ⟨k, by omega, (leafAt_get hk).symm⟩
  have hI : Inv d := by
    refine ⟨⟨⟨hd5, htl, ?_, by omega, ?_, ?_, ?_⟩, ?_, ?_, ?_, fun e => by rw [h.sm] at e; cases e⟩, hw.2⟩
    · intro x hx
      obtain ⟨i, hi, rfl⟩ := List.getElem_of_mem hx
      have := h.rng i (by omega)
      rw [tAt_get hi] at this
      omega
    · intro x hx; obtain ⟨k, hk, rfl⟩ := hmem x hx; exact (hleaf k hk).2.2.1
    · intro x hx; obtain ⟨k, hk, rfl⟩ := hmem x hx; exact (hleaf k hk).1
    · intro x hx; obtain ⟨k, hk, rfl⟩ := hmem x hx; exact (hleaf k hk).2.2.2.1
    · intro k hk
      obtain ⟨p, -, -, hp3, -⟩ := hw.1 k hk
      exact ⟨p % 2 ^ (leafAt d k).depth, Nat.mod_lt _ (Nat.pow_pos (by omega)), hp3⟩
    · intro k hk e he
      obtain ⟨p, -, -, hp3, hp4⟩ := hw.1 k hk
      have hpl : plc d e.name < d.table.length := by rw [htl]; exact Nat.mod_lt _ (Nat.pow_pos (by omega))
      rw [kOf_tAt, hp3 _ hpl, ← hp4 e he]
      unfold plc
      exact mod_low _ _ _ (hleaf k (by omega)).2.2.2.1
    · intro k hk; exact (hleaf k (by omega)).2.1
  refine ⟨hI, ?_⟩
  unfold pagesD
  rw [if_neg (by simp [h.sm])]
  congr 1
  · apply List.ext_getElem
    · rw [hr]
      unfold rootB
      exact pad_len (by simp; omega)
    · intro i h1 h2
      have e := root_get d (by omega) i
      rw [List.getD_eq_getElem?_getD, List.getElem?_eq_getElem h1] at e
      have e2 : r[i] = r.getD i 0 := by rw [List.getD_eq_getElem?_getD, List.getElem?_eq_getElem h2]; rfl
      rw [e2, show (rootB d)[i] = _ from e]
      by_cases h0 : i = 0
      · rw [if_pos h0, h0, h.r0]
      rw [if_neg h0]
      by_cases h1' : i = 1
      · rw [if_pos h1', h1', ← h.dep]; simp
      rw [if_neg h1']
      by_cases h3 : i < 2 + d.table.length
      · rw [if_pos h3]
        have := h.tb (i - 2) (by omega)
        rw [show 2 + (i - 2) = i by omega] at this
        rw [← this]
        simp
      · rw [if_neg h3, h.tz i (by omega) (by omega)]
  · apply List.ext_getElem
    · simp [hll]
    · intro k h1 h2
      simp at h1
      have := (hleaf k h2).2.2.2.2
      rw [List.getD_eq_getElem?_getD, List.getElem?_eq_getElem h2] at this
      rw [List.getElem_map, ← leafAt_get h1]
      exact this.symm
theorem opens_unique {rs : List (List UInt8)} {d d' : Dic} (h : Opens rs d) (h' : Opens rs d') : d = d' := by
  match rs, h, h' with
  | [], h, _ =>
    obtain ⟨hi, hp⟩ := h
    cases hs : d.small
    · have := pages_large_len hs; rw [hp] at this; simp at this
    · have := pages_small_len hs; rw [hp] at this; simp at this
  | [p], h, h' =>
    obtain ⟨l, rfl, e, -⟩ := page_of_opens h
    obtain ⟨l', rfl, e', -⟩ := page_of_opens h'
    rw [e] at e'
    injection e' with e'
    rw [e']
  | r :: q :: ps, h, h' => exact read_unique (read_of_opens h (by simp)).1 (read_of_opens h' (by simp)).1
/-- All pages are of one size, and there are not too many. -/
theorem opens_form {rs : List (List UInt8)} {d : Dic} (h : Opens rs d) : 1 ≤ rs.length ∧ rs.length ≤ 33 ∧ ∀ p ∈ rs, p.length = 256 := by
  obtain ⟨hi, hp⟩ := h
  have hm := hi.ok.many
  rw [← hp]
  have hpw := two_pow d.depth hi.ok.dep
  have htl := hi.ok.tab
  cases hs : d.small
  · refine ⟨by rw [pages_large_len hs]; omega, by rw [pages_large_len hs]; omega, ?_⟩
    unfold pagesD
    rw [if_neg (by simp [hs])]
    intro p hp
    rcases List.mem_cons.1 hp with rfl | hp
    · unfold rootB; exact pad_len (by simp; omega)
    · obtain ⟨x, hx, rfl⟩ := List.mem_map.1 hp
      exact laid_len (hi.ok.fit x hx)
  · refine ⟨by rw [pages_small_len hs]; omega, by rw [pages_small_len hs]; omega, ?_⟩
    unfold pagesD
    rw [if_pos hs]
    intro p hp
    rw [List.mem_singleton] at hp
    rw [hp]
    exact laid_len (hi.ok.fit _ (leaf_mem (inv_leaf hi)))
end Go.Proofs.Ytiieglfpmmhfiaa
