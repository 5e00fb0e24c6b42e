/- Pages read, plainly: the dictionary that pages are of. whole. A dictionary that grows while it is read; pages by value. -/
import Derived.Test.YtiieglfpmmhfiaaG6
import Derived.Test.YtiieglfpmmhfiaaD26
namespace Go.Proofs.Ytiieglfpmmhfiaa
open Go.Uc

/-- These are the pages of this dictionary. -/
def Opens (rs : List (List UInt8)) (d : Dic) : Prop := Inv d ∧ pagesD d = rs
def oneL (l : List Ent) : Dic := ⟨true, 0, [0], [⟨0, l⟩]⟩
theorem ofNat_back (n : Nat) (h : n < 256) : (UInt8.ofNat n).toNat = n := ofNat_toNat n h
theorem pages_small_len {d : Dic} (h : d.small = true) : (pagesD d).length = 1 := by unfold pagesD; rw [if_pos h]; rfl
theorem pages_large_len {d : Dic} (h : d.small = false) : (pagesD d).length = d.leaves.length + 1 := by unfold pagesD; rw [if_neg (by simp [h])]; simp
theorem inv_leaf {d : Dic} (h : Inv d) : 0 < d.leaves.length := by obtain ⟨k, hk, -⟩ := h.deep; omega
theorem opens_small {rs : List (List UInt8)} {d : Dic} (h : Opens rs d) (h1 : rs.length = 1) : ∃ l, d = oneL l ∧ rs = [laidB 109 (UInt8.ofNat l.length) 0 l] ∧ fitE l = true ∧ (∀ e ∈ l, GoodE e) ∧ Srt l := by
  obtain ⟨hi, hp⟩ := h
  have hs : d.small = true := by
    cases hs : d.small
    · have := pages_large_len hs
      rw [hp, h1] at this
      have := inv_leaf hi
      omega
    · rfl
  obtain ⟨hd, hl⟩ := hi.sm hs
  have hk : 0 < d.leaves.length := by omega
  refine ⟨(leafAt d 0).l, ?_, ?_, hi.ok.fit _ (leaf_mem hk), hi.good 0 hk, hi.ok.srt _ (leaf_mem hk)⟩
  · have ht := hi.ok.tab
    rw [hd] at ht
    obtain ⟨small, depth, table, leaves⟩ := d
    simp only at hd hl ht hs
    subst hd hs
    match table, ht, hi.ok.rng with
    | [x], _, hr =>
      have := hr x (by simp)
      rw [show leaves.length = 1 from hl] at this
      obtain rfl : x = 0 := by omega
      match leaves, hl, hi.ok.low with
      | [y], _, hlow =>
        have := hlow y (by simp)
        obtain ⟨yd, yl⟩ := y
        simp only [Nat.le_zero] at this
        subst this
        rfl
  · rw [← hp]
    unfold pagesD
    rw [if_pos hs]
theorem plc_zero {l : List Ent} (n : List UInt8) : kOf (oneL l) n = 0 := by
  have h : plc (oneL l) n = 0 := by unfold plc oneL; simp [Nat.mod_one]
  unfold kOf
  rw [h]
  rfl
theorem opens_oneL {l : List Ent} (hf : fitE l = true) (hg : ∀ e ∈ l, GoodE e) (hs : Srt l) : Inv (oneL l) := by
  have hl : ∀ k, k < (oneL l).leaves.length → k = 0 := fun k hk => by
    have : k < 1 := hk
    omega
  refine ⟨⟨⟨by show 0 ≤ 5; omega, rfl, ?_, by show 1 ≤ 32; omega, ?_, ?_, ?_⟩, ?_, ?_, ?_, fun _ => ⟨rfl, rfl⟩⟩, ⟨0, by show 0 < 1; omega, rfl⟩⟩
  · intro x hx; have : x = 0 := by simpa [oneL] using hx
    subst this; show 0 < 1; omega
  · intro x hx; have : x = ⟨0, l⟩ := by simpa [oneL] using hx
    rw [this]; exact hs
  · intro x hx; have : x = ⟨0, l⟩ := by simpa [oneL] using hx
    rw [this]; exact hf
  · intro x hx; have : x = ⟨0, l⟩ := by simpa [oneL] using hx
    rw [this]; exact Nat.le_refl _
  · intro k hk
    obtain rfl := hl k hk
    refine ⟨0, by show 0 < 2 ^ 0; decide, fun i hi => ?_⟩
    have : i < 1 := hi
    obtain rfl : i = 0 := by omega
    simp [tAt, oneL]
  · intro k hk e _
    obtain rfl := hl k hk
    exact plc_zero _
  · intro k hk e he
    obtain rfl := hl k hk
    exact hg e he
/-- A single page that is taken. -/
theorem opens_of_page {p : List UInt8} {l : List Ent} (hp : p.length = 256) (h : entF p (p.getD 1 0).toNat = some l) (h0 : p.getD 0 0 = 109) (h2 : p.getD 2 0 = 0) : Opens [p] (oneL l) := by
  obtain ⟨e1, e2, e3, e4, e5⟩ := entF_some hp h
  refine ⟨opens_oneL e2 e3 e4, ?_⟩
  have : UInt8.ofNat l.length = p.getD 1 0 := by rw [e1]; simp
  show [laidB 109 (UInt8.ofNat l.length) 0 l] = [p]
  rw [h0, h2] at e5
  rw [this]
  exact congrArg (fun x => [x]) e5.symm
theorem laid_head {a b c : UInt8} {l : List Ent} : (laidB a b c l).getD 0 0 = a ∧ (laidB a b c l).getD 1 0 = b ∧ (laidB a b c l).getD 2 0 = c := by
  unfold laidB pad
  exact ⟨rfl, rfl, rfl⟩
theorem laid_256 {a b c : UInt8} {l : List Ent} (hf : fitE l = true) : (laidB a b c l).length = 256 := laid_len hf
/-- What a single page that is taken says. -/
theorem page_of_opens {p : List UInt8} {d : Dic} (h : Opens [p] d) : ∃ l, d = oneL l ∧ entF p (p.getD 1 0).toNat = some l ∧ p.getD 0 0 = 109 ∧ p.getD 2 0 = 0 := by
  obtain ⟨l, rfl, e, hf, hg, hs⟩ := opens_small h rfl
  injection e with e
  subst e
  obtain ⟨h0, h1, h2⟩ := @laid_head 109 (UInt8.ofNat l.length) 0 l
  have := (fitE_len hf).1
  refine ⟨l, rfl, ?_, h0, h2⟩
  rw [h1, ofNat_toNat _ (by omega)]
  exact entF_laid _ _ _ hf hg hs
/-- Leaves that are told rightly. -/
def LeafOk (d : Dic) (k : Nat) : Prop := ∃ p, p < d.table.length ∧ tAt d p = k ∧ (∀ i, i < d.table.length → (tAt d i = k ↔ i % 2 ^ (leafAt d k).depth = p % 2 ^ (leafAt d k).depth)) ∧ ∀ e ∈ (leafAt d k).l, hash e.name % 2 ^ (leafAt d k).depth = p % 2 ^ (leafAt d k).depth
def Whole (d : Dic) : Prop := (∀ k, k < d.leaves.length → LeafOk d k) ∧ ∃ k, k < d.leaves.length ∧ (leafAt d k).depth = d.depth
/-- What stands in pages, byte by byte. -/
structure Read (r : List UInt8) (ps : List (List UInt8)) (d : Dic) : Prop where
  sm : d.small = false
  r0 : r.getD 0 0 = 114
  dep : (r.getD 1 0).toNat = d.depth
  d5 : d.depth ≤ 5
  tl : d.table.length = 2 ^ d.depth
  tb : ∀ i, i < 2 ^ d.depth → (r.getD (2 + i) 0).toNat = tAt d i + 1
  tz : ∀ i, 2 + 2 ^ d.depth ≤ i → i < 256 → r.getD i 0 = 0
  ll : d.leaves.length = ps.length
  rng : ∀ i, i < 2 ^ d.depth → tAt d i < ps.length
  lf : ∀ k, k < ps.length → (ps.getD k []).getD 0 0 = 108 ∧ ((ps.getD k []).getD 1 0).toNat = (leafAt d k).depth ∧ (leafAt d k).depth ≤ d.depth ∧ entF (ps.getD k []) ((ps.getD k []).getD 2 0).toNat = some (leafAt d k).l
theorem tab_ext {t t' : List Nat} (hl : t.length = t'.length) (h : ∀ i, i < t.length → t.getD i 0 = t'.getD i 0) : t = t' := by
  apply List.ext_getElem hl
  intro i h1 h2
  have := h i h1
  rw [List.getD_eq_getElem?_getD, List.getD_eq_getElem?_getD, List.getElem?_eq_getElem h1, List.getElem?_eq_getElem h2] at this
  exact this
theorem leaves_ext {t t' : List Leaf} (hl : t.length = t'.length) (h : ∀ i, i < t.length → t.getD i ⟨0, []⟩ = t'.getD i ⟨0, []⟩) : t = t' := by
  apply List.ext_getElem hl
  intro i h1 h2
  have := h i h1
  rw [List.getD_eq_getElem?_getD, List.getD_eq_getElem?_getD, List.getElem?_eq_getElem h1, List.getElem?_eq_getElem h2] at this
  exact this
theorem leaf_eq {a b : Leaf} (h1 : a.depth = b.depth) (h2 : a.l = b.l) : a = b := by cases a; cases b; simp_all
theorem read_unique {r : List UInt8} {ps : List (List UInt8)} {d d' : Dic} (h : Read r ps d) (h' : Read r ps d') : d = d' := by
  have hd : d.depth = d'.depth := by rw [← h.dep, h'.dep]
  have ht : d.table = d'.table := tab_ext (by rw [h.tl, h'.tl, hd]) fun i hi => by
    rw [h.tl] at hi
    have e1 := h.tb i hi
    have e2 := h'.tb i (by rw [← hd]; exact hi)
    have : tAt d i = tAt d' i := by omega
    exact this
  have hL : d.leaves = d'.leaves := leaves_ext (by rw [h.ll, h'.ll]) fun i hi => by
    rw [h.ll] at hi
    obtain ⟨-, a2, -, a4⟩ := h.lf i hi
    obtain ⟨-, b2, -, b4⟩ := h'.lf i hi
    rw [a4] at b4
    injection b4 with b4
    exact leaf_eq (by rw [show (d.leaves.getD i ⟨0, []⟩).depth = (leafAt d i).depth from rfl, ← a2, b2]; rfl) b4
  have hs : d.small = d'.small := by rw [h.sm, h'.sm]
  cases d; cases d'
  simp_all
theorem getD_map {α β : Type} (f : α → β) (l : List α) (i : Nat) (a : α) (b : β) (h : i < l.length) : (l.map f).getD i b = f (l.getD i a) := by
  rw [List.getD_eq_getElem?_getD, List.getD_eq_getElem?_getD, List.getElem?_map, List.getElem?_eq_getElem h]; rfl
theorem root_get (d : Dic) (_hl : d.table.length ≤ 250) (i : Nat) : (rootB d).getD i 0 = if i = 0 then 114 else if i = 1 then UInt8.ofNat d.depth else if i < 2 + d.table.length then UInt8.ofNat (tAt d (i - 2) + 1) else 0 := by
  unfold rootB pad
  match i with
  | 0 => rfl
  | 1 => rfl
  | i + 2 =>
    rw [if_neg (by omega), if_neg (by omega)]
    show ((d.table.map fun x => UInt8.ofNat (x + 1)) ++ zeros _).getD i 0 = _
    by_cases hi : i < d.table.length
    · rw [if_pos (by omega), List.getD_eq_getElem?_getD, List.getElem?_append_left (by simpa using hi), List.getElem?_map]
      unfold tAt
      rw [List.getD_eq_getElem?_getD, Nat.add_sub_cancel, List.getElem?_eq_getElem hi]
      rfl
    · rw [if_neg (by omega), List.getD_eq_getElem?_getD, List.getElem?_append_right (by simpa using hi)]
      unfold zeros
      rw [List.getElem?_replicate]
      split <;> rfl
/-- What pages that are a dictionary's say. -/
theorem read_of_opens {r : List UInt8} {ps : List (List UInt8)} {d : Dic} (h : Opens (r :: ps) d) (hp : ps ≠ []) : Read r ps d ∧ Whole d := by
  obtain ⟨hi, hpg⟩ := h
  have hs : d.small = false := by
    cases hs : d.small
    · rfl
    · have := pages_small_len hs
      rw [hpg] at this
      simp at this
      exact absurd this hp
  have hpd : pagesD d = rootB d :: d.leaves.map leafB := by unfold pagesD; rw [if_neg (by simp [hs])]
  rw [hpg] at hpd
  injection hpd with e1 e2
  have hd5 := hi.ok.dep
  have htl := hi.ok.tab
  have hpw := two_pow d.depth hd5
  have hrg := root_get d (by omega)
  have hll : d.leaves.length = ps.length := by rw [e2]; simp
  have hm := hi.ok.many
  have htlt : ∀ i, i < 2 ^ d.depth → tAt d i < d.leaves.length := fun i hi' => by
    rw [tAt_get (by omega)]; exact hi.ok.rng _ (List.getElem_mem _)
  refine ⟨⟨hs, ?_, ?_, hd5, htl, ?_, ?_, hll, fun i hi' => by rw [← hll]; exact htlt i hi', ?_⟩, ?_, hi.deep⟩
  · rw [e1, hrg, if_pos rfl]
  · rw [e1, hrg, if_neg (by omega), if_pos rfl, ofNat_toNat _ (by omega)]
  · intro i hi'
    have := htlt i hi'
    rw [e1, hrg, if_neg (by omega), if_neg (by omega), if_pos (by omega), Nat.add_sub_cancel_left, ofNat_toNat _ (by omega)]
  · intro i h1 h2
    rw [e1, hrg, if_neg (by omega), if_neg (by omega), if_neg (by omega)]
  · intro k hk
    have hkd : k < d.leaves.length := by omega
    have hpk : ps.getD k [] = leafB (leafAt d k) := by rw [e2]; exact getD_map leafB d.leaves k ⟨0, []⟩ [] hkd
    have hmem := leaf_mem hkd
    have hlow := hi.ok.low _ hmem
    have hf := hi.ok.fit _ hmem
    have h50 := (fitE_len hf).1
    obtain ⟨h0, h1, h2⟩ := @laid_head 108 (UInt8.ofNat (leafAt d k).depth) (UInt8.ofNat (leafAt d k).l.length) (leafAt d k).l
    rw [hpk]
    unfold leafB
    rw [h0, h1, h2, ofNat_toNat _ (by omega), ofNat_toNat _ (by omega)]
    exact ⟨rfl, rfl, hlow, entF_laid _ _ _ hf (hi.good k hkd) (hi.ok.srt _ hmem)⟩
  · intro k hk
    obtain ⟨p, hp1, hp2⟩ := hi.pre k hk
    have hlow := hi.ok.low _ (leaf_mem hk)
    have hpl : p < d.table.length := by
      have := pow_le5 hlow
      omega
    have hpm : p % 2 ^ (leafAt d k).depth = p := Nat.mod_eq_of_lt hp1
    refine ⟨p, hpl, (hp2 p hpl).2 hpm, fun i hi' => by rw [hpm]; exact hp2 i hi', fun e he => ?_⟩
    have h1 := hi.at_ k hk e he
    rw [kOf_tAt, hp2 _ (plc_lt hi.ok _)] at h1
    rw [hpm, ← h1]
    unfold plc
    rw [mod_low _ _ _ hlow]
/-- Pages that say a dictionary. -/
theorem opens_of_read {r : List UInt8} {ps : List (List UInt8)} {d : Dic} (h : Read r ps d) (hw : Whole d) (hr : r.length = 256) (hps : ∀ p ∈ ps, p.length = 256) (hm : ps.length ≤ 32) : Opens (r :: ps) d := by
  have hd5 := h.d5
  have htl := h.tl
  have hpw := two_pow d.depth hd5
  have hll := h.ll
  have hpk : ∀ k, k < ps.length → ps.getD k [] ∈ ps := fun k hk => by
    rw [List.getD_eq_getElem?_getD, List.getElem?_eq_getElem hk]; exact List.getElem_mem _
  have hleaf : ∀ k, k < ps.length → fitE (leafAt d k).l = true ∧ (∀ e ∈ (leafAt d k).l, GoodE e) ∧ Srt (leafAt d k).l ∧ (leafAt d k).depth ≤ d.depth ∧ ps.getD k [] = leafB (leafAt d k) := fun k hk => by
    obtain ⟨a1, a2, a3, a4⟩ := h.lf k hk
    obtain ⟨b1, b2, b3, b4, b5⟩ := entF_some (hps _ (hpk k hk)) a4
    refine ⟨b2, b3, b4, a3, ?_⟩
    rw [b5]
    unfold leafB
    rw [a1]
    congr 1
    · rw [← a2]; simp
    · rw [b1]; simp
  have hmem : ∀ x ∈ d.leaves, ∃ k, k < ps.length ∧ x = leafAt d k := fun x hx => by
    obtain ⟨k, hk, rfl⟩ := List.getElem_of_mem hx
    exact ⟨k, by omega, (leafAt_get hk).symm⟩
  have hI : Inv d := by
    refine ⟨⟨⟨hd5, htl, ?_, by omega, ?_, ?_, ?_⟩, ?_, ?_, ?_, fun e => by rw [h.sm] at e; cases e⟩, hw.2⟩
    · intro x hx
      obtain ⟨i, hi, rfl⟩ := List.getElem_of_mem hx
      have := h.rng i (by omega)
      rw [tAt_get hi] at this
      omega
    · intro x hx; obtain ⟨k, hk, rfl⟩ := hmem x hx; exact (hleaf k hk).2.2.1
    · intro x hx; obtain ⟨k, hk, rfl⟩ := hmem x hx; exact (hleaf k hk).1
    · intro x hx; obtain ⟨k, hk, rfl⟩ := hmem x hx; exact (hleaf k hk).2.2.2.1
    · intro k hk
      obtain ⟨p, -, -, hp3, -⟩ := hw.1 k hk
      exact ⟨p % 2 ^ (leafAt d k).depth, Nat.mod_lt _ (Nat.pow_pos (by omega)), hp3⟩
    · intro k hk e he
      obtain ⟨p, -, -, hp3, hp4⟩ := hw.1 k hk
      have hpl : plc d e.name < d.table.length := by rw [htl]; exact Nat.mod_lt _ (Nat.pow_pos (by omega))
      rw [kOf_tAt, hp3 _ hpl, ← hp4 e he]
      unfold plc
      exact mod_low _ _ _ (hleaf k (by omega)).2.2.2.1
    · intro k hk; exact (hleaf k (by omega)).2.1
  refine ⟨hI, ?_⟩
  unfold pagesD
  rw [if_neg (by simp [h.sm])]
  congr 1
  · apply List.ext_getElem
    · rw [hr]
      unfold rootB
      exact pad_len (by simp; omega)
    · intro i h1 h2
      have e := root_get d (by omega) i
      rw [List.getD_eq_getElem?_getD, List.getElem?_eq_getElem h1] at e
      have e2 : r[i] = r.getD i 0 := by rw [List.getD_eq_getElem?_getD, List.getElem?_eq_getElem h2]; rfl
      rw [e2, show (rootB d)[i] = _ from e]
      by_cases h0 : i = 0
      · rw [if_pos h0, h0, h.r0]
      rw [if_neg h0]
      by_cases h1' : i = 1
      · rw [if_pos h1', h1', ← h.dep]; simp
      rw [if_neg h1']
      by_cases h3 : i < 2 + d.table.length
      · rw [if_pos h3]
        have := h.tb (i - 2) (by omega)
        rw [show 2 + (i - 2) = i by omega] at this
        rw [← this]
        simp
      · rw [if_neg h3, h.tz i (by omega) (by omega)]
  · apply List.ext_getElem
    · simp [hll]
    · intro k h1 h2
      simp at h1
      have := (hleaf k h2).2.2.2.2
      rw [List.getD_eq_getElem?_getD, List.getElem?_eq_getElem h2] at this
      rw [List.getElem_map, ← leafAt_get h1]
      exact this.symm
theorem opens_unique {rs : List (List UInt8)} {d d' : Dic} (h : Opens rs d) (h' : Opens rs d') : d = d' := by
  match rs, h, h' with
  | [], h, _ =>
    obtain ⟨hi, hp⟩ := h
    cases hs : d.small
    · have := pages_large_len hs; rw [hp] at this; simp at this
    · have := pages_small_len hs; rw [hp] at this; simp at this
  | [p], h, h' =>
    obtain ⟨l, rfl, e, -⟩ := page_of_opens h
    obtain ⟨l', rfl, e', -⟩ := page_of_opens h'
    rw [e] at e'
    injection e' with e'
    rw [e']
  | r :: q :: ps, h, h' => exact read_unique (read_of_opens h (by simp)).1 (read_of_opens h' (by simp)).1
/-- All pages are of one size, and there are not too many. -/
theorem opens_form {rs : List (List UInt8)} {d : Dic} (h : Opens rs d) : 1 ≤ rs.length ∧ rs.length ≤ 33 ∧ ∀ p ∈ rs, p.length = 256 := by
  obtain ⟨hi, hp⟩ := h
  have hm := hi.ok.many
  rw [← hp]
  have hpw := two_pow d.depth hi.ok.dep
  have htl := hi.ok.tab
  cases hs : d.small
  · refine ⟨by rw [pages_large_len hs]; omega, by rw [pages_large_len hs]; omega, ?_⟩
    unfold pagesD
    rw [if_neg (by simp [hs])]
    intro p hp
    rcases List.mem_cons.1 hp with rfl | hp
    · unfold rootB; exact pad_len (by simp; omega)
    · obtain ⟨x, hx, rfl⟩ := List.mem_map.1 hp
      exact laid_len (hi.ok.fit x hx)
  · refine ⟨by rw [pages_small_len hs]; omega, by rw [pages_small_len hs]; omega, ?_⟩
    unfold pagesD
    rw [if_pos hs]
    intro p hp
    rw [List.mem_singleton] at hp
    rw [hp]
    exact laid_len (hi.ok.fit _ (leaf_mem (inv_leaf hi)))
end Go.Proofs.Ytiieglfpmmhfiaa
namespace Go.Proofs.Ytiieglfpmmhfiaa
set_option maxRecDepth 100000
open Go.RowKit Go.Uc

/-- A dictionary as it stands in memory while it is being read: only what the walk leans on. -/
structure Sized (d : Dic) : Prop where
  tl : d.table.length ≤ 32
  ll : d.leaves.length ≤ 40
  lo : ∀ x ∈ d.leaves, x.depth ≤ 5
  nm : ∀ x ∈ d.leaves, ∀ e ∈ x.l, e.name.length ≤ 24
  en : ∀ x ∈ d.leaves, x.l.length ≤ 60
theorem and_mask (x n : Nat) (h : n ≤ 5) (hx : x ≤ 4294967295) : bits .and .i64 (x : Int) ((2 ^ n - 1 : Nat) : Int) = ((x % 2 ^ n : Nat) : Int) := by
  have hp := two_pow n h
  rw [(bits_nat .i64 63 (by decide) (fun n h0 h1 => by rw [IntKind.wrap_i64]; omega) x (2 ^ n - 1) (by omega) (by omega)).1]
  rw [Nat.and_two_pow_sub_one_eq_mod]
theorem mask_of (n : Nat) (h : n ≤ 5) : wrap64 (wrap64 ((2 : Int) ^ n) - 1) = ((2 ^ n - 1 : Nat) : Int) := by
  have hp := two_pow n h
  have e : (2 : Int) ^ n = ((2 ^ n : Nat) : Int) := by simp
  rw [e]
  have e2 : wrap64 ((2 ^ n : Nat) : Int) = ((2 ^ n : Nat) : Int) := IntWalk.wrap64_in _ ⟨by omega, by omega⟩
  rw [e2, IntWalk.wrap64_in _ ⟨by omega, by omega⟩]
  omega
theorem hashI_any (L : List UInt8) (hn : L.length ≤ 9223372036854775807) (w : World) : Calls Try.prog 16 #[.string (str L)] w fun e w' => e = .returned (.int .u32 (hash L : Int)) ∧ w' = w := hash_any L hn w
theorem hash_le (L : List UInt8) : hash L ≤ 4294967295 := by have := (hashB L).isLt; unfold hash; omega
/-- What whole answers. -/
def WholeR (w : World) (d : Dic) (e : Ending) (w' : World) : Prop := (Whole d ∧ e = .returned (.bool true) ∨ ¬ Whole d ∧ e = .returned (.bool false)) ∧ Keeps Non w w'
set_option maxHeartbeats 8000000 in
theorem whole_any {w : World} {g : Nat} {d : Dic} {t l : Sl} {ps : List (Nat × Sl)} (h : DictM 69 66 w g d t l ps) (hs : Sized d) :
    Calls Try.prog 69 #[.pointer (some ⟨g, 0, none⟩)] w (WholeR w d) := by
  obtain ⟨lA, lc, hle, -, -⟩ := h.lvs.val
  obtain ⟨tA, tc, hte, -, -⟩ := h.tab.val
  have hlen := h.len
  have hll := hs.ll
  obtain ⟨c0, c1, c2, c3⟩ := dict_cells h
  rw [hle] at c3
  rw [hte] at c2
  have hT : RowN w (.slice tA d.table.length tc) d.table := by rw [← hte]; exact h.tab
  have HTE := Lib.hid hte
  clear c0 hte
  go_enter Try.func69, Try.ntmps69
  go_upto_region 3 with fail
  go_loopw [3, 17] (fun b i wr => ∃ (k : Nat) (bb : Bool), k ≤ d.leaves.length ∧ i = .int .i64 (k : Int) ∧ b = .bool bb ∧ Hid (bb = true ↔ ∃ j, j < k ∧ (leafAt d j).depth = d.depth) ∧ Hid (∀ j, j < k → LeafOk d j) ∧ Keeps Non w wr) (fun _ i _ => d.leaves.length - (intOf i).toNat)
  case atStart => exact ⟨0, false, Nat.zero_le _, rfl, rfl, Lib.hid ⟨(fun e => by cases e), (fun ⟨j, h, _⟩ => absurd h (by omega))⟩, Lib.hid (fun j h => by omega), Keeps.refl _ _⟩
  case round =>
    obtain ⟨k, bb, hk, rfl, rfl, HB, HW, hK⟩ := hrel
    obtain ⟨wx, rfl⟩ : ∃ W : World, W = wr := ⟨_, rfl⟩
    by_cases hlt : k < d.leaves.length
    · have hkp : k < ps.length := by omega
      obtain ⟨bl, cl, e2, -, x0, x1, -, -⟩ := rowP_at (h.lvs.non hK) hkp
      rw [hle] at e2
      injection e2 with e2 e2b e2c
      clear e2b
      subst e2 e2c
      have hE := (h.ent k hkp hlt).non hK
      have hdp := h.dep k hkp hlt
      obtain ⟨eA, ec, hev, -, -⟩ := hE.val
      rw [hev] at x1 hE
      rw [hdp] at x0
      have hlo := hs.lo _ (List.getElem_mem hlt)
      have hnm := hs.nm _ (List.getElem_mem hlt)
      have hen := hs.en _ (List.getElem_mem hlt)
      have HLA : Hid (leafAt d k = d.leaves[k]) := Lib.hid (leafAt_get hlt)
      generalize d.leaves[k] = lf at x0 x1 hE hlo hnm hen HLA
      obtain ⟨dp, L⟩ := lf
      simp only at x0 x1 hE hlo hnm hen
      clear hev hdp
      have hki : (k : Int) < (ps.length : Int) := by omega
      go_upto_region 5 with fail
      have hk2 := (Keeps.refl Non wx).alloc (.cells #[.int .i64 (dp : Int), .slice eA L.length ec] 66)
      have hX := Blk.new wx 66 #[.int .i64 (dp : Int), .slice eA L.length ec]
      obtain ⟨w2, hw2⟩ : ∃ W : World, W = wx.alloc (.cells #[.int .i64 (dp : Int), .slice eA L.length ec] 66) := ⟨_, rfl⟩
      rw [← hw2] at hk2 hX ⊢
      have hE2 := hE.non hk2
      have hK2 := hK.non hk2
      have hM2 := h.non hK2
      have hxb : wx.heap.size ≠ g := by have := (h.non hK).blk.lt; omega
      clear hw2 x0 x1 hE hK hk2
      generalize wx.heap.size = xb at *
      obtain ⟨-, d1, d2, -⟩ := dict_cells hM2
      have x0 : w2.cell? ⟨xb, 0, none⟩ = some (.int .i64 (dp : Int)) := hX.cell 0
      have x1 : w2.cell? ⟨xb, 1, none⟩ = some (.slice eA L.length ec) := hX.cell 1
      have hT2 := hT.non hK2
      rw [HTE.out] at d2
      have HIX := Lib.hid (index_any hT2 k)
      go_wp2_with fail
      refine HIX.out.mono ?_
      rintro e w3 (⟨⟨f, hf, rfl, hfk, -⟩, rfl⟩ | ⟨⟨rfl, hnot⟩, rfl⟩)
      · have HL : Hid (LeafOk d k ↔ (∀ i, i < d.table.length → (tAt d i = k ↔ i % 2 ^ dp = f % 2 ^ dp)) ∧ ∀ e ∈ L, hash e.name % 2 ^ dp = f % 2 ^ dp) := Lib.hid (by
          unfold LeafOk
          rw [HLA.out]
          constructor
          · rintro ⟨p, hp, hpk, h1, h2⟩
            have hfp : f % 2 ^ dp = p % 2 ^ dp := (h1 f hf).1 (by rw [tAt_get hf]; exact hfk)
            rw [hfp]
            exact ⟨h1, h2⟩
          · rintro ⟨h1, h2⟩
            exact ⟨f, hf, by rw [tAt_get hf]; exact hfk, h1, h2⟩)
        have HFK := Lib.hid hfk
        have hf32 : f < 32 := by have := hs.tl; omega
        have hf0 : (0 : Int) ≤ (f : Int) := by omega
        clear hfk
        have HMk := mask_of dp hlo
        have HAnd := Lib.hid (fun x => and_mask x dp hlo)
        obtain ⟨M, hM⟩ : ∃ M, M = 2 ^ dp - 1 := ⟨_, rfl⟩
        obtain ⟨u, hu⟩ : ∃ u, u = 2 ^ dp := ⟨_, rfl⟩
        rw [← hM] at HMk HAnd
        rw [← hu] at HAnd HL
        clear hM hu
        have hand : bits .and .i64 (f : Int) (M : Int) = ((f % u : Nat) : Int) := HAnd.out f (by omega)
        have HL' : Hid (LeafOk d k ↔ (∀ i, i < d.table.length → (tAt d i = k ↔ i % u = f % u)) ∧ ∀ e ∈ L, hash e.name % u = f % u) := HL
        clear HL
        generalize f % u = r at hand HL'
        go_upto_region 8 with fail
        have HB3 : Hid (∀ b2 : Bool, (b2 = true ↔ bb = true ∨ dp = d.depth) → (b2 = true ↔ ∃ j, j < k + 1 ∧ (leafAt d j).depth = d.depth)) := Lib.hid (fun b2 h => by
          rw [h, HB.out]
          constructor
          · rintro (⟨j, hj, e⟩ | e)
            · exact ⟨j, by omega, e⟩
            · exact ⟨k, by omega, by rw [HLA.out]; exact e⟩
          · rintro ⟨j, hj, e⟩
            rcases Nat.lt_or_ge j k with h' | h'
            · exact .inl ⟨j, h', e⟩
            · obtain rfl : j = k := by omega
              rw [HLA.out] at e
              exact .inr e)
        have hr3 : bb = true ∨ (bb = false ∧ dp = d.depth) ∨ (bb = false ∧ dp ≠ d.depth) := by
          cases bb
          · by_cases h : dp = d.depth
            · exact .inr (.inl ⟨rfl, h⟩)
            · exact .inr (.inr ⟨rfl, h⟩)
          · exact .inl rfl
        rcases hr3 with h3 | ⟨h3, h4⟩ | ⟨h3, h4⟩
        case' inl =>
          have HB2 := Lib.hid (HB3.out true ⟨fun _ => .inl h3, fun _ => rfl⟩)
          subst h3
        case' inr.inl =>
          have HB2 := Lib.hid (HB3.out true ⟨fun _ => .inr h4, fun _ => rfl⟩)
          have hdb : ((dp : Int) == (d.depth : Int)) = true := by simp [h4]
          subst h3
          clear h4
        case' inr.inr =>
          have HB2 := Lib.hid (HB3.out false ⟨(fun e => by cases e), (fun e => by rcases e with e | e; (rw [h3] at e; cases e); (exact absurd e h4))⟩)
          have hdb : ((dp : Int) == (d.depth : Int)) = false := beq_eq_false_iff_ne.2 (by omega)
          subst h3
          clear h4
        all_goals
          clear HB3 HB
          go_upto_region 9 with fail
          rw [HMk]
          go_quiet (fail)
          go_upto_region 11 with fail
          obtain ⟨w4, hw4⟩ : ∃ W : World, W = w3.drewN nq := ⟨_, rfl⟩
          rw [← hw4]
          have hk4 : Keeps Non w3 w4 := by rw [hw4]; exact (Keeps.refl _ _).drewN _
          clear hw4
          have hE4 := hE2.non hk4
          have hK4 := hK2.non hk4
          have hT4 := hT2.non hk4
          have y1 : w4.cell? ⟨xb, 1, none⟩ = some (.slice eA L.length ec) := (hX.non hk4).cell 1
          have hX4 := hX.non hk4
          have htl := hs.tl
          clear hk4 x0 x1 d1 d2 hX hE2 hK2 hM2
          go_loop [49] (fun i => ∃ j : Nat, j ≤ d.table.length ∧ i = .int .i64 (j : Int) ∧ Hid (∀ i, i < j → (tAt d i = k ↔ i % u = r))) (fun i => d.table.length - (intOf i).toNat)
          case atStart => exact ⟨0, Nat.zero_le _, rfl, Lib.hid (fun i h => absurd h (by omega))⟩
          case round =>
            obtain ⟨j, hj, rfl, HT⟩ := hrel
            by_cases hjl : j < d.table.length
            · obtain ⟨bt, ct, e1, -, z0, -⟩ := rowN_at hT4 hjl
              injection e1 with e1 e1b e1c
              clear e1b
              subst e1 e1c
              have hta : Hid (tAt d j = d.table[j]) := Lib.hid (tAt_get hjl)
              generalize d.table[j] = tv at z0 hta
              have hand2 : bits .and .i64 (j : Int) (M : Int) = ((j % u : Nat) : Int) := HAnd.out j (by omega)
              have HTS : Hid ((tv = k ↔ j % u = r) → ∀ i, i < j + 1 → (tAt d i = k ↔ i % u = r)) := Lib.hid (fun h i hi => by
                rcases Nat.lt_or_ge i j with h' | h'
                · exact HT.out i h'
                · obtain rfl : i = j := by omega
                  rw [hta.out]; exact h)
              have HNW : Hid (¬ (tv = k ↔ j % u = r) → ¬ Whole d) := Lib.hid (fun h hw => h (by
                have := (HL'.out.1 (hw.1 k hlt)).1 j hjl
                rw [hta.out] at this
                exact this))
              generalize j % u = r2 at hand2 HTS HNW
              by_cases q1 : tv = k <;> by_cases q2 : r2 = r
              · have HTT := Lib.hid (HTS.out ⟨fun _ => q2, fun _ => q1⟩)
                have b1 : ((tv : Int) == (k : Int)) = true := by simp [q1]
                have b2 : ((r2 : Int) == (r : Int)) = true := by simp [q2]
                clear q1 q2
                go_wp2_with fail
                go_round
                case rel => exact ⟨j + 1, by omega, by go_num, HTT⟩
                case measure => simp [intOf]; omega
              · have HNN := Lib.hid (HNW.out fun h => q2 (h.1 q1))
                have b1 : ((tv : Int) == (k : Int)) = true := by simp [q1]
                have b2 : ((r2 : Int) == (r : Int)) = false := beq_eq_false_iff_ne.2 (by omega)
                clear q1 q2
                go_wp2_with fail
                go_ret
                exact ⟨.inr ⟨HNN.out, rfl⟩, hK4⟩
              · have HNN := Lib.hid (HNW.out fun h => q1 (h.2 q2))
                have b1 : ((tv : Int) == (k : Int)) = false := beq_eq_false_iff_ne.2 (by omega)
                have b2 : ((r2 : Int) == (r : Int)) = true := by simp [q2]
                clear q1 q2
                go_wp2_with fail
                go_ret
                exact ⟨.inr ⟨HNN.out, rfl⟩, hK4⟩
              · have HTT := Lib.hid (HTS.out ⟨fun h => absurd h q1, fun h => absurd h q2⟩)
                have b1 : ((tv : Int) == (k : Int)) = false := beq_eq_false_iff_ne.2 (by omega)
                have b2 : ((r2 : Int) == (r : Int)) = false := beq_eq_false_iff_ne.2 (by omega)
                clear q1 q2
                go_wp2_with fail
                go_round
                case rel => exact ⟨j + 1, by omega, by go_num, HTT⟩
                case measure => simp [intOf]; omega
            · have HTA : Hid (∀ i, i < d.table.length → (tAt d i = k ↔ i % u = r)) := Lib.hid (fun i hi => HT.out i (by omega))
              go_upto_region 17 with fail
              go_loopw [69] (fun i wr => ∃ m : Nat, m ≤ L.length ∧ i = .int .i64 (m : Int) ∧ Hid (∀ e ∈ L.take m, hash e.name % u = r) ∧ Keeps Non w4 wr) (fun i _ => L.length - (intOf i).toNat)
              case atStart => exact ⟨0, Nat.zero_le _, rfl, Lib.hid (fun e h => by simp at h), Keeps.refl _ _⟩
              case round =>
                obtain ⟨m, hm, rfl, HE, hk5⟩ := hrel
                obtain ⟨wy, rfl⟩ : ∃ W : World, W = wr := ⟨_, rfl⟩
                by_cases hml : m < L.length
                · obtain ⟨eb, cap, ev, -, z0, z1, -, -⟩ := rowE_at (hE4.non hk5) hml
                  injection ev with e1 e2 e3
                  clear e2
                  subst e1 e3
                  have hnl := hnm L[m] (List.getElem_mem hml)
                  have hmem : L[m] ∈ L := List.getElem_mem hml
                  have hts : L.take (m + 1) = L.take m ++ [L[m]] := List.take_succ_eq_append_getElem hml
                  have HES : Hid (hash L[m].name % u = r → ∀ e ∈ L.take (m + 1), hash e.name % u = r) := Lib.hid (fun h e he => by
                    rw [hts] at he
                    rcases List.mem_append.1 he with he | he
                    · exact HE.out e he
                    · rw [List.mem_singleton] at he; rw [he]; exact h)
                  have HNW : Hid (¬ hash L[m].name % u = r → ¬ Whole d) := Lib.hid (fun h hw => h ((HL'.out.1 (hw.1 k hlt)).2 _ hmem))
                  clear hts hmem
                  generalize L[m] = e at z0 z1 hnl HES HNW
                  have HH := Lib.hid (fun W => hashI_any e.name (by omega) W)
                  have hhl := hash_le e.name
                  have hh0 : (0 : Int) ≤ (hash e.name : Int) := by omega
                  have hand2 : bits .and .i64 (hash e.name : Int) (M : Int) = ((hash e.name % u : Nat) : Int) := HAnd.out _ hhl
                  generalize hash e.name % u = r2 at hand2 HES HNW
                  generalize hash e.name = hv at HH hhl hand2 hh0
                  have hk6 := hk5.alloc (.cells #[.string (str e.name), .int .i64 e.val] 56)
                  by_cases q : r2 = r
                  · have HEE := Lib.hid (HES.out q)
                    subst q
                    go_wp2_with ((go_at_call 16; refine (HH.out _).mono ?_; rintro e w9 ⟨rfl, rfl⟩))
                    go_roundw
                    case rel => exact ⟨m + 1, by omega, by go_num, HEE, hk6⟩
                    case measure => simp [intOf]; omega
                  · have HNN := Lib.hid (HNW.out q)
                    have b2 : ((r2 : Int) != (r : Int)) = true := by simp; omega
                    clear q
                    go_wp2_with ((go_at_call 16; refine (HH.out _).mono ?_; rintro e w9 ⟨rfl, rfl⟩))
                    go_ret
                    exact ⟨.inr ⟨HNN.out, rfl⟩, hK4.non hk6⟩
                · obtain rfl : m = L.length := by omega
                  have HW2 : Hid (∀ j, j < k + 1 → LeafOk d j) := Lib.hid (fun j hj => by
                    rcases Nat.lt_or_ge j k with h' | h'
                    · exact HW.out j h'
                    · obtain rfl : j = k := by omega
                      refine HL'.out.2 ⟨HTA.out, ?_⟩
                      have := HE.out
                      rwa [List.take_of_length_le (Nat.le_refl _)] at this)
                  have hK9 := hK4.non hk5
                  go_wp2_with fail
                  go_roundw
                  case rel => exact ⟨k + 1, _, by omega, by go_num, rfl, Lib.hid (by have := HB2.out; simpa using this), HW2, hK9⟩
                  case measure => simp [intOf]; omega
      · have HNW : Hid (¬ Whole d) := Lib.hid (fun ⟨hw, _⟩ => by
          obtain ⟨p, hp, hpk, -⟩ := hw k hlt
          rw [tAt_get hp] at hpk
          exact hnot (by rw [← hpk]; exact List.getElem_mem hp))
        go_wp2_with fail
        go_ret
        exact ⟨.inr ⟨HNW.out, rfl⟩, hK2⟩
    · obtain rfl : k = d.leaves.length := by omega
      go_wp2_with fail
      go_ret
      refine ⟨?_, hK⟩
      by_cases hd : bb = true
      · subst hd
        obtain ⟨j, hj, hjd⟩ := HB.out.1 rfl
        exact .inl ⟨⟨HW.out, j, hj, hjd⟩, rfl⟩
      · refine .inr ⟨fun ⟨_, j, hj, hjd⟩ => hd (HB.out.2 ⟨j, hj, hjd⟩), ?_⟩
        have : bb = false := by simpa using hd
        rw [this]
        rfl
end Go.Proofs.Ytiieglfpmmhfiaa
namespace Go.Uc
open Go.RowKit
section load
variable {P : Program} {ops : Array Oper} {rest : List Oper} {o : Oper} {a : Act} {w : World} {Q : Exit → Act → World → Prop}
theorem run_loadVar_at (w : World) (ad : Addr) (ty : TypeId) (cs : List Value) (d : TypeDesc) (hc : ∀ j v, cs[j]? = some v → w.cell? (ad.add j) = some v)
    (hu : P.underlying ty = some d) (hd : (match d with | .struct _ | .array _ _ => true | _ => false) = true) (hi : (P.info? ty).map (·.size) = some cs.length) :
    (loadVar ty ad).run P w = .ok (.agg cs.toArray) w := by
  have hl : (loadCells ad cs.length).run P w = .ok cs.toArray w := run_loadCells_list (P := P) w ad cs hc
  cases hq : P.info? ty with
  | none => simp [hq] at hi
  | some i =>
    have hs : i.size = cs.length := by simpa [hq] using hi
    have hagg : (isAgg ty).run P w = .ok true w := by
      unfold isAgg
      rw [Sem.run_bind, run_underlying hu w]
      cases d <;> simp_all
    simp [loadVar, Sem.run_bind, hagg, sizeOf, typeInfo, hq, hs, hl]
theorem wp_load_at {K : Act → World → Prop} (ty : TypeId) (x : Operand) (ho : o.op = .load ty x)
    (ad : Addr) (hx : a.eval x = .pointer (some ad)) (cs : List Value) (d : TypeDesc) (hc : ∀ j v, cs[j]? = some v → w.cell? (ad.add j) = some v)
    (hu : P.underlying ty = some d) (hd : (match d with | .struct _ | .array _ _ => true | _ => false) = true) (hi : (P.info? ty).map (·.size) = some cs.length)
    (h : K (a.put o.dst (.agg cs.toArray)) w) : o.wp P a w K Q := by
  unfold Oper.wp execOp
  simp only [ho, hx, Instr.loadAt, Instr.sureAddr, Sem.run_bind, Sem.run_pure, Result.andThen_ok, run_loadVar_at w ad ty cs d hc hu hd hi]
  exact h
/-- A whole array or struct read, wherever it lies. -/
theorem wpList_load_at (hgd : o.guard = none) (ty : TypeId) (x : Operand) (ho : o.op = .load ty x)
    (ad : Addr) (hx : a.eval x = .pointer (some ad)) (cs : List Value) (d : TypeDesc) (hc : ∀ j v, cs[j]? = some v → w.cell? (ad.add j) = some v)
    (hu : P.underlying ty = some d) (hd : (match d with | .struct _ | .array _ _ => true | _ => false) = true) (hi : (P.info? ty).map (·.size) = some cs.length)
    (h : wpList P ops Q rest (a.put o.dst (.agg cs.toArray)) w) : wpList P ops Q (o :: rest) a w :=
  wpList_plain hgd fun _ hK => wp_load_at ty x ho ad hx cs d hc hu hd hi (hK _ _ h)
end load
end Go.Uc
namespace Go.Proofs.Ytiieglfpmmhfiaa
set_option maxRecDepth 100000
open Go.RowKit Go.Uc

/-- A page's cells. -/
def encPg (p : List UInt8) : List Value := ((p ++ zeros 256).take 256).map bv
theorem encPg_len (p : List UInt8) : (encPg p).length = 256 := by simp [encPg, zeros]
theorem encPg_one (p : List UInt8) : ∀ u ∈ encPg p, u.oneCell' = true := by
  intro u hu
  obtain ⟨x, -, rfl⟩ := List.mem_map.1 hu
  rfl
theorem encPg_eq {p : List UInt8} (h : p.length = 256) : encPg p = p.map bv := by
  unfold encPg
  rw [List.take_append_of_le_length (by omega), List.take_of_length_le (by omega)]
/-- Pages by value. -/
abbrev RowPg (w : World) (v : Value) (rs : List (List UInt8)) : Prop := RowP w 96 256 encPg v rs
theorem rowPg_at {w : World} {v : Value} {rs : List (List UInt8)} (h : RowPg w v rs) (h256 : ∀ p ∈ rs, p.length = 256) {i : Nat} (hi : i < rs.length) :
    ∃ g cap, v = .slice (some ⟨g, 0, none⟩) rs.length cap ∧ rs.length ≤ cap ∧ (∀ j, j < 256 → w.cell? ⟨g, i * 256 + j, none⟩ = some (.int .u8 (((rs.getD i []).getD j 0).toNat : Int))) ∧ g < w.heap.size := by
  obtain ⟨g, cap, e, h1, _, h2, h3, h4⟩ := h.at_ encPg_len hi
  refine ⟨g, cap, e, h1, fun j hj => ?_, h4⟩
  have hl := h256 _ (List.getElem_mem hi)
  rw [h2 j hj, encPg_eq hl]
  have : rs.getD i [] = rs[i] := by rw [List.getD_eq_getElem?_getD, List.getElem?_eq_getElem hi]; rfl
  rw [this, List.getElem?_map, List.getElem?_eq_getElem (by omega), List.getD_eq_getElem?_getD, List.getElem?_eq_getElem (by omega)]
  rfl
/-- A dictionary of the call's own. -/
structure Grown (T L : TypeId) (w0 w : World) (g : Nat) (d : Dic) (t l : Sl) (ps : List (Nat × Sl)) : Prop where
  m : DictM T L w g d t l ps
  k : Keeps Non w0 w
  n : ∀ q ∈ foot g t l ps, w0.heap.size ≤ q
section grown
variable {T L : TypeId} {w0 w w' wA w8 : World} {g : Nat} {d : Dic} {t l s8 : Sl} {ps : List (Nat × Sl)}
theorem Grown.non (h : Grown T L w0 w g d t l ps) (hk : Keeps Non w w') : Grown T L w0 w' g d t l ps := ⟨h.m.non hk, h.k.non hk, h.n⟩
theorem Grown.done (h : Grown T L w0 w g d t l ps) {d' : Dic} {t' l' : Sl} {ps' : List (Nat × Sl)} (hm : DictM T L w' g d' t' l' ps') (hk : Keeps (· ∈ foot g t l ps) w w') (hn : ∀ q ∈ foot g t' l' ps', q ∈ foot g t l ps ∨ w.heap.size ≤ q) : Grown T L w0 w' g d' t' l' ps' :=
  ⟨hm, h.k.then hk fun i hi e => by have := h.n i e; omega, fun q hq => by
    rcases hn q hq with e | e
    · exact h.n q e
    · have := h.k.size; omega⟩
/-- Another table, appended to. -/
theorem DictM.tab8 (h : DictM T L w g d t l ps) {T' : List Nat} (hA : Keeps Non w wA) (hO : RowN w8 s8.v T') (hK : Keeps (· ∈ own t.v) wA w8) (hat : s8.v.ownBlock = t.v.ownBlock ∨ s8.v.ownBlock = some wA.heap.size) :
    DictM T L (w8.setCell ⟨g, 2, none⟩ s8.v) g { d with table := T' } s8 l ps ∧ Keeps (· ∈ foot g t l ps) w (w8.setCell ⟨g, 2, none⟩ s8.v) ∧ ∀ q ∈ own s8.v, q ∈ own t.v ∨ w.heap.size ≤ q := by
  have hn := nod_iff.1 h.nod
  have hlow := h.low
  have hsz := hA.size
  have k9 : Keeps (Only g) w8 (w8.setCell ⟨g, 2, none⟩ s8.v) := (Keeps.refl (Only g) _).set (p := ⟨g, 2, none⟩) rfl _
  have h8 : ∀ q ∈ own s8.v, q ∈ own t.v ∨ q = wA.heap.size := fun q hq => by
    rw [mem_own] at hq
    rcases hat with e | e
    · rw [e] at hq; exact .inl (mem_own.2 hq)
    · rw [e] at hq; injection hq with hq; exact .inr hq.symm
  have hg8 : g ∉ own s8.v := fun hq => by
    rcases h8 _ hq with h' | h'
    · exact hn.gt h'
    · have := hlow g foot_g; omega
  have hb9 := ((h.blk.non hA).keep hK hn.gt).set 2 s8.v
  refine ⟨⟨hb9, ?_, ?_, h.len, h.dep, ?_, nod_iff.2 (hn.table fun q hq => ?_)⟩, ?_, fun q hq => ?_⟩
  · exact hO.keep k9 fun q hq e => hg8 (by unfold Only at e; exact e ▸ hq)
  · exact ((h.lvs.non hA).keep hK fun q hq hq' => hn.tl q hq' hq).keep k9 fun q hq e => hn.gl (by unfold Only at e; exact e ▸ hq)
  · intro i hi hi'
    have hm : ∀ q ∈ own ps[i].2.v, q ∈ ents ps := fun q hq => mem_ents.2 ⟨i, hi, hq⟩
    exact (((h.ent i hi hi').non hA).keep hK fun q hq hq' => hn.te q hq' (hm q hq)).keep k9 fun q hq e => hn.ge (by unfold Only at e; exact e ▸ hm q hq)
  · rcases h8 _ hq with h' | h'
    · exact ⟨fun e => hn.gt (e ▸ h'), fun hl => hn.tl _ h' hl, hn.te _ h'⟩
    · have hq' : ∀ x ∈ foot g t l ps, q ≠ x := fun x hx e => by have := hlow x hx; omega
      exact ⟨hq' _ foot_g, fun ht => hq' q (foot_l ht) rfl, fun he => hq' q (mem_foot.2 (.inr (.inr (.inr he)))) rfl⟩
  · have a2 : Keeps (· ∈ foot g t l ps) w w8 := (hA.of_non).trans (hK.mono fun q hq => foot_t hq)
    exact a2.trans (k9.mono fun q e => by unfold Only at e; exact e ▸ foot_g)
  · rcases h8 _ hq with h' | h'
    · exact .inl h'
    · exact .inr (by omega)
theorem Grown.tab8 (h : Grown T L w0 w g d t l ps) {T' : List Nat} (hA : Keeps Non w wA) (hO : RowN w8 s8.v T') (hK : Keeps (· ∈ own t.v) wA w8) (hat : s8.v.ownBlock = t.v.ownBlock ∨ s8.v.ownBlock = some wA.heap.size) :
    Grown T L w0 (w8.setCell ⟨g, 2, none⟩ s8.v) g { d with table := T' } s8 l ps := by
  obtain ⟨h1, h2, h3⟩ := h.m.tab8 hA hO hK hat
  refine h.done h1 h2 fun q hq => ?_
  rcases mem_foot.1 hq with e | e | e | e
  · exact .inl (e ▸ foot_g)
  · rcases h3 q e with e | e
    · exact .inl (foot_t e)
    · exact .inr e
  · exact .inl (foot_l e)
  · exact .inl (mem_foot.2 (.inr (.inr (.inr e))))
theorem Grown.leaf8 {dp : Nat} {b : Sl} {E : List Ent} (h : Grown T L w0 w g d t l ps) (hE : RowE w b.v E) (hb : ∀ q ∈ own b.v, q ∉ foot g t l ps) (hbn : ∀ q ∈ own b.v, w0.heap.size ≤ q) (hA : Keeps Non w wA)
    (hO : RowP w8 L 2 encP s8.v (ps ++ [(dp, b)])) (hK : Keeps (· ∈ own l.v) wA w8) (hat : s8.v.ownBlock = l.v.ownBlock ∨ s8.v.ownBlock = some wA.heap.size) :
    Grown T L w0 (w8.setCell ⟨g, 3, none⟩ s8.v) g { d with leaves := d.leaves ++ [⟨dp, E⟩] } t s8 (ps ++ [(dp, b)]) := by
  obtain ⟨h1, h2, h3⟩ := h.m.snoc hE hb hA hO hK hat
  refine ⟨h1, h.k.then h2 fun i hi e => by have := h.n i e; omega, fun q hq => ?_⟩
  have hz := h.k.size
  rcases mem_foot.1 hq with e | e | e | e
  · exact h.n q (e ▸ foot_g)
  · exact h.n q (foot_t e)
  · rcases h3 q e with e | e
    · exact h.n q (foot_l e)
    · omega
  · rw [ents_snoc, List.mem_append] at e
    rcases e with e | e
    · exact h.n q (mem_foot.2 (.inr (.inr (.inr e))))
    · exact hbn q e
/-- A dictionary just made, with nothing in it. -/
theorem Grown.new (hk : Keeps Non w0 w) (sm : Bool) (dep : Nat) : Grown T L w0 (w.alloc (.cells #[.bool sm, .int .i64 (dep : Int), .slice none 0 0, .slice none 0 0] T)) w.heap.size ⟨sm, dep, [], []⟩ ⟨none, 0, 0⟩ ⟨none, 0, 0⟩ [] := by
  refine ⟨⟨Blk.new w T _, RowP.nil _ _ _ _, RowP.nil _ _ _ _, rfl, fun i h => absurd h (by simp), fun i h => absurd h (by simp), ?_⟩, hk.alloc _, fun q hq => ?_⟩
  · show ([w.heap.size] : List Nat).Nodup
    simp
  · have : q ∈ [w.heap.size] := hq
    rw [List.mem_singleton] at this
    rw [this]
    exact hk.size
end grown
end Go.Proofs.Ytiieglfpmmhfiaa
