/- A leaf split, plainly. A leaf split. A dictionary's cells changed. Entries sorted by name. What a dictionary keeps, plainly. Put, plainly. List. -/
import Derived.Test.YtiieglfpmmhfiaaG2
import Derived.Test.YtiieglfpmmhfiaaD6
import Derived.Test.YtiieglfpmmhfiaaShelfs
import Derived.Shelf.SlSortCmp.NoneTotal
namespace Go.Proofs.Ytiieglfpmmhfiaa
open Go.Uc

/-- Does a hash have this bit? -/
def bitB (own : Nat) (h : Nat) : Bool := h / 2 ^ own % 2 == 1
def goes (own : Nat) (e : Ent) : Bool := bitB own (hash e.name)
def stayL (own : Nat) (l : List Ent) : List Ent := l.filter fun e => !goes own e
def overL (own : Nat) (l : List Ent) : List Ent := l.filter fun e => goes own e
/-- The table's first so many places turned. -/
def turnT (own k m : Nat) (t : List Nat) (n : Nat) : List Nat := (t.zipIdx).map fun p => if p.2 < n ∧ p.1 = k ∧ bitB own p.2 = true then m else p.1
/-- Twice as many places, if it must be. -/
def widen (d : Dic) (own : Nat) : Dic := if own = d.depth then { d with depth := d.depth + 1, table := d.table ++ d.table } else d
def leafAt (d : Dic) (k : Nat) : Leaf := d.leaves.getD k ⟨0, []⟩
def splitD (d : Dic) (k : Nat) : Dic :=
  let own := (leafAt d k).depth
  let d1 := widen d own
  { d1 with table := turnT own k d.leaves.length d1.table d1.table.length, leaves := d.leaves.set k ⟨own + 1, stayL own (leafAt d k).l⟩ ++ [⟨own + 1, overL own (leafAt d k).l⟩] }
theorem turnT_len (own k m : Nat) (t : List Nat) (n : Nat) : (turnT own k m t n).length = t.length := by simp [turnT]
theorem turnT_zero (own k m : Nat) (t : List Nat) : turnT own k m t 0 = t := by
  unfold turnT
  apply List.ext_getElem
  · simp
  · intro i h1 h2; simp
theorem turnT_get (own k m : Nat) (t : List Nat) (n i : Nat) (hi : i < t.length) : (turnT own k m t n)[i]'(by rw [turnT_len]; exact hi) = if i < n ∧ t[i] = k ∧ bitB own i = true then m else t[i] := by
  simp [turnT]
theorem turnT_same (own k m : Nat) (t : List Nat) (n : Nat) (hn : n < t.length) (h : ¬ (t[n] = k ∧ bitB own n = true)) : turnT own k m t (n + 1) = turnT own k m t n := by
  apply List.ext_getElem
  · simp [turnT_len]
  · intro i h1 h2
    rw [turnT_len] at h1
    rw [turnT_get _ _ _ _ _ _ h1, turnT_get _ _ _ _ _ _ h1]
    by_cases hin : i = n
    · subst hin
      rw [if_neg (fun hh => h hh.2), if_neg (fun hh => h hh.2)]
    · by_cases hlt : i < n
      · simp [hlt, Nat.lt_succ_of_lt hlt]
      · have h3 : ¬ i < n + 1 := by omega
        simp [hlt, h3]
theorem turnT_set (own k m : Nat) (t : List Nat) (n : Nat) (hn : n < t.length) (h : t[n] = k ∧ bitB own n = true) : turnT own k m t (n + 1) = (turnT own k m t n).set n m := by
  apply List.ext_getElem
  · simp [turnT_len]
  · intro i h1 h2
    rw [turnT_len] at h1
    rw [turnT_get _ _ _ _ _ _ h1, List.getElem_set]
    by_cases hin : n = i
    · subst hin
      rw [if_pos ⟨Nat.lt_succ_self _, h⟩, if_pos rfl]
    · rw [if_neg hin, turnT_get _ _ _ _ _ _ h1]
      by_cases hlt : i < n
      · simp [hlt, Nat.lt_succ_of_lt hlt]
      · have h3 : ¬ i < n + 1 := by omega
        simp [hlt, h3]
theorem leafAt_get {d : Dic} {k : Nat} (h : k < d.leaves.length) : leafAt d k = d.leaves[k] := by unfold leafAt; rw [List.getD_eq_getElem?_getD, List.getElem?_eq_getElem h]; rfl
theorem filter_snoc (p : Ent → Bool) (l : List Ent) (k : Nat) (hk : k < l.length) : (l.take (k + 1)).filter p = (l.take k).filter p ++ if p l[k] then [l[k]] else [] := by
  rw [List.take_succ_eq_append_getElem hk, List.filter_append]
  congr 1
  by_cases h : p l[k] <;> simp [h]
/-- The bit, as the code asks for it. -/
theorem bit_code (x : BitVec 32) (own : Nat) : bits .and .u32 (v32 (x >>> own)) 1 = ((x.toNat / 2 ^ own % 2 : Nat) : Int) := by
  rw [show (1 : Int) = v32 1#32 from rfl, and32]
  unfold v32
  rw [BitVec.toNat_and, BitVec.toNat_ushiftRight, Nat.shiftRight_eq_div_pow]
  exact congrArg _ (Nat.and_two_pow_sub_one_eq_mod _ 1)
end Go.Proofs.Ytiieglfpmmhfiaa
namespace Go.Proofs.Ytiieglfpmmhfiaa
set_option maxRecDepth 100000
open Go.RowKit Go.Uc

/-- What a change of a dictionary leaves. -/
def DoneD (T L : TypeId) (w : World) (g : Nat) (t l : Sl) (ps : List (Nat × Sl)) (d' : Dic) (w' : World) : Prop :=
  ∃ t2 l2 ps2, DictM T L w' g d' t2 l2 ps2 ∧ Keeps (· ∈ foot g t l ps) w w' ∧ ∀ q ∈ foot g t2 l2 ps2, q ∈ foot g t l ps ∨ w.heap.size ≤ q
/-- Twice as many places. -/
theorem widen_mem {T L : TypeId} {w w7 w8 : World} {g : Nat} {d : Dic} {t l : Sl} {ps : List (Nat × Sl)} (h : DictM T L w g d t l ps) {s8 : Sl} (w6 : World) (hw6 : w6 = w.setCell ⟨g, 1, none⟩ (.int .i64 ((d.depth + 1 : Nat) : Int)))
    (hK7 : Keeps Non w6.drew w7) (hO : RowN w8 s8.v (d.table ++ d.table)) (hK8 : Keeps (· ∈ own t.v) w7 w8) (hat : s8.v.ownBlock = t.v.ownBlock ∨ s8.v.ownBlock = some w7.heap.size) :
    DictM T L (w8.setCell ⟨g, 2, none⟩ s8.v) g { d with depth := d.depth + 1, table := d.table ++ d.table } s8 l ps ∧ Keeps (· ∈ foot g t l ps) w (w8.setCell ⟨g, 2, none⟩ s8.v) ∧ ∀ q ∈ own s8.v, q ∈ own t.v ∨ w.heap.size ≤ q := by
  have hn := nod_iff.1 h.nod
  have hlow := h.low
  have k1 : Keeps (Only g) w w6 := by rw [hw6]; exact (Keeps.refl (Only g) _).set (p := ⟨g, 1, none⟩) rfl _
  have k7 : Keeps (Only g) w w7 := (k1.drew).non hK7
  have k9 : Keeps (Only g) w8 (w8.setCell ⟨g, 2, none⟩ s8.v) := (Keeps.refl (Only g) _).set (p := ⟨g, 2, none⟩) rfl _
  have hsz : w.heap.size ≤ w7.heap.size := k7.size
  have h8 : ∀ q ∈ own s8.v, q ∈ own t.v ∨ q = w7.heap.size := fun q hq => by
    rw [mem_own] at hq
    rcases hat with e | e
    · rw [e] at hq; exact .inl (mem_own.2 hq)
    · rw [e] at hq; injection hq with hq; exact .inr hq.symm
  have hg8 : g ∉ own s8.v := fun hq => by
    rcases h8 _ hq with h' | h'
    · exact hn.gt h'
    · have := hlow g foot_g; omega
  have hb6 : Blk w6 g T #[.bool d.small, .int .i64 ((d.depth + 1 : Nat) : Int), t.v, l.v] := by rw [hw6]; exact h.blk.set 1 _
  have hb9 := ((hb6.drew.non hK7).keep hK8 hn.gt).set 2 s8.v
  refine ⟨⟨hb9, ?_, ?_, h.len, h.dep, ?_, nod_iff.2 (hn.table fun q hq => ?_)⟩, ?_, fun q hq => ?_⟩
  · exact hO.keep k9 fun q hq e => hg8 (by unfold Only at e; exact e ▸ hq)
  · exact ((h.lvs.keep k7 fun q hq e => hn.gl (by unfold Only at e; exact e ▸ hq)).keep hK8 fun q hq hq' => hn.tl q hq' hq).keep k9 fun q hq e => hn.gl (by unfold Only at e; exact e ▸ hq)
  · intro i hi hi'
    have hm : ∀ q ∈ own ps[i].2.v, q ∈ ents ps := fun q hq => mem_ents.2 ⟨i, hi, hq⟩
    exact (((h.ent i hi hi').keep k7 fun q hq e => hn.ge (by unfold Only at e; exact e ▸ hm q hq)).keep hK8 fun q hq hq' => hn.te q hq' (hm q hq)).keep k9 fun q hq e => hn.ge (by unfold Only at e; exact e ▸ hm q hq)
  · rcases h8 _ hq with h' | h'
    · exact ⟨fun e => hn.gt (e ▸ h'), fun hl => hn.tl _ h' hl, hn.te _ h'⟩
    · have hq' : ∀ x ∈ foot g t l ps, q ≠ x := fun x hx e => by have := hlow x hx; omega
      exact ⟨hq' _ foot_g, fun ht => hq' q (foot_l ht) rfl, fun he => hq' q (mem_foot.2 (.inr (.inr (.inr he)))) rfl⟩
  · have a1 : Keeps (· ∈ foot g t l ps) w w7 := k7.mono fun q e => by unfold Only at e; exact e ▸ foot_g
    have a2 : Keeps (· ∈ foot g t l ps) w w8 := a1.trans (hK8.mono fun q hq => foot_t hq)
    exact a2.trans (k9.mono fun q e => by unfold Only at e; exact e ▸ foot_g)
  · rcases h8 _ hq with h' | h'
    · exact .inl h'
    · exact .inr (by omega)

/-- A leaf's entries shared out so far. -/
structure Part (w1 w : World) (ow : Nat) (L : List Ent) (k : Nat) (a b : Sl) : Prop where
  keep : Keeps Non w1 w
  stay : RowE w a.v (stayL ow (L.take k))
  over : RowE w b.v (overL ow (L.take k))
  na : ∀ q ∈ own a.v, w1.heap.size ≤ q
  nb : ∀ q ∈ own b.v, w1.heap.size ≤ q
  ab : ∀ q ∈ own a.v, q ∉ own b.v
theorem Part.non {w1 w w' : World} {ow k : Nat} {L : List Ent} {a b : Sl} (h : Part w1 w ow L k a b) (hk : Keeps Non w w') : Part w1 w' ow L k a b :=
  ⟨h.keep.non hk, h.stay.non hk, h.over.non hk, h.na, h.nb, h.ab⟩
theorem Part.zero (w : World) (ow : Nat) (L : List Ent) : Part w w ow L 0 ⟨none, 0, 0⟩ ⟨none, 0, 0⟩ :=
  ⟨Keeps.refl _ _, RowP.nil _ _ _ _, RowP.nil _ _ _ _, fun q hq => absurd (show q ∈ ([] : List Nat) from hq) (by simp), fun q hq => absurd (show q ∈ ([] : List Nat) from hq) (by simp), fun q hq => absurd (show q ∈ ([] : List Nat) from hq) (by simp)⟩
theorem Part.goB {w1 w2 w4 : World} {ow k : Nat} {L : List Ent} {a b u : Sl} (h : Part w1 w2 ow L k a b) (hk : k < L.length) (hg : goes ow L[k] = true)
    (hO : RowE w4 u.v (overL ow (L.take k) ++ [L[k]])) (hK : Keeps (· ∈ own b.v) w2 w4) (hat : u.v.ownBlock = b.v.ownBlock ∨ u.v.ownBlock = some w2.heap.size) : Part w1 w4 ow L (k + 1) a u := by
  have hz := h.keep.size
  refine ⟨keeps_own h.keep hK h.nb, ?_, ?_, h.na, own_new h.nb hz hat, fun q hq hq' => ?_⟩
  · have : stayL ow (L.take (k + 1)) = stayL ow (L.take k) := by unfold stayL; rw [filter_snoc _ _ _ hk]; simp [hg]
    rw [this]
    exact h.stay.keep hK fun q hq hq' => h.ab q hq hq'
  · have : overL ow (L.take (k + 1)) = overL ow (L.take k) ++ [L[k]] := by unfold overL; rw [filter_snoc _ _ _ hk]; simp [hg]
    rw [this]; exact hO
  · rw [mem_own] at hq'
    rcases hat with e | e
    · rw [e] at hq'; exact h.ab q hq (mem_own.2 hq')
    · rw [e] at hq'; injection hq' with hq'
      have := h.stay.lt q hq; omega
theorem Part.goA {w1 w2 w4 : World} {ow k : Nat} {L : List Ent} {a b u : Sl} (h : Part w1 w2 ow L k a b) (hk : k < L.length) (hg : goes ow L[k] = false)
    (hO : RowE w4 u.v (stayL ow (L.take k) ++ [L[k]])) (hK : Keeps (· ∈ own a.v) w2 w4) (hat : u.v.ownBlock = a.v.ownBlock ∨ u.v.ownBlock = some w2.heap.size) : Part w1 w4 ow L (k + 1) u b := by
  have hz := h.keep.size
  refine ⟨keeps_own h.keep hK h.na, ?_, ?_, own_new h.na hz hat, h.nb, fun q hq hq' => ?_⟩
  · have : stayL ow (L.take (k + 1)) = stayL ow (L.take k) ++ [L[k]] := by unfold stayL; rw [filter_snoc _ _ _ hk]; simp [hg]
    rw [this]; exact hO
  · have : overL ow (L.take (k + 1)) = overL ow (L.take k) := by unfold overL; rw [filter_snoc _ _ _ hk]; simp [hg]
    rw [this]
    exact h.over.keep hK fun q hq hq' => h.ab q hq' hq
  · rw [mem_own] at hq
    rcases hat with e | e
    · rw [e] at hq; exact h.ab q (mem_own.2 hq) hq'
    · rw [e] at hq; injection hq with hq
      have := h.over.lt q hq'; omega
theorem name_room (l : List Ent) : ∀ j (hj : j < l.length), l[j].name.length ≤ roomE l := by
  induction l with
  | nil => intro j hj; simp at hj
  | cons x l ih =>
    intro j hj
    have hr : roomE (x :: l) = 5 + x.name.length + roomE l := by simp [roomE]
    cases j with
    | zero => simp only [List.getElem_cons_zero]; omega
    | succ j => have := ih j (by simpa using hj); simp only [List.getElem_cons_succ]; omega
/-- The bit asked for. -/
theorem goes_code (e : Ent) (ow : Nat) : (bits .and .u32 (v32 (hashB e.name) / 2 ^ ow) 1 == 1) = goes ow e := by
  rw [shr32, bit_code]
  unfold goes bitB
  have : (hashB e.name).toNat = hash e.name := rfl
  rw [this]
  generalize hash e.name / 2 ^ ow % 2 = m
  by_cases h : m = 1
  · subst h; rfl
  · have h1 : ¬ ((m : Int) = 1) := by omega
    exact (beq_eq_false_iff_ne.2 h1).trans (beq_eq_false_iff_ne.2 h).symm
end Go.Proofs.Ytiieglfpmmhfiaa
namespace Go.Uc
open Go.RowKit
theorem RowP.cell_set {α : Type} {w : World} {e : TypeId} {k : Nat} {enc : α → List Value} {b c : Nat} {xs : List α} (henc : ∀ x, (enc x).length = k) (h : RowP w e k enc (.slice (some ⟨b, 0, none⟩) xs.length c) xs)
    {i j : Nat} (hi : i < xs.length) (hj : j < k) (y : α) (v : Value) (hy : enc y = (enc xs[i]).set j v) :
    RowP (w.setCell ⟨b, i * k + j, none⟩ v) e k enc (.slice (some ⟨b, 0, none⟩) xs.length c) (xs.set i y) := by
  have hg0 := fun i hi j hj => flat_get henc xs i j hi hj
  rcases h.form with ⟨e1, -⟩ | ⟨g, cap, cur, e1, hB, h4, h5, h6, h7⟩
  · cases e1
  injection e1 with e1 _ e2
  injection e1 with e1
  injection e1 with e1
  subst e1 e2
  have hl : (xs.set i y).length = xs.length := by simp
  have := RowP.put (w' := w.setCell ⟨b, i * k + j, none⟩ v) (ys := xs.set i y) h henc (hB.set (i * k + j) v) (by rw [hl]; exact h4) (by simpa using h6) (fun p hp => ?_)
  · rwa [hl] at this
  · rw [hl] at hp
    have hk0 : 0 < k := by omega
    have hq : p / k < xs.length := (Nat.div_lt_iff_lt_mul hk0).2 hp
    have hr : p % k < k := Nat.mod_lt _ hk0
    have hpe : p = p / k * k + p % k := by rw [Nat.mul_comm]; exact (Nat.div_add_mod p k).symm
    have hcur : cur[p]? = (enc xs[p / k])[p % k]? := by
      rw [← hg0 _ hq _ hr, ← hpe, ← h7, List.getElem?_take, if_pos hp]
      simp
    have hys := flat_get henc (xs.set i y) (p / k) (p % k) (by rw [hl]; exact hq) hr
    rw [← hpe] at hys
    rw [hys, List.getElem_set]
    have hsz : i * k + j < cur.size := by
      rw [h6]
      calc i * k + j < i * k + k := by omega
        _ = (i + 1) * k := by rw [Nat.succ_mul]
        _ ≤ c * k := Nat.mul_le_mul_right _ (by omega)
    by_cases hip : i = p / k
    · subst hip
      rw [if_pos rfl, hy, List.getElem?_set]
      by_cases hjp : j = p % k
      · subst hjp
        rw [if_pos rfl, if_pos (by rw [henc]; exact hr), ← hpe] at *
        rw [← hpe]
        simp [hsz]
      · rw [if_neg hjp, ← hcur, Array.getElem?_setIfInBounds_ne (by omega)]
    · have hne : i * k + j ≠ p := by
        rintro rfl
        refine hip ?_
        rw [Nat.mul_comm, Nat.mul_add_div hk0, Nat.div_eq_of_lt hj, Nat.add_zero]
      rw [if_neg hip, ← hcur, Array.getElem?_setIfInBounds_ne hne]
end Go.Uc
namespace Go.Proofs.Ytiieglfpmmhfiaa
open Go.RowKit Go.Uc
theorem rowN_set {w : World} {b c i m : Nat} {l : List Nat} (h : RowN w (.slice (some ⟨b, 0, none⟩) l.length c) l) (hi : i < l.length) : RowN (w.setCell ⟨b, i, none⟩ (.int .i64 (m : Int))) (.slice (some ⟨b, 0, none⟩) l.length c) (l.set i m) := by
  have := h.cell_set encN_len hi (j := 0) (by decide) m (.int .i64 (m : Int)) rfl
  simpa using this
/-- One leaf laid anew. -/
theorem rowP_set {L : TypeId} {w : World} {b c k dp : Nat} {a : Sl} {ps : List (Nat × Sl)} (h : RowP w L 2 encP (.slice (some ⟨b, 0, none⟩) ps.length c) ps) (hk : k < ps.length) :
    RowP ((w.setCell ⟨b, k * 2, none⟩ (.int .i64 (dp : Int))).setCell ⟨b, k * 2 + 1, none⟩ a.v) L 2 encP (.slice (some ⟨b, 0, none⟩) ps.length c) (ps.set k (dp, a)) := by
  have h1 := h.cell_set encP_len hk (j := 0) (by decide) (dp, ps[k].2) (.int .i64 (dp : Int)) rfl
  have hl : (ps.set k (dp, ps[k].2)).length = ps.length := by simp
  have h2 : RowP (w.setCell ⟨b, k * 2, none⟩ (.int .i64 (dp : Int))) L 2 encP (.slice (some ⟨b, 0, none⟩) (ps.set k (dp, ps[k].2)).length c) (ps.set k (dp, ps[k].2)) := by rw [hl]; exact h1
  have h3 := h2.cell_set encP_len (i := k) (by rw [hl]; exact hk) (j := 1) (by decide) (dp, a) a.v (by simp [encP])
  rw [hl, List.set_set] at h3
  exact h3
/-- Its entries alone. -/
theorem rowP_setE {L : TypeId} {w : World} {b c k : Nat} {a : Sl} {ps : List (Nat × Sl)} (h : RowP w L 2 encP (.slice (some ⟨b, 0, none⟩) ps.length c) ps) (hk : k < ps.length) :
    RowP (w.setCell ⟨b, k * 2 + 1, none⟩ a.v) L 2 encP (.slice (some ⟨b, 0, none⟩) ps.length c) (ps.set k (ps[k].1, a)) :=
  h.cell_set encP_len hk (j := 1) (by decide) (ps[k].1, a) a.v (by simp [encP])

theorem DictM.setE {T L : TypeId} {w w2 w3 : World} {g bl lc k dp : Nat} {d : Dic} {t a : Sl} {ps : List (Nat × Sl)} {E : List Ent} (h : DictM T L w g d t ⟨some ⟨bl, 0, none⟩, ps.length, lc⟩ ps) (hk : k < ps.length)
    (hK : Keeps (· ∈ own ps[k].2.v) w w2) (hE : RowE w2 a.v E) (ha : ∀ q ∈ own a.v, q ∈ own ps[k].2.v ∨ q ∉ foot g t ⟨some ⟨bl, 0, none⟩, ps.length, lc⟩ ps)
    (hK3 : Keeps (Only bl) w2 w3) (hR : RowP w3 L 2 encP (.slice (some ⟨bl, 0, none⟩) ps.length lc) (ps.set k (dp, a))) :
    DictM T L w3 g { d with leaves := d.leaves.set k ⟨dp, E⟩ } t ⟨some ⟨bl, 0, none⟩, ps.length, lc⟩ (ps.set k (dp, a)) := by
  have hn := nod_iff.1 h.nod
  have hbl : bl ∈ own (⟨some ⟨bl, 0, none⟩, ps.length, lc⟩ : Sl).v := by show bl ∈ [bl]; simp
  have hm : ∀ q, q ∈ own ps[k].2.v → q ∈ ents ps := fun q hq => mem_ents.2 ⟨k, hk, hq⟩
  refine ⟨?_, ?_, hR, ?_, ?_, ?_, nod_iff.2 (hn.set hk fun q hq => ?_)⟩
  · exact (h.blk.keep hK fun hq => hn.ge (hm _ hq)).keep hK3 fun e => hn.gl (by unfold Only at e; exact e ▸ hbl)
  · exact (h.tab.keep hK fun q hq hq' => hn.te q hq (hm _ hq')).keep hK3 fun q hq e => hn.tl q hq (by unfold Only at e; exact e ▸ hbl)
  · simp [h.len]
  · intro i hi hi'
    simp only [List.length_set] at hi hi'
    rw [List.getElem_set, List.getElem_set]
    by_cases hik : k = i
    · rw [if_pos hik, if_pos hik]
    · rw [if_neg hik, if_neg hik]; exact h.dep i hi hi'
  · intro i hi hi'
    simp only [List.length_set] at hi hi'
    rw [List.getElem_set, List.getElem_set]
    by_cases hik : k = i
    · rw [if_pos hik, if_pos hik]
      refine hE.keep hK3 fun q hq e => ?_
      unfold Only at e
      subst e
      rcases ha _ hq with h' | h'
      · exact hn.le _ hbl (hm _ h')
      · exact h' (foot_l hbl)
    · rw [if_neg hik, if_neg hik]
      exact ((h.ent i hi hi').keep hK fun q hq hq' => hn.other hk hi hik hq' hq).keep hK3 fun q hq e => hn.le _ hbl (by unfold Only at e; subst e; exact mem_ents.2 ⟨i, hi, hq⟩)
  · rcases ha q hq with h' | h'
    · exact .inl h'
    · exact .inr ⟨fun e => h' (e ▸ foot_g), fun e => h' (foot_t e), fun e => h' (foot_l e), fun e => h' (mem_foot.2 (.inr (.inr (.inr e))))⟩
theorem DictM.snoc {T L : TypeId} {w wA w8 : World} {g dp : Nat} {d : Dic} {t l b s8 : Sl} {ps : List (Nat × Sl)} {E : List Ent} (h : DictM T L w g d t l ps)
    (hE : RowE w b.v E) (hb : ∀ q ∈ own b.v, q ∉ foot g t l ps) (hA : Keeps Non w wA)
    (hO : RowP w8 L 2 encP s8.v (ps ++ [(dp, b)])) (hK : Keeps (· ∈ own l.v) wA w8) (hat : s8.v.ownBlock = l.v.ownBlock ∨ s8.v.ownBlock = some wA.heap.size) :
    DictM T L (w8.setCell ⟨g, 3, none⟩ s8.v) g { d with leaves := d.leaves ++ [⟨dp, E⟩] } t s8 (ps ++ [(dp, b)]) ∧ Keeps (· ∈ foot g t l ps) w (w8.setCell ⟨g, 3, none⟩ s8.v) ∧ ∀ q ∈ own s8.v, q ∈ own l.v ∨ w.heap.size ≤ q := by
  have hn := nod_iff.1 h.nod
  have hz := hA.size
  have h7 := h.non hA
  have hlow := h.low
  have hlow7 := h7.low
  have hElt := hE.lt
  have h8 : ∀ q ∈ own s8.v, q ∈ own l.v ∨ q = wA.heap.size := fun q hq => by
    rw [mem_own] at hq
    rcases hat with e | e
    · rw [e] at hq; exact .inl (mem_own.2 hq)
    · rw [e] at hq; injection hq with hq; exact .inr hq.symm
  have hKg : Keeps (Only g) w8 (w8.setCell ⟨g, 3, none⟩ s8.v) := (Keeps.refl (Only g) _).set (p := ⟨g, 3, none⟩) rfl _
  have hgl : g ∉ own l.v := hn.gl
  have hg6 : g ∉ own b.v := fun hq => hb _ hq foot_g
  have hg8 : g ∉ own s8.v := fun hq => by
    rcases h8 _ hq with h' | h'
    · exact hgl h'
    · have := hlow g foot_g; omega
  have hB8 := (h7.blk.keep hK hgl).set 3 s8.v
  refine ⟨⟨hB8, ?_, ?_, ?_, ?_, ?_, nod_iff.2 ((hn.leaves fun q hq => ?_).snoc fun q hq => ?_)⟩, ?_, fun q hq => ?_⟩
  · exact (h7.tab.keep hK fun q hq hq' => hn.tl q hq hq').keep hKg fun q hq e => hn.gt (by unfold Only at e; exact e ▸ hq)
  · exact hO.keep hKg fun q hq e => hg8 (by unfold Only at e; exact e ▸ hq)
  · simp [h.len]
  · intro i hi hi'
    simp only [List.length_append, List.length_singleton] at hi hi'
    rcases Nat.lt_or_ge i ps.length with hlt | hge
    · have hlt' : i < d.leaves.length := by rw [← h.len]; exact hlt
      simp only [List.getElem_append_left hlt, List.getElem_append_left hlt']
      exact h.dep i hlt hlt'
    · obtain rfl : i = ps.length := by omega
      rw [List.getElem_append_right (Nat.le_refl _), List.getElem_append_right (by rw [h.len]; exact Nat.le_refl _)]
      simp
  · intro i hi hi'
    simp only [List.length_append, List.length_singleton] at hi hi'
    rcases Nat.lt_or_ge i ps.length with hlt | hge
    · have hlt' : i < d.leaves.length := by rw [← h.len]; exact hlt
      simp only [List.getElem_append_left hlt, List.getElem_append_left hlt']
      have he := h7.ent i hlt hlt'
      have hm : ∀ q ∈ own ps[i].2.v, q ∈ ents ps := fun q hq => mem_ents.2 ⟨i, hlt, hq⟩
      exact (he.keep hK fun q hq hq' => hn.le q hq' (hm q hq)).keep hKg fun q hq e => hn.ge (by unfold Only at e; exact e ▸ hm q hq)
    · obtain rfl : i = ps.length := by omega
      rw [List.getElem_append_right (Nat.le_refl _), List.getElem_append_right (by rw [h.len]; exact Nat.le_refl _)]
      simp only [Nat.sub_self, List.getElem_cons_zero, h.len]
      exact ((hE.non hA).keep hK fun q hq hq' => hb q hq (foot_l hq')).keep hKg fun q hq e => hg6 (by unfold Only at e; exact e ▸ hq)
  · rcases h8 _ hq with h' | h'
    · exact ⟨fun e => hgl (e ▸ h'), fun ht => hn.tl _ ht h', hn.le _ h'⟩
    · have hq' : ∀ x ∈ foot g t l ps, q ≠ x := fun x hx e => by have := hlow x hx; omega
      exact ⟨hq' _ foot_g, fun ht => hq' q (foot_t ht) rfl, fun he => hq' q (mem_foot.2 (.inr (.inr (.inr he)))) rfl⟩
  · have hqn := hb q hq
    refine ⟨fun e => hqn (e ▸ foot_g), fun e => hqn (foot_t e), fun h8' => ?_, fun e => hqn (mem_foot.2 (.inr (.inr (.inr e))))⟩
    rcases h8 _ h8' with h' | h'
    · exact hqn (foot_l h')
    · have := hElt q hq; omega
  · exact ((hA.of_non).trans (hK.mono fun q hq => foot_l hq)).trans (hKg.mono fun q e => by unfold Only at e; exact e ▸ foot_g)
  · rcases h8 _ hq with h' | h'
    · exact .inl h'
    · exact .inr (by omega)
/-- The table turned at one place. -/
theorem DictM.setT {T L : TypeId} {w : World} {g bt tc i m : Nat} {d : Dic} {l : Sl} {ps : List (Nat × Sl)} (h : DictM T L w g d ⟨some ⟨bt, 0, none⟩, d.table.length, tc⟩ l ps) (hi : i < d.table.length) :
    DictM T L (w.setCell ⟨bt, i, none⟩ (.int .i64 (m : Int))) g { d with table := d.table.set i m } ⟨some ⟨bt, 0, none⟩, d.table.length, tc⟩ l ps := by
  have hn := nod_iff.1 h.nod
  have hbt : bt ∈ own (⟨some ⟨bt, 0, none⟩, d.table.length, tc⟩ : Sl).v := by show bt ∈ [bt]; simp
  have hK : Keeps (Only bt) w (w.setCell ⟨bt, i, none⟩ (.int .i64 (m : Int))) := (Keeps.refl (Only bt) _).set (p := ⟨bt, i, none⟩) rfl _
  refine ⟨h.blk.keep hK fun e => hn.gt (by unfold Only at e; exact e ▸ hbt), rowN_set h.tab hi, h.lvs.keep hK fun q hq e => hn.tl _ hbt (by unfold Only at e; exact e ▸ hq), h.len, h.dep, fun j hj hj' => (h.ent j hj hj').keep hK fun q hq e => hn.te _ hbt (by unfold Only at e; subst e; exact mem_ents.2 ⟨j, hj, hq⟩), h.nod⟩
/-- The bit of a place, as the code asks for it. -/
theorem place_bit (n ow : Nat) (hn : n ≤ 64) : (bits .and .i64 ((n : Int) / 2 ^ ow) 1 == 1) = bitB ow n := by
  have h1 : ((n : Int) / 2 ^ ow) = ((n / 2 ^ ow : Nat) : Int) := by simp
  have hle : n / 2 ^ ow ≤ 64 := Nat.le_trans (Nat.div_le_self _ _) hn
  rw [h1]
  unfold bitB
  generalize n / 2 ^ ow = m at hle
  have h2 : ∀ m : Fin 65, (bits .and .i64 ((m.val : Nat) : Int) 1 == 1) = (m.val % 2 == 1) := by decide
  exact h2 ⟨m, by omega⟩
theorem split_mid {w1 wz wy : World} {g bt1 t1c bl lc k ow : Nat} {d1 d2 : Dic} {a b : Sl} {ps : List (Nat × Sl)} {L : List Ent}
    (h1 : DictM 69 66 w1 g d1 ⟨some ⟨bt1, 0, none⟩, d1.table.length, t1c⟩ ⟨some ⟨bl, 0, none⟩, ps.length, lc⟩ ps) (hR : Part w1 wz ow L L.length a b)
    (hD : DictM 69 66 wy g d2 ⟨some ⟨bt1, 0, none⟩, d1.table.length, t1c⟩ ⟨some ⟨bl, 0, none⟩, ps.length, lc⟩ ps) (hKn : Keeps (Only bt1) wz wy) (hkp : k < ps.length) :
    DictM 69 66 ((wy.setCell ⟨bl, k * 2, none⟩ (.int .i64 ((ow : Int) + 1))).setCell ⟨bl, k * 2 + 1, none⟩ a.v) g { d2 with leaves := d2.leaves.set k ⟨ow + 1, stayL ow L⟩ } ⟨some ⟨bt1, 0, none⟩, d1.table.length, t1c⟩ ⟨some ⟨bl, 0, none⟩, ps.length, lc⟩ (ps.set k (ow + 1, a))
    ∧ RowE ((wy.setCell ⟨bl, k * 2, none⟩ (.int .i64 ((ow : Int) + 1))).setCell ⟨bl, k * 2 + 1, none⟩ a.v) b.v (overL ow L)
    ∧ (∀ q ∈ own b.v, q ∉ foot g ⟨some ⟨bt1, 0, none⟩, d1.table.length, t1c⟩ ⟨some ⟨bl, 0, none⟩, ps.length, lc⟩ (ps.set k (ow + 1, a)))
    ∧ Keeps (Only bl) wy ((wy.setCell ⟨bl, k * 2, none⟩ (.int .i64 ((ow : Int) + 1))).setCell ⟨bl, k * 2 + 1, none⟩ a.v) := by
  have hlow := h1.low
  have hbt : bt1 ∈ own (⟨some ⟨bt1, 0, none⟩, d1.table.length, t1c⟩ : Sl).v := by show bt1 ∈ [bt1]; simp
  have hbl : bl ∈ own (⟨some ⟨bl, 0, none⟩, ps.length, lc⟩ : Sl).v := by show bl ∈ [bl]; simp
  have ht : L.take L.length = L := List.take_of_length_le (Nat.le_refl _)
  have ra := hR.stay
  have rb := hR.over
  rw [ht] at ra rb
  have hna := hR.na
  have hnb := hR.nb
  have ra' : RowE wy a.v (stayL ow L) := ra.keep hKn fun q hq e => by unfold Only at e; have := hna q hq; have := hlow bt1 (foot_t hbt); omega
  have rb' : RowE wy b.v (overL ow L) := rb.keep hKn fun q hq e => by unfold Only at e; have := hnb q hq; have := hlow bt1 (foot_t hbt); omega
  have hK3 : Keeps (Only bl) wy ((wy.setCell ⟨bl, k * 2, none⟩ (.int .i64 ((ow : Int) + 1))).setCell ⟨bl, k * 2 + 1, none⟩ a.v) := ((Keeps.refl (Only bl) _).set (p := ⟨bl, k * 2, none⟩) rfl _).set (p := ⟨bl, k * 2 + 1, none⟩) rfl _
  refine ⟨hD.setE hkp (Keeps.refl _ _) ra' (fun q hq => .inr fun hq' => ?_) hK3 (rowP_set hD.lvs hkp), ?_, fun q hq hq' => ?_, hK3⟩
  · have := hna q hq; have := hlow q hq'; omega
  · exact rb'.keep hK3 fun q hq e => by unfold Only at e; have := hnb q hq; have := hlow bl (foot_l hbl); omega
  · have h0 := hnb q hq
    have hF : q ∉ foot g ⟨some ⟨bt1, 0, none⟩, d1.table.length, t1c⟩ ⟨some ⟨bl, 0, none⟩, ps.length, lc⟩ ps := fun hh => by have := hlow q hh; omega
    rcases mem_foot.1 hq' with e | e | e | e
    · exact hF (e ▸ foot_g)
    · exact hF (foot_t e)
    · exact hF (foot_l e)
    · obtain ⟨i, hi, hqi⟩ := mem_ents.1 e
      rw [List.getElem_set] at hqi
      by_cases hik : k = i
      · rw [if_pos hik] at hqi; exact hR.ab q hqi hq
      · rw [if_neg hik] at hqi
        exact hF (mem_foot.2 (.inr (.inr (.inr (mem_ents.2 ⟨i, by simpa using hi, hqi⟩)))))
theorem split_fin {w w1 wz wy wp w9 : World} {g bt1 t1c bl lc k ow : Nat} {d1 : Dic} {t a b s8 : Sl} {ps : List (Nat × Sl)} {L : List Ent}
    (h1 : DictM 69 66 w1 g d1 ⟨some ⟨bt1, 0, none⟩, d1.table.length, t1c⟩ ⟨some ⟨bl, 0, none⟩, ps.length, lc⟩ ps) (hR : Part w1 wz ow L L.length a b)
    (hK1 : Keeps (· ∈ foot g t ⟨some ⟨bl, 0, none⟩, ps.length, lc⟩ ps) w w1) (hT1 : ∀ q ∈ own (⟨some ⟨bt1, 0, none⟩, d1.table.length, t1c⟩ : Sl).v, q ∈ own t.v ∨ w.heap.size ≤ q)
    (hKn : Keeps (Only bt1) wz wy) (hK3 : Keeps (Only bl) wy wp) (hz : w1.heap.size ≤ wp.heap.size)
    (hK9 : Keeps (· ∈ foot g ⟨some ⟨bt1, 0, none⟩, d1.table.length, t1c⟩ ⟨some ⟨bl, 0, none⟩, ps.length, lc⟩ (ps.set k (ow + 1, a))) wp w9)
    (h8 : ∀ q ∈ own s8.v, q ∈ own (⟨some ⟨bl, 0, none⟩, ps.length, lc⟩ : Sl).v ∨ wp.heap.size ≤ q) :
    Keeps (· ∈ foot g t ⟨some ⟨bl, 0, none⟩, ps.length, lc⟩ ps) w w9 ∧ ∀ q ∈ foot g ⟨some ⟨bt1, 0, none⟩, d1.table.length, t1c⟩ s8 (ps.set k (ow + 1, a) ++ [(ow + 1, b)]), q ∈ foot g t ⟨some ⟨bl, 0, none⟩, ps.length, lc⟩ ps ∨ w.heap.size ≤ q := by
  have hz1 := hK1.size
  have hbt : bt1 ∈ own (⟨some ⟨bt1, 0, none⟩, d1.table.length, t1c⟩ : Sl).v := by show bt1 ∈ [bt1]; simp
  have hbl : bl ∈ own (⟨some ⟨bl, 0, none⟩, ps.length, lc⟩ : Sl).v := by show bl ∈ [bl]; simp
  have hna := hR.na
  have hnb := hR.nb
  have hTT : ∀ q ∈ own (⟨some ⟨bt1, 0, none⟩, d1.table.length, t1c⟩ : Sl).v, q ∈ foot g t ⟨some ⟨bl, 0, none⟩, ps.length, lc⟩ ps ∨ w.heap.size ≤ q := fun q hq => (hT1 q hq).imp foot_t id
  have hEE : ∀ q ∈ ents (ps.set k (ow + 1, a)), q ∈ foot g t ⟨some ⟨bl, 0, none⟩, ps.length, lc⟩ ps ∨ w.heap.size ≤ q := fun q hq => by
    obtain ⟨i, hi, hqi⟩ := mem_ents.1 hq
    rw [List.getElem_set] at hqi
    by_cases hik : k = i
    · rw [if_pos hik] at hqi; have := hna q hqi; exact .inr (by omega)
    · rw [if_neg hik] at hqi
      exact .inl (mem_foot.2 (.inr (.inr (.inr (mem_ents.2 ⟨i, by simpa using hi, hqi⟩)))))
  constructor
  · have a1 := (hK1.non hR.keep).then hKn fun i hi e => by
      unfold Only at e
      subst e
      rcases hTT _ hbt with h' | h'
      · exact h'
      · omega
    have a2 := a1.then hK3 fun i hi e => by unfold Only at e; subst e; exact foot_l hbl
    refine a2.then hK9 fun i hi e => ?_
    rcases mem_foot.1 e with e | e | e | e
    · exact e ▸ foot_g
    · exact (hTT i e).resolve_right (by omega)
    · exact foot_l e
    · exact (hEE i e).resolve_right (by omega)
  · intro q hq
    rcases mem_foot.1 hq with e | e | e | e
    · exact .inl (e ▸ foot_g)
    · exact hTT q e
    · rcases h8 q e with h' | h'
      · exact .inl (foot_l h')
      · exact .inr (by omega)
    · rw [ents_snoc, List.mem_append] at e
      rcases e with e | e
      · exact hEE q e
      · have := hnb q e; exact .inr (by omega)

end Go.Proofs.Ytiieglfpmmhfiaa
namespace Go.Proofs.Ytiieglfpmmhfiaa
set_option maxRecDepth 100000
open Go.RowKit Go.Uc Go.Sort

instance : Inhabited Ent := ⟨⟨[], 0⟩⟩
def cmpE (x y : Ent) : Int := Lib.compareBytes (str x.name).data.toList (str y.name).data.toList
theorem ltOf_cmpE (x y : Ent) : ltOf cmpE x y = lt x.name y.name := by
  unfold ltOf cmpE
  have e : ∀ l, (str l).data.toList = l := fun l => by rw [← Lib.toList_data]; exact str_toList l
  rw [e, e]
  by_cases h : lt x.name y.name = true
  · rw [h]; simp [(cmp_neg x.name y.name).2 h]
  · have h2 : ¬ Lib.compareBytes x.name y.name < 0 := fun hh => h ((cmp_neg _ _).1 hh)
    rw [show lt x.name y.name = false by simpa using h]; simp; omega
theorem cmpE_swo : SWO (ltOf cmpE) where
  irrefl x := by rw [ltOf_cmpE]; exact lt_irrefl _
  trans x y z h1 h2 := by rw [ltOf_cmpE] at *; exact lt_trans h1 h2
  ntrans x y z h1 h2 := by
    rw [ltOf_cmpE] at *
    cases h3 : lt x.name z.name
    · rfl
    · cases h4 : lt y.name x.name
      · have e := lt_tri _ _ h1 h4
        rw [e, h2] at h3; cases h3
      · have := lt_trans h4 h3
        rw [h2] at this; cases this

set_option maxHeartbeats 1000000 in
theorem closure36 (x y : Ent) (W : World) : Calls Try.prog 36 #[.agg (encE x).toArray, .agg (encE y).toArray] W fun e w' => e = .returned (.int .i64 (cmpE x y)) ∧ ∃ q os', w' = grow (W.drewN q) os' := by
  have hcon := fun W' => Try.strings_Compare (str x.name) (str y.name) W'
  show Calls Try.prog 36 #[.agg #[.string (str x.name), .int .i64 x.val], .agg #[.string (str y.name), .int .i64 y.val]] W _
  unfold cmpE
  generalize Lib.compareBytes (str x.name).data.toList (str y.name).data.toList = r at hcon ⊢
  generalize str x.name = a at hcon ⊢
  generalize str y.name = b at hcon ⊢
  go_enter Try.func36, Try.ntmps36
  go_wp2_with (go_at_call 37; refine (hcon _).mono ?_; rintro e w' ⟨rfl, rfl⟩)
  go_ret
  exact ⟨rfl, 0, _, by rw [alloc_eq_grow, alloc_eq_grow, grow_grow]; rfl⟩
theorem cmpLays36 (blk off size : Nat) (w : World) : CmpLays Try.prog 36 #[] encE 2 cmpE blk off size w := fun _ _ _ _ x y => closure36 x y _

theorem flatK_get (l : List Ent) (t : Nat) (ht : t < l.length * 2) : (flatK encE 2 l.toArray)[t]! = ((l.flatMap encE)[t]?).getD default := by
  rw [get_flatK _ _ _ _ (by simpa using ht)]
  have hq : t / 2 < l.length := by omega
  have hr : t % 2 < 2 := by omega
  have h1 := flat_get encE_len l (t / 2) (t % 2) hq hr
  rw [show t / 2 * 2 + t % 2 = t by omega] at h1
  rw [h1]
  have e1 : (l.toArray)[t / 2]! = l[t / 2] := by simp [hq]
  rw [e1]
  simp [List.getElem!_eq_getElem?_getD]
theorem grow_keeps (w : World) (os : Array Obj) : Keeps Non w (grow w os) :=
  ⟨rfl, rfl, rfl, by simp [grow], fun k hk _ => by simp [grow, Array.getElem?_append_left hk]⟩
theorem ahead_keeps (w : World) (n : Nat) : Keeps Non w (Go.Sort.ahead w n) := ⟨rfl, rfl, rfl, Nat.le_refl _, fun _ _ _ => rfl⟩

theorem sort_any {w : World} {s : Sl} {l : List Ent} (h : RowE w s.v l) (hn : l.length ≤ 1000000000000) :
    Calls Try.prog 35 #[s.v, .func (.func 36) #[] #[]] w fun e w' => e = .returned (.tuple #[]) ∧ ∃ R, R.Perm l ∧ (R.Pairwise fun a b => lt b.name a.name = false) ∧ RowE w' s.v R ∧ Keeps (· ∈ own s.v) w w' := by
  rcases h.form with ⟨e1, rfl⟩ | ⟨g, cap, cur, e1, hB, h4, h5, h6, h7⟩
  · rw [e1]
    have hc := AnyF.slices_SortFunc_none Try.sortEnt none 0 (.func (.func 36) #[] #[]) w
    change Calls Try.prog 35 _ _ _ at hc
    refine hc.mono ?_
    rintro e w' ⟨rfl, rfl⟩
    exact ⟨rfl, [], List.Perm.refl _, List.Pairwise.nil, by rw [← e1]; exact h, Keeps.refl _ _⟩
  · rw [e1]
    have eg : ∀ args w, (callFunc 36 args).run Try.prog w = .ok (.enter 36 args) w := enters_of Try.func36 (by kernel_rfl) rfl
    have hH : HoldsK encE 2 w g 0 l.toArray := by
      intro j hj
      have hj' : j < l.length * 2 := by simpa using hj
      rw [Nat.zero_add]
      refine ⟨?_, hB.frozen j⟩
      rw [hB.cell, flatK_get l j hj', ← h7, List.getElem?_take, if_pos hj']
      have : j < cur.size := by omega
      simp [this]
    have hc := AnyQ.slices_SortFunc Try.sortEnt 2 Try.isAgg56 Try.sizeOf56 encE encE_len encE_one cmpE cmpE_swo 36 #[] g 0 cap l.toArray w eg (cmpLays36 g 0 _ w) hH hB.lt (by simp; omega)
    change Calls Try.prog 35 _ _ _ at hc
    rw [List.size_toArray] at hc
    refine hc.mono ?_
    rintro e w' ⟨rfl, d', n, os, hp, hs, rfl⟩
    obtain ⟨p1, -, p3⟩ := hp
    have hsz : d'.size = l.length := by simpa using p1
    have hR : d'.toList.Perm l := by
      have := p3
      rw [show d'.extract 0 l.length = d' by rw [← hsz]; simp, show l.toArray.extract 0 l.length = l.toArray by simp] at this
      exact this
    refine ⟨rfl, d'.toList, hR, ?_, ?_, ?_⟩
    · rw [List.pairwise_iff_getElem]
      intro i j hi hj hij
      have := hs i j (Nat.zero_le _) hij (by rw [← hsz]; simpa using hj)
      rw [ltOf_cmpE] at this
      simp at hi hj
      simpa [hi, hj] using this
    · have hfl : (flatK encE 2 d').size = l.length * 2 := by simp [hsz]
      have hcell : Blk (sortWorldK encE 2 w g 0 n d' os) g 56 (putCells id 0 (flatK encE 2 d') cur) := by
        refine Blk.non ?_ (grow_keeps _ os)
        show (mapBlock (Go.Sort.ahead w n) g _).heap[g]? = _
        have hb' : w.heap[g]? = some (.cells cur 56 (0, 0)) := hB
        unfold mapBlock
        simp [Array.getElem?_modify, hb', onCells]
      have hl2 : d'.toList.length = l.length := by simpa using hsz
      have := RowP.mk (xs := d'.toList) encE_len hcell (by rw [hl2]; exact h4) h5 (by simp [putCells]; exact h6) ?_
      · rw [hl2] at this; exact this
      · apply List.ext_getElem?
        intro p
        rw [List.getElem?_take, hl2]
        by_cases hp : p < l.length * 2
        · rw [if_pos hp]
          have hpc : p < cur.size := by omega
          have h8 := flatK_get d'.toList p (by rw [hl2]; exact hp)
          have h9 : p < (d'.toList.flatMap encE).length := by rw [flat_len encE_len, hl2]; exact hp
          rw [show d'.toList.toArray = d' by simp] at h8
          simp [putCells, hpc, hfl, hp]
          rw [getElem!_pos _ p (by rw [hfl]; exact hp)] at h8
          rw [h8, List.getElem?_eq_getElem h9]; rfl
        · rw [if_neg hp, List.getElem?_eq_none (by rw [flat_len encE_len, hl2]; omega)]
    · have h1 : Keeps (Only g) (Go.Sort.ahead w n) (putRowK encE 2 (Go.Sort.ahead w n) g 0 d') := ⟨rfl, rfl, rfl, by simp [putRowK], fun k hk hkg => by
        show (mapBlock (Go.Sort.ahead w n) g _).heap[k]? = _
        unfold mapBlock
        simp only [Array.getElem?_modify]
        rw [if_neg (fun e => hkg e.symm)]⟩
      have h2 : Keeps (Only g) w (sortWorldK encE 2 w g 0 n d' os) := ((ahead_keeps w n).of_non.trans h1).non (grow_keeps _ os)
      exact h2.mono fun q e => by unfold Only at e; subst e; show q ∈ [q]; simp
end Go.Proofs.Ytiieglfpmmhfiaa
namespace Go.Proofs.Ytiieglfpmmhfiaa
open Go.Uc

def tAt (d : Dic) (i : Nat) : Nat := d.table.getD i 0
def GoodE (e : Ent) : Prop := 1 ≤ e.name.length ∧ e.name.length ≤ 24 ∧ 0 ≤ e.val ∧ e.val ≤ 2147483647
/-- Table and leaves belong together. -/
structure Inv0 (d : Dic) : Prop where
  ok : Ok d
  pre : ∀ k, k < d.leaves.length → ∃ p, p < 2 ^ (leafAt d k).depth ∧ ∀ i, i < d.table.length → (tAt d i = k ↔ i % 2 ^ (leafAt d k).depth = p)
  at_ : ∀ k, k < d.leaves.length → ∀ e ∈ (leafAt d k).l, kOf d e.name = k
  good : ∀ k, k < d.leaves.length → ∀ e ∈ (leafAt d k).l, GoodE e
  sm : d.small = true → d.depth = 0 ∧ d.leaves.length = 1
/-- And some leaf is as deep as the table. -/
structure Inv (d : Dic) : Prop extends Inv0 d where
  deep : ∃ k, k < d.leaves.length ∧ (leafAt d k).depth = d.depth
theorem cover_le : ∀ (M : Nat) (l : List Nat), (∀ j, j < M → j ∈ l) → M ≤ l.length := by
  intro M
  induction M with
  | zero => intro l _; omega
  | succ M ih =>
    intro l h
    have h1 := ih (l.erase M) fun j hj => (List.mem_erase_of_ne (by omega)).2 (h j (by omega))
    have h2 := h M (by omega)
    rw [List.length_erase_of_mem h2] at h1
    have : 0 < l.length := List.length_pos_of_mem h2
    omega
theorem tAt_get {d : Dic} {i : Nat} (h : i < d.table.length) : tAt d i = d.table[i] := by unfold tAt; rw [List.getD_eq_getElem?_getD, List.getElem?_eq_getElem h]; rfl
theorem kOf_tAt (d : Dic) (n : List UInt8) : kOf d n = tAt d (plc d n) := rfl
theorem fitE_sub {a b : List Ent} (h : a.Sublist b) (hb : fitE b = true) : fitE a = true := by
  have h1 : roomE a ≤ roomE b := by
    clear hb
    induction h with
    | slnil => exact Nat.le_refl _
    | cons x _ ih => simp only [roomE, List.map_cons, List.sum_cons] at *; omega
    | cons_cons x _ ih => simp only [roomE, List.map_cons, List.sum_cons] at *; omega
  unfold fitE at *
  have := of_decide_eq_true hb
  exact decide_eq_true (by omega)
theorem pow_le5 {a b : Nat} (h : a ≤ b) : 2 ^ a ≤ 2 ^ b := Nat.pow_le_pow_right (by omega) h
theorem mod_low (i a b : Nat) (h : a ≤ b) : i % 2 ^ b % 2 ^ a = i % 2 ^ a := Nat.mod_mod_of_dvd _ (Nat.pow_dvd_pow 2 h)
theorem bit_low (i a b : Nat) (h : a < b) : bitB a (i % 2 ^ b) = bitB a i := by
  have h1 : ∀ x, bitB a x = x.testBit a := fun x => by
    rw [Nat.testBit_eq_decide_div_mod_eq]; unfold bitB
    by_cases hx : x / 2 ^ a % 2 = 1 <;> simp [hx]
  rw [h1, h1, Nat.testBit_mod_two_pow]
  simp [h]
theorem bit_mod (i a p : Nat) (hp : p < 2 ^ a) : (i % 2 ^ a = p ∧ ¬ bitB a i = true) ↔ i % 2 ^ (a + 1) = p := by
  have h1 : i % 2 ^ (a + 1) = i % 2 ^ a + 2 ^ a * (i / 2 ^ a % 2) := by rw [Nat.mod_pow_succ]
  have h2 : i / 2 ^ a % 2 = 0 ∨ i / 2 ^ a % 2 = 1 := by omega
  have h3 := Nat.mod_lt i (show 0 < 2 ^ a from Nat.pow_pos (by omega))
  rw [h1]
  unfold bitB
  rcases h2 with e | e <;> rw [e] <;> simp <;> omega
theorem bit_mod1 (i a p : Nat) (_hp : p < 2 ^ a) : (i % 2 ^ a = p ∧ bitB a i = true) ↔ i % 2 ^ (a + 1) = p + 2 ^ a := by
  have h1 : i % 2 ^ (a + 1) = i % 2 ^ a + 2 ^ a * (i / 2 ^ a % 2) := by rw [Nat.mod_pow_succ]
  have h2 : i / 2 ^ a % 2 = 0 ∨ i / 2 ^ a % 2 = 1 := by omega
  have h3 := Nat.mod_lt i (show 0 < 2 ^ a from Nat.pow_pos (by omega))
  rw [h1]
  unfold bitB
  rcases h2 with e | e <;> rw [e] <;> simp <;> omega

theorem double_get (t : List Nat) (i : Nat) (hi : i < 2 * t.length) : (t ++ t).getD i 0 = t.getD (i % t.length) 0 := by
  rw [List.getD_eq_getElem?_getD, List.getD_eq_getElem?_getD]
  rcases Nat.lt_or_ge i t.length with h | h
  · rw [List.getElem?_append_left h, Nat.mod_eq_of_lt h]
  · rw [List.getElem?_append_right h]
    rw [show i % t.length = i - t.length by rw [Nat.mod_eq_sub_mod h, Nat.mod_eq_of_lt (by omega)]]
/-- Twice as many places for the same leaves. -/
theorem widen_inv {d : Dic} (h : Inv0 d) (ow : Nat) (h5 : ow ≠ 5) (hs : d.small = false) : Inv0 (widen d ow) := by
  unfold widen
  split
  case isFalse => exact h
  case isTrue hw =>
  have ho := h.ok
  have hd5 : d.depth < 5 := by have := ho.dep; omega
  have hlen : (d.table ++ d.table).length = 2 * d.table.length := by simp; omega
  have hpow : 2 ^ (d.depth + 1) = 2 * 2 ^ d.depth := by rw [Nat.pow_succ]; omega
  have ht : ∀ i, i < 2 * d.table.length → tAt { d with depth := d.depth + 1, table := d.table ++ d.table } i = tAt d (i % d.table.length) := fun i hi => double_get d.table i hi
  have hk : ∀ n, kOf { d with depth := d.depth + 1, table := d.table ++ d.table } n = kOf d n := fun n => by
    rw [kOf_tAt, ht, kOf_tAt]
    · unfold plc
      show tAt d (hash n % 2 ^ (d.depth + 1) % d.table.length) = tAt d (hash n % 2 ^ d.depth)
      rw [ho.tab, mod_low _ _ _ (by omega)]
    · unfold plc
      show hash n % 2 ^ (d.depth + 1) < _
      rw [ho.tab, ← hpow]
      exact Nat.mod_lt _ (Nat.pow_pos (by omega))
  refine ⟨⟨?_, ?_, ?_, ho.many, ho.srt, ho.fit, ?_⟩, ?_, ?_, h.good, fun e => ?_⟩
  · show d.depth + 1 ≤ 5; omega
  · show (d.table ++ d.table).length = 2 ^ (d.depth + 1)
    rw [hlen, hpow, ho.tab]
  · intro x hx
    rcases List.mem_append.1 hx with hx | hx <;> exact ho.rng x hx
  · intro x hx; have := ho.low x hx; show x.depth ≤ d.depth + 1; omega
  · intro k hk0
    obtain ⟨p, hp, hi⟩ := h.pre k hk0
    refine ⟨p, hp, fun i hi' => ?_⟩
    have hi2 : i < 2 * d.table.length := by rw [← hlen]; exact hi'
    have hlt : i % d.table.length < d.table.length := Nat.mod_lt _ (by omega)
    rw [ht i hi2, hi _ hlt]
    show i % d.table.length % 2 ^ (leafAt d k).depth = p ↔ i % 2 ^ (leafAt d k).depth = p
    rw [ho.tab, mod_low _ _ _ (ho.low _ (by rw [leafAt_get (d := d) hk0]; exact List.getElem_mem _))]
  · intro k hk0 e he; rw [hk]; exact h.at_ k hk0 e he
  · rw [hs] at e; cases e
theorem leaf_split (L : List Leaf) (k : Nat) (a b : Leaf) (hk : k < L.length) (j : Nat) (hj : j < L.length + 1) : (L.set k a ++ [b]).getD j ⟨0, []⟩ = if j = k then a else if j = L.length then b else L.getD j ⟨0, []⟩ := by
  rw [List.getD_eq_getElem?_getD, List.getD_eq_getElem?_getD]
  rcases Nat.lt_or_ge j L.length with h | h
  · rw [List.getElem?_append_left (by simpa using h), List.getElem?_set]
    by_cases hjk : j = k
    · subst hjk; simp [h]
    · rw [if_neg (fun e => hjk e.symm), if_neg hjk, if_neg (by omega)]
  · obtain rfl : j = L.length := by omega
    rw [List.getElem?_append_right (by simp)]
    simp
    intro e; omega
/-- A leaf parted, the table wide enough. -/
theorem part_inv {d : Dic} (h : Inv0 d) (hs : d.small = false) (k : Nat) (hk : k < d.leaves.length) (hlow : (leafAt d k).depth < d.depth) :
    Inv0 { d with table := turnT (leafAt d k).depth k d.leaves.length d.table d.table.length, leaves := d.leaves.set k ⟨(leafAt d k).depth + 1, stayL (leafAt d k).depth (leafAt d k).l⟩ ++ [⟨(leafAt d k).depth + 1, overL (leafAt d k).depth (leafAt d k).l⟩] }
    ∧ (∀ n, kOf { d with table := turnT (leafAt d k).depth k d.leaves.length d.table d.table.length, leaves := d.leaves.set k ⟨(leafAt d k).depth + 1, stayL (leafAt d k).depth (leafAt d k).l⟩ ++ [⟨(leafAt d k).depth + 1, overL (leafAt d k).depth (leafAt d k).l⟩] } n = if kOf d n = k ∧ bitB (leafAt d k).depth (hash n) = true then d.leaves.length else kOf d n) := by
  obtain ⟨ow, how⟩ : ∃ o, o = (leafAt d k).depth := ⟨_, rfl⟩
  obtain ⟨l0, hl0⟩ : ∃ l, l = (leafAt d k).l := ⟨_, rfl⟩
  rw [← how, ← hl0]
  rw [← how] at hlow
  obtain ⟨d2, hd2⟩ : ∃ D, D = ({ d with table := turnT ow k d.leaves.length d.table d.table.length, leaves := d.leaves.set k ⟨ow + 1, stayL ow l0⟩ ++ [⟨ow + 1, overL ow l0⟩] } : Dic) := ⟨_, rfl⟩
  rw [← hd2]
  have ho := h.ok
  obtain ⟨m, hm⟩ : ∃ m, m = d.leaves.length := ⟨_, rfl⟩
  have hk' : k < m := by omega
  have hT : d2.table = turnT ow k m d.table d.table.length := by rw [hd2, hm]
  have hTl : d2.table.length = d.table.length := by rw [hT, turnT_len]
  have hDp : d2.depth = d.depth := by rw [hd2]
  have hSm : d2.small = d.small := by rw [hd2]
  have hLl : d2.leaves.length = m + 1 := by rw [hd2, hm]; simp
  have hLf : ∀ j, j < m + 1 → leafAt d2 j = if j = k then ⟨ow + 1, stayL ow l0⟩ else if j = m then ⟨ow + 1, overL ow l0⟩ else leafAt d j := fun j hj => by
    unfold leafAt; rw [hd2, hm]; exact leaf_split d.leaves k _ _ hk j (by rw [← hm]; exact hj)
  have hLk : leafAt d2 k = ⟨ow + 1, stayL ow l0⟩ := by rw [hLf k (by omega), if_pos rfl]
  have hLm : leafAt d2 m = ⟨ow + 1, overL ow l0⟩ := by rw [hLf m (by omega), if_neg (by omega), if_pos rfl]
  have hLo : ∀ j, j < m → j ≠ k → leafAt d2 j = leafAt d j := fun j hj hjk => by rw [hLf j (by omega), if_neg hjk, if_neg (by omega)]
  have hrng : ∀ i, i < d.table.length → tAt d i < m := fun i hi => by rw [tAt_get hi, hm]; exact ho.rng _ (List.getElem_mem _)
  have hTt : ∀ i, i < d.table.length → tAt d2 i = if tAt d i = k ∧ bitB ow i = true then m else tAt d i := fun i hi => by
    rw [tAt_get (by rw [hTl]; exact hi), tAt_get hi]
    simp only [hT]
    rw [turnT_get _ _ _ _ _ _ hi]
    simp [hi]
  have hpl : ∀ n, plc d2 n = plc d n := fun n => by unfold plc; rw [hDp]
  have hbp : ∀ n, bitB ow (plc d n) = bitB ow (hash n) := fun n => by unfold plc; rw [bit_low _ _ _ hlow]
  have hkf : ∀ n, kOf d2 n = if kOf d n = k ∧ bitB ow (hash n) = true then m else kOf d n := fun n => by
    rw [kOf_tAt, hpl, hTt _ (plc_lt ho n), hbp]; rfl
  have hpow : d2.table.length = 2 ^ d2.depth := by rw [hTl, hDp]; exact ho.tab
  obtain ⟨p, hp, hpi⟩ := h.pre k hk
  rw [← how] at hp hpi
  have hpre : ∀ j, j < d2.leaves.length → ∃ p, p < 2 ^ (leafAt d2 j).depth ∧ ∀ i, i < d2.table.length → (tAt d2 i = j ↔ i % 2 ^ (leafAt d2 j).depth = p) := by
    intro j hj
    rw [hLl] at hj
    rw [hTl]
    have hpw : 2 ^ (ow + 1) = 2 * 2 ^ ow := by rw [Nat.pow_succ]; omega
    by_cases hjk : j = k
    · subst hjk
      rw [hLk]
      refine ⟨p, by show p < 2 ^ (ow + 1); omega, fun i hi => ?_⟩
      show _ ↔ i % 2 ^ (ow + 1) = p
      rw [hTt i hi, ← bit_mod i ow p hp, ← hpi i hi]
      by_cases hb : bitB ow i = true
      · by_cases he : tAt d i = j
        · rw [if_pos ⟨he, hb⟩]; constructor
          · intro e; omega
          · intro e; exact absurd hb e.2
        · rw [if_neg (fun e => he e.1)]; simp [he]
      · rw [if_neg (fun e => hb e.2)]; simp [hb]
    · by_cases hjm : j = m
      · subst hjm
        rw [hLm]
        refine ⟨p + 2 ^ ow, by show _ < 2 ^ (ow + 1); omega, fun i hi => ?_⟩
        show _ ↔ i % 2 ^ (ow + 1) = p + 2 ^ ow
        rw [hTt i hi, ← bit_mod1 i ow p hp, ← hpi i hi]
        have := hrng i hi
        by_cases he : tAt d i = k ∧ bitB ow i = true
        · rw [if_pos he]; simp [he]
        · rw [if_neg he]
          constructor
          · intro e; omega
          · intro e; exact absurd e he
      · have hj' : j < m := by omega
        rw [hLo j hj' hjk]
        obtain ⟨q, hq, hqi⟩ := h.pre j (by omega)
        refine ⟨q, hq, fun i hi => ?_⟩
        rw [← hqi i hi, hTt i hi]
        by_cases he : tAt d i = k ∧ bitB ow i = true
        · rw [if_pos he, he.1]
          constructor
          · intro e; omega
          · intro e; exact absurd e.symm hjk
        · rw [if_neg he]
  have hlw : ∀ j, j < d2.leaves.length → (leafAt d2 j).depth ≤ d2.depth := fun j hj => by
    rw [hLl] at hj
    rw [hLf j hj, hDp]
    split
    · show ow + 1 ≤ _; omega
    · split
      · show ow + 1 ≤ _; omega
      · have hjm : j < d.leaves.length := by omega
        exact ho.low _ (by rw [leafAt_get hjm]; exact List.getElem_mem _)
  have hmany : d2.leaves.length ≤ 32 := by
    have h1 : d2.leaves.length ≤ d2.table.length := by
      refine cover_le _ _ fun j hj => ?_
      obtain ⟨q, hq, hqi⟩ := hpre j hj
      have hle := pow_le5 (hlw j hj)
      have hq' : q < d2.table.length := by rw [hpow]; omega
      have := (hqi q hq').2 (Nat.mod_eq_of_lt hq)
      rw [tAt_get hq'] at this
      rw [← this]
      exact List.getElem_mem _
    have h2 : d2.table.length ≤ 32 := by rw [hTl, ho.tab]; have := two_pow d.depth ho.dep; omega
    omega
  have hmem : ∀ x ∈ d2.leaves, ∃ j, j < m + 1 ∧ leafAt d2 j = x := fun x hx => by
    obtain ⟨j, hj, rfl⟩ := List.getElem_of_mem hx
    exact ⟨j, by rw [← hLl]; exact hj, leafAt_get hj⟩
  have hm0 : leafAt d k ∈ d.leaves := by rw [leafAt_get hk]; exact List.getElem_mem _
  refine ⟨⟨⟨by rw [hDp]; exact ho.dep, hpow, ?_, hmany, ?_, ?_, ?_⟩, hpre, ?_, ?_, fun e => ?_⟩, by rw [← hm]; exact hkf⟩
  · intro x hx
    obtain ⟨i, hi, rfl⟩ := List.getElem_of_mem hx
    rw [← tAt_get hi, hTt i (by rw [← hTl]; exact hi), hLl]
    have := hrng i (by rw [← hTl]; exact hi)
    split <;> omega
  · intro x hx
    obtain ⟨j, hj, rfl⟩ := hmem x hx
    rw [hLf j hj]
    split
    · exact List.Pairwise.sublist List.filter_sublist (by rw [hl0]; exact ho.srt _ hm0)
    · split
      · exact List.Pairwise.sublist List.filter_sublist (by rw [hl0]; exact ho.srt _ hm0)
      · have hjm : j < d.leaves.length := by omega
        exact ho.srt _ (by rw [leafAt_get hjm]; exact List.getElem_mem _)
  · intro x hx
    obtain ⟨j, hj, rfl⟩ := hmem x hx
    rw [hLf j hj]
    split
    · exact fitE_sub List.filter_sublist (by rw [hl0]; exact ho.fit _ hm0)
    · split
      · exact fitE_sub List.filter_sublist (by rw [hl0]; exact ho.fit _ hm0)
      · have hjm : j < d.leaves.length := by omega
        exact ho.fit _ (by rw [leafAt_get hjm]; exact List.getElem_mem _)
  · intro x hx
    obtain ⟨j, hj, rfl⟩ := hmem x hx
    exact hlw j (by rw [hLl]; exact hj)
  · intro j hj e he
    rw [hLl] at hj
    rw [hkf]
    by_cases hjk : j = k
    · subst hjk
      rw [hLk] at he
      have he' := List.mem_filter.1 he
      have h1 := h.at_ j hk e (by rw [← hl0]; exact he'.1)
      have h2 : bitB ow (hash e.name) = false := by have := he'.2; unfold goes at this; simpa using this
      rw [h1, if_neg (by simp [h2])]
    · by_cases hjm : j = m
      · subst hjm
        rw [hLm] at he
        have he' := List.mem_filter.1 he
        have h1 := h.at_ k hk e (by rw [← hl0]; exact he'.1)
        have h2 : bitB ow (hash e.name) = true := he'.2
        rw [if_pos ⟨h1, h2⟩]
      · rw [hLo j (by omega) hjk] at he
        have h1 := h.at_ j (by omega) e he
        rw [h1, if_neg (fun e => hjk e.1)]
  · intro j hj e he
    rw [hLl] at hj
    rw [hLf j hj] at he
    split at he
    · exact h.good k hk e (by rw [← hl0]; exact (List.mem_filter.1 he).1)
    · split at he
      · exact h.good k hk e (by rw [← hl0]; exact (List.mem_filter.1 he).1)
      · exact h.good j (by omega) e he
  · rw [hSm, hs] at e; cases e
end Go.Proofs.Ytiieglfpmmhfiaa
namespace Go.Proofs.Ytiieglfpmmhfiaa
open Go.Uc

/-- What a name has. -/
def val (d : Dic) (n : List UInt8) : Option Int := getE (leafAt d (kOf d n)).l n
/-- Other entries of one leaf. -/
def setL (d : Dic) (k : Nat) (l : List Ent) : Dic := { d with leaves := d.leaves.set k ⟨(leafAt d k).depth, l⟩ }
theorem leafAt_setL (d : Dic) (k : Nat) (l : List Ent) (hk : k < d.leaves.length) (j : Nat) : leafAt (setL d k l) j = if j = k then ⟨(leafAt d k).depth, l⟩ else leafAt d j := by
  unfold leafAt setL
  show (d.leaves.set k _).getD j _ = _
  rw [List.getD_eq_getElem?_getD, List.getElem?_set]
  by_cases h : k = j
  · subst h; simp [hk, leafAt]
  · rw [if_neg h, if_neg (fun e => h e.symm), ← List.getD_eq_getElem?_getD]
theorem kOf_setL (d : Dic) (k : Nat) (l : List Ent) (n : List UInt8) : kOf (setL d k l) n = kOf d n := rfl
theorem setL_inv0 {d : Dic} (h : Inv0 d) (k : Nat) (hk : k < d.leaves.length) (l : List Ent) (hs : Srt l) (hf : fitE l = true) (ha : ∀ e ∈ l, GoodE e ∧ kOf d e.name = k) : Inv0 (setL d k l) := by
  have ho := h.ok
  have hl : (setL d k l).leaves.length = d.leaves.length := by simp [setL]
  have hmem : ∀ x ∈ (setL d k l).leaves, ∃ j, j < d.leaves.length ∧ leafAt (setL d k l) j = x := fun x hx => by
    obtain ⟨j, hj, rfl⟩ := List.getElem_of_mem hx
    exact ⟨j, by rw [← hl]; exact hj, leafAt_get hj⟩
  have hme : ∀ j, j < d.leaves.length → leafAt d j ∈ d.leaves := fun j hj => by rw [leafAt_get hj]; exact List.getElem_mem _
  have hdp : ∀ j, (leafAt (setL d k l) j).depth = (leafAt d j).depth := fun j => by
    rw [leafAt_setL _ _ _ hk]; split
    · rename_i e; rw [e]
    · rfl
  refine ⟨⟨ho.dep, ho.tab, ?_, by rw [hl]; exact ho.many, ?_, ?_, ?_⟩, ?_, ?_, ?_, ?_⟩
  · intro x hx; rw [hl]; exact ho.rng x hx
  · intro x hx
    obtain ⟨j, hj, rfl⟩ := hmem x hx
    rw [leafAt_setL _ _ _ hk]
    split
    · exact hs
    · exact ho.srt _ (hme j hj)
  · intro x hx
    obtain ⟨j, hj, rfl⟩ := hmem x hx
    rw [leafAt_setL _ _ _ hk]
    split
    · exact hf
    · exact ho.fit _ (hme j hj)
  · intro x hx
    obtain ⟨j, hj, rfl⟩ := hmem x hx
    rw [hdp]; exact ho.low _ (hme j hj)
  · intro j hj
    rw [hl] at hj
    rw [hdp]
    exact h.pre j hj
  · intro j hj e he
    rw [hl] at hj
    rw [kOf_setL]
    rw [leafAt_setL _ _ _ hk] at he
    split at he
    · rename_i e1; rw [e1]; exact (ha e he).2
    · exact h.at_ j hj e he
  · intro j hj e he
    rw [hl] at hj
    rw [leafAt_setL _ _ _ hk] at he
    split at he
    · exact (ha e he).1
    · exact h.good j hj e he
  · intro e; rw [hl]; exact h.sm e
theorem setL_inv {d : Dic} (h : Inv d) (k : Nat) (hk : k < d.leaves.length) (l : List Ent) (hs : Srt l) (hf : fitE l = true) (ha : ∀ e ∈ l, GoodE e ∧ kOf d e.name = k) : Inv (setL d k l) := by
  refine ⟨setL_inv0 h.toInv0 k hk l hs hf ha, ?_⟩
  obtain ⟨j, hj, e⟩ := h.deep
  refine ⟨j, by simp [setL]; exact hj, ?_⟩
  rw [leafAt_setL _ _ _ hk]
  split
  · rename_i e1; rw [← e1]; exact e
  · exact e
theorem mem_ins {l : List Ent} {e x : Ent} (h : x ∈ ins l e) : x = e ∨ x ∈ l := by
  unfold ins at h
  rcases List.mem_append.1 h with h | h
  · exact .inr (List.mem_filter.1 h).1
  · rcases List.mem_cons.1 h with h | h
    · exact .inl h
    · exact .inr (List.mem_filter.1 h).1
theorem leaf_good {d : Dic} (h : Inv0 d) (k : Nat) (hk : k < d.leaves.length) : ∀ e ∈ (leafAt d k).l, GoodE e ∧ kOf d e.name = k := fun e he => ⟨h.good k hk e he, h.at_ k hk e he⟩
theorem leaf_mem {d : Dic} {k : Nat} (hk : k < d.leaves.length) : leafAt d k ∈ d.leaves := by rw [leafAt_get hk]; exact List.getElem_mem _
theorem ins_inv {d : Dic} (h : Inv d) (e : Ent) (he : GoodE e) (hf : fitE (ins (leafAt d (kOf d e.name)).l e) = true) : Inv (setL d (kOf d e.name) (ins (leafAt d (kOf d e.name)).l e)) := by
  have hk := kOf_lt h.ok e.name
  refine setL_inv h _ hk _ (ins_srt (h.ok.srt _ (leaf_mem hk)) e) hf fun x hx => ?_
  rcases mem_ins hx with rfl | hx
  · exact ⟨he, rfl⟩
  · exact leaf_good h.toInv0 _ hk x hx
theorem getE_ins {l : List Ent} (_hs : Srt l) (e : Ent) (n : List UInt8) : getE (ins l e) n = if e.name = n then some e.val else getE l n := by
  unfold getE ins
  rw [List.find?_append, List.find?_cons]
  by_cases h : e.name = n
  · subst h
    have : (l.filter fun x => lt x.name e.name).find? (fun x => x.name == e.name) = none := by
      rw [List.find?_eq_none]
      intro x hx hh
      have h1 := (List.mem_filter.1 hx).2
      have h2 : x.name = e.name := by simpa using hh
      rw [h2, lt_irrefl] at h1; cases h1
    rw [this]
    simp
  · rw [if_neg h]
    have hen : (e.name == n) = false := by simp [h]
    rw [hen]
    simp only
    congr 1
    clear _hs
    induction l with
    | nil => rfl
    | cons x l ih =>
      by_cases hx : x.name = n
      · have h1 : lt x.name e.name = true ∨ lt e.name x.name = true := by
          cases h2 : lt x.name e.name
          · cases h3 : lt e.name x.name
            · exact absurd ((lt_tri _ _ h2 h3).symm.trans hx) h
            · exact .inr rfl
          · exact .inl rfl
        rcases h1 with h1 | h1
        · rw [List.filter_cons, if_pos h1, List.find?_cons, List.find?_cons, show (x.name == n) = true by simp [hx]]; rfl
        · have h2 := lt_asymm h1
          rw [List.filter_cons, if_neg (by simp [h2]), List.filter_cons, if_pos h1, List.find?_cons («as» := l), show (x.name == n) = true by simp [hx], List.find?_cons, show (x.name == n) = true by simp [hx]]
          have : (l.filter fun x => lt x.name e.name).find? (fun y => y.name == n) = none := by
            rw [List.find?_eq_none]
            intro y hy hh
            have h3 := (List.mem_filter.1 hy).2
            have h4 : y.name = n := by simpa using hh
            rw [h4, ← hx, h2] at h3; cases h3
          rw [this]; rfl
      · have hxn : (x.name == n) = false := by simp [hx]
        rw [List.find?_cons, hxn]
        simp only
        rw [← ih]
        congr 1
        · rw [List.filter_cons]; split
          · rw [List.find?_cons, hxn]
          · rfl
        · rw [List.filter_cons]; split
          · rw [List.find?_cons, hxn]
          · rfl
theorem val_setL {d : Dic} (k : Nat) (hk : k < d.leaves.length) (l : List Ent) (n : List UInt8) : val (setL d k l) n = if kOf d n = k then getE l n else val d n := by
  unfold val
  rw [kOf_setL, leafAt_setL _ _ _ hk]
  split <;> rfl
theorem val_ins {d : Dic} (h : Ok d) (e : Ent) (n : List UInt8) : val (setL d (kOf d e.name) (ins (leafAt d (kOf d e.name)).l e)) n = if e.name = n then some e.val else val d n := by
  have hk := kOf_lt h e.name
  rw [val_setL _ hk, getE_ins (h.srt _ (leaf_mem hk))]
  by_cases hn : e.name = n
  · subst hn; simp
  · rw [if_neg hn, if_neg hn]
    split
    · rename_i e1; unfold val; rw [e1]
    · rfl
theorem getE_filter (p : List UInt8 → Bool) (l : List Ent) (n : List UInt8) (hp : p n = true) : getE (l.filter fun e => p e.name) n = getE l n := by
  unfold getE
  congr 1
  induction l with
  | nil => rfl
  | cons x l ih =>
    rw [List.filter_cons]
    by_cases hx : x.name = n
    · rw [hx, if_pos hp, List.find?_cons, List.find?_cons, show (x.name == n) = true by simp [hx]]
    · rw [List.find?_cons («as» := l), show (x.name == n) = false by simp [hx]]
      simp only
      rw [← ih]
      split
      · rw [List.find?_cons, show (x.name == n) = false by simp [hx]]
      · rfl
/-- A leaf split: still a dictionary, with the same. -/
theorem splitD_inv {d : Dic} (h : Inv d) (hs : d.small = false) (k : Nat) (hk : k < d.leaves.length) (h5 : (leafAt d k).depth ≠ 5) :
    Inv (splitD d k) ∧ (∀ n, val (splitD d k) n = val d n) ∧ (∀ n, kOf d n = k → (leafAt (splitD d k) (kOf (splitD d k) n)).depth = (leafAt d k).depth + 1) ∧ (splitD d k).small = false := by
  have hlow : (leafAt d k).depth ≤ d.depth := h.ok.low _ (leaf_mem hk)
  have hw := widen_inv h.toInv0 (leafAt d k).depth h5 hs
  obtain ⟨ow, how⟩ : ∃ o, o = (leafAt d k).depth := ⟨_, rfl⟩
  rw [← how] at hw hlow
  have hlv : (widen d ow).leaves = d.leaves := by unfold widen; split <;> rfl
  have hsm : (widen d ow).small = d.small := by unfold widen; split <;> rfl
  have hdp : (widen d ow).depth = if ow = d.depth then d.depth + 1 else d.depth := by unfold widen; split <;> rfl
  have hla : ∀ j, leafAt (widen d ow) j = leafAt d j := fun j => by unfold leafAt; rw [hlv]
  have hkw : ∀ n, kOf (widen d ow) n = kOf d n := fun n => by
    unfold widen
    split
    · have ho := h.ok
      have hpow : 2 ^ (d.depth + 1) = 2 * 2 ^ d.depth := by rw [Nat.pow_succ]; omega
      show (d.table ++ d.table).getD (hash n % 2 ^ (d.depth + 1)) 0 = d.table.getD (hash n % 2 ^ d.depth) 0
      rw [double_get, ho.tab, mod_low _ _ _ (by omega)]
      rw [ho.tab, ← hpow]
      exact Nat.mod_lt _ (Nat.pow_pos (by omega))
    · rfl
  have hp := part_inv hw (hsm.trans hs) k (by rw [hlv]; exact hk) (by rw [hla, ← how, hdp]; split <;> omega)
  rw [hla, ← how] at hp
  simp only [hlv] at hp
  have hsp : splitD d k = { widen d ow with table := turnT ow k d.leaves.length (widen d ow).table (widen d ow).table.length, leaves := d.leaves.set k ⟨ow + 1, stayL ow (leafAt d k).l⟩ ++ [⟨ow + 1, overL ow (leafAt d k).l⟩] } := by unfold splitD; rw [← how]
  rw [← hsp] at hp
  obtain ⟨hi, hkf⟩ := hp
  have hL : (splitD d k).leaves = d.leaves.set k ⟨ow + 1, stayL ow (leafAt d k).l⟩ ++ [⟨ow + 1, overL ow (leafAt d k).l⟩] := by rw [hsp]
  have hLl : (splitD d k).leaves.length = d.leaves.length + 1 := by rw [hL]; simp
  have hLf : ∀ j, j < d.leaves.length + 1 → leafAt (splitD d k) j = if j = k then ⟨ow + 1, stayL ow (leafAt d k).l⟩ else if j = d.leaves.length then ⟨ow + 1, overL ow (leafAt d k).l⟩ else leafAt d j := fun j hj => by
    unfold leafAt; rw [hL]; exact leaf_split d.leaves k _ _ hk j hj
  have hkf' : ∀ n, kOf (splitD d k) n = if kOf d n = k ∧ bitB ow (hash n) = true then d.leaves.length else kOf d n := fun n => by rw [hkf, hkw]
  have hdd : (splitD d k).depth = (widen d ow).depth := by rw [hsp]
  refine ⟨⟨hi, ?_⟩, fun n => ?_, fun n hn => ?_, by rw [hsp]; exact hsm.trans hs⟩
  · rw [hdd, hdp]
    by_cases hwd : ow = d.depth
    · rw [if_pos hwd]
      refine ⟨k, by rw [hLl]; omega, ?_⟩
      rw [hLf k (by omega), if_pos rfl, ← hwd]
    · rw [if_neg hwd]
      obtain ⟨j, hj, e⟩ := h.deep
      refine ⟨j, by rw [hLl]; omega, ?_⟩
      have hjk : j ≠ k := by rintro rfl; rw [← how] at e; exact hwd e
      rw [hLf j (by omega), if_neg hjk, if_neg (by omega), e]
  · have hkn := kOf_lt h.ok n
    unfold val
    rw [hkf']
    by_cases hkk : kOf d n = k
    · cases hb : bitB ow (hash n)
      · rw [if_neg (by simp), hkk, hLf k (by omega), if_pos rfl]
        exact getE_filter (fun m => !bitB ow (hash m)) _ n (by simp [hb])
      · rw [if_pos ⟨hkk, rfl⟩, hLf _ (by omega), if_neg (by omega), if_pos rfl, hkk]
        exact getE_filter (fun m => bitB ow (hash m)) _ n hb
    · rw [if_neg (fun e => hkk e.1), hLf _ (by omega), if_neg hkk, if_neg (by omega)]
  · rw [hkf', ← how]
    cases hb : bitB ow (hash n)
    · rw [if_neg (by simp), hn, hLf k (by omega), if_pos rfl]
    · rw [if_pos ⟨hn, rfl⟩, hLf _ (by omega), if_neg (by omega), if_pos rfl]

/-- Put where the name is not there. -/
def putL : Nat → Dic → Ent → Option Dic
  | 0, _, _ => none
  | f + 1, d, e =>
    if fitE (ins (leafAt d (kOf d e.name)).l e) = true then some (setL d (kOf d e.name) (ins (leafAt d (kOf d e.name)).l e))
    else if d.small = true then putL f { d with small := false } e
    else if (leafAt d (kOf d e.name)).depth = 5 then none else putL f (splitD d (kOf d e.name)) e
theorem large_inv {d : Dic} (h : Inv d) : Inv { d with small := false } := ⟨⟨⟨h.ok.dep, h.ok.tab, h.ok.rng, h.ok.many, h.ok.srt, h.ok.fit, h.ok.low⟩, h.pre, h.at_, h.good, fun e => by cases e⟩, h.deep⟩
theorem putL_inv : ∀ (f : Nat) (d : Dic) (e : Ent), Inv d → GoodE e → ∀ d', putL f d e = some d' → Inv d' ∧ ∀ n, val d' n = if e.name = n then some e.val else val d n := by
  intro f
  induction f with
  | zero => intro d e _ _ d' h; cases h
  | succ f ih =>
    intro d e h he d' hp
    unfold putL at hp
    split at hp
    case isTrue hf => injection hp with hp; subst hp; exact ⟨ins_inv h e he hf, fun n => val_ins h.ok e n⟩
    case isFalse hf =>
    split at hp
    case isTrue hs => obtain ⟨h1, h2⟩ := ih _ e (large_inv h) he d' hp; exact ⟨h1, h2⟩
    case isFalse hs =>
    split at hp
    case isTrue h5 => cases hp
    case isFalse h5 =>
      obtain ⟨h1, h2, -, -⟩ := splitD_inv h (by simpa using hs) _ (kOf_lt h.ok e.name) h5
      obtain ⟨h3, h4⟩ := ih _ e h1 he d' hp
      exact ⟨h3, fun n => by rw [h4, h2]⟩
end Go.Proofs.Ytiieglfpmmhfiaa
namespace Go.Proofs.Ytiieglfpmmhfiaa
set_option maxRecDepth 100000
open Go.RowKit Go.Uc

def allE (ls : List Leaf) : List Ent := ls.flatMap (·.l)
theorem allE_take (ls : List Leaf) (k : Nat) (hk : k < ls.length) : allE (ls.take (k + 1)) = allE (ls.take k) ++ ls[k].l := by
  unfold allE
  rw [List.take_succ_eq_append_getElem hk, List.flatMap_append]
  simp
theorem allE_len (ls : List Leaf) (h : ∀ x ∈ ls, x.l.length ≤ 50) : (allE ls).length ≤ ls.length * 50 := by
  unfold allE
  induction ls with
  | nil => simp
  | cons x ls ih =>
    rw [List.flatMap_cons, List.length_append]
    have := h x (by simp)
    have := ih fun y hy => h y (by simp [hy])
    simp only [List.length_cons]; omega
/-- Names once each, over all leaves. -/
theorem allE_nodup {d : Dic} (h : Inv0 d) : ((allE d.leaves).map (·.name)).Nodup := by
  have key : ∀ k, k ≤ d.leaves.length → ((allE (d.leaves.take k)).map (·.name)).Nodup ∧ ∀ e ∈ allE (d.leaves.take k), kOf d e.name < k := by
    intro k
    induction k with
    | zero => intro _; simp [allE]
    | succ k ih =>
      intro hk
      obtain ⟨h1, h2⟩ := ih (by omega)
      have hkl : k < d.leaves.length := by omega
      have hs := h.ok.srt _ (List.getElem_mem hkl)
      have hat : ∀ e ∈ d.leaves[k].l, kOf d e.name = k := fun e he => h.at_ k hkl e (by rw [leafAt_get hkl]; exact he)
      rw [allE_take _ _ hkl, List.map_append]
      refine ⟨List.nodup_append.2 ⟨h1, ?_, ?_⟩, ?_⟩
      · rw [List.Nodup, List.pairwise_map]
        exact hs.imp fun hab => lt_ne hab
      · intro a ha b hb e
        obtain ⟨x, hx, rfl⟩ := List.mem_map.1 ha
        obtain ⟨y, hy, rfl⟩ := List.mem_map.1 hb
        have := h2 x hx
        rw [e, hat y hy] at this
        omega
      · intro e he
        rcases List.mem_append.1 he with he | he
        · have := h2 e he; omega
        · rw [hat e he]; omega
  have := (key d.leaves.length (Nat.le_refl _)).1
  rwa [List.take_of_length_le (Nat.le_refl _)] at this
/-- All, by names. -/
structure IsList (d : Dic) (R : List Ent) : Prop where
  perm : R.Perm (allE d.leaves)
  srt : Srt R
theorem isList_of {d : Dic} (h : Inv0 d) {R : List Ent} (hp : R.Perm (allE d.leaves)) (hs : R.Pairwise fun a b => lt b.name a.name = false) : IsList d R := by
  refine ⟨hp, ?_⟩
  have hn : (R.map (·.name)).Nodup := (hp.map _).nodup_iff.2 (allE_nodup h)
  rw [List.Nodup, List.pairwise_map] at hn
  unfold Srt
  refine List.Pairwise.imp ?_ (hs.and hn)
  rintro a b ⟨h1, h2⟩
  cases h3 : lt a.name b.name
  · exact absurd (lt_tri _ _ h3 h1) h2
  · rfl
theorem srt_unique : ∀ {a b : List Ent}, Srt a → Srt b → (∀ e, e ∈ a ↔ e ∈ b) → a = b := by
  intro a
  induction a with
  | nil => intro b _ _ h; cases b with | nil => rfl | cons x b => exact absurd ((h x).2 (by simp)) (by simp)
  | cons x a ih =>
    intro b ha hb h
    cases b with
    | nil => exact absurd ((h x).1 (by simp)) (by simp)
    | cons y b =>
      unfold Srt at ha hb
      rw [List.pairwise_cons] at ha hb
      have hxy : x = y := by
        rcases List.mem_cons.1 ((h x).1 (by simp)) with e | hx
        · exact e
        · rcases List.mem_cons.1 ((h y).2 (by simp)) with e | hy
          · exact e.symm
          · have h1 := hb.1 x hx
            have h2 := ha.1 y hy
            rw [lt_asymm h1] at h2; cases h2
      subst hxy
      congr 1
      refine ih ha.2 hb.2 fun e => ⟨fun he => ?_, fun he => ?_⟩
      · rcases List.mem_cons.1 ((h e).1 (by simp [he])) with e1 | h1
        · subst e1; exact absurd (ha.1 _ he) (by rw [lt_irrefl]; simp)
        · exact h1
      · rcases List.mem_cons.1 ((h e).2 (by simp [he])) with e1 | h1
        · subst e1; exact absurd (hb.1 _ he) (by rw [lt_irrefl]; simp)
        · exact h1

set_option maxHeartbeats 4000000 in
theorem list_any {w : World} {g : Nat} {d : Dic} {t l : Sl} {ps : List (Nat × Sl)} (h : DictM 69 66 w g d t l ps) (hi : Inv0 d) :
    Calls Try.prog 12 #[.pointer (some ⟨g, 0, none⟩)] w fun e w' => ∃ (s : Sl) (R : List Ent), e = .returned s.v ∧ RowE w' s.v R ∧ IsList d R ∧ (∀ q ∈ own s.v, w.heap.size ≤ q) ∧ Keeps Non w w' := by
  obtain ⟨lA, lc, hle, hlc, -⟩ := h.lvs.val
  obtain rfl : l = ⟨lA, ps.length, lc⟩ := by cases l; injection hle with h1 h2 h3; subst h1 h2 h3; rfl
  clear hle
  have ho := hi.ok
  have hpl : ps.length ≤ 32 := by rw [h.len]; exact ho.many
  have h50 : ∀ x ∈ d.leaves, x.l.length ≤ 50 := fun x hx => (fitE_len (ho.fit x hx)).1
  have HIL := Lib.hid (fun R => isList_of hi (R := R))
  have c3 : w.cell? ⟨g, 3, none⟩ = some (.slice lA ps.length lc) := h.blk.cell 3
  have hlen := h.len
  have HLEN := Lib.hid hlen
  clear hlen
  go_enter Try.func12, Try.ntmps12
  go_upto_region 3 with fail
  go_loopw [3, 11] (fun s i wr => ∃ k a, k ≤ ps.length ∧ i = .int .i64 (k : Int) ∧ s = Sl.v a ∧ RowE wr a.v (allE (d.leaves.take k)) ∧ (∀ q ∈ own a.v, w.heap.size ≤ q) ∧ Keeps Non w wr) (fun _ i _ => ps.length - (intOf i).toNat)
  case atStart => exact ⟨0, ⟨none, 0, 0⟩, Nat.zero_le _, rfl, rfl, RowP.nil _ _ _ _, fun q hq => absurd (show q ∈ ([] : List Nat) from hq) (by simp), Keeps.refl _ _⟩
  case round =>
    obtain ⟨k, a, hk, rfl, rfl, hR, hN, hK⟩ := hrel
    obtain ⟨wx, rfl⟩ : ∃ W : World, W = wr := ⟨_, rfl⟩
    have hAl : (allE (d.leaves.take k)).length ≤ 1600 := by
      have := allE_len (d.leaves.take k) fun x hx => h50 x (List.mem_of_mem_take hx)
      have h2 : (d.leaves.take k).length ≤ 32 := Nat.le_trans (List.length_take_le ..) (by have := HLEN.out; omega)
      omega
    by_cases hlt : k < ps.length
    · have hkd : k < d.leaves.length := by rw [← HLEN.out]; exact hlt
      have hx := h.non hK
      obtain ⟨gl, cap, ev, -, x0, x1, -, -⟩ := rowP_at hx.lvs hlt
      injection ev with e1 e2 e3
      clear e2
      subst e1 e3
      have hE := hx.ent k hlt hkd
      have hE50 := h50 _ (List.getElem_mem hkd)
      obtain ⟨eA, ec, hev, -, hAts⟩ := hE.ats encE_len
      rw [hev] at x1
      have HTK := Lib.hid (allE_take d.leaves k hkd)
      generalize ps[k].1 = dk at x0
      clear hev hE
      go_upto_region 5 with fail
      obtain ⟨w2, hw2⟩ : ∃ W : World, W = wx.alloc (.cells #[.int .i64 (dk : Int), .slice eA d.leaves[k].l.length ec] 66) := ⟨_, rfl⟩
      obtain ⟨xb, hxb⟩ : ∃ b, b = wx.heap.size := ⟨_, rfl⟩
      have hX := Blk.new wx 66 #[.int .i64 (dk : Int), .slice eA d.leaves[k].l.length ec]
      have hk2 := (Keeps.refl Non wx).alloc (.cells #[.int .i64 (dk : Int), .slice eA d.leaves[k].l.length ec] 66)
      rw [← hw2] at hX hk2 ⊢
      rw [← hxb] at hX ⊢
      clear hw2 hxb x0 x1
      have y1 : w2.cell? ⟨xb, 1, none⟩ = some (.slice eA d.leaves[k].l.length ec) := hX.cell 1
      have hR2 := hR.non hk2
      have hA2 := hAts.non hk2
      have HB : Hid ((allE (d.leaves.take k)).length + d.leaves[k].l.length ≤ maxLen ∧ ((allE (d.leaves.take k)).length + d.leaves[k].l.length) * 24 ≤ 140737488355328) := Lib.hid (by unfold maxLen; omega)
      obtain ⟨aA, an, ac⟩ := a
      obtain rfl : an = (allE (d.leaves.take k)).length := by obtain ⟨_, _, e, -⟩ := hR.val; injection e
      go_wp2_with (refine wpList_append_row (o := ⟨some 18, _, _, _, _, _⟩) rfl (.tmp 15) (.tmp 17) 32 rfl 56 2 encE _ 24 Try.underlying32 info56 rfl (by decide) encE_len encE_one (.slice aA (allE (d.leaves.take k)).length ac) (allE (d.leaves.take k)) rfl hR2 eA d.leaves[k].l.length ec d.leaves[k].l rfl rfl hA2 HB.out.1 HB.out.2 ?_; intro u8 w8 hO8 hK8 hat; obtain ⟨s8, rfl, -⟩ := RowP.sl hO8)
      go_roundw
      case rel => exact ⟨k + 1, s8, by omega, by go_num, rfl, by rw [HTK.out]; exact hO8, own_new hN (hK.non hk2).size hat, keeps_own (hK.non hk2) hK8 hN⟩
      case measure => simp [intOf]; omega
    · obtain rfl : k = ps.length := by omega
      have HS := Lib.hid (sort_any hR (by omega))
      have HTA : Hid (d.leaves.take ps.length = d.leaves) := Lib.hid (List.take_of_length_le (by rw [HLEN.out]; exact Nat.le_refl _))
      obtain ⟨aA, an, ac⟩ := a
      go_wp2_with ((go_at_call 35; refine HS.out.mono ?_; rintro e w2 ⟨rfl, R, hp, hso, hR2, hK2⟩))
      go_ret
      exact ⟨⟨aA, an, ac⟩, R, rfl, hR2, HIL.out R (by rw [HTA.out] at hp; exact hp) hso, hN, keeps_own hK hK2 hN⟩
end Go.Proofs.Ytiieglfpmmhfiaa
