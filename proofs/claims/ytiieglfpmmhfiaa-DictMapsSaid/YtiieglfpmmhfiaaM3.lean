/- A dictionary's cells changed. -/
import Derived.Test.YtiieglfpmmhfiaaD7
namespace Go.Uc
open Go.RowKit
theorem RowP.cell_set {α : Type} {w : World} {e : TypeId} {k : Nat} {enc : α → List Value} {b c : Nat} {xs : List α} (henc : ∀ x, (enc x).length = k) (h : RowP w e k enc (.slice (some ⟨b, 0, none⟩) xs.length c) xs)
    {i j : Nat} (hi : i < xs.length) (hj : j < k) (y : α) (v : Value) (hy : enc y = (enc xs[i]).set j v) :
    RowP (w.setCell ⟨b, i * k + j, none⟩ v) e k enc (.slice (some ⟨b, 0, none⟩) xs.length c) (xs.set i y) := by
  have hg0 := fun i hi j hj => flat_get henc xs i j hi hj
  rcases h.form with ⟨e1, -⟩ | ⟨g, cap, cur, e1, hB, h4, h5, h6, h7⟩
  · cases e1
  injection e1 with e1 _ e2
  injection e1 with e1
  injection e1 with e1
  subst e1 e2
  have hl : (xs.set i y).length = xs.length := by simp
  have := RowP.put (w' := w.setCell ⟨b, i * k + j, none⟩ v) (ys := xs.set i y) h henc (hB.set (i * k + j) v) (by rw [hl]; exact h4) (by simpa using h6) (fun p hp => ?_)
  · rwa [hl] at this
  · rw [hl] at hp
    have hk0 : 0 < k := by omega
    have hq : p / k < xs.length := (Nat.div_lt_iff_lt_mul hk0).2 hp
    have hr : p % k < k := Nat.mod_lt _ hk0
    have hpe : p = p / k * k + p % k := by rw [Nat.mul_comm]; exact (Nat.div_add_mod p k).symm
    have hcur : cur[p]? = (enc xs[p / k])[p % k]? := by
      rw [← hg0 _ hq _ hr, ← hpe, ← h7, List.getElem?_take, if_pos hp]
      simp
    have hys := flat_get henc (xs.set i y) (p / k) (p % k) (by rw [hl]; exact hq) hr
    rw [← hpe] at hys
    rw [hys, List.getElem_set]
    have hsz : i * k + j < cur.size := by
      rw [h6]
      calc i * k + j < i * k + k := by omega
        _ = (i + 1) * k := by rw [Nat.succ_mul]
        _ ≤ c * k := Nat.mul_le_mul_right _ (by omega)
    by_cases hip : i = p / k
    · subst hip
      rw [if_pos rfl, hy, List.getElem?_set]
      by_cases hjp : j = p % k
      · subst hjp
        rw [if_pos rfl, if_pos (by rw [henc]; exact hr), ← hpe] at *
        rw [← hpe]
        simp [hsz]
      · rw [if_neg hjp, ← hcur, Array.getElem?_setIfInBounds_ne (by omega)]
    · have hne : i * k + j ≠ p := by
        rintro rfl
        refine hip ?_
        rw [Nat.mul_comm, Nat.mul_add_div hk0, Nat.div_eq_of_lt hj, Nat.add_zero]
      rw [if_neg hip, ← hcur, Array.getElem?_setIfInBounds_ne hne]
end Go.Uc
namespace Go.Proofs.Ytiieglfpmmhfiaa
open Go.RowKit Go.Uc
theorem rowN_set {w : World} {b c i m : Nat} {l : List Nat} (h : RowN w (.slice (some ⟨b, 0, none⟩) l.length c) l) (hi : i < l.length) : RowN (w.setCell ⟨b, i, none⟩ (.int .i64 (m : Int))) (.slice (some ⟨b, 0, none⟩) l.length c) (l.set i m) := by
  have := h.cell_set encN_len hi (j := 0) (by decide) m (.int .i64 (m : Int)) rfl
  simpa using this
/-- One leaf laid anew. -/
theorem rowP_set {L : TypeId} {w : World} {b c k dp : Nat} {a : Sl} {ps : List (Nat × Sl)} (h : RowP w L 2 encP (.slice (some ⟨b, 0, none⟩) ps.length c) ps) (hk : k < ps.length) :
    RowP ((w.setCell ⟨b, k * 2, none⟩ (.int .i64 (dp : Int))).setCell ⟨b, k * 2 + 1, none⟩ a.v) L 2 encP (.slice (some ⟨b, 0, none⟩) ps.length c) (ps.set k (dp, a)) := by
  have h1 := h.cell_set encP_len hk (j := 0) (by decide) (dp, ps[k].2) (.int .i64 (dp : Int)) rfl
  have hl : (ps.set k (dp, ps[k].2)).length = ps.length := by simp
  have h2 : RowP (w.setCell ⟨b, k * 2, none⟩ (.int .i64 (dp : Int))) L 2 encP (.slice (some ⟨b, 0, none⟩) (ps.set k (dp, ps[k].2)).length c) (ps.set k (dp, ps[k].2)) := by rw [hl]; exact h1
  have h3 := h2.cell_set encP_len (i := k) (by rw [hl]; exact hk) (j := 1) (by decide) (dp, a) a.v (by simp [encP])
  rw [hl, List.set_set] at h3
  exact h3
/-- Its entries alone. -/
theorem rowP_setE {L : TypeId} {w : World} {b c k : Nat} {a : Sl} {ps : List (Nat × Sl)} (h : RowP w L 2 encP (.slice (some ⟨b, 0, none⟩) ps.length c) ps) (hk : k < ps.length) :
    RowP (w.setCell ⟨b, k * 2 + 1, none⟩ a.v) L 2 encP (.slice (some ⟨b, 0, none⟩) ps.length c) (ps.set k (ps[k].1, a)) :=
  h.cell_set encP_len hk (j := 1) (by decide) (ps[k].1, a) a.v (by simp [encP])

theorem DictM.setE {T L : TypeId} {w w2 w3 : World} {g bl lc k dp : Nat} {d : Dic} {t a : Sl} {ps : List (Nat × Sl)} {E : List Ent} (h : DictM T L w g d t ⟨some ⟨bl, 0, none⟩, ps.length, lc⟩ ps) (hk : k < ps.length)
    (hK : Keeps (· ∈ own ps[k].2.v) w w2) (hE : RowE w2 a.v E) (ha : ∀ q ∈ own a.v, q ∈ own ps[k].2.v ∨ q ∉ foot g t ⟨some ⟨bl, 0, none⟩, ps.length, lc⟩ ps)
    (hK3 : Keeps (Only bl) w2 w3) (hR : RowP w3 L 2 encP (.slice (some ⟨bl, 0, none⟩) ps.length lc) (ps.set k (dp, a))) :
    DictM T L w3 g { d with leaves := d.leaves.set k ⟨dp, E⟩ } t ⟨some ⟨bl, 0, none⟩, ps.length, lc⟩ (ps.set k (dp, a)) := by
  have hn := nod_iff.1 h.nod
  have hbl : bl ∈ own (⟨some ⟨bl, 0, none⟩, ps.length, lc⟩ : Sl).v := by show bl ∈ [bl]; simp
  have hm : ∀ q, q ∈ own ps[k].2.v → q ∈ ents ps := fun q hq => mem_ents.2 ⟨k, hk, hq⟩
  refine ⟨?_, ?_, hR, ?_, ?_, ?_, nod_iff.2 (hn.set hk fun q hq => ?_)⟩
  · exact (h.blk.keep hK fun hq => hn.ge (hm _ hq)).keep hK3 fun e => hn.gl (by unfold Only at e; exact e ▸ hbl)
  · exact (h.tab.keep hK fun q hq hq' => hn.te q hq (hm _ hq')).keep hK3 fun q hq e => hn.tl q hq (by unfold Only at e; exact e ▸ hbl)
  · simp [h.len]
  · intro i hi hi'
    simp only [List.length_set] at hi hi'
    rw [List.getElem_set, List.getElem_set]
    by_cases hik : k = i
    · rw [if_pos hik, if_pos hik]
    · rw [if_neg hik, if_neg hik]; exact h.dep i hi hi'
  · intro i hi hi'
    simp only [List.length_set] at hi hi'
    rw [List.getElem_set, List.getElem_set]
    by_cases hik : k = i
    · rw [if_pos hik, if_pos hik]
      refine hE.keep hK3 fun q hq e => ?_
      unfold Only at e
      subst e
      rcases ha _ hq with h' | h'
      · exact hn.le _ hbl (hm _ h')
      · exact h' (foot_l hbl)
    · rw [if_neg hik, if_neg hik]
      exact ((h.ent i hi hi').keep hK fun q hq hq' => hn.other hk hi hik hq' hq).keep hK3 fun q hq e => hn.le _ hbl (by unfold Only at e; subst e; exact mem_ents.2 ⟨i, hi, hq⟩)
  · rcases ha q hq with h' | h'
    · exact .inl h'
    · exact .inr ⟨fun e => h' (e ▸ foot_g), fun e => h' (foot_t e), fun e => h' (foot_l e), fun e => h' (mem_foot.2 (.inr (.inr (.inr e))))⟩
theorem DictM.snoc {T L : TypeId} {w wA w8 : World} {g dp : Nat} {d : Dic} {t l b s8 : Sl} {ps : List (Nat × Sl)} {E : List Ent} (h : DictM T L w g d t l ps)
    (hE : RowE w b.v E) (hb : ∀ q ∈ own b.v, q ∉ foot g t l ps) (hA : Keeps Non w wA)
    (hO : RowP w8 L 2 encP s8.v (ps ++ [(dp, b)])) (hK : Keeps (· ∈ own l.v) wA w8) (hat : s8.v.ownBlock = l.v.ownBlock ∨ s8.v.ownBlock = some wA.heap.size) :
    DictM T L (w8.setCell ⟨g, 3, none⟩ s8.v) g { d with leaves := d.leaves ++ [⟨dp, E⟩] } t s8 (ps ++ [(dp, b)]) ∧ Keeps (· ∈ foot g t l ps) w (w8.setCell ⟨g, 3, none⟩ s8.v) ∧ ∀ q ∈ own s8.v, q ∈ own l.v ∨ w.heap.size ≤ q := by
  have hn := nod_iff.1 h.nod
  have hz := hA.size
  have h7 := h.non hA
  have hlow := h.low
  have hlow7 := h7.low
  have hElt := hE.lt
  have h8 : ∀ q ∈ own s8.v, q ∈ own l.v ∨ q = wA.heap.size := fun q hq => by
    rw [mem_own] at hq
    rcases hat with e | e
    · rw [e] at hq; exact .inl (mem_own.2 hq)
    · rw [e] at hq; injection hq with hq; exact .inr hq.symm
  have hKg : Keeps (Only g) w8 (w8.setCell ⟨g, 3, none⟩ s8.v) := (Keeps.refl (Only g) _).set (p := ⟨g, 3, none⟩) rfl _
  have hgl : g ∉ own l.v := hn.gl
  have hg6 : g ∉ own b.v := fun hq => hb _ hq foot_g
  have hg8 : g ∉ own s8.v := fun hq => by
    rcases h8 _ hq with h' | h'
    · exact hgl h'
    · have := hlow g foot_g; omega
  have hB8 := (h7.blk.keep hK hgl).set 3 s8.v
  refine ⟨⟨hB8, ?_, ?_, ?_, ?_, ?_, nod_iff.2 ((hn.leaves fun q hq => ?_).snoc fun q hq => ?_)⟩, ?_, fun q hq => ?_⟩
  · exact (h7.tab.keep hK fun q hq hq' => hn.tl q hq hq').keep hKg fun q hq e => hn.gt (by unfold Only at e; exact e ▸ hq)
  · exact hO.keep hKg fun q hq e => hg8 (by unfold Only at e; exact e ▸ hq)
  · simp [h.len]
  · intro i hi hi'
    simp only [List.length_append, List.length_singleton] at hi hi'
    rcases Nat.lt_or_ge i ps.length with hlt | hge
    · have hlt' : i < d.leaves.length := by rw [← h.len]; exact hlt
      simp only [List.getElem_append_left hlt, List.getElem_append_left hlt']
      exact h.dep i hlt hlt'
    · obtain rfl : i = ps.length := by omega
      rw [List.getElem_append_right (Nat.le_refl _), List.getElem_append_right (by rw [h.len]; exact Nat.le_refl _)]
      simp
  · intro i hi hi'
    simp only [List.length_append, List.length_singleton] at hi hi'
    rcases Nat.lt_or_ge i ps.length with hlt | hge
    · have hlt' : i < d.leaves.length := by rw [← h.len]; exact hlt
      simp only [List.getElem_append_left hlt, List.getElem_append_left hlt']
      have he := h7.ent i hlt hlt'
      have hm : ∀ q ∈ own ps[i].2.v, q ∈ ents ps := fun q hq => mem_ents.2 ⟨i, hlt, hq⟩
      exact (he.keep hK fun q hq hq' => hn.le q hq' (hm q hq)).keep hKg fun q hq e => hn.ge (by unfold Only at e; exact e ▸ hm q hq)
    · obtain rfl : i = ps.length := by omega
      rw [List.getElem_append_right (Nat.le_refl _), List.getElem_append_right (by rw [h.len]; exact Nat.le_refl _)]
      simp only [Nat.sub_self, List.getElem_cons_zero, h.len]
      exact ((hE.non hA).keep hK fun q hq hq' => hb q hq (foot_l hq')).keep hKg fun q hq e => hg6 (by unfold Only at e; exact e ▸ hq)
  · rcases h8 _ hq with h' | h'
    · exact ⟨fun e => hgl (e ▸ h'), fun ht => hn.tl _ ht h', hn.le _ h'⟩
    · have hq' : ∀ x ∈ foot g t l ps, q ≠ x := fun x hx e => by have := hlow x hx; omega
      exact ⟨hq' _ foot_g, fun ht => hq' q (foot_t ht) rfl, fun he => hq' q (mem_foot.2 (.inr (.inr (.inr he)))) rfl⟩
  · have hqn := hb q hq
    refine ⟨fun e => hqn (e ▸ foot_g), fun e => hqn (foot_t e), fun h8' => ?_, fun e => hqn (mem_foot.2 (.inr (.inr (.inr e))))⟩
    rcases h8 _ h8' with h' | h'
    · exact hqn (foot_l h')
    · have := hElt q hq; omega
  · exact ((hA.of_non).trans (hK.mono fun q hq => foot_l hq)).trans (hKg.mono fun q e => by unfold Only at e; exact e ▸ foot_g)
  · rcases h8 _ hq with h' | h'
    · exact .inl h'
    · exact .inr (by omega)
/-- The table turned at one place. -/
theorem DictM.setT {T L : TypeId} {w : World} {g bt tc i m : Nat} {d : Dic} {l : Sl} {ps : List (Nat × Sl)} (h : DictM T L w g d ⟨some ⟨bt, 0, none⟩, d.table.length, tc⟩ l ps) (hi : i < d.table.length) :
    DictM T L (w.setCell ⟨bt, i, none⟩ (.int .i64 (m : Int))) g { d with table := d.table.set i m } ⟨some ⟨bt, 0, none⟩, d.table.length, tc⟩ l ps := by
  have hn := nod_iff.1 h.nod
  have hbt : bt ∈ own (⟨some ⟨bt, 0, none⟩, d.table.length, tc⟩ : Sl).v := by show bt ∈ [bt]; simp
  have hK : Keeps (Only bt) w (w.setCell ⟨bt, i, none⟩ (.int .i64 (m : Int))) := (Keeps.refl (Only bt) _).set (p := ⟨bt, i, none⟩) rfl _
  refine ⟨h.blk.keep hK fun e => hn.gt (by unfold Only at e; exact e ▸ hbt), rowN_set h.tab hi, h.lvs.keep hK fun q hq e => hn.tl _ hbt (by unfold Only at e; exact e ▸ hq), h.len, h.dep, fun j hj hj' => (h.ent j hj hj').keep hK fun q hq e => hn.te _ hbt (by unfold Only at e; subst e; exact mem_ents.2 ⟨j, hj, hq⟩), h.nod⟩
/-- The bit of a place, as the code asks for it. -/
theorem place_bit (n ow : Nat) (hn : n ≤ 64) : (bits .and .i64 ((n : Int) / 2 ^ ow) 1 == 1) = bitB ow n := by
  have h1 : ((n : Int) / 2 ^ ow) = ((n / 2 ^ ow : Nat) : Int) := by simp
  have hle : n / 2 ^ ow ≤ 64 := Nat.le_trans (Nat.div_le_self _ _) hn
  rw [h1]
  unfold bitB
  generalize n / 2 ^ ow = m at hle
  have h2 : ∀ m : Fin 65, (bits .and .i64 ((m.val : Nat) : Int) 1 == 1) = (m.val % 2 == 1) := by decide
  exact h2 ⟨m, by omega⟩
theorem split_mid {w1 wz wy : World} {g bt1 t1c bl lc k ow : Nat} {d1 d2 : Dic} {a b : Sl} {ps : List (Nat × Sl)} {L : List Ent}
    (h1 : DictM 69 66 w1 g d1 ⟨some ⟨bt1, 0, none⟩, d1.table.length, t1c⟩ ⟨some ⟨bl, 0, none⟩, ps.length, lc⟩ ps) (hR : Part w1 wz ow L L.length a b)
    (hD : DictM 69 66 wy g d2 ⟨some ⟨bt1, 0, none⟩, d1.table.length, t1c⟩ ⟨some ⟨bl, 0, none⟩, ps.length, lc⟩ ps) (hKn : Keeps (Only bt1) wz wy) (hkp : k < ps.length) :
    DictM 69 66 ((wy.setCell ⟨bl, k * 2, none⟩ (.int .i64 ((ow : Int) + 1))).setCell ⟨bl, k * 2 + 1, none⟩ a.v) g { d2 with leaves := d2.leaves.set k ⟨ow + 1, stayL ow L⟩ } ⟨some ⟨bt1, 0, none⟩, d1.table.length, t1c⟩ ⟨some ⟨bl, 0, none⟩, ps.length, lc⟩ (ps.set k (ow + 1, a))
    ∧ RowE ((wy.setCell ⟨bl, k * 2, none⟩ (.int .i64 ((ow : Int) + 1))).setCell ⟨bl, k * 2 + 1, none⟩ a.v) b.v (overL ow L)
    ∧ (∀ q ∈ own b.v, q ∉ foot g ⟨some ⟨bt1, 0, none⟩, d1.table.length, t1c⟩ ⟨some ⟨bl, 0, none⟩, ps.length, lc⟩ (ps.set k (ow + 1, a)))
    ∧ Keeps (Only bl) wy ((wy.setCell ⟨bl, k * 2, none⟩ (.int .i64 ((ow : Int) + 1))).setCell ⟨bl, k * 2 + 1, none⟩ a.v) := by
  have hlow := h1.low
  have hbt : bt1 ∈ own (⟨some ⟨bt1, 0, none⟩, d1.table.length, t1c⟩ : Sl).v := by show bt1 ∈ [bt1]; simp
  have hbl : bl ∈ own (⟨some ⟨bl, 0, none⟩, ps.length, lc⟩ : Sl).v := by show bl ∈ [bl]; simp
  have ht : L.take L.length = L := List.take_of_length_le (Nat.le_refl _)
  have ra := hR.stay
  have rb := hR.over
  rw [ht] at ra rb
  have hna := hR.na
  have hnb := hR.nb
  have ra' : RowE wy a.v (stayL ow L) := ra.keep hKn fun q hq e => by unfold Only at e; have := hna q hq; have := hlow bt1 (foot_t hbt); omega
  have rb' : RowE wy b.v (overL ow L) := rb.keep hKn fun q hq e => by unfold Only at e; have := hnb q hq; have := hlow bt1 (foot_t hbt); omega
  have hK3 : Keeps (Only bl) wy ((wy.setCell ⟨bl, k * 2, none⟩ (.int .i64 ((ow : Int) + 1))).setCell ⟨bl, k * 2 + 1, none⟩ a.v) := ((Keeps.refl (Only bl) _).set (p := ⟨bl, k * 2, none⟩) rfl _).set (p := ⟨bl, k * 2 + 1, none⟩) rfl _
  refine ⟨hD.setE hkp (Keeps.refl _ _) ra' (fun q hq => .inr fun hq' => ?_) hK3 (rowP_set hD.lvs hkp), ?_, fun q hq hq' => ?_, hK3⟩
  · have := hna q hq; have := hlow q hq'; omega
  · exact rb'.keep hK3 fun q hq e => by unfold Only at e; have := hnb q hq; have := hlow bl (foot_l hbl); omega
  · have h0 := hnb q hq
    have hF : q ∉ foot g ⟨some ⟨bt1, 0, none⟩, d1.table.length, t1c⟩ ⟨some ⟨bl, 0, none⟩, ps.length, lc⟩ ps := fun hh => by have := hlow q hh; omega
    rcases mem_foot.1 hq' with e | e | e | e
    · exact hF (e ▸ foot_g)
    · exact hF (foot_t e)
    · exact hF (foot_l e)
    · obtain ⟨i, hi, hqi⟩ := mem_ents.1 e
      rw [List.getElem_set] at hqi
      by_cases hik : k = i
      · rw [if_pos hik] at hqi; exact hR.ab q hqi hq
      · rw [if_neg hik] at hqi
        exact hF (mem_foot.2 (.inr (.inr (.inr (mem_ents.2 ⟨i, by simpa using hi, hqi⟩)))))
theorem split_fin {w w1 wz wy wp w9 : World} {g bt1 t1c bl lc k ow : Nat} {d1 : Dic} {t a b s8 : Sl} {ps : List (Nat × Sl)} {L : List Ent}
    (h1 : DictM 69 66 w1 g d1 ⟨some ⟨bt1, 0, none⟩, d1.table.length, t1c⟩ ⟨some ⟨bl, 0, none⟩, ps.length, lc⟩ ps) (hR : Part w1 wz ow L L.length a b)
    (hK1 : Keeps (· ∈ foot g t ⟨some ⟨bl, 0, none⟩, ps.length, lc⟩ ps) w w1) (hT1 : ∀ q ∈ own (⟨some ⟨bt1, 0, none⟩, d1.table.length, t1c⟩ : Sl).v, q ∈ own t.v ∨ w.heap.size ≤ q)
    (hKn : Keeps (Only bt1) wz wy) (hK3 : Keeps (Only bl) wy wp) (hz : w1.heap.size ≤ wp.heap.size)
    (hK9 : Keeps (· ∈ foot g ⟨some ⟨bt1, 0, none⟩, d1.table.length, t1c⟩ ⟨some ⟨bl, 0, none⟩, ps.length, lc⟩ (ps.set k (ow + 1, a))) wp w9)
    (h8 : ∀ q ∈ own s8.v, q ∈ own (⟨some ⟨bl, 0, none⟩, ps.length, lc⟩ : Sl).v ∨ wp.heap.size ≤ q) :
    Keeps (· ∈ foot g t ⟨some ⟨bl, 0, none⟩, ps.length, lc⟩ ps) w w9 ∧ ∀ q ∈ foot g ⟨some ⟨bt1, 0, none⟩, d1.table.length, t1c⟩ s8 (ps.set k (ow + 1, a) ++ [(ow + 1, b)]), q ∈ foot g t ⟨some ⟨bl, 0, none⟩, ps.length, lc⟩ ps ∨ w.heap.size ≤ q := by
  have hz1 := hK1.size
  have hbt : bt1 ∈ own (⟨some ⟨bt1, 0, none⟩, d1.table.length, t1c⟩ : Sl).v := by show bt1 ∈ [bt1]; simp
  have hbl : bl ∈ own (⟨some ⟨bl, 0, none⟩, ps.length, lc⟩ : Sl).v := by show bl ∈ [bl]; simp
  have hna := hR.na
  have hnb := hR.nb
  have hTT : ∀ q ∈ own (⟨some ⟨bt1, 0, none⟩, d1.table.length, t1c⟩ : Sl).v, q ∈ foot g t ⟨some ⟨bl, 0, none⟩, ps.length, lc⟩ ps ∨ w.heap.size ≤ q := fun q hq => (hT1 q hq).imp foot_t id
  have hEE : ∀ q ∈ ents (ps.set k (ow + 1, a)), q ∈ foot g t ⟨some ⟨bl, 0, none⟩, ps.length, lc⟩ ps ∨ w.heap.size ≤ q := fun q hq => by
    obtain ⟨i, hi, hqi⟩ := mem_ents.1 hq
    rw [List.getElem_set] at hqi
    by_cases hik : k = i
    · rw [if_pos hik] at hqi; have := hna q hqi; exact .inr (by omega)
    · rw [if_neg hik] at hqi
      exact .inl (mem_foot.2 (.inr (.inr (.inr (mem_ents.2 ⟨i, by simpa using hi, hqi⟩)))))
  constructor
  · have a1 := (hK1.non hR.keep).then hKn fun i hi e => by
      unfold Only at e
      subst e
      rcases hTT _ hbt with h' | h'
      · exact h'
      · omega
    have a2 := a1.then hK3 fun i hi e => by unfold Only at e; subst e; exact foot_l hbl
    refine a2.then hK9 fun i hi e => ?_
    rcases mem_foot.1 e with e | e | e | e
    · exact e ▸ foot_g
    · exact (hTT i e).resolve_right (by omega)
    · exact foot_l e
    · exact (hEE i e).resolve_right (by omega)
  · intro q hq
    rcases mem_foot.1 hq with e | e | e | e
    · exact .inl (e ▸ foot_g)
    · exact hTT q e
    · rcases h8 q e with h' | h'
      · exact .inl (foot_l h')
      · exact .inr (by omega)
    · rw [ents_snoc, List.mem_append] at e
      rcases e with e | e
      · exact hEE q e
      · have := hnb q e; exact .inr (by omega)

end Go.Proofs.Ytiieglfpmmhfiaa
