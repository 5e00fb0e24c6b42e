/- Put: what it leans on. -/
import Derived.Test.YtiieglfpmmhfiaaD8
import Derived.Test.YtiieglfpmmhfiaaP4
namespace Go.Proofs.Ytiieglfpmmhfiaa
set_option maxRecDepth 100000
open Go.RowKit Go.Uc

set_option maxHeartbeats 2000000 in
theorem split_full {w : World} {g : Nat} {d : Dic} {t l : Sl} {ps : List (Nat × Sl)} (h : DictM 69 66 w g d t l ps) (ho : Ok d) (p k : Nat) (hp : p < d.table.length) (hk : d.table[p] = k) (h5 : (leafAt d k).depth = 5) :
    Calls Try.prog 33 #[.pointer (some ⟨g, 0, none⟩), .int .i64 (p : Int)] w fun e w' => e = .returned (.bool false) ∧ w' = w := by
  have hkl : k < d.leaves.length := by rw [← hk]; exact ho.rng _ (List.getElem_mem _)
  have hkp : k < ps.length := by rw [h.len]; exact hkl
  obtain ⟨bt, ct, e1, -, ct0, -⟩ := rowN_at h.tab hp
  obtain ⟨bl, cl, e2, -, cl0, -⟩ := rowP_at h.lvs hkp
  rw [hk] at ct0
  have hd0 : ps[k].1 = 5 := by rw [h.dep k hkp hkl, ← leafAt_get hkl, h5]
  rw [hd0] at cl0
  have c2 : w.cell? ⟨g, 2, none⟩ = some (.slice (some ⟨bt, 0, none⟩) d.table.length ct) := by rw [← e1]; exact h.blk.cell 2
  have c3 : w.cell? ⟨g, 3, none⟩ = some (.slice (some ⟨bl, 0, none⟩) ps.length cl) := by rw [← e2]; exact h.blk.cell 3
  have hpi : (p : Int) < (d.table.length : Int) := by omega
  have hki : (k : Int) < (ps.length : Int) := by omega
  generalize d.table.length = tn at c2 hpi
  generalize ps.length = pn at c3 hki
  clear h ho hp hk h5 hkl hkp hd0 e1 e2
  go_enter Try.func33, Try.ntmps33
  go_wp2_with fail
  go_ret
  exact ⟨rfl, rfl⟩

theorem has_getE (l : List Ent) (n : List UInt8) : has l n = (getE l n).isSome := by
  unfold has getE
  induction l with
  | nil => rfl
  | cons x l ih =>
    rw [List.any_cons, List.find?_cons, ih]
    by_cases h : x.name = n
    · rw [show (x.name == n) = true by simp [h]]; rfl
    · rw [show (x.name == n) = false by simp [h]]; rfl
theorem roomE_filter (p : Ent → Bool) (l : List Ent) : roomE (l.filter p) ≤ roomE l := by
  induction l with
  | nil => exact Nat.le_refl _
  | cons x l ih => rw [List.filter_cons]; split <;> simp only [roomE, List.map_cons, List.sum_cons] at * <;> omega
theorem roomE_ins (l : List Ent) (e : Ent) : roomE (ins l e) ≤ roomE l + roomE l + (5 + e.name.length) := by
  unfold ins
  rw [roomE_app]
  have h1 := roomE_filter (fun x => lt x.name e.name) l
  have h2 := roomE_filter (fun x => lt e.name x.name) l
  have h3 : roomE (e :: l.filter fun x => lt e.name x.name) = 5 + e.name.length + roomE (l.filter fun x => lt e.name x.name) := by simp [roomE]
  omega
def outL (o : Option Dic) (d : Dic) : Int × Dic :=
  match o with
  | some d' => (0, d')
  | none => (152, d)
/-- The whole answer of Put. -/
def putD (d : Dic) (n : List UInt8) (v : Int) : Int × Dic :=
  if nameB n = false then (150, d) else if v < 0 ∨ 2147483647 < v then (1, d)
  else if has (leafAt d (kOf d n)).l n = true then (0, setL d (kOf d n) (ins (leafAt d (kOf d n)).l ⟨n, v⟩))
  else outL (putL 8 d ⟨n, v⟩) d
theorem DictM.doneSelf {T L : TypeId} {w w' : World} {g : Nat} {d : Dic} {t l : Sl} {ps : List (Nat × Sl)} (h : DictM T L w g d t l ps) (hk : Keeps Non w w') : DoneD T L w g t l ps d w' :=
  ⟨t, l, ps, h.non hk, hk.of_non, fun _ hq => .inl hq⟩
/-- One leaf's entries changed where they lie. -/
theorem DictM.inE {T L : TypeId} {w w2 : World} {g bl lc k : Nat} {d : Dic} {t : Sl} {ps : List (Nat × Sl)} {E : List Ent} (h : DictM T L w g d t ⟨some ⟨bl, 0, none⟩, ps.length, lc⟩ ps) (hk : k < ps.length)
    (hK : Keeps (· ∈ own ps[k].2.v) w w2) (hE : RowE w2 ps[k].2.v E) : DoneD T L w g t ⟨some ⟨bl, 0, none⟩, ps.length, lc⟩ ps (setL d k E) w2 := by
  have hn := nod_iff.1 h.nod
  have hkd : k < d.leaves.length := by rw [← h.len]; exact hk
  have hm : ∀ q, q ∈ own ps[k].2.v → q ∈ ents ps := fun q hq => mem_ents.2 ⟨k, hk, hq⟩
  have hs : ps.set k (ps[k].1, ps[k].2) = ps := List.set_getElem_self hk
  have hR : RowP w2 L 2 encP (.slice (some ⟨bl, 0, none⟩) ps.length lc) (ps.set k (ps[k].1, ps[k].2)) := by
    rw [hs]; exact h.lvs.keep hK fun q hq hq' => hn.le q hq (hm _ hq')
  have := h.setE (dp := ps[k].1) (a := ps[k].2) hk hK hE (fun q hq => .inl hq) (Keeps.refl _ _) hR
  rw [hs, h.dep k hk hkd, ← leafAt_get hkd] at this
  exact ⟨_, _, _, this, hK.mono fun q hq => mem_foot.2 (.inr (.inr (.inr (hm q hq)))), fun q hq => .inl hq⟩
/-- A dictionary's head laid over another one's. -/
theorem DictM.move {T L : TypeId} {w : World} {g gb : Nat} {d : Dic} {t l : Sl} {ps : List (Nat × Sl)} {a b c e : Value} (h : DictM T L w gb d t l ps) (hB : Blk w g T #[a, b, c, e]) (hg : g ∉ foot gb t l ps) :
    DictM T L ((((w.setCell ⟨g, 0, none⟩ (.bool d.small)).setCell ⟨g, 1, none⟩ (.int .i64 (d.depth : Int))).setCell ⟨g, 2, none⟩ t.v).setCell ⟨g, 3, none⟩ l.v) g d t l ps := by
  have hK : Keeps (Only g) w ((((w.setCell ⟨g, 0, none⟩ (.bool d.small)).setCell ⟨g, 1, none⟩ (.int .i64 (d.depth : Int))).setCell ⟨g, 2, none⟩ t.v).setCell ⟨g, 3, none⟩ l.v) :=
    ((((Keeps.refl (Only g) _).set (p := ⟨g, 0, none⟩) rfl _).set (p := ⟨g, 1, none⟩) rfl _).set (p := ⟨g, 2, none⟩) rfl _).set (p := ⟨g, 3, none⟩) rfl _
  have hn := nod_iff.1 h.nod
  have h' : ∀ q ∈ foot gb t l ps, ¬ Only g q := fun q hq e => by unfold Only at e; exact hg (e ▸ hq)
  have h2 := h.keep hK h'
  exact ⟨(((hB.set 0 (.bool d.small)).set 1 (.int .i64 (d.depth : Int))).set 2 t.v).set 3 l.v, h2.tab, h2.lvs, h2.len, h2.dep, h2.ent, nod_iff.2 ⟨fun hq => hg (foot_t hq), fun hq => hg (foot_l hq), fun hq => hg (mem_foot.2 (.inr (.inr (.inr hq)))), hn.tl, hn.te, hn.le, hn.ee⟩⟩
/-- One entry laid over another one. -/
theorem rowE_set {w : World} {b c i : Nat} {l : List Ent} (h : RowE w (.slice (some ⟨b, 0, none⟩) l.length c) l) (hi : i < l.length) (e : Ent) :
    RowE ((w.setCell ⟨b, i * 2, none⟩ (.string (str e.name))).setCell ⟨b, i * 2 + 1, none⟩ (.int .i64 e.val)) (.slice (some ⟨b, 0, none⟩) l.length c) (l.set i e) := by
  have h1 := h.cell_set encE_len hi (j := 0) (by decide) ⟨e.name, l[i].val⟩ (.string (str e.name)) rfl
  have hl : (l.set i ⟨e.name, l[i].val⟩).length = l.length := by simp
  have h2 : RowE (w.setCell ⟨b, i * 2, none⟩ (.string (str e.name))) (.slice (some ⟨b, 0, none⟩) (l.set i ⟨e.name, l[i].val⟩).length c) (l.set i ⟨e.name, l[i].val⟩) := by rw [hl]; exact h1
  have h3 := h2.cell_set encE_len (i := i) (by rw [hl]; exact hi) (j := 1) (by decide) e (.int .i64 e.val) (by simp [encE])
  rw [hl, List.set_set] at h3
  exact h3
theorem ent_keep {w : World} {b i : Nat} {e : Ent} : Keeps (Only b) w ((w.setCell ⟨b, i * 2, none⟩ (.string (str e.name))).setCell ⟨b, i * 2 + 1, none⟩ (.int .i64 e.val)) :=
  ((Keeps.refl (Only b) _).set (p := ⟨b, i * 2, none⟩) rfl _).set (p := ⟨b, i * 2 + 1, none⟩) rfl _
theorem DictM.large {T L : TypeId} {w : World} {g : Nat} {d : Dic} {t l : Sl} {ps : List (Nat × Sl)} (h : DictM T L w g d t l ps) : DictM T L (w.setCell ⟨g, 0, none⟩ (.bool false)) g { d with small := false } t l ps := by
  have hn := nod_iff.1 h.nod
  have hK : Keeps (Only g) w (w.setCell ⟨g, 0, none⟩ (.bool false)) := (Keeps.refl (Only g) _).set (p := ⟨g, 0, none⟩) rfl _
  exact ⟨h.blk.set 0 _, h.tab.keep hK fun q hq e => hn.gt (by unfold Only at e; exact e ▸ hq), h.lvs.keep hK fun q hq e => hn.gl (by unfold Only at e; exact e ▸ hq), h.len, h.dep, fun i hi hi' => (h.ent i hi hi').keep hK fun q hq e => hn.ge (by unfold Only at e; subst e; exact mem_ents.2 ⟨i, hi, hq⟩), h.nod⟩
/-- The leaf takes the entries, the dictionary the other one's head. -/
theorem put_fin {w w3 w6 w10 : World} {g gb b5 cc kc : Nat} {d dc : Dic} {t l tc s : Sl} {ps pc : List (Nat × Sl)} {E : List Ent}
    (h3 : DictM 69 66 w3 g d t l ps) (hK03 : Keeps Non w w3) (hK310 : Keeps Non w3 w10) (hD : DictM 69 66 w10 gb dc tc ⟨some ⟨b5, 0, none⟩, pc.length, cc⟩ pc)
    (hN : ∀ q ∈ foot gb tc ⟨some ⟨b5, 0, none⟩, pc.length, cc⟩ pc, w3.heap.size ≤ q) (hlow : ∀ q ∈ foot gb tc ⟨some ⟨b5, 0, none⟩, pc.length, cc⟩ pc, q < w6.heap.size) (h36 : w3.heap.size ≤ w6.heap.size) (hk : kc < pc.length) (hE : RowE w10 s.v E) (hs : ∀ q ∈ own s.v, w6.heap.size ≤ q) :
    DictM 69 66 (w10.setCell ⟨b5, kc * 2 + 1, none⟩ s.v) gb (setL dc kc E) tc ⟨some ⟨b5, 0, none⟩, pc.length, cc⟩ (pc.set kc (pc[kc].1, s))
    ∧ DictM 69 66 (w10.setCell ⟨b5, kc * 2 + 1, none⟩ s.v) g d t l ps
    ∧ DoneD 69 66 w g t l ps (setL dc kc E) (((((w10.setCell ⟨b5, kc * 2 + 1, none⟩ s.v).setCell ⟨g, 0, none⟩ (.bool dc.small)).setCell ⟨g, 1, none⟩ (.int .i64 (dc.depth : Int))).setCell ⟨g, 2, none⟩ tc.v).setCell ⟨g, 3, none⟩ (.slice (some ⟨b5, 0, none⟩) pc.length cc)) := by
  have hb5 : b5 ∈ own (⟨some ⟨b5, 0, none⟩, pc.length, cc⟩ : Sl).v := by show b5 ∈ [b5]; simp
  have hkd : kc < dc.leaves.length := by rw [← hD.len]; exact hk
  have hz := hK03.size
  have hKb : Keeps (Only b5) w10 (w10.setCell ⟨b5, kc * 2 + 1, none⟩ s.v) := (Keeps.refl (Only b5) _).set (p := ⟨b5, kc * 2 + 1, none⟩) rfl _
  have h1 : DictM 69 66 (w10.setCell ⟨b5, kc * 2 + 1, none⟩ s.v) gb (setL dc kc E) tc ⟨some ⟨b5, 0, none⟩, pc.length, cc⟩ (pc.set kc (pc[kc].1, s)) := by
    have := hD.setE (dp := pc[kc].1) (a := s) hk (Keeps.refl _ _) hE (fun q hq => .inr fun hq' => by have := hs q hq; have := hlow q hq'; omega) hKb (rowP_setE hD.lvs hk)
    rw [hD.dep kc hk hkd, ← leafAt_get hkd] at this ⊢
    exact this
  have hg3 := h3.low
  have h2 : DictM 69 66 (w10.setCell ⟨b5, kc * 2 + 1, none⟩ s.v) g d t l ps := (h3.non hK310).keep hKb fun q hq e => by unfold Only at e; subst e; have := hg3 _ hq; have := hN _ (foot_l hb5); omega
  have hF : ∀ q ∈ foot gb tc ⟨some ⟨b5, 0, none⟩, pc.length, cc⟩ (pc.set kc (pc[kc].1, s)), w3.heap.size ≤ q := fun q hq => by
    rcases mem_foot.1 hq with e | e | e | e
    · exact hN q (e ▸ foot_g)
    · exact hN q (foot_t e)
    · exact hN q (foot_l e)
    · obtain ⟨i, hi, hqi⟩ := mem_ents.1 e
      rw [List.getElem_set] at hqi
      by_cases hik : kc = i
      · rw [if_pos hik] at hqi; have := hs q hqi; omega
      · rw [if_neg hik] at hqi
        exact hN q (mem_foot.2 (.inr (.inr (.inr (mem_ents.2 ⟨i, by simpa using hi, hqi⟩)))))
  have hgF : g ∉ foot gb tc ⟨some ⟨b5, 0, none⟩, pc.length, cc⟩ (pc.set kc (pc[kc].1, s)) := fun hq => by have := hF g hq; have := hg3 g foot_g; omega
  refine ⟨h1, h2, tc, _, _, h1.move h2.blk hgF, ?_, fun q hq => ?_⟩
  · have a1 : Keeps (· ∈ foot g t l ps) w (w10.setCell ⟨b5, kc * 2 + 1, none⟩ s.v) := ((hK03.non hK310).of_non).setNew (p := ⟨b5, kc * 2 + 1, none⟩) (by have := hN _ (foot_l hb5); show w.heap.size ≤ b5; omega) _
    exact (((a1.set (p := ⟨g, 0, none⟩) foot_g _).set (p := ⟨g, 1, none⟩) foot_g _).set (p := ⟨g, 2, none⟩) foot_g _).set (p := ⟨g, 3, none⟩) foot_g _
  · rcases List.mem_cons.1 hq with e | e
    · exact .inl (e ▸ foot_g)
    · have := hF q (List.mem_cons_of_mem _ e); exact .inr (by omega)
theorem putL_fit {f : Nat} {d : Dic} {e : Ent} (h : fitE (ins (leafAt d (kOf d e.name)).l e) = true) : putL (f + 1) d e = some (setL d (kOf d e.name) (ins (leafAt d (kOf d e.name)).l e)) := by unfold putL; rw [if_pos h]
theorem putL_small {f : Nat} {d : Dic} {e : Ent} (h : fitE (ins (leafAt d (kOf d e.name)).l e) = false) (hs : d.small = true) : putL (f + 1) d e = putL f { d with small := false } e := by
  conv => lhs; unfold putL
  rw [if_neg (by simp [h]), if_pos hs]
theorem putL_full {f : Nat} {d : Dic} {e : Ent} (h : fitE (ins (leafAt d (kOf d e.name)).l e) = false) (hs : d.small = false) (h5 : (leafAt d (kOf d e.name)).depth = 5) : putL (f + 1) d e = none := by
  conv => lhs; unfold putL
  rw [if_neg (by simp [h]), if_neg (by simp [hs]), if_pos h5]
theorem putL_split {f : Nat} {d : Dic} {e : Ent} (h : fitE (ins (leafAt d (kOf d e.name)).l e) = false) (hs : d.small = false) (h5 : (leafAt d (kOf d e.name)).depth ≠ 5) : putL (f + 1) d e = putL f (splitD d (kOf d e.name)) e := by
  conv => lhs; unfold putL
  rw [if_neg (by simp [h]), if_neg (by simp [hs]), if_neg h5]
end Go.Proofs.Ytiieglfpmmhfiaa
