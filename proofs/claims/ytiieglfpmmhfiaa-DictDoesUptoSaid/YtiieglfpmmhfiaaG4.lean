/- Put: what it leans on. SameEntries, New, pick, Get. Pages laid down. Get; Pages of a small dictionary. Pages of a small dictionary. -/
import Derived.Test.YtiieglfpmmhfiaaD8
import Derived.Test.YtiieglfpmmhfiaaG3
import Derived.RegionTactic
import Derived.Lib.BufferWrite
import Derived.Deep.RegionLaw
namespace Go.Proofs.Ytiieglfpmmhfiaa
set_option maxRecDepth 100000
open Go.RowKit Go.Uc

set_option maxHeartbeats 2000000 in
theorem split_full {w : World} {g : Nat} {d : Dic} {t l : Sl} {ps : List (Nat × Sl)} (h : DictM 69 66 w g d t l ps) (ho : Ok d) (p k : Nat) (hp : p < d.table.length) (hk : d.table[p] = k) (h5 : (leafAt d k).depth = 5) :
    Calls Try.prog 33 #[.pointer (some ⟨g, 0, none⟩), .int .i64 (p : Int)] w fun e w' => e = .returned (.bool false) ∧ w' = w := by
  have hkl : k < d.leaves.length := by rw [← hk]; exact ho.rng _ (List.getElem_mem _)
  have hkp : k < ps.length := by rw [h.len]; exact hkl
  obtain ⟨bt, ct, e1, -, ct0, -⟩ := rowN_at h.tab hp
  obtain ⟨bl, cl, e2, -, cl0, -⟩ := rowP_at h.lvs hkp
  rw [hk] at ct0
  have hd0 : ps[k].1 = 5 := by rw [h.dep k hkp hkl, ← leafAt_get hkl, h5]
  rw [hd0] at cl0
  have c2 : w.cell? ⟨g, 2, none⟩ = some (.slice (some ⟨bt, 0, none⟩) d.table.length ct) := by rw [← e1]; exact h.blk.cell 2
  have c3 : w.cell? ⟨g, 3, none⟩ = some (.slice (some ⟨bl, 0, none⟩) ps.length cl) := by rw [← e2]; exact h.blk.cell 3
  have hpi : (p : Int) < (d.table.length : Int) := by omega
  have hki : (k : Int) < (ps.length : Int) := by omega
  generalize d.table.length = tn at c2 hpi
  generalize ps.length = pn at c3 hki
  clear h ho hp hk h5 hkl hkp hd0 e1 e2
  go_enter Try.func33, Try.ntmps33
  go_wp2_with fail
  go_ret
  exact ⟨rfl, rfl⟩

theorem has_getE (l : List Ent) (n : List UInt8) : has l n = (getE l n).isSome := by
  unfold has getE
  induction l with
  | nil => rfl
  | cons x l ih =>
    rw [List.any_cons, List.find?_cons, ih]
    by_cases h : x.name = n
    · rw [show (x.name == n) = true by simp [h]]; rfl
    · rw [show (x.name == n) = false by simp [h]]; rfl
theorem roomE_filter (p : Ent → Bool) (l : List Ent) : roomE (l.filter p) ≤ roomE l := by
  induction l with
  | nil => exact Nat.le_refl _
  | cons x l ih => rw [List.filter_cons]; split <;> simp only [roomE, List.map_cons, List.sum_cons] at * <;> omega
theorem roomE_ins (l : List Ent) (e : Ent) : roomE (ins l e) ≤ roomE l + roomE l + (5 + e.name.length) := by
  unfold ins
  rw [roomE_app]
  have h1 := roomE_filter (fun x => lt x.name e.name) l
  have h2 := roomE_filter (fun x => lt e.name x.name) l
  have h3 : roomE (e :: l.filter fun x => lt e.name x.name) = 5 + e.name.length + roomE (l.filter fun x => lt e.name x.name) := by simp [roomE]
  omega
def outL (o : Option Dic) (d : Dic) : Int × Dic :=
  match o with
  | some d' => (0, d')
  | none => (152, d)
/-- The whole answer of Put. -/
def putD (d : Dic) (n : List UInt8) (v : Int) : Int × Dic :=
  if nameB n = false then (150, d) else if v < 0 ∨ 2147483647 < v then (1, d)
  else if has (leafAt d (kOf d n)).l n = true then (0, setL d (kOf d n) (ins (leafAt d (kOf d n)).l ⟨n, v⟩))
  else outL (putL 8 d ⟨n, v⟩) d
theorem DictM.doneSelf {T L : TypeId} {w w' : World} {g : Nat} {d : Dic} {t l : Sl} {ps : List (Nat × Sl)} (h : DictM T L w g d t l ps) (hk : Keeps Non w w') : DoneD T L w g t l ps d w' :=
  ⟨t, l, ps, h.non hk, hk.of_non, fun _ hq => .inl hq⟩
/-- One leaf's entries changed where they lie. -/
theorem DictM.inE {T L : TypeId} {w w2 : World} {g bl lc k : Nat} {d : Dic} {t : Sl} {ps : List (Nat × Sl)} {E : List Ent} (h : DictM T L w g d t ⟨some ⟨bl, 0, none⟩, ps.length, lc⟩ ps) (hk : k < ps.length)
    (hK : Keeps (· ∈ own ps[k].2.v) w w2) (hE : RowE w2 ps[k].2.v E) : DoneD T L w g t ⟨some ⟨bl, 0, none⟩, ps.length, lc⟩ ps (setL d k E) w2 := by
  have hn := nod_iff.1 h.nod
  have hkd : k < d.leaves.length := by rw [← h.len]; exact hk
  have hm : ∀ q, q ∈ own ps[k].2.v → q ∈ ents ps := fun q hq => mem_ents.2 ⟨k, hk, hq⟩
  have hs : ps.set k (ps[k].1, ps[k].2) = ps := List.set_getElem_self hk
  have hR : RowP w2 L 2 encP (.slice (some ⟨bl, 0, none⟩) ps.length lc) (ps.set k (ps[k].1, ps[k].2)) := by
    rw [hs]; exact h.lvs.keep hK fun q hq hq' => hn.le q hq (hm _ hq')
  have := h.setE (dp := ps[k].1) (a := ps[k].2) hk hK hE (fun q hq => .inl hq) (Keeps.refl _ _) hR
  rw [hs, h.dep k hk hkd, ← leafAt_get hkd] at this
  exact ⟨_, _, _, this, hK.mono fun q hq => mem_foot.2 (.inr (.inr (.inr (hm q hq)))), fun q hq => .inl hq⟩
/-- A dictionary's head laid over another one's. -/
theorem DictM.move {T L : TypeId} {w : World} {g gb : Nat} {d : Dic} {t l : Sl} {ps : List (Nat × Sl)} {a b c e : Value} (h : DictM T L w gb d t l ps) (hB : Blk w g T #[a, b, c, e]) (hg : g ∉ foot gb t l ps) :
    DictM T L ((((w.setCell ⟨g, 0, none⟩ (.bool d.small)).setCell ⟨g, 1, none⟩ (.int .i64 (d.depth : Int))).setCell ⟨g, 2, none⟩ t.v).setCell ⟨g, 3, none⟩ l.v) g d t l ps := by
  have hK : Keeps (Only g) w ((((w.setCell ⟨g, 0, none⟩ (.bool d.small)).setCell ⟨g, 1, none⟩ (.int .i64 (d.depth : Int))).setCell ⟨g, 2, none⟩ t.v).setCell ⟨g, 3, none⟩ l.v) :=
    ((((Keeps.refl (Only g) _).set (p := ⟨g, 0, none⟩) rfl _).set (p := ⟨g, 1, none⟩) rfl _).set (p := ⟨g, 2, none⟩) rfl _).set (p := ⟨g, 3, none⟩) rfl _
  have hn := nod_iff.1 h.nod
  have h' : ∀ q ∈ foot gb t l ps, ¬ Only g q := fun q hq e => by unfold Only at e; exact hg (e ▸ hq)
  have h2 := h.keep hK h'
  exact ⟨(((hB.set 0 (.bool d.small)).set 1 (.int .i64 (d.depth : Int))).set 2 t.v).set 3 l.v, h2.tab, h2.lvs, h2.len, h2.dep, h2.ent, nod_iff.2 ⟨fun hq => hg (foot_t hq), fun hq => hg (foot_l hq), fun hq => hg (mem_foot.2 (.inr (.inr (.inr hq)))), hn.tl, hn.te, hn.le, hn.ee⟩⟩
/-- One entry laid over another one. -/
theorem rowE_set {w : World} {b c i : Nat} {l : List Ent} (h : RowE w (.slice (some ⟨b, 0, none⟩) l.length c) l) (hi : i < l.length) (e : Ent) :
    RowE ((w.setCell ⟨b, i * 2, none⟩ (.string (str e.name))).setCell ⟨b, i * 2 + 1, none⟩ (.int .i64 e.val)) (.slice (some ⟨b, 0, none⟩) l.length c) (l.set i e) := by
  have h1 := h.cell_set encE_len hi (j := 0) (by decide) ⟨e.name, l[i].val⟩ (.string (str e.name)) rfl
  have hl : (l.set i ⟨e.name, l[i].val⟩).length = l.length := by simp
  have h2 : RowE (w.setCell ⟨b, i * 2, none⟩ (.string (str e.name))) (.slice (some ⟨b, 0, none⟩) (l.set i ⟨e.name, l[i].val⟩).length c) (l.set i ⟨e.name, l[i].val⟩) := by rw [hl]; exact h1
  have h3 := h2.cell_set encE_len (i := i) (by rw [hl]; exact hi) (j := 1) (by decide) e (.int .i64 e.val) (by simp [encE])
  rw [hl, List.set_set] at h3
  exact h3
theorem ent_keep {w : World} {b i : Nat} {e : Ent} : Keeps (Only b) w ((w.setCell ⟨b, i * 2, none⟩ (.string (str e.name))).setCell ⟨b, i * 2 + 1, none⟩ (.int .i64 e.val)) :=
  ((Keeps.refl (Only b) _).set (p := ⟨b, i * 2, none⟩) rfl _).set (p := ⟨b, i * 2 + 1, none⟩) rfl _
theorem DictM.large {T L : TypeId} {w : World} {g : Nat} {d : Dic} {t l : Sl} {ps : List (Nat × Sl)} (h : DictM T L w g d t l ps) : DictM T L (w.setCell ⟨g, 0, none⟩ (.bool false)) g { d with small := false } t l ps := by
  have hn := nod_iff.1 h.nod
  have hK : Keeps (Only g) w (w.setCell ⟨g, 0, none⟩ (.bool false)) := (Keeps.refl (Only g) _).set (p := ⟨g, 0, none⟩) rfl _
  exact ⟨h.blk.set 0 _, h.tab.keep hK fun q hq e => hn.gt (by unfold Only at e; exact e ▸ hq), h.lvs.keep hK fun q hq e => hn.gl (by unfold Only at e; exact e ▸ hq), h.len, h.dep, fun i hi hi' => (h.ent i hi hi').keep hK fun q hq e => hn.ge (by unfold Only at e; subst e; exact mem_ents.2 ⟨i, hi, hq⟩), h.nod⟩
/-- The leaf takes the entries, the dictionary the other one's head. -/
theorem put_fin {w w3 w6 w10 : World} {g gb b5 cc kc : Nat} {d dc : Dic} {t l tc s : Sl} {ps pc : List (Nat × Sl)} {E : List Ent}
    (h3 : DictM 69 66 w3 g d t l ps) (hK03 : Keeps Non w w3) (hK310 : Keeps Non w3 w10) (hD : DictM 69 66 w10 gb dc tc ⟨some ⟨b5, 0, none⟩, pc.length, cc⟩ pc)
    (hN : ∀ q ∈ foot gb tc ⟨some ⟨b5, 0, none⟩, pc.length, cc⟩ pc, w3.heap.size ≤ q) (hlow : ∀ q ∈ foot gb tc ⟨some ⟨b5, 0, none⟩, pc.length, cc⟩ pc, q < w6.heap.size) (h36 : w3.heap.size ≤ w6.heap.size) (hk : kc < pc.length) (hE : RowE w10 s.v E) (hs : ∀ q ∈ own s.v, w6.heap.size ≤ q) :
    DictM 69 66 (w10.setCell ⟨b5, kc * 2 + 1, none⟩ s.v) gb (setL dc kc E) tc ⟨some ⟨b5, 0, none⟩, pc.length, cc⟩ (pc.set kc (pc[kc].1, s))
    ∧ DictM 69 66 (w10.setCell ⟨b5, kc * 2 + 1, none⟩ s.v) g d t l ps
    ∧ DoneD 69 66 w g t l ps (setL dc kc E) (((((w10.setCell ⟨b5, kc * 2 + 1, none⟩ s.v).setCell ⟨g, 0, none⟩ (.bool dc.small)).setCell ⟨g, 1, none⟩ (.int .i64 (dc.depth : Int))).setCell ⟨g, 2, none⟩ tc.v).setCell ⟨g, 3, none⟩ (.slice (some ⟨b5, 0, none⟩) pc.length cc)) := by
  have hb5 : b5 ∈ own (⟨some ⟨b5, 0, none⟩, pc.length, cc⟩ : Sl).v := by show b5 ∈ [b5]; simp
  have hkd : kc < dc.leaves.length := by rw [← hD.len]; exact hk
  have hz := hK03.size
  have hKb : Keeps (Only b5) w10 (w10.setCell ⟨b5, kc * 2 + 1, none⟩ s.v) := (Keeps.refl (Only b5) _).set (p := ⟨b5, kc * 2 + 1, none⟩) rfl _
  have h1 : DictM 69 66 (w10.setCell ⟨b5, kc * 2 + 1, none⟩ s.v) gb (setL dc kc E) tc ⟨some ⟨b5, 0, none⟩, pc.length, cc⟩ (pc.set kc (pc[kc].1, s)) := by
    have := hD.setE (dp := pc[kc].1) (a := s) hk (Keeps.refl _ _) hE (fun q hq => .inr fun hq' => by have := hs q hq; have := hlow q hq'; omega) hKb (rowP_setE hD.lvs hk)
    rw [hD.dep kc hk hkd, ← leafAt_get hkd] at this ⊢
    exact this
  have hg3 := h3.low
  have h2 : DictM 69 66 (w10.setCell ⟨b5, kc * 2 + 1, none⟩ s.v) g d t l ps := (h3.non hK310).keep hKb fun q hq e => by unfold Only at e; subst e; have := hg3 _ hq; have := hN _ (foot_l hb5); omega
  have hF : ∀ q ∈ foot gb tc ⟨some ⟨b5, 0, none⟩, pc.length, cc⟩ (pc.set kc (pc[kc].1, s)), w3.heap.size ≤ q := fun q hq => by
    rcases mem_foot.1 hq with e | e | e | e
    · exact hN q (e ▸ foot_g)
    · exact hN q (foot_t e)
    · exact hN q (foot_l e)
    · obtain ⟨i, hi, hqi⟩ := mem_ents.1 e
      rw [List.getElem_set] at hqi
      by_cases hik : kc = i
      · rw [if_pos hik] at hqi; have := hs q hqi; omega
      · rw [if_neg hik] at hqi
        exact hN q (mem_foot.2 (.inr (.inr (.inr (mem_ents.2 ⟨i, by simpa using hi, hqi⟩)))))
  have hgF : g ∉ foot gb tc ⟨some ⟨b5, 0, none⟩, pc.length, cc⟩ (pc.set kc (pc[kc].1, s)) := fun hq => by have := hF g hq; have := hg3 g foot_g; omega
  refine ⟨h1, h2, tc, _, _, h1.move h2.blk hgF, ?_, fun q hq => ?_⟩
  · have a1 : Keeps (· ∈ foot g t l ps) w (w10.setCell ⟨b5, kc * 2 + 1, none⟩ s.v) := ((hK03.non hK310).of_non).setNew (p := ⟨b5, kc * 2 + 1, none⟩) (by have := hN _ (foot_l hb5); show w.heap.size ≤ b5; omega) _
    exact (((a1.set (p := ⟨g, 0, none⟩) foot_g _).set (p := ⟨g, 1, none⟩) foot_g _).set (p := ⟨g, 2, none⟩) foot_g _).set (p := ⟨g, 3, none⟩) foot_g _
  · rcases List.mem_cons.1 hq with e | e
    · exact .inl (e ▸ foot_g)
    · have := hF q (List.mem_cons_of_mem _ e); exact .inr (by omega)
theorem putL_fit {f : Nat} {d : Dic} {e : Ent} (h : fitE (ins (leafAt d (kOf d e.name)).l e) = true) : putL (f + 1) d e = some (setL d (kOf d e.name) (ins (leafAt d (kOf d e.name)).l e)) := by unfold putL; rw [if_pos h]
theorem putL_small {f : Nat} {d : Dic} {e : Ent} (h : fitE (ins (leafAt d (kOf d e.name)).l e) = false) (hs : d.small = true) : putL (f + 1) d e = putL f { d with small := false } e := by
  conv => lhs; unfold putL
  rw [if_neg (by simp [h]), if_pos hs]
theorem putL_full {f : Nat} {d : Dic} {e : Ent} (h : fitE (ins (leafAt d (kOf d e.name)).l e) = false) (hs : d.small = false) (h5 : (leafAt d (kOf d e.name)).depth = 5) : putL (f + 1) d e = none := by
  conv => lhs; unfold putL
  rw [if_neg (by simp [h]), if_neg (by simp [hs]), if_pos h5]
theorem putL_split {f : Nat} {d : Dic} {e : Ent} (h : fitE (ins (leafAt d (kOf d e.name)).l e) = false) (hs : d.small = false) (h5 : (leafAt d (kOf d e.name)).depth ≠ 5) : putL (f + 1) d e = putL f (splitD d (kOf d e.name)) e := by
  conv => lhs; unfold putL
  rw [if_neg (by simp [h]), if_neg (by simp [hs]), if_neg h5]
end Go.Proofs.Ytiieglfpmmhfiaa
namespace Go.Proofs.Ytiieglfpmmhfiaa
set_option maxRecDepth 100000
open Go.RowKit Go.Uc

instance : DecidableEq Ent := fun a b => decidable_of_iff (a.name = b.name ∧ a.val = b.val) ⟨fun h => Ent.ext' h.1 h.2, fun h => by rw [h]; exact ⟨rfl, rfl⟩⟩
theorem take_eq_succ {a b : List Ent} {k : Nat} (hk : k < a.length) (hb : k < b.length) (h : a.take k = b.take k) : a.take (k + 1) = b.take (k + 1) ↔ a[k] = b[k] := by
  rw [List.take_succ_eq_append_getElem hk, List.take_succ_eq_append_getElem hb, h]
  constructor
  · intro e
    have := List.append_cancel_left e
    injection this
  · intro e; rw [e]
set_option maxHeartbeats 2000000 in
theorem sameE_any {w : World} {sa sb : Sl} {a b : List Ent} (ha : RowE w sa.v a) (hb : RowE w sb.v b) :
    Calls Try.prog 11 #[sa.v, sb.v] w fun e w' => e = .returned (.bool (decide (a = b))) ∧ ∃ q, w' = w.drewN q := by
  obtain ⟨aA, ac, hae, hle1, hle2⟩ := ha.val
  have hmx : a.length ≤ 9223372036854775807 := by unfold maxLen at hle2; omega
  clear hle1 hle2
  obtain ⟨bA, bc, hbe, -, -⟩ := hb.val
  rw [hae, hbe]
  rw [hae] at ha
  rw [hbe] at hb
  clear hae hbe
  by_cases hl : a.length = b.length
  · have hlb : ((a.length : Int) != (b.length : Int)) = false := by simp [hl]
    have HL := Lib.hid hl
    clear hl
    go_enter Try.func11, Try.ntmps11
    go_upto_region 4 with fail
    go_loopw [5] (fun i wr => ∃ k, k ≤ a.length ∧ i = .int .i64 (k : Int) ∧ Hid (a.take k = b.take k) ∧ ∃ q, wr = w.drewN q) (fun i _ => a.length - (intOf i).toNat)
    case atStart => exact ⟨0, Nat.zero_le _, rfl, rfl, 0, rfl⟩
    case round =>
      obtain ⟨k, hk, rfl, hE, q, hq⟩ := hrel
      obtain ⟨wx, rfl⟩ : ∃ W : World, W = wr := ⟨_, rfl⟩
      have hK : Keeps Non w wx := by rw [hq]; exact (Keeps.refl _ _).drewN q
      have HQ := Lib.hid hq
      clear hq
      by_cases hlt : k < a.length
      · have hltb : k < b.length := by have := HL.out; omega
        obtain ⟨ga, ca, ea, -, x0, x1, -, -⟩ := rowE_at ((ha.non hK).non (Keeps.refl Non wx).drew) hlt
        obtain ⟨gb, cb, eb, -, y0, y1, -, -⟩ := rowE_at ((hb.non hK).non (Keeps.refl Non wx).drew) hltb
        injection ea with ea1 ea2 ea3
        injection eb with eb1 eb2 eb3
        clear ea2 eb2
        subst ea1 ea3 eb1 eb3
        have HTK := Lib.hid (take_eq_succ hlt hltb hE.out)
        have HAB : Hid (a.take (k + 1) ≠ b.take (k + 1) → a ≠ b) := Lib.hid (fun h e => h (by rw [e]))
        have hi1 : (k : Int) < (a.length : Int) := by omega
        have hi2 : (k : Int) < (b.length : Int) := by omega
        generalize a[k] = ea at x0 x1 HTK
        generalize b[k] = eb at y0 y1 HTK
        by_cases hn : (str ea.name).toList = (str eb.name).toList
        · by_cases hv : ea.val = eb.val
          · have HEE : Hid (ea = eb) := Lib.hid (Ent.ext' (by rw [str_toList, str_toList] at hn; exact hn) hv)
            go_upto_region 6 with fail
            go_region
            go_wp2_with fail
            go_roundw
            case rel => exact ⟨k + 1, by omega, by go_num, Lib.hid (HTK.out.2 HEE.out), q + 1, by rw [HQ.out]; rfl⟩
            case measure => simp [intOf]; omega
          · have HD : Hid (decide (a = b) = false) := Lib.hid (decide_eq_false (HAB.out fun e => hv (by rw [HTK.out.1 e])))
            go_upto_region 6 with fail
            go_region
            go_wp2_with fail
            go_ret
            exact ⟨by rw [HD.out]; rfl, q + 1, by rw [HQ.out]; rfl⟩
        · have HD : Hid (decide (a = b) = false) := Lib.hid (decide_eq_false (HAB.out fun e => hn (by rw [HTK.out.1 e])))
          go_upto_region 6 with fail
          go_region
          go_wp2_with fail
          go_ret
          exact ⟨by rw [HD.out]; rfl, q + 1, by rw [HQ.out]; rfl⟩
      · obtain rfl : k = a.length := by omega
        have hab : a = b := by
          have := hE.out
          rw [List.take_of_length_le (Nat.le_refl _), List.take_of_length_le (by have := HL.out; omega)] at this
          exact this
        have HD : Hid (decide (a = b) = true) := Lib.hid (decide_eq_true hab)
        go_wp2_with fail
        go_ret
        exact ⟨by rw [HD.out]; rfl, q, HQ.out⟩
  · have hlb : ((a.length : Int) != (b.length : Int)) = true := by simp; omega
    have HD : Hid (decide (a = b) = false) := Lib.hid (decide_eq_false fun e => hl (by rw [e]))
    clear hl
    go_enter Try.func11, Try.ntmps11
    go_wp2_with fail
    go_ret
    exact ⟨by rw [HD.out]; rfl, 0, rfl⟩
def emptyD : Dic := ⟨true, 0, [0], [⟨0, []⟩]⟩
theorem empty_inv : Inv emptyD := by
  refine ⟨⟨⟨?_, ?_, ?_, ?_, ?_, ?_, ?_⟩, ?_, ?_, ?_, ?_⟩, ?_⟩
  · decide
  · decide
  · intro x hx; simp [emptyD] at hx ⊢; exact hx
  · decide
  · intro x hx; simp [emptyD] at hx; subst hx; exact List.Pairwise.nil
  · intro x hx; simp [emptyD] at hx; subst hx; decide
  · intro x hx; simp [emptyD] at hx; subst hx; decide
  · intro k hk
    simp [emptyD] at hk
    subst hk
    refine ⟨0, by decide, fun i hi => ?_⟩
    simp [emptyD] at hi
    subst hi
    decide
  · intro k hk e he; simp [emptyD] at hk; subst hk; simp [emptyD, leafAt] at he
  · intro k hk e he; simp [emptyD] at hk; subst hk; simp [emptyD, leafAt] at he
  · intro _; decide
  · exact ⟨0, by decide, by decide⟩
theorem val_empty (n : List UInt8) : val emptyD n = none := by
  unfold val kOf plc
  have : hash n % 2 ^ emptyD.depth = 0 := Nat.mod_one _
  rw [this]
  rfl
set_option maxHeartbeats 1000000 in
theorem new_any (w : World) : Calls Try.prog 8 #[] w fun e w' => ∃ g t l ps, e = .returned (.pointer (some ⟨g, 0, none⟩)) ∧ DictM 69 66 w' g emptyD t l ps ∧ (∀ q ∈ foot g t l ps, w.heap.size ≤ q) ∧ Keeps Non w w' := by
  have k1 := (Keeps.refl Non w).alloc (.cells #[.int .i64 0] 3)
  have b1 := Blk.new w 3 #[.int .i64 0]
  obtain ⟨w1, hw1⟩ : ∃ W : World, W = w.alloc (.cells #[.int .i64 0] 3) := ⟨_, rfl⟩
  rw [← hw1] at k1 b1
  have k2 := (Keeps.refl Non w1).alloc (.cells #[.int .i64 0, .slice none 0 0] 66)
  have b2 := Blk.new w1 66 #[.int .i64 0, .slice none 0 0]
  obtain ⟨w2, hw2⟩ : ∃ W : World, W = w1.alloc (.cells #[.int .i64 0, .slice none 0 0] 66) := ⟨_, rfl⟩
  rw [← hw2] at k2 b2
  have k3 := (Keeps.refl Non w2).alloc (.cells #[.bool true, .int .i64 0, .slice (some ⟨w.heap.size, 0, none⟩) 1 1, .slice (some ⟨w1.heap.size, 0, none⟩) 1 1] 69)
  have b3 := Blk.new w2 69 #[.bool true, .int .i64 0, .slice (some ⟨w.heap.size, 0, none⟩) 1 1, .slice (some ⟨w1.heap.size, 0, none⟩) 1 1]
  have z1 : w1.heap.size = w.heap.size + 1 := by rw [hw1]; simp
  have z2 : w2.heap.size = w1.heap.size + 1 := by rw [hw2]; simp
  have HM : Hid (DictM 69 66 (w2.alloc (.cells #[.bool true, .int .i64 0, .slice (some ⟨w.heap.size, 0, none⟩) 1 1, .slice (some ⟨w1.heap.size, 0, none⟩) 1 1] 69)) w2.heap.size emptyD ⟨some ⟨w.heap.size, 0, none⟩, 1, 1⟩ ⟨some ⟨w1.heap.size, 0, none⟩, 1, 1⟩ [(0, ⟨none, 0, 0⟩)]) := by
    refine Lib.hid ⟨b3, ?_, ?_, rfl, fun i hi hi' => ?_, fun i hi hi' => ?_, ?_⟩
    · have := RowP.mk (xs := [0]) encN_len (b1.non k2 |>.non k3) (cap := 1) (by simp) (by decide) rfl rfl
      exact this
    · have := RowP.mk (xs := [((0 : Nat), (⟨none, 0, 0⟩ : Sl))]) encP_len (b2.non k3) (cap := 1) (by simp) (by decide) rfl rfl
      exact this
    · simp at hi; subst hi; rfl
    · simp at hi; subst hi; exact RowP.nil _ _ _ _
    · show ([w2.heap.size, w.heap.size, w1.heap.size] : List Nat).Nodup
      simp; omega
  have HK : Hid (Keeps Non w (w2.alloc (.cells #[.bool true, .int .i64 0, .slice (some ⟨w.heap.size, 0, none⟩) 1 1, .slice (some ⟨w1.heap.size, 0, none⟩) 1 1] 69))) := Lib.hid ((k1.non k2).non k3)
  have HN : Hid (∀ q ∈ foot w2.heap.size ⟨some ⟨w.heap.size, 0, none⟩, 1, 1⟩ ⟨some ⟨w1.heap.size, 0, none⟩, 1, 1⟩ [(0, ⟨none, 0, 0⟩)], w.heap.size ≤ q) := Lib.hid (fun q hq => by
    have hq' : q ∈ ([w2.heap.size, w.heap.size, w1.heap.size] : List Nat) := hq
    simp at hq'
    omega)
  rw [z2, z1] at HM HN
  rw [z1] at HK
  subst hw2
  subst hw1
  clear k1 b1 k2 b2 k3 b3 z1 z2
  go_enter Try.func8, Try.ntmps8
  go_wp2_with fail
  go_ret
  exact ⟨_, _, _, _, rfl, HM.out, HN.out, HK.out⟩
def pickN (c : Int) (n : Nat) : Nat := ((if c < 0 then -(c + 1) else c) % (n : Int)).toNat
set_option maxHeartbeats 1000000 in
theorem pick_any (c : Int) (n : Nat) (hn : 0 < n) (hn2 : n ≤ 9223372036854775807) (h1 : -9223372036854775808 ≤ c) (h2 : c ≤ 9223372036854775807) (w : World) : Calls Try.prog 10 #[.int .i64 c, .int .i64 (n : Int)] w fun e w' => e = .returned (.int .i64 (pickN c n : Int)) ∧ w' = w := by
  have hn0 : ¬ ((n : Int) = 0) := by omega
  have hnb : ((n : Int) == 0) = false := by simp; omega
  have hm : ¬ ((n : Int) = -1) := by omega
  have hmb : ((n : Int) == -1) = false := by simp
  have hP : (pickN c n : Int) = (if c < 0 then -(c + 1) else c) % (n : Int) := by
    unfold pickN
    have := Int.emod_nonneg (if c < 0 then -(c + 1) else c) (show (n : Int) ≠ 0 by omega)
    omega
  have HP := Lib.hid hP
  clear hP
  by_cases hc : c < 0
  · have hpos : 0 ≤ -(c + 1) := by omega
    have HT : Hid (-(Int.tmod (c + 1) (n : Int)) = (pickN c n : Int)) := Lib.hid (by rw [HP.out, if_pos hc, ← Int.neg_tmod, Int.tmod_eq_emod_of_nonneg hpos])
    go_enter Try.func10, Try.ntmps10
    go_wp2_with fail
    go_ret
    exact ⟨by rw [← HT.out]; rfl, rfl⟩
  · have hpos : 0 ≤ c := by omega
    have HT : Hid (c % (n : Int) = (pickN c n : Int)) := Lib.hid (by rw [HP.out, if_neg hc])
    go_enter Try.func10, Try.ntmps10
    go_wp2_with fail
    go_ret
    exact ⟨by rw [← HT.out]; rfl, rfl⟩
def getR (o : Option Int) : Int × Bool :=
  match o with
  | some v => (v, true)
  | none => (0, false)
theorem getE_lb {l : List Ent} (hs : Srt l) (n : List UInt8) : getE l n = if h : lb l n < l.length then (if l[lb l n].name = n then some l[lb l n].val else none) else none := by
  have hh := has_lb hs n
  rw [has_getE] at hh
  cases hg : getE l n with
  | none =>
    rw [hg] at hh
    split
    · rename_i h1
      split
      · rename_i h2; have := hh.2 ⟨h1, h2⟩; cases this
      · rfl
    · rfl
  | some v =>
    rw [hg] at hh
    obtain ⟨h1, h2⟩ := hh.1 rfl
    rw [dif_pos h1, if_pos h2]
    unfold getE at hg
    obtain ⟨e, he, hv⟩ := Option.map_eq_some_iff.1 hg
    have hm := List.mem_of_find?_eq_some he
    have hn : e.name = n := by have := List.find?_some he; simpa using this
    have hpw : l.Pairwise fun a b => a.name ≠ b.name := hs.imp fun h => lt_ne h
    obtain ⟨i, hi, rfl⟩ := List.getElem_of_mem hm
    have hil : i = lb l n := by
      rcases Nat.lt_trichotomy i (lb l n) with h | h | h
      · exact absurd (hn.trans h2.symm) ((List.pairwise_iff_getElem.1 hpw) i _ hi h1 h)
      · exact h
      · exact absurd (h2.trans hn.symm) ((List.pairwise_iff_getElem.1 hpw) _ i h1 hi h)
    rw [← hv]
    subst hil
    rfl
end Go.Proofs.Ytiieglfpmmhfiaa
namespace Go.Proofs.Ytiieglfpmmhfiaa
set_option maxRecDepth 100000
open Go.RowKit Go.Uc

section law
variable {P : Program} {ops : Array Oper} {rest : List Oper} {o : Oper} {a : Act} {w : World} {Q : Exit → Act → World → Prop}
theorem step_copy_str {K : Act → World → Prop} {E : Prop} (hgd : o.guard = none) (d s : Operand) (dT sT : TypeId)
    (ho : o.op = .call { callee := .builtin .copy, args := #[d, s], argTypes := #[dT, sT] }) (elem : TypeId) (hu : P.underlying dT = some (.slice elem)) (hsz : (P.info? elem).map (·.size) = some 1)
    (g off dLen dCap : Nat) (hd : a.eval d = .slice (some ⟨g, off, none⟩) dLen dCap) (n : List UInt8) (hs : a.eval s = .string (str n))
    (cur : List UInt8) (t : TypeId) (hg : Blk w g t (pc cur)) (hle : n.length ≤ dLen) (hfit : off + n.length ≤ cur.length)
    (h : ∀ w', Blk w' g t (pc (cur.take off ++ (n ++ cur.drop (off + n.length)))) → Keeps (Only g) w w' → K (a.put o.dst (.int .i64 n.length)) w') :
    if Region.wanted o (yielded ops a.tmps) = true then Oper.wp P o a w K Q else E := by
  have hss : (str n).size = n.length := str_size n
  have hrun := Lib.run_copy_row_string (P := P) w dT sT o.type elem g off dLen dCap (str n) (pc cur) t hu hsz hg (by rw [hss]; exact hle) (by rw [hss, pc_size]; exact hfit)
  rw [hss] at hrun
  have e1 : ((pc cur).toList.take off ++ Lib.byteCells (str n).data.toList ++ (pc cur).toList.drop (off + n.length)).toArray = pc (cur.take off ++ (n ++ cur.drop (off + n.length))) := by
    simp [pc, Lib.byteCells, str, bv]
  rw [e1] at hrun
  have hw : Region.wanted o (yielded ops a.tmps) = true := by simp [Region.wanted, hgd]
  rw [if_pos hw]
  unfold Oper.wp
  simp [execOp, ho, resolve, invoke, builtin, hd, hs, hrun, Result.andThen]
  exact h _ (hg.row _) (Keeps.row _ _ _)
end law
theorem zero96 (w : World) : (zeroValue 96).run Try.prog w = .ok (.agg (pc (zeros 256))) w := by kernel_rfl
theorem build96 (a b c : Int) (w : World) : (Instr.build 96 #[(0, .int .u8 a), (1, .int .u8 b), (2, .int .u8 c)]).run Try.prog w = .ok (.agg (#[.int .u8 a, .int .u8 b, .int .u8 c] ++ pc (zeros 253))) w := by kernel_rfl
theorem build96r (a b : Int) (w : World) : (Instr.build 96 #[(0, .int .u8 a), (1, .int .u8 b)]).run Try.prog w = .ok (.agg (#[.int .u8 a, .int .u8 b] ++ pc (zeros 254))) w := by kernel_rfl
theorem info5 : (Try.prog.info? 5).map (·.size) = some 1 := by kernel_rfl
theorem info96 : (Try.prog.info? 96).map (·.size) = some 256 := by kernel_rfl
def entB (e : Ent) : List UInt8 := UInt8.ofNat e.name.length :: (e.name ++ le 4 e.val.toNat)
theorem entB_len (e : Ent) : (entB e).length = 5 + e.name.length := by simp [entB, le_length]; omega
theorem ents_len (l : List Ent) : (l.flatMap entB).length = roomE l := by
  induction l with
  | nil => rfl
  | cons x l ih => rw [List.flatMap_cons, List.length_append, ih, entB_len]; simp [roomE]
/-- A page's first bytes, noughts behind. -/
def pad (x : List UInt8) : List UInt8 := x ++ zeros (256 - x.length)
theorem pad_len {x : List UInt8} (h : x.length ≤ 256) : (pad x).length = 256 := by unfold pad; rw [List.length_append, zeros_length]; omega
theorem pad_set {x : List UInt8} (c : UInt8) (h : x.length < 256) : (pad x).set x.length c = pad (x ++ [c]) := by
  unfold pad
  rw [set_zeros x x.length 256 c h]
  simp
theorem pad_copy {x n : List UInt8} (_h : x.length + n.length ≤ 256) : (pad x).take x.length ++ (n ++ (pad x).drop (x.length + n.length)) = pad (x ++ n) := by
  unfold pad
  rw [List.take_left', List.drop_append, List.drop_eq_nil_of_le (by omega), zeros_drop]
  · simp [Nat.sub_sub]
  · rfl
def laidB (a b c : UInt8) (l : List Ent) : List UInt8 := pad ([a, b, c] ++ l.flatMap entB)
theorem ent_take (l : List Ent) (k : Nat) (hk : k < l.length) : (l.take (k + 1)).flatMap entB = (l.take k).flatMap entB ++ entB l[k] := by
  rw [List.take_succ_eq_append_getElem hk, List.flatMap_append]; simp

set_option maxHeartbeats 4000000 in
theorem laid_any (a b c : UInt8) (v : Value) (l : List Ent) (hf : fitE l = true) (hG : ∀ e ∈ l, GoodE e) (w : World) (hrow : RowE w v l) :
    Calls Try.prog 49 #[bv a, bv b, bv c, v] w fun e w' => e = .returned (.agg (pc (laidB a b c l))) ∧ Keeps Non w w' := by
  obtain ⟨A, cp, rfl, hc, -⟩ := hrow.val
  obtain ⟨h50, hroom⟩ := fitE_len hf
  have hz := zero96
  have hsz : (pc (zeros 256)).size = 256 := by rw [pc_size, zeros_length]
  have e0 : ((((pc (zeros 256)).setIfInBounds 0 (.int .u8 (a.toNat : Int))).setIfInBounds 1 (.int .u8 (b.toNat : Int))).setIfInBounds 2 (.int .u8 (c.toNat : Int))) = pc (pad [a, b, c]) := by
    show ((((pc (zeros 256)).setIfInBounds 0 (bv a)).setIfInBounds 1 (bv b)).setIfInBounds 2 (bv c)) = _
    rw [set_pc, set_pc, set_pc]
    rfl
  have E0 := Lib.hid e0
  clear e0
  have hlen3 : (pad [a, b, c]).length = 256 := pad_len (by simp)
  have hB0 : Blk ((w.alloc (.cells (pc (zeros 256)) 96)).alloc (.cells (pc (zeros 256)) 96)) (w.heap.size + 1) 96 (pc (zeros 256)) := by
    have := Blk.new (w.alloc (.cells (pc (zeros 256)) 96)) 96 (pc (zeros 256)); simpa using this
  have hR0 : Blk ((w.alloc (.cells (pc (zeros 256)) 96)).alloc (.cells (pc (zeros 256)) 96)) w.heap.size 96 (pc (zeros 256)) := (Blk.new w 96 (pc (zeros 256))).alloc _
  have hK0 : Keeps Non w ((w.alloc (.cells (pc (zeros 256)) 96)).alloc (.cells (pc (zeros 256)) 96)) := ((Keeps.refl _ _).alloc _).alloc _
  have HL3 := Lib.hid hlen3
  clear hlen3
  unfold bv
  go_enter Try.func49, Try.ntmps49
  go_upto_region 2 with ((with_reducible show wpList _ _ _ ({ dst := none, op := Op.store 96 _ _, type := _, pos := _, after := _, guard := _ } :: _) _ _); go_must (refine wpList_store_blk rfl 96 (.tmp 9) (.tmp 17) rfl (w.heap.size + 1) ((((pc (zeros 256)).setIfInBounds 0 (.int .u8 (a.toNat : Int))).setIfInBounds 1 (.int .u8 (b.toNat : Int))).setIfInBounds 2 (.int .u8 (c.toNat : Int))) rfl rfl 96 (pc (zeros 256)) hB0 (by rw [E0.out, pc_size, HL3.out]; exact info96) (by rw [E0.out, pc_size, pc_size, HL3.out, zeros_length]) (by rw [E0.out]; exact pc_all _) ?_); intro w1 hB1 hK1; rw [E0.out] at hB1)
  have hR1 := hR0.one hK1 (by omega)
  have hK01 : Keeps Non w w1 := hK0.then hK1 fun i hi e => by unfold Only at e; omega
  clear hB0 hR0 hK0 hK1 hz hsz
  obtain ⟨pb, hpb⟩ : ∃ b, b = w.heap.size + 1 := ⟨_, rfl⟩
  rw [← hpb] at hB1 ⊢
  obtain ⟨rb, hrb⟩ : ∃ b, b = w.heap.size := ⟨_, rfl⟩
  rw [← hrb] at hR1 ⊢
  have hpw : w.heap.size ≤ pb := by omega
  have hrw : w.heap.size ≤ rb := by omega
  have hpr : rb ≠ pb := by omega
  clear hpb hrb
  have hxl : ∀ k, ([a, b, c] ++ (l.take k).flatMap entB).length = 3 + roomE (l.take k) := fun k => by rw [List.length_append, ents_len]; rfl
  have HXL := Lib.hid hxl
  clear hxl
  go_upto_region 4 with fail
  go_loopw [10, 20] (fun at_ i wr => ∃ k, k ≤ l.length ∧ i = .int .i64 (k : Int) ∧ at_ = .int .i64 ((3 + roomE (l.take k) : Nat) : Int) ∧ Blk wr pb 96 (pc (pad ([a, b, c] ++ (l.take k).flatMap entB))) ∧ Blk wr rb 96 (pc (zeros 256)) ∧ Keeps Non w wr) (fun _ i _ => l.length - (intOf i).toNat)
  case atStart => exact ⟨0, Nat.zero_le _, rfl, rfl, hB1, hR1, hK01⟩
  case round =>
    obtain ⟨k, hk, rfl, rfl, hB, hRr, hK⟩ := hrel
    obtain ⟨wx, rfl⟩ : ∃ W : World, W = wr := ⟨_, rfl⟩
    clear hB1 hR1 hK01
    by_cases hlt : k < l.length
    · obtain ⟨eb, cap, ev, -, x0, x1, -, -⟩ := rowE_at (hrow.non hK) hlt
      injection ev with e1 e2 e3
      clear e2
      subst e1 e3
      have hge := hG l[k] (List.getElem_mem hlt)
      have htk := roomE_take l k hlt
      have hle := roomE_le l (k + 1)
      have het := ent_take l k hlt
      generalize l[k] = e at x0 x1 hge htk het
      obtain ⟨g1, g2, g3, g4⟩ := hge
      obtain ⟨n, v⟩ := e
      obtain ⟨m, hm⟩ : ∃ m : Nat, v = (m : Int) := ⟨v.toNat, by show v = _; simp at g3; omega⟩
      subst hm
      simp only at x0 x1 g1 g2 g3 g4 htk
      have hxl := HXL.out k
      have hxl1 := HXL.out (k + 1)
      have HET := Lib.hid het
      have HTK := Lib.hid htk
      obtain ⟨X, hX⟩ : ∃ X, X = [a, b, c] ++ (l.take k).flatMap entB := ⟨_, rfl⟩
      rw [← hX] at hB hxl
      have HX := Lib.hid hX
      have HXL1 := Lib.hid hxl1
      have hpb : 3 + roomE (l.take k) + 5 + n.length ≤ 256 := by omega
      obtain ⟨p, hp⟩ : ∃ p, p = 3 + roomE (l.take k) := ⟨_, rfl⟩
      rw [← hp] at hxl hpb ⊢
      have HP := Lib.hid hp
      clear hX hp het htk hle hxl1
      go_upto_region 6 with fail
      have hk2 := (Keeps.refl Non wx).alloc (.cells #[.string (str n), .int .i64 (m : Int)] 56)
      have hE2 := Blk.new wx 56 #[.string (str n), .int .i64 (m : Int)]
      obtain ⟨w2, hw2⟩ : ∃ W : World, W = wx.alloc (.cells #[.string (str n), .int .i64 (m : Int)] 56) := ⟨_, rfl⟩
      obtain ⟨xb, hxb⟩ : ∃ b, b = wx.heap.size := ⟨_, rfl⟩
      rw [← hw2] at hk2 hE2 ⊢
      have hxp : xb ≠ pb := by have := hB.lt; omega
      rw [← hxb] at hE2 ⊢
      clear hw2 hxb x0 x1
      have hB2 := hB.non hk2
      have hRr2 := hRr.non hk2
      have hK2 := hK.non hk2
      have y0 : w2.cell? ⟨xb, 0, none⟩ = some (.string (str n)) := hE2.cell 0
      have hpad : (pad X).length = 256 := pad_len (by omega)
      have y2 : w2.cell? ⟨pb, p, none⟩ = some (bv ((pad X)[p]'(by omega))) := by rw [hB2.cell, pc_get, List.getElem?_eq_getElem (by omega)]; rfl
      have y3 := hB2.frozen p
      have hss : (str n).size = n.length := str_size n
      have hp256 : (p : Int) < 256 := by omega
      have hB3 := hB2.set p (bv (UInt8.ofNat n.length))
      rw [set_pc, ← hxl, pad_set _ (by omega), hxl, bv_ofNat _ (by omega)] at hB3
      have hK3 : Keeps (Only pb) w2 (w2.setCell ⟨pb, p, none⟩ (.int .u8 (n.length : Int))) := (Keeps.refl (Only pb) _).set (p := ⟨pb, p, none⟩) rfl _
      go_upto_region 8 with fail
      obtain ⟨p1, hp1⟩ : ∃ q, q = p + 1 := ⟨_, rfl⟩
      rw [show (p : Int) + 1 = (p1 : Int) by omega]
      obtain ⟨w3, hw3⟩ : ∃ W : World, W = w2.setCell ⟨pb, p, none⟩ (.int .u8 (n.length : Int)) := ⟨_, rfl⟩
      rw [← hw3] at hB3 hK3 ⊢
      clear hw3 y2 y3
      have hx1 : (X ++ [UInt8.ofNat n.length]).length = p1 := by rw [List.length_append, hxl, hp1]; rfl
      have hE3 := hE2.one hK3 hxp
      have hR3 := hRr2.one hK3 hpr
      have hK03 : Keeps Non w w3 := hK2.then hK3 fun i hi e => by unfold Only at e; omega
      have y0 : w3.drew.cell? ⟨xb, 0, none⟩ = some (.string (str n)) := hE3.cell 0
      have hp1i : (p1 : Int) ≤ 256 := by omega
      have hpc : p1 + n.length ≤ 256 := by omega
      have hB3d := hB3.drew
      have h256 : ¬ 256 = p1 := by omega
      have hpl : (pad (X ++ [UInt8.ofNat n.length])).length = 256 := pad_len (by omega)
      have hcp := pad_copy (x := X ++ [UInt8.ofNat n.length]) (n := n) (by omega)
      rw [hx1] at hcp
      have HCP := Lib.hid hcp
      have HPL := Lib.hid hpl
      have HX1 := Lib.hid hx1
      have HP1 := Lib.hid hp1
      clear hp1 hcp hpl hx1 hpad hxl
      obtain ⟨p2, hp2⟩ : ∃ q, q = p1 + n.length := ⟨_, rfl⟩
      have hwr : IntKind.i64.wrap ((p1 : Int) + (n.length : Int)) = (p2 : Int) := by rw [IntKind.wrap_i64]; omega
      have HP2 := Lib.hid hp2
      clear hp2
      go_region_law (first
        | (go_loud (refine step_copy_str (o := ⟨some 37, _, _, _, _, _⟩) rfl (.tmp 34) (.tmp 36) 53 9 rfl 5 Try.underlying53 info5 pb p1 (256 - p1) (256 - p1) rfl n rfl (pad (X ++ [UInt8.ofNat n.length])) 96 hB3d (by omega) (by rw [HPL.out]; exact hpc) ?_; intro w4 hB4 hK4; rw [HCP.out] at hB4)))
      have hp2i : (p1 : Int) + (n.length : Int) ≤ 256 := by omega
      have hE4 := hE3.drew.one hK4 hxp
      have hR4 := hR3.drew.one hK4 hpr
      have hK04 : Keeps Non w w4 := (hK03.drew).then hK4 fun i hi e => by unfold Only at e; omega
      have hp24 : p2 + 4 ≤ 256 := by have := HP1.out; have := HP2.out; omega
      have y1 : w4.cell? ⟨xb, 1, none⟩ = some (.int .i64 (m : Int)) := hE4.cell 1
      have hB4' : Blk w4 pb 96 (pc (pad (X ++ [UInt8.ofNat n.length] ++ n ++ le 0 m))) := by show Blk w4 pb 96 (pc (pad (_ ++ []))); rw [List.append_nil]; exact hB4
      have hx2 : ∀ j, (X ++ [UInt8.ofNat n.length] ++ n ++ le j m).length = p2 + j := fun j => by rw [List.length_append, List.length_append, HX1.out, le_length, HP2.out]
      have HX2 := Lib.hid hx2
      clear y0 HCP hx2 hB3 hK3 hB3d h256 hwr
      go_upto_region 10 with fail
      go_loopw [10, 39] (fun at_ i wr => ∃ j : Nat, j ≤ 4 ∧ i = .int .i64 (j : Int) ∧ at_ = .int .i64 ((p2 + j : Nat) : Int) ∧ Blk wr pb 96 (pc (pad (X ++ [UInt8.ofNat n.length] ++ n ++ le j m))) ∧ Keeps (Only pb) w4 wr) (fun _ i _ => 4 - (intOf i).toNat)
      case atStart => exact ⟨0, by omega, rfl, rfl, hB4', Keeps.refl _ _⟩
      case round =>
        obtain ⟨j, hj, rfl, rfl, hBj, hKj⟩ := hrel
        obtain ⟨wy, rfl⟩ : ∃ W : World, W = wr := ⟨_, rfl⟩
        by_cases hj4 : j < 4
        · have y1 : wy.cell? ⟨xb, 1, none⟩ = some (.int .i64 (m : Int)) := (hE4.one hKj hxp).cell 1
          have hxj := HX2.out j
          have hpj : (pad (X ++ [UInt8.ofNat n.length] ++ n ++ le j m)).length = 256 := pad_len (by omega)
          obtain ⟨z, y2⟩ : ∃ z, wy.cell? ⟨pb, p2 + j, none⟩ = some z := ⟨bv ((pad (X ++ [UInt8.ofNat n.length] ++ n ++ le j m))[p2 + j]'(by omega)), by rw [hBj.cell, pc_get, List.getElem?_eq_getElem (by omega)]; rfl⟩
          have y3 := hBj.frozen (p2 + j)
          have hBs := hBj.set (p2 + j) (bv (UInt8.ofNat (m / 256 ^ j % 256)))
          rw [set_pc, ← hxj, pad_set _ (by omega), hxj, ← shr_byte, List.append_assoc, ← le_snoc] at hBs
          have hKs : Keeps (Only pb) w4 (wy.setCell ⟨pb, p2 + j, none⟩ (.int .u8 ((m : Int) / 2 ^ (8 * j) % 256))) := hKj.set (p := ⟨pb, p2 + j, none⟩) rfl _
          obtain ⟨q, hq⟩ : ∃ q, q = p2 + j := ⟨_, rfl⟩
          rw [← hq] at y2 y3 hBs hKs ⊢
          have hqi : (q : Int) < 256 := by omega
          have hm0 : (0 : Int) ≤ (m : Int) := by omega
          have HQ := Lib.hid hq
          clear hq hxj hpj
          have hj3 : j = 0 ∨ j = 1 ∨ j = 2 ∨ j = 3 := by omega
          clear hj4 hj
          rcases hj3 with rfl | rfl | rfl | rfl
          · go_wp2_with fail
            go_roundw
            case rel => exact ⟨1, by omega, rfl, by have := HQ.out; go_num, by simpa using hBs, by simpa using hKs⟩
            case measure => simp [intOf]
          · go_wp2_with fail
            go_roundw
            case rel => exact ⟨2, by omega, rfl, by have := HQ.out; go_num, by simpa using hBs, by simpa using hKs⟩
            case measure => simp [intOf]
          · go_wp2_with fail
            go_roundw
            case rel => exact ⟨3, by omega, rfl, by have := HQ.out; go_num, by simpa using hBs, by simpa using hKs⟩
            case measure => simp [intOf]
          · go_wp2_with fail
            go_roundw
            case' rel => have hd : (m : Int) / 16777216 % 256 = (m : Int) / 16777216 := by omega
            case rel => exact ⟨4, by omega, rfl, by have := HQ.out; go_num, by simpa [hd] using hBs, by simpa [hd] using hKs⟩
            case measure => simp [intOf]
        · obtain rfl : j = 4 := by omega
          have HXE : Hid ([a, b, c] ++ (l.take (k + 1)).flatMap entB = X ++ [UInt8.ofNat n.length] ++ n ++ le 4 m) := Lib.hid (by rw [HET.out, HX.out]; simp [entB])
          have HPE : Hid (p2 + 4 = 3 + roomE (l.take (k + 1))) := Lib.hid (by rw [HTK.out, HP2.out, HP1.out, HP.out]; omega)
          have hR6 := hR4.one hKj hpr
          have hK6 : Keeps Non w wy := hK04.then hKj fun i hi e => by unfold Only at e; omega
          go_wp2_with fail
          go_roundw
          case rel => exact ⟨k + 1, by omega, by go_num, by rw [← HPE.out], by rw [HXE.out]; exact hBj, hR6, hK6⟩
          case measure => simp [intOf]; omega
    · obtain rfl : k = l.length := by omega
      have hall : l.take l.length = l := List.take_of_length_le (Nat.le_refl _)
      rw [hall] at hB
      have hB' : Blk wx pb 96 (pc (laidB a b c l)) := hB
      have hLL : (laidB a b c l).length = 256 := by
        have := HXL.out l.length
        rw [hall] at this
        exact pad_len (by rw [this]; omega)
      clear hB
      have HLL := Lib.hid hLL
      clear hLL hall
      go_wp2_with ((with_reducible show wpList _ _ _ _ _ _); refine wpList_load_row (o := ⟨some 54, _, _, _, _, _⟩) rfl 96 (.tmp 9) rfl pb rfl 96 (pc (laidB a b c l)) (0, 0) (.array 256 5) hB' Try.underlying96 rfl (by rw [pc_size, HLL.out]; exact info96) ?_; refine wpList_store_blk rfl 96 (.tmp 8) (.tmp 54) rfl rb (pc (laidB a b c l)) rfl rfl 96 (pc (zeros 256)) hRr (by rw [pc_size, HLL.out]; exact info96) (by rw [pc_size, pc_size, HLL.out, zeros_length]) (pc_all _) ?_; intro w7 hR8 hK8; have hK9 : Keeps Non w w7 := hK.then hK8 (fun i hi e => absurd e (by show ¬ i = rb; omega)))
      refine bodyPost_ret (results_cell_blk (ty := 96) rfl _ rb 96 _ (.array 256 5) rfl hR8 Try.underlying96 rfl (by rw [pc_size, HLL.out]; exact info96)) rfl ⟨rfl, hK9⟩
end Go.Proofs.Ytiieglfpmmhfiaa
namespace Go.Proofs.Ytiieglfpmmhfiaa
set_option maxRecDepth 100000
open Go.RowKit Go.Uc

theorem info5' : (Try.prog.info? 5).map (fun i => (i.zero, i.size, i.bytes)) = some (some (.int .u8 0), 1, 1) := by kernel_rfl
def encU (c : UInt8) : List Value := [bv c]
theorem encU_len (c : UInt8) : (encU c).length = 1 := rfl
theorem encU_one (c : UInt8) : ∀ u ∈ encU c, u.oneCell' = true := by intro u hu; simp [encU] at hu; subst hu; rfl
theorem flat_encU (bs : List UInt8) : bs.flatMap encU = bs.map bv := by
  induction bs with
  | nil => rfl
  | cons x bs ih => rw [List.flatMap_cons, ih]; rfl
/-- A row of bytes. -/
abbrev RowU (w : World) (v : Value) (bs : List UInt8) : Prop := RowP w 5 1 encU v bs
theorem RowU.at_ {w : World} {A : Option Addr} {n c : Nat} {bs : List UInt8} (h : RowU w (.slice A n c) bs) : n = bs.length ∧ At w A bs := by
  obtain ⟨A', c', e, -, -⟩ := h.val
  injection e with e1 e2 e3
  refine ⟨e2, fun i hi => ?_⟩
  obtain ⟨g, cap, e', -, -, hc, -⟩ := RowP.at_ encU_len h hi
  injection e' with e4 _ _
  refine ⟨_, e4, ?_⟩
  have := hc 0 (by decide)
  rw [show (⟨g, 0, none⟩ : Addr).add i = ⟨g, i, none⟩ from by unfold Addr.add; split <;> simp_all]
  simpa [encU] using this
set_option maxHeartbeats 1000000 in
theorem cloneU_any (A : Option Addr) (c : Nat) (bs : List UInt8) (w : World) (hA : At w A bs) (hn : bs.length ≤ 1000000000000) (hne : 0 < bs.length) :
    Calls Try.prog 50 #[.slice A bs.length c] w fun e w' => ∃ s : Sl, e = .returned s.v ∧ RowU w' s.v bs ∧ New w s ∧ Keeps Non w w' := by
  have he := fun (w : World) (a : Option Addr) (n c : Nat) => Lib.run_eql_slice_nil (P := Try.prog) w 53 5 a n c 0 0 Try.underlying53
  obtain ⟨ad, rfl, -⟩ := hA 0 hne
  have hO : RowU (w.alloc (.cells #[] 5)) (.slice (some ⟨w.heap.size, 0, none⟩) 0 0) [] := RowP.lit encU_len w 5 [] #[] rfl (by decide)
  have hA2 : Ats (w.alloc (.cells #[] 5)) (some ad) (bs.flatMap encU) := by rw [flat_encU]; exact (hA.ats).non ((Keeps.refl Non w).alloc _)
  have hnw : ∀ k ∈ own (.slice (some ⟨w.heap.size, 0, none⟩) 0 0), w.heap.size ≤ k := fun k hk => by rw [own_slice] at hk; simp at hk; omega
  go_enter Try.func50, Try.ntmps50
  go_wp2_with (at_builtin; go_must (refine wpList_append_row rfl (.tmp 5) (.tmp 6) 53 rfl 5 1 encU _ 1 Try.underlying53 info5' rfl (by decide) encU_len encU_one _ [] rfl hO (some ad) bs.length c bs rfl rfl hA2 (by unfold maxLen; simp; omega) (by simp; omega) ?_); intro v2 w2 hO2 hK2 hat)
  go_ret
  obtain ⟨s, rfl, -⟩ := RowP.sl hO2
  exact ⟨s, rfl, by simpa using hO2, own_new hnw (by simp) hat, keeps_own ((Keeps.refl Non w).alloc _) hK2 hnw⟩

set_option maxHeartbeats 2000000 in
theorem get_any {w : World} {g : Nat} {d : Dic} {t l : Sl} {ps : List (Nat × Sl)} (h : DictM 69 66 w g d t l ps) (ho : Ok d) (n : List UInt8) (hn : n.length ≤ 9223372036854775807) :
    Calls Try.prog 25 #[.pointer (some ⟨g, 0, none⟩), .string (str n)] w fun e w' => e = .returned (.tuple #[.int .i64 (getR (val d n)).1, .bool (getR (val d n)).2]) ∧ Keeps Non w w' := by
  have hkd := kOf_lt ho n
  have hkp : kOf d n < ps.length := by rw [h.len]; exact hkd
  have HO := Lib.hid (of_any h ho n hn)
  obtain ⟨k, hk⟩ : ∃ k, k = kOf d n := ⟨_, rfl⟩
  rw [← hk] at hkd hkp HO
  have HK := Lib.hid hk
  clear hk
  obtain ⟨lA, lc, hle, -, -⟩ := h.lvs.val
  obtain rfl : l = ⟨lA, ps.length, lc⟩ := by cases l; injection hle with h1 h2 h3; subst h1 h2 h3; rfl
  clear hle
  obtain ⟨bl, cl, e2, -⟩ := rowP_at h.lvs hkp
  injection e2 with e2 e2b e2c
  clear e2b
  subst e2 e2c
  obtain ⟨L, hL⟩ : ∃ L, L = (leafAt d k).l := ⟨_, rfl⟩
  have hLs : Srt L := by rw [hL]; exact ho.srt _ (leaf_mem hkd)
  have hLn : L.length ≤ 50 := by rw [hL]; exact (fitE_len (ho.fit _ (leaf_mem hkd))).1
  have hE : RowE w ps[k].2.v L := by rw [hL, leafAt_get hkd]; exact h.ent k hkp hkd
  have hV : val d n = getE L n := by unfold val; rw [hL, ← HK.out]
  have HL := Lib.hid hL
  clear hL
  have HV := Lib.hid hV
  clear hV
  have HG := Lib.hid (getE_lb hLs n)
  have HF := Lib.hid (fun W (hW : Keeps Non w W) => find_any ps[k].2.v L n (by omega) hLs W (hE.non hW))
  obtain ⟨eA, ec, hev, hec, -⟩ := hE.val
  rw [hev] at HF
  have HEV := Lib.hid hev
  clear hev
  have HHL := Lib.hid (has_lb hLs n)
  obtain ⟨hb, hhb⟩ : ∃ b, b = has L n := ⟨_, rfl⟩
  have HHB := Lib.hid hhb
  rw [← hhb] at HF
  clear hhb
  go_enter Try.func25, Try.ntmps25
  go_upto_region 2 with ((go_at_call 27; refine HO.out.mono ?_; rintro e _ ⟨⟨b2, hb2, rfl⟩, q2, rfl⟩))
  obtain ⟨w2, hw2⟩ : ∃ W : World, W = w.drewN q2 := ⟨_, rfl⟩
  have hK2 : Keeps Non w w2 := by rw [hw2]; exact (Keeps.refl _ _).drewN q2
  rw [← hw2]
  obtain rfl : b2 = bl := by injection hb2 with e; injection e with e; exact e.symm
  clear hw2 hb2 HO
  have x1 : w2.cell? ⟨b2, k * 2 + 1, none⟩ = some (.slice eA L.length ec) := by
    obtain ⟨b3, _, e3, -, -, x1, -⟩ := rowP_at (h.non hK2).lvs hkp
    injection e3 with e3
    injection e3 with e3
    injection e3 with e3
    rw [e3, x1, HEV.out]
  have HF2 := Lib.hid (HF.out w2 hK2)
  clear HF
  go_upto_if 22 with ((go_at_call 28; refine HF2.out.mono ?_; rintro e w3 ⟨rfl, hK3⟩))
  clear HF2
  have hK23 := hK2.non hK3
  cases hb
  case true =>
    obtain ⟨hlt, hat⟩ := HHL.out.1 HHB.out.symm
    have HR : Hid (getR (val d n) = (L[lb L n].val, true)) := Lib.hid (by rw [HV.out, HG.out, dif_pos hlt, if_pos hat]; rfl)
    have hE3 := hE.non hK23
    rw [HEV.out] at hE3
    obtain ⟨eb, ecap, ee, -, z0, z1, -, -⟩ := rowE_at hE3 hlt
    injection ee with e1 e2 e3
    clear e2
    subst e1 e3
    have y1 : w3.cell? ⟨b2, k * 2 + 1, none⟩ = some (.slice (some ⟨eb, 0, none⟩) L.length ec) := hK3.cell x1 id
    have hlti : (lb L n : Int) < (L.length : Int) := by omega
    clear hat
    generalize L[lb L n].val = vv at z1 HR
    go_wp2_with fail
    go_ret2
    exact ⟨by rw [HR.out]; rfl, hK23⟩
  case false =>
    have HR : Hid (getR (val d n) = (0, false)) := Lib.hid (by
      have h1 := HHB.out
      rw [has_getE] at h1
      rw [HV.out]
      cases hh : getE L n with
      | none => rfl
      | some x => rw [hh] at h1; cases h1)
    go_wp2_with fail
    go_ret2
    exact ⟨by rw [HR.out]; rfl, hK23⟩
end Go.Proofs.Ytiieglfpmmhfiaa
namespace Go.Proofs.Ytiieglfpmmhfiaa
set_option maxRecDepth 100000
open Go.RowKit Go.Uc

theorem laid_len {a b c : UInt8} {l : List Ent} (hf : fitE l = true) : (laidB a b c l).length = 256 := by
  have := (fitE_len hf).2
  exact pad_len (by rw [List.length_append, ents_len]; simp; omega)
set_option maxHeartbeats 4000000 in
theorem pages_small {w : World} {g : Nat} {d : Dic} {t l : Sl} {ps : List (Nat × Sl)} (h : DictM 69 66 w g d t l ps) (hi : Inv0 d) (hsm : d.small = true) :
    Calls Try.prog 22 #[.pointer (some ⟨g, 0, none⟩)] w fun e w' => ∃ (ob pb c : Nat), e = .returned (.slice (some ⟨ob, 0, none⟩) 1 1) ∧ Blk w' ob 53 #[.slice (some ⟨pb, 0, none⟩) 256 c] ∧ 256 ≤ c ∧ At w' (some ⟨pb, 0, none⟩) (laidB 109 (UInt8.ofNat (leafAt d 0).l.length) 0 (leafAt d 0).l) ∧ Keeps Non w w' := by
  have hl1 := (hi.sm hsm).2
  have hkd : 0 < d.leaves.length := by omega
  have hkp : 0 < ps.length := by rw [h.len]; exact hkd
  obtain ⟨L, hL⟩ : ∃ L, L = (leafAt d 0).l := ⟨_, rfl⟩
  rw [← hL]
  have hf : fitE L = true := by rw [hL]; exact hi.ok.fit _ (leaf_mem hkd)
  have hG : ∀ e ∈ L, GoodE e := by rw [hL]; exact hi.good 0 hkd
  have hE : RowE w ps[0].2.v L := by rw [hL, leafAt_get hkd]; exact h.ent 0 hkp hkd
  clear hL
  obtain ⟨h50, -⟩ := fitE_len hf
  have HLd := Lib.hid (laid_any 109 (UInt8.ofNat L.length) 0 ps[0].2.v L hf hG w hE)
  rw [bv_ofNat _ (by omega)] at HLd
  obtain ⟨eA, ec, hev, -, -⟩ := hE.val
  rw [hev] at HLd
  obtain ⟨lA, lc, hle, -, -⟩ := h.lvs.val
  have c0 : w.cell? ⟨g, 0, none⟩ = some (.bool true) := by rw [← hsm]; exact h.blk.cell 0
  have c3 : w.cell? ⟨g, 3, none⟩ = some (.slice lA ps.length lc) := by rw [← hle]; exact h.blk.cell 3
  obtain ⟨bl, cl, e2, -, -, x1, -, -⟩ := rowP_at h.lvs hkp
  rw [hle] at e2
  injection e2 with e2 e2b e2c
  clear e2b
  subst e2 e2c
  rw [hev] at x1
  have x1' : w.cell? ⟨bl, 1, none⟩ = some (.slice eA L.length ec) := x1
  have hkpi : (0 : Int) < (ps.length : Int) := by omega
  have hll := laid_len (a := 109) (b := UInt8.ofNat L.length) (c := 0) hf
  have HLL := Lib.hid hll
  obtain ⟨B, hB⟩ : ∃ B, B = laidB 109 (UInt8.ofNat L.length) 0 L := ⟨_, rfl⟩
  rw [← hB] at hll HLL HLd ⊢
  clear hll hB h hi hE hG hf hev hle hl1 hkd hsm x1
  have hz := zero96
  have hsz : (pc (zeros 256)).size = 256 := by rw [pc_size, zeros_length]
  generalize ps.length = pn at *
  change Hid (Calls Try.prog 49 #[.int .u8 109, .int .u8 (L.length : Int), .int .u8 0, .slice eA L.length ec] w _) at HLd
  go_enter Try.func22, Try.ntmps22
  go_upto_region 4 with (first
    | (go_at_call 49; refine HLd.out.mono ?_; rintro e w2 ⟨rfl, hK2⟩; have hB0 := Blk.new w2 96 (pc (zeros 256)); have hKa := (Keeps.refl Non w2).alloc (.cells (pc (zeros 256)) 96))
    | ((with_reducible show wpList _ _ _ ({ dst := none, op := Op.store 96 _ _, type := _, pos := _, after := _, guard := _ } :: _) _ _); go_must (refine wpList_store_blk rfl 96 (.tmp 4) (.tmp 27) rfl w2.heap.size (pc B) rfl rfl 96 (pc (zeros 256)) hB0 (by rw [pc_size, HLL.out]; exact info96) (by rw [pc_size, pc_size, HLL.out, zeros_length]) (pc_all _) ?_); intro w3 hB3 hK3))
  have hAt3 : At w3 (some ⟨w2.heap.size, 0, none⟩) B := At.blk hB3
  have HCl := Lib.hid (cloneU_any (some ⟨w2.heap.size, 0, none⟩) 256 B w3 hAt3 (by rw [HLL.out]; omega) (by rw [HLL.out]; omega))
  rw [HLL.out] at HCl
  have hK03 : Keeps Non w w3 := (hK2.non hKa).then hK3 fun i hi e => by unfold Only at e; have := hK2.size; omega
  clear hz hsz hB0 hKa hAt3
  generalize w2.heap.size = pb at *
  go_wp2_with ((go_at_call 50; refine HCl.out.mono ?_; rintro e w4 ⟨⟨sA, sn, sc⟩, rfl, hU4, hN4, hK4⟩))
  go_ret
  have hU5 : RowU w4 (.slice sA sn sc) B := hU4
  have hl := HLL.out
  obtain ⟨hsn, hAt4⟩ := hU5.at_
  obtain ⟨_, c5, e5, h5, -⟩ := hU5.val
  injection e5 with e6 e7 e8
  obtain ⟨g4, c4, e9, -⟩ := RowP.at_ encU_len hU5 (i := 0) (by omega)
  injection e9 with e10 e11 e12
  subst e10
  obtain rfl : sn = 256 := hsn.trans hl
  exact ⟨w4.heap.size, g4, sc, rfl, Blk.new w4 53 _, by omega, hAt4.non ((Keeps.refl Non w4).alloc _), (hK03.non hK4).alloc _⟩
end Go.Proofs.Ytiieglfpmmhfiaa
