/- The document's split. The document's Put. -/
import Derived.Test.YtiieglfpmmhfiaaG12
import Derived.RegionTactic
import Derived.Deep.CutRange
namespace Go.Proofs.Ytiieglfpmmhfiaa
set_option maxRecDepth 100000
open Go.RowKit Go.Uc

section
variable {T L : TypeId} {w0 w w8 : World} {g : Nat} {d : Dic} {t l s8 : Sl} {ps : List (Nat × Sl)}
/-- Another depth told. -/
theorem Grown.dep (h : Grown T L w0 w g d t l ps) (n : Nat) : Grown T L w0 (w.setCell ⟨g, 1, none⟩ (.int .i64 (n : Int))) g { d with depth := n } t l ps := by
  have hn := nod_iff.1 h.m.nod
  have hK : Keeps (Only g) w (w.setCell ⟨g, 1, none⟩ (.int .i64 (n : Int))) := (Keeps.refl (Only g) _).set (p := ⟨g, 1, none⟩) rfl _
  exact ⟨⟨h.m.blk.set 1 _, h.m.tab.keep hK fun q hq e => hn.gt (by unfold Only at e; exact e ▸ hq), h.m.lvs.keep hK fun q hq e => hn.gl (by unfold Only at e; exact e ▸ hq), h.m.len, h.m.dep, fun i hi hi' => (h.m.ent i hi hi').keep hK fun q hq e => hn.ge (by unfold Only at e; subst e; exact mem_ents.2 ⟨i, hi, hq⟩), h.m.nod⟩,
    h.k.setNew (p := ⟨g, 1, none⟩) (h.n _ foot_g) _, h.n⟩
/-- No longer small. -/
theorem Grown.large (h : Grown T L w0 w g d t l ps) : Grown T L w0 (w.setCell ⟨g, 0, none⟩ (.bool false)) g { d with small := false } t l ps :=
  ⟨h.m.large, h.k.setNew (p := ⟨g, 0, none⟩) (h.n _ foot_g) _, h.n⟩
/-- Another table, of new memory. -/
theorem Grown.tabN (h : Grown T L w0 w g d t l ps) {T' : List Nat} (hK : Keeps Non w w8) (hO : RowN w8 s8.v T') (hs : ∀ q ∈ own s8.v, w.heap.size ≤ q) :
    Grown T L w0 (w8.setCell ⟨g, 2, none⟩ s8.v) g { d with table := T' } s8 l ps := by
  have hn := nod_iff.1 h.m.nod
  have hlow := h.m.low
  have k9 : Keeps (Only g) w8 (w8.setCell ⟨g, 2, none⟩ s8.v) := (Keeps.refl (Only g) _).set (p := ⟨g, 2, none⟩) rfl _
  have hg8 : g ∉ own s8.v := fun hq => by have := hs _ hq; have := hlow g foot_g; omega
  have h8 := h.m.non hK
  refine ⟨⟨h8.blk.set 2 s8.v, ?_, ?_, h.m.len, h.m.dep, ?_, nod_iff.2 (hn.table fun q hq => ?_)⟩, (h.k.non hK).setNew (p := ⟨g, 2, none⟩) (h.n _ foot_g) _, fun q hq => ?_⟩
  · exact hO.keep k9 fun q hq e => hg8 (by unfold Only at e; exact e ▸ hq)
  · exact h8.lvs.keep k9 fun q hq e => hn.gl (by unfold Only at e; exact e ▸ hq)
  · intro i hi hi'
    have hm : ∀ q ∈ own ps[i].2.v, q ∈ ents ps := fun q hq => mem_ents.2 ⟨i, hi, hq⟩
    exact (h8.ent i hi hi').keep k9 fun q hq e => hn.ge (by unfold Only at e; exact e ▸ hm q hq)
  · have hq' : ∀ x ∈ foot g t l ps, q ≠ x := fun x hx e => by have := hlow x hx; have := hs q hq; omega
    exact ⟨hq' _ foot_g, fun ht => hq' q (foot_l ht) rfl, fun he => hq' q (mem_foot.2 (.inr (.inr (.inr he)))) rfl⟩
  · have hz := h.k.size
    rcases mem_foot.1 hq with e | e | e | e
    · exact h.n q (e ▸ foot_g)
    · have := hs q e; omega
    · exact h.n q (foot_l e)
    · exact h.n q (mem_foot.2 (.inr (.inr (.inr e))))
/-- A leaf laid anew, of new memory. -/
theorem Grown.setLeaf {bl lc k dp : Nat} {a : Sl} {E : List Ent} (h : Grown T L w0 w g d t ⟨some ⟨bl, 0, none⟩, ps.length, lc⟩ ps) (hk : k < ps.length) (hE : RowE w a.v E) (ha : ∀ q ∈ own a.v, q ∉ foot g t ⟨some ⟨bl, 0, none⟩, ps.length, lc⟩ ps) (han : ∀ q ∈ own a.v, w0.heap.size ≤ q) :
    Grown T L w0 ((w.setCell ⟨bl, k * 2, none⟩ (.int .i64 (dp : Int))).setCell ⟨bl, k * 2 + 1, none⟩ a.v) g { d with leaves := d.leaves.set k ⟨dp, E⟩ } t ⟨some ⟨bl, 0, none⟩, ps.length, lc⟩ (ps.set k (dp, a)) := by
  have hbl : bl ∈ own (⟨some ⟨bl, 0, none⟩, ps.length, lc⟩ : Sl).v := by show bl ∈ [bl]; simp
  have hbn := h.n bl (foot_l hbl)
  have hK3 : Keeps (Only bl) w ((w.setCell ⟨bl, k * 2, none⟩ (.int .i64 (dp : Int))).setCell ⟨bl, k * 2 + 1, none⟩ a.v) := ((Keeps.refl (Only bl) _).set (p := ⟨bl, k * 2, none⟩) rfl _).set (p := ⟨bl, k * 2 + 1, none⟩) rfl _
  refine ⟨h.m.setE hk (Keeps.refl _ _) hE (fun q hq => .inr (ha q hq)) hK3 (rowP_set h.m.lvs hk), h.k.then hK3 fun i hi e => by unfold Only at e; omega, fun q hq => ?_⟩
  rcases mem_foot.1 hq with e | e | e | e
  · exact h.n q (e ▸ foot_g)
  · exact h.n q (foot_t e)
  · exact h.n q (foot_l e)
  · obtain ⟨i, hi, hqi⟩ := mem_ents.1 e
    rw [List.getElem_set] at hqi
    by_cases hik : k = i
    · rw [if_pos hik] at hqi; exact han q hqi
    · rw [if_neg hik] at hqi
      exact h.n q (mem_foot.2 (.inr (.inr (.inr (mem_ents.2 ⟨i, by simpa using hi, hqi⟩)))))
/-- A leaf's entries alone laid anew. -/
theorem Grown.setEnts {bl lc k : Nat} {a : Sl} {E : List Ent} (h : Grown T L w0 w g d t ⟨some ⟨bl, 0, none⟩, ps.length, lc⟩ ps) (hk : k < ps.length) (hE : RowE w a.v E) (ha : ∀ q ∈ own a.v, q ∉ foot g t ⟨some ⟨bl, 0, none⟩, ps.length, lc⟩ ps) (han : ∀ q ∈ own a.v, w0.heap.size ≤ q) :
    Grown T L w0 (w.setCell ⟨bl, k * 2 + 1, none⟩ a.v) g { d with leaves := d.leaves.set k ⟨ps[k].1, E⟩ } t ⟨some ⟨bl, 0, none⟩, ps.length, lc⟩ (ps.set k (ps[k].1, a)) := by
  have hbl : bl ∈ own (⟨some ⟨bl, 0, none⟩, ps.length, lc⟩ : Sl).v := by show bl ∈ [bl]; simp
  have hbn := h.n bl (foot_l hbl)
  have hK3 : Keeps (Only bl) w (w.setCell ⟨bl, k * 2 + 1, none⟩ a.v) := (Keeps.refl (Only bl) _).set (p := ⟨bl, k * 2 + 1, none⟩) rfl _
  refine ⟨h.m.setE hk (Keeps.refl _ _) hE (fun q hq => .inr (ha q hq)) hK3 (rowP_setE h.m.lvs hk), h.k.then hK3 fun i hi e => by unfold Only at e; omega, fun q hq => ?_⟩
  rcases mem_foot.1 hq with e | e | e | e
  · exact h.n q (e ▸ foot_g)
  · exact h.n q (foot_t e)
  · exact h.n q (foot_l e)
  · obtain ⟨i, hi, hqi⟩ := mem_ents.1 e
    rw [List.getElem_set] at hqi
    by_cases hik : k = i
    · rw [if_pos hik] at hqi; exact han q hqi
    · rw [if_neg hik] at hqi
      exact h.n q (mem_foot.2 (.inr (.inr (.inr (mem_ents.2 ⟨i, by simpa using hi, hqi⟩)))))
/-- One place of the table turned. -/
theorem Grown.setT {bt tc i m : Nat} (h : Grown T L w0 w g d ⟨some ⟨bt, 0, none⟩, d.table.length, tc⟩ l ps) (hi : i < d.table.length) :
    Grown T L w0 (w.setCell ⟨bt, i, none⟩ (.int .i64 (m : Int))) g { d with table := d.table.set i m } ⟨some ⟨bt, 0, none⟩, d.table.length, tc⟩ l ps :=
  ⟨h.m.setT hi, h.k.setNew (p := ⟨bt, i, none⟩) (h.n bt (foot_t (by show bt ∈ [bt]; simp))) _, h.n⟩
end
/-- The bit asked for, by division. -/
theorem bit_div (x u : Nat) (hu : 1 ≤ u) : ∃ q r : Nat, x / u = q ∧ x / u % 2 = r ∧ (r = 0 ∨ r = 1) ∧ (x : Int) / (u : Int) = (q : Int) ∧ (x : Int).tdiv (u : Int) = (q : Int) ∧ (q : Int) % 2 = (r : Int) ∧ (q : Int).tmod 2 = (r : Int) := by
  refine ⟨x / u, x / u % 2, rfl, rfl, by omega, by simp, ?_, by simp, ?_⟩
  · rw [Int.tdiv_eq_ediv_of_nonneg (by omega)]; simp
  · rw [Int.tmod_eq_emod_of_nonneg (by exact Int.natCast_nonneg _)]; simp
theorem bitB_div {ow u x r : Nat} (hu : u = 2 ^ ow) (h : x / u % 2 = r) (hr : r = 0 ∨ r = 1) : bitB ow x = decide (r = 1) := by
  unfold bitB
  rw [← hu, h]
  rcases hr with rfl | rfl <;> rfl
set_option maxHeartbeats 8000000 in
theorem split65_any {w0 w : World} {g : Nat} {d : Dic} {t l : Sl} {ps : List (Nat × Sl)} (h : Grown 84 86 w0 w g d t l ps) (ho : Ok d) (k ow : Nat) (hkl : k < d.leaves.length) (hown : (leafAt d k).depth = ow) (h5 : ow ≠ 5) :
    Calls Try.prog 65 #[.pointer (some ⟨g, 0, none⟩), .int .i64 (k : Int)] w fun e w' => e = .returned (.tuple #[]) ∧ ∃ t2 l2 ps2, Grown 84 86 w0 w' g (splitD d k) t2 l2 ps2 := by
  obtain ⟨tA, tc, htv, htc, -⟩ := h.m.tab.val
  obtain rfl : t = ⟨tA, d.table.length, tc⟩ := by cases t; injection htv with h1 h2 h3; subst h1 h2 h3; rfl
  clear htv
  obtain ⟨lA, lc, hle, hlc, -⟩ := h.m.lvs.val
  obtain rfl : l = ⟨lA, ps.length, lc⟩ := by cases l; injection hle with h1 h2 h3; subst h1 h2 h3; rfl
  clear hle
  have hkp : k < ps.length := by rw [h.m.len]; exact hkl
  have hpl : ps.length ≤ 32 := by rw [h.m.len]; exact ho.many
  have htl : d.table.length ≤ 32 := by rw [ho.tab]; have := two_pow d.depth ho.dep; omega
  have ht1 : 1 ≤ d.table.length := by rw [ho.tab]; have := two_pow d.depth ho.dep; omega
  have hdd := ho.dep
  obtain ⟨bl, cl, e2, -, cl0, -⟩ := rowP_at h.m.lvs hkp
  have hd0 : ps[k].1 = ow := by rw [h.m.dep k hkp hkl, ← leafAt_get hkl, hown]
  rw [hd0] at cl0
  injection e2 with e2 e2b e2c
  clear e2b
  subst e2 e2c
  have c1 : w.cell? ⟨g, 1, none⟩ = some (.int .i64 (d.depth : Int)) := h.m.blk.cell 1
  have c2 : w.cell? ⟨g, 2, none⟩ = some (.slice tA d.table.length tc) := h.m.blk.cell 2
  have c3 : w.cell? ⟨g, 3, none⟩ = some (.slice (some ⟨bl, 0, none⟩) ps.length lc) := h.m.blk.cell 3
  have f1 := h.m.blk.frozen 1
  have h5' : ((ow : Int) == 5) = false := by simp; omega
  have hki : (k : Int) < (ps.length : Int) := by omega
  have hlow := ho.low (leafAt d k) (by rw [leafAt_get hkl]; exact List.getElem_mem _)
  rw [hown] at hlow
  have hlen0 := h.m.len
  have HLEN0 := Lib.hid hlen0
  clear hlen0
  have HOW := Lib.hid hown
  clear hd0 hown
  go_enter Try.func65, Try.ntmps65
  go_upto_if 26 with fail
  go_cut [5] from 21 to 48 (fun _ wc => ∃ t1, Grown 84 86 w0 wc g (widen d ow) t1 ⟨some ⟨bl, 0, none⟩, ps.length, lc⟩ ps)
  case first =>
    by_cases hw : ow = d.depth
    · have hwi : ((ow : Int) == (d.depth : Int)) = true := by simp [hw]
      have HW : Hid (widen d ow = { d with depth := d.depth + 1, table := d.table ++ d.table }) := Lib.hid (by unfold widen; rw [if_pos hw])
      clear hw
      go_upto_region 3 with fail
      have h6 := h.dep (d.depth + 1)
      obtain ⟨w6, hw6⟩ : ∃ W : World, W = w.setCell ⟨g, 1, none⟩ (.int .i64 ((d.depth + 1 : Nat) : Int)) := ⟨_, rfl⟩
      rw [show (w.setCell ⟨g, 1, none⟩ (Value.int IntKind.i64 ((d.depth : Int) + 1))) = w6 from hw6.symm]
      rw [← hw6] at h6
      clear hw6 c1 c2 c3 f1 cl0
      have y2 : w6.cell? ⟨g, 2, none⟩ = some (.slice tA d.table.length tc) := h6.m.blk.cell 2
      have hAts : ∀ W, Keeps Non w6 W → Ats W tA (d.table.flatMap encN) := fun W hk => by
        obtain ⟨A', c', e, -, ha⟩ := (h6.m.tab.non hk).ats encN_len
        have e' : Value.slice tA d.table.length tc = .slice A' d.table.length c' := e
        injection e' with e1
        rw [e1]; exact ha
      have HAt := Lib.hid hAts
      have HAt0 := hAts w6 (Keeps.refl _ _)
      clear hAts
      have HB1 : Hid ((([] : List Nat).length + d.table.length) ≤ maxLen ∧ (([] : List Nat).length + d.table.length) * 8 ≤ 140737488355328) := Lib.hid (by unfold maxLen; simp; omega)
      have HB2 : Hid (d.table.length + d.table.length ≤ maxLen ∧ (d.table.length + d.table.length) * 8 ≤ 140737488355328) := Lib.hid (by unfold maxLen; omega)
      go_upto_region 5 with (at_builtin; go_must (refine wpList_append_row (o := ⟨some 39, _, _, _, _, _⟩) rfl (.tmp 34) (.tmp 38) 23 rfl 3 1 encN _ 8 Try.underlying23 info3 rfl (by decide) encN_len encN_one (.slice none 0 0) [] rfl (RowP.nil _ _ _ _) tA d.table.length tc d.table rfl rfl HAt0 HB1.out.1 HB1.out.2 ?_); intro u7 w7 hO7 hK7 hat7; obtain ⟨⟨A7, n7, c7⟩, rfl, h7l⟩ := RowP.sl hO7)
      have hn7 : n7 = d.table.length := by rw [show n7 = ([] ++ d.table).length from h7l]; simp
      subst hn7
      clear h7l HAt0
      have hR7 : RowN w7 (.slice A7 d.table.length c7) d.table := hO7
      have hK7' : Keeps Non w6 w7 := hK7.mono fun q e => (List.not_mem_nil e).elim
      have hN7 : ∀ q ∈ own (.slice A7 d.table.length c7), w6.heap.size ≤ q := fun q hq => by
        rw [mem_own] at hq
        rcases hat7 with e | e
        · rw [show (Sl.v ⟨A7, d.table.length, c7⟩).ownBlock = (Value.slice A7 d.table.length c7).ownBlock from rfl] at e; rw [e] at hq; cases hq
        · rw [show (Sl.v ⟨A7, d.table.length, c7⟩).ownBlock = (Value.slice A7 d.table.length c7).ownBlock from rfl] at e; rw [e] at hq; injection hq with hq; omega
      have z2 := hK7'.cell y2 id
      have HAt7 := HAt.out w7 hK7'
      have hg7 : g ∉ own (.slice A7 d.table.length c7) := fun hq => by have := hN7 g hq; have := h6.m.low g foot_g; omega
      have hb7 := h6.m.blk.non hK7'
      clear hO7 hK7 hat7 y2
      go_upto_region 6 with (at_builtin; go_must (refine wpList_append_row (o := ⟨some 46, _, _, _, _, _⟩) rfl (.tmp 41) (.tmp 45) 23 rfl 3 1 encN _ 8 Try.underlying23 info3 rfl (by decide) encN_len encN_one (.slice A7 d.table.length c7) d.table rfl hR7 tA d.table.length tc d.table rfl rfl HAt7 HB2.out.1 HB2.out.2 ?_); intro u8 w8 hO8 hK8 hat8; obtain ⟨s8, rfl, -⟩ := RowP.sl hO8; have hB8 := hb7.keep hK8 hg7; have z8 := hB8.cell 2; have f8 := hB8.frozen 2)
      go_meet
      case rel =>
        refine ⟨s8, ?_⟩
        rw [HW.out]
        refine h6.tabN (hK7'.then hK8 fun q hq e => by have := hN7 q e; omega) hO8 fun q hq => ?_
        have hz := hK7'.size
        rw [mem_own] at hq
        rcases hat8 with e | e
        · rw [e] at hq; exact hN7 q (mem_own.2 hq)
        · rw [e] at hq; injection hq with hq; omega
    · have hwi : ((ow : Int) == (d.depth : Int)) = false := by simp; omega
      have HW : Hid (widen d ow = d) := Lib.hid (by unfold widen; rw [if_neg hw])
      clear hw
      go_wp2_with fail
      go_meet
      case rel => exact ⟨_, by rw [HW.out]; exact h⟩
  case rest =>
    obtain ⟨w1, rfl⟩ : ∃ W : World, W = wc := ⟨_, rfl⟩
    obtain ⟨t1, h1⟩ := hcut
    obtain ⟨d1, hd1⟩ : ∃ D, D = widen d ow := ⟨_, rfl⟩
    rw [← hd1] at h1
    have hlv : d1.leaves = d.leaves := by rw [hd1]; unfold widen; split <;> rfl
    have hpos : 0 < d1.table.length := by rw [hd1]; unfold widen; split; (simp only [List.length_append]; omega); omega
    have ht64 : d1.table.length ≤ 64 := by rw [hd1]; unfold widen; split; (simp only [List.length_append]; omega); omega
    obtain ⟨t1A, t1c, htv, ht1c, -⟩ := h1.m.tab.val
    obtain rfl : t1 = ⟨t1A, d1.table.length, t1c⟩ := by cases t1; injection htv with h1 h2 h3; subst h1 h2 h3; rfl
    clear htv
    have HD1 := Lib.hid hd1
    clear hd1 c1 c2 c3 f1 cl0 h
    have hkl1 : k < d1.leaves.length := by rw [hlv]; exact hkl
    have hent : RowE w1 ps[k].2.v (leafAt d k).l := by rw [leafAt_get hkl]; have := h1.m.ent k hkp hkl1; simpa only [hlv] using this
    have hfit : (leafAt d k).l.length ≤ 50 := by rw [leafAt_get hkl]; exact (fitE_len (ho.fit _ (List.getElem_mem _))).1
    obtain ⟨_, _, e3, -, _, cl1, -⟩ := rowP_at h1.m.lvs hkp
    injection e3 with e3 e3b e3c
    injection e3 with e3
    injection e3 with e3
    subst e3 e3c
    clear e3b
    obtain ⟨L, hL⟩ : ∃ L, L = (leafAt d k).l := ⟨_, rfl⟩
    rw [← hL] at hent hfit
    have hnl : ∀ j (hj : j < L.length), L[j].name.length ≤ 9223372036854775807 := fun j hj => by have := name_room L j hj; have := (fitE_len (ho.fit (leafAt d k) (by rw [leafAt_get hkl]; exact List.getElem_mem _))).2; rw [← hL] at this; omega
    have HNL := Lib.hid hnl
    clear hnl
    obtain ⟨eA, ec, hev, hec, -⟩ := hent.val
    rw [hev] at cl1 hent
    have HEV := Lib.hid hev
    have HL := Lib.hid hL
    have HLV := Lib.hid hlv
    clear hL hev hlv
    have c3 : w1.cell? ⟨g, 3, none⟩ = some (.slice (some ⟨bl, 0, none⟩) ps.length lc) := h1.m.blk.cell 3
    obtain ⟨u, hu⟩ : ∃ u, u = 2 ^ ow := ⟨_, rfl⟩
    have hu32 : 1 ≤ u ∧ u ≤ 32 := by have := two_pow ow (by omega); omega
    obtain ⟨hu1, hu2⟩ := hu32
    have HPw := Lib.hid (fun W => power_any ow (by omega) W)
    rw [← hu] at HPw
    have HU := Lib.hid hu
    clear hu
    have hu0 : ((u : Int) == 0) = false := beq_eq_false_iff_ne.2 (by omega)
    have hu0' : ¬ ((u : Int) = 0) := by omega
    have hum : ((u : Int) == -1) = false := beq_eq_false_iff_ne.2 (by omega)
    have hP0 := Part.zero w1 ow L
    go_upto_region 9 with ((go_at_call 82; go_must (refine (HPw.out _).mono ?_); rintro e w5 ⟨rfl, hw5⟩; subst w5))
    go_loopw [7, 8, 9] (fun s7 s8 i wr => ∃ j a b, j ≤ L.length ∧ i = .int .i64 (j : Int) ∧ s7 = Sl.v a ∧ s8 = Sl.v b ∧ Part w1 wr ow L j a b) (fun _ _ i _ => L.length - (intOf i).toNat)
    case atStart => exact ⟨0, _, _, Nat.zero_le _, rfl, rfl, rfl, hP0⟩
    case round =>
      obtain ⟨j, a, b, hj, rfl, rfl, rfl, hR⟩ := hrel
      obtain ⟨wx, rfl⟩ : ∃ W : World, W = wr := ⟨_, rfl⟩
      have d3 := hR.keep.cell c3 id
      have dl1 := hR.keep.cell cl1 id
      clear c3 cl1 hP0
      by_cases hlt : j < L.length
      · obtain ⟨eb, cap, ev, -, x0, x1, -, -⟩ := rowE_at (hent.non hR.keep) hlt
        injection ev with e1 e2 e3
        clear e2
        subst e1 e3
        have HHj := Lib.hid (fun W => refhashI_any L[j].name (HNL.out j hlt) W)
        obtain ⟨q, r, hq, hr, hr01, i1, i2, i3, i4⟩ := bit_div (hash L[j].name) u hu1
        have HGX : Hid (goes ow L[j] = decide (r = 1)) := Lib.hid (by unfold goes; exact bitB_div HU.out hr hr01)
        have hhl := hash_le L[j].name
        obtain ⟨x, hx⟩ : ∃ x, x = L[j] := ⟨_, rfl⟩
        rw [← hx] at x0 x1 HHj HGX i1 i2 hhl
        have HX := Lib.hid hx
        clear hx hq hr
        have hji : (j : Int) < (L.length : Int) := by omega
        generalize hash x.name = hv at HHj i1 i2 hhl
        go_upto_region 12 with fail
        have hR2 := hR.non ((Keeps.refl Non wx).alloc (.cells #[.string (str x.name), .int .i64 x.val] 56))
        have hX2 := Blk.new wx 56 #[.string (str x.name), .int .i64 x.val]
        obtain ⟨w2, hw2⟩ : ∃ W : World, W = wx.alloc (.cells #[.string (str x.name), .int .i64 x.val] 56) := ⟨_, rfl⟩
        obtain ⟨xb, hxb⟩ : ∃ b, b = wx.heap.size := ⟨_, rfl⟩
        rw [← hw2] at hR2 hX2 ⊢
        rw [← hxb] at hX2 ⊢
        clear hw2 hxb x0 x1 hR d3 dl1
        have y0 : w2.cell? ⟨xb, 0, none⟩ = some (.string (str x.name)) := hX2.cell 0
        have y1 : w2.cell? ⟨xb, 1, none⟩ = some (.int .i64 x.val) := hX2.cell 1
        obtain ⟨bA, bn, bc⟩ := b
        obtain rfl : bn = (overL ow (L.take j)).length := by obtain ⟨_, _, e, -⟩ := hR2.over.val; injection e
        obtain ⟨aA, an, ac⟩ := a
        obtain rfl : an = (stayL ow (L.take j)).length := by obtain ⟨_, _, e, -⟩ := hR2.stay.val; injection e
        have HLa : Hid ((stayL ow (L.take j)).length + 1 ≤ maxLen ∧ ((stayL ow (L.take j)).length + 1) * 24 ≤ 140737488355328) := Lib.hid (by have : (stayL ow (L.take j)).length ≤ 50 := Nat.le_trans (List.length_filter_le _ _) (Nat.le_trans (List.length_take_le ..) (by omega)); unfold maxLen; omega)
        have HLb : Hid ((overL ow (L.take j)).length + 1 ≤ maxLen ∧ ((overL ow (L.take j)).length + 1) * 24 ≤ 140737488355328) := Lib.hid (by have : (overL ow (L.take j)).length ≤ 50 := Nat.le_trans (List.length_filter_le _ _) (Nat.le_trans (List.length_take_le ..) (by omega)); unfold maxLen; omega)
        have hR3 := hR2.non ((Keeps.refl Non w2).alloc (.cells #[.string (str x.name), .int .i64 x.val] 56))
        go_upto_region 13 with ((go_at_call 17; go_must (refine (HHj.out _).mono ?_); rintro e w' ⟨rfl, hww⟩; subst w'))
        clear HHj
        rcases hr01 with rfl | rfl
        · have HG : Hid (goes ow x = false) := Lib.hid (by rw [HGX.out]; rfl)
          go_wp2_with (at_builtin; go_must (refine wpList_append_row (o := ⟨some 91, _, _, _, _, _⟩) rfl (.tmp 88) (.tmp 90) 32 rfl 56 2 encE _ 24 Try.underlying32 info56 rfl (by decide) encE_len encE_one (.slice aA (stayL ow (L.take j)).length ac) (stayL ow (L.take j)) rfl hR3.stay (some ⟨w2.heap.size, 0, none⟩) 1 1 [x] rfl rfl (Ats.lit w2 #[.string (str x.name), .int .i64 x.val] 56 _ rfl) HLa.out.1 HLa.out.2 ?_); intro u8 w8 hO8 hK8 hat; obtain ⟨s8, rfl, -⟩ := RowP.sl hO8)
          go_roundw
          case rel => exact ⟨j + 1, s8, _, by omega, by go_num, rfl, rfl, hR3.goA hlt (by rw [← HX.out]; exact HG.out) (by rw [← HX.out]; exact hO8) hK8 hat⟩
          case measure => simp [intOf]; omega
        · have HG : Hid (goes ow x = true) := Lib.hid (by rw [HGX.out]; rfl)
          go_wp2_with (at_builtin; go_must (refine wpList_append_row (o := ⟨some 87, _, _, _, _, _⟩) rfl (.tmp 84) (.tmp 86) 32 rfl 56 2 encE _ 24 Try.underlying32 info56 rfl (by decide) encE_len encE_one (.slice bA (overL ow (L.take j)).length bc) (overL ow (L.take j)) rfl hR3.over (some ⟨w2.heap.size, 0, none⟩) 1 1 [x] rfl rfl (Ats.lit w2 #[.string (str x.name), .int .i64 x.val] 56 _ rfl) HLb.out.1 HLb.out.2 ?_); intro u8 w8 hO8 hK8 hat; obtain ⟨s8, rfl, -⟩ := RowP.sl hO8)
          go_roundw
          case rel => exact ⟨j + 1, _, s8, by omega, by go_num, rfl, rfl, hR3.goB hlt (by rw [← HX.out]; exact HG.out) (by rw [← HX.out]; exact hO8) hK8 hat⟩
          case measure => simp [intOf]; omega
      · obtain rfl : j = L.length := by omega
        have hnl : ¬ L.length < L.length := by omega
        have h2 := h1.non hR.keep
        have hzR := hR.keep.size
        have hz1 := h1.k.size
        have hlo := h1.m.low
        have hsA := hR.stay
        have hsB := hR.over
        rw [List.take_of_length_le (Nat.le_refl _)] at hsA hsB
        have HNA : Hid (∀ q ∈ own a.v, q ∉ foot g ⟨t1A, d1.table.length, t1c⟩ ⟨some ⟨bl, 0, none⟩, ps.length, lc⟩ ps) := Lib.hid (fun q hq hq' => by have := hR.na q hq; have := hlo q hq'; omega)
        have HNA2 : Hid (∀ q ∈ own a.v, w0.heap.size ≤ q) := Lib.hid (fun q hq => by have := hR.na q hq; omega)
        have HNB2 : Hid (∀ q ∈ own b.v, w0.heap.size ≤ q) := Lib.hid (fun q hq => by have := hR.nb q hq; omega)
        have hS := h2.setLeaf (k := k) (dp := ow + 1) hkp hsA HNA.out HNA2.out
        have HNBf : Hid (∀ q ∈ own b.v, q ∉ foot g ⟨t1A, d1.table.length, t1c⟩ ⟨some ⟨bl, 0, none⟩, ps.length, lc⟩ (ps.set k (ow + 1, a))) := Lib.hid (fun q hq hq' => by
          have h0 := hR.nb q hq
          have hF : q ∉ foot g ⟨t1A, d1.table.length, t1c⟩ ⟨some ⟨bl, 0, none⟩, ps.length, lc⟩ ps := fun hh => by have := hlo q hh; omega
          rcases mem_foot.1 hq' with e | e | e | e
          · exact hF (e ▸ foot_g)
          · exact hF (foot_t e)
          · exact hF (foot_l e)
          · obtain ⟨i, hi, hqi⟩ := mem_ents.1 e
            rw [List.getElem_set] at hqi
            by_cases hik : k = i
            · rw [if_pos hik] at hqi; exact hR.ab q hqi hq
            · rw [if_neg hik] at hqi
              exact hF (mem_foot.2 (.inr (.inr (.inr (mem_ents.2 ⟨i, by simpa using hi, hqi⟩))))))
        have hbl : bl ∈ own (⟨some ⟨bl, 0, none⟩, ps.length, lc⟩ : Sl).v := by show bl ∈ [bl]; simp
        have HBk : Hid (∀ W, Keeps (Only bl) wx W → RowE W b.v (overL ow L)) := Lib.hid (fun W hk => hsB.keep hk fun q hq e => by unfold Only at e; have := hR.nb q hq; have := hlo bl (foot_l hbl); omega)
        obtain ⟨bl2, cl2, e1, -, x0, x1, xf, -⟩ := rowP_at h2.m.lvs hkp
        have hbl2 : bl2 = bl := by injection e1 with e1; injection e1 with e1; injection e1 with e1; exact e1.symm
        rw [hbl2] at xf x0 x1
        have xf0 := xf (k * 2)
        have xf1 := xf (k * 2 + 1)
        clear xf e1 hbl2 x1
        have hKs : Keeps (Only bl) wx ((wx.setCell ⟨bl, k * 2, none⟩ (.int .i64 ((ow + 1 : Nat) : Int))).setCell ⟨bl, k * 2 + 1, none⟩ a.v) := ((Keeps.refl (Only bl) _).set (p := ⟨bl, k * 2, none⟩) rfl _).set (p := ⟨bl, k * 2 + 1, none⟩) rfl _
        obtain ⟨aA, an, ac⟩ := a
        obtain ⟨bA, bn, bc⟩ := b
        go_upto_region 17 with fail
        obtain ⟨wp, hwp⟩ : ∃ W : World, W = (wx.setCell ⟨bl, k * 2, none⟩ (.int .i64 ((ow + 1 : Nat) : Int))).setCell ⟨bl, k * 2 + 1, none⟩ (.slice aA an ac) := ⟨_, rfl⟩
        rw [show ((wx.setCell ⟨bl, k * 2, none⟩ (.int .i64 ((ow : Int) + 1))).setCell ⟨bl, k * 2 + 1, none⟩ (.slice aA an ac)) = wp from hwp.symm]
        change Grown 84 86 w0 ((wx.setCell ⟨bl, k * 2, none⟩ (.int .i64 ((ow + 1 : Nat) : Int))).setCell ⟨bl, k * 2 + 1, none⟩ (.slice aA an ac)) _ _ _ _ _ at hS
        change Keeps (Only bl) wx ((wx.setCell ⟨bl, k * 2, none⟩ (.int .i64 ((ow + 1 : Nat) : Int))).setCell ⟨bl, k * 2 + 1, none⟩ (.slice aA an ac)) at hKs
        rw [← hwp] at hS hKs
        have hBp := HBk.out wp hKs
        clear hwp xf0 xf1 x0 dl1 d3 HBk hKs h1 h2 hR hent hsA hsB
        have hps : (ps.set k (ow + 1, (⟨aA, an, ac⟩ : Sl))).length = ps.length := List.length_set
        have hA := (Keeps.refl Non wp).alloc (.cells #[.int .i64 ((ow : Int) + 1), .slice bA bn bc] 86)
        have hSA := hS.non hA
        have c3 : wp.cell? ⟨g, 3, none⟩ = some (.slice (some ⟨bl, 0, none⟩) ps.length lc) := hS.m.blk.cell 3
        have c4 : (wp.alloc (.cells #[.int .i64 ((ow : Int) + 1), .slice bA bn bc] 86)).cell? ⟨g, 3, none⟩ = some (.slice (some ⟨bl, 0, none⟩) ps.length lc) := hSA.m.blk.cell 3
        have hlvA := hSA.m.lvs
        have HgL := Lib.hid (nod_iff.1 hSA.m.nod).gl
        have HBB : Hid ((ps.set k (ow + 1, (⟨aA, an, ac⟩ : Sl))).length + 1 ≤ maxLen ∧ ((ps.set k (ow + 1, (⟨aA, an, ac⟩ : Sl))).length + 1) * 32 ≤ 140737488355328) := Lib.hid (by rw [hps]; unfold maxLen; omega)
        have HPS := Lib.hid hps
        clear hps
        go_upto_region 18 with (at_builtin; go_must (refine wpList_append_row (o := ⟨some 112, _, _, _, _, _⟩) rfl (.tmp 106) (.tmp 111) 82 rfl 86 2 encP _ 32 Try.underlying82 info86 rfl (by decide) encP_len encP_one (.slice (some ⟨bl, 0, none⟩) ps.length lc) (ps.set k (ow + 1, (⟨aA, an, ac⟩ : Sl))) rfl hlvA (some ⟨wp.heap.size, 0, none⟩) 1 1 [(ow + 1, (⟨bA, bn, bc⟩ : Sl))] rfl rfl (Ats.lit wp #[.int .i64 ((ow : Int) + 1), .slice bA bn bc] 86 _ rfl) HBB.out.1 HBB.out.2 ?_); intro u8 w8 hO8 hK8 hat; obtain ⟨s8, rfl, h8l⟩ := RowP.sl hO8; have hB8 := hSA.m.blk.keep hK8 HgL.out; have z8 := hB8.cell 3; have f8 := hB8.frozen 3)
        have hT := hS.leaf8 hBp HNBf.out HNB2.out hA hO8 hK8 hat
        obtain ⟨A8, n8, c8⟩ := s8
        obtain rfl : n8 = ps.length + 1 := by rw [show n8 = (ps.set k (ow + 1, (⟨aA, an, ac⟩ : Sl)) ++ [(ow + 1, (⟨bA, bn, bc⟩ : Sl))]).length from h8l, List.length_append, HPS.out]; rfl
        obtain ⟨wz, hwz⟩ : ∃ W : World, W = w8.setCell ⟨g, 3, none⟩ (.slice A8 (ps.length + 1) c8) := ⟨_, rfl⟩
        rw [← hwz]
        change Grown 84 86 w0 (w8.setCell ⟨g, 3, none⟩ (.slice A8 (ps.length + 1) c8)) _ _ _ _ _ at hT
        rw [← hwz] at hT
        clear hwz hB8 z8 f8 hO8 hK8 hat c3 c4 hlvA hSA hA hS hBp h8l
        obtain ⟨d2, hd2⟩ : ∃ D : Dic, D = { { d1 with leaves := d1.leaves.set k ⟨ow + 1, stayL ow L⟩ } with leaves := (d1.leaves.set k ⟨ow + 1, stayL ow L⟩) ++ [⟨ow + 1, overL ow L⟩] } := ⟨_, rfl⟩
        have hT' : Grown 84 86 w0 wz g d2 ⟨t1A, d1.table.length, t1c⟩ ⟨A8, ps.length + 1, c8⟩ (ps.set k (ow + 1, (⟨aA, an, ac⟩ : Sl)) ++ [(ow + 1, (⟨bA, bn, bc⟩ : Sl))]) := by rw [hd2]; exact hT
        have HD2 := Lib.hid hd2
        have h2t : d2.table = d1.table := by rw [hd2]
        clear hT hd2
        obtain ⟨bt1, ct1, e1, -, -⟩ := rowN_at (l := d1.table) (by rw [← h2t]; exact hT'.m.tab) (i := 0) hpos
        have e1 : Value.slice t1A d1.table.length t1c = .slice (some ⟨bt1, 0, none⟩) d1.table.length ct1 := e1
        injection e1 with e1 e2 e3
        clear e2
        subst e1 e3
        have hT0 : Grown 84 86 w0 wz g { d2 with table := turnT ow k ps.length d1.table 0 } ⟨some ⟨bt1, 0, none⟩, d1.table.length, t1c⟩ ⟨A8, ps.length + 1, c8⟩ (ps.set k (ow + 1, (⟨aA, an, ac⟩ : Sl)) ++ [(ow + 1, (⟨bA, bn, bc⟩ : Sl))]) := by
          have e : ({ d2 with table := turnT ow k ps.length d1.table 0 } : Dic) = d2 := by rw [turnT_zero, ← h2t]
          rw [e]
          exact hT'
        obtain ⟨ps2, hps2⟩ : ∃ z, z = ps.set k (ow + 1, (⟨aA, an, ac⟩ : Sl)) ++ [(ow + 1, (⟨bA, bn, bc⟩ : Sl))] := ⟨_, rfl⟩
        rw [← hps2] at hT0
        clear hT' hps2
        have hsub1 : ((ps.length + 1 : Nat) : Int) - 1 = (ps.length : Int) := by omega
        have hsub2 : IntKind.i64.wrap (((ps.length + 1 : Nat) : Int) - 1) = (ps.length : Int) := by rw [IntKind.wrap_i64]; omega
        have hsub3 : (ps.length : Int) + 1 - 1 = (ps.length : Int) := by omega
        go_upto_region 19 with fail
        go_loopw [12] (fun i wr => ∃ n, n ≤ d1.table.length ∧ i = .int .i64 (n : Int) ∧ Grown 84 86 w0 wr g { d2 with table := turnT ow k ps.length d1.table n } ⟨some ⟨bt1, 0, none⟩, d1.table.length, t1c⟩ ⟨A8, ps.length + 1, c8⟩ ps2) (fun i _ => d1.table.length - (intOf i).toNat)
        case atStart => exact ⟨0, Nat.zero_le _, rfl, hT0⟩
        case round =>
          obtain ⟨n, hn, rfl, hD⟩ := hrel
          obtain ⟨wy, rfl⟩ : ∃ W : World, W = wr := ⟨_, rfl⟩
          clear hT0
          have y2 : wy.cell? ⟨g, 2, none⟩ = some (.slice (some ⟨bt1, 0, none⟩) d1.table.length t1c) := hD.m.blk.cell 2
          by_cases hnt : n < d1.table.length
          · obtain ⟨bt2, ct2, e1, -, x0, xf, -⟩ := rowN_at hD.m.tab (i := n) (by rw [turnT_len]; exact hnt)
            have hbt : bt2 = bt1 := by injection e1 with e1; injection e1 with e1; injection e1 with e1; exact e1.symm
            rw [hbt] at x0 xf
            rw [turnT_get _ _ _ _ _ _ hnt, if_neg (fun hh => Nat.lt_irrefl _ hh.1)] at x0
            clear e1 hbt
            obtain ⟨q, r, hq0, hr, hr01, i1, i2, i3, i4⟩ := bit_div n u hu1
            have HBT : Hid (bitB ow n = decide (r = 1)) := Lib.hid (bitB_div HU.out hr hr01)
            have hql : q ≤ n := by rw [← hq0]; exact Nat.div_le_self _ _
            have hwq : wrap64 (q : Int) = (q : Int) := IntWalk.wrap64_in _ ⟨by omega, by omega⟩
            clear hq0 hr hql
            obtain ⟨tq, hq⟩ : ∃ q, q = d1.table[n] := ⟨_, rfl⟩
            rw [← hq] at x0
            have HQ := Lib.hid hq
            clear hq
            have hlen : (turnT ow k ps.length d1.table n).length = d1.table.length := turnT_len ..
            have HLEN := Lib.hid hlen
            clear hlen
            have hni : (n : Int) < (d1.table.length : Int) := by omega
            by_cases hqk : tq = k
            · have hqb : ((tq : Int) == (k : Int)) = true := by simp [hqk]
              have HQK := Lib.hid hqk
              clear hqk
              rcases hr01 with rfl | rfl
              · have HBB : Hid (bitB ow n = false) := Lib.hid (by rw [HBT.out]; rfl)
                replace i4 : (q : Int).tmod 2 = 0 := i4
                clear xf i3
                go_wp2_with fail
                go_roundw
                case rel => exact ⟨n + 1, by omega, by go_num, by rw [turnT_same _ _ _ _ _ hnt (by rw [HBB.out]; simp)]; exact hD⟩
                case measure => simp [intOf]; omega
              · have HBB : Hid (bitB ow n = true) := Lib.hid (by rw [HBT.out]; rfl)
                replace i4 : (q : Int).tmod 2 = 1 := i4
                clear i3
                have hDd := hD.non (Keeps.refl Non wy).drew
                have z2 : wy.drew.cell? ⟨g, 2, none⟩ = some (.slice (some ⟨bt1, 0, none⟩) d1.table.length t1c) := hDd.m.blk.cell 2
                have z3 : wy.drew.cell? ⟨g, 3, none⟩ = some (.slice A8 (ps.length + 1) c8) := hDd.m.blk.cell 3
                have zf := xf n
                have zfd : wy.drew.frozen? ⟨bt1, n, none⟩ = false := zf
                have zx : wy.drew.cell? ⟨bt1, n, none⟩ = some (.int .i64 (tq : Int)) := x0
                clear xf
                have HDS : Hid (Grown 84 86 w0 (wy.drew.setCell ⟨bt1, n, none⟩ (.int .i64 (ps.length : Int))) g { d2 with table := turnT ow k ps.length d1.table (n + 1) } ⟨some ⟨bt1, 0, none⟩, d1.table.length, t1c⟩ ⟨A8, ps.length + 1, c8⟩ ps2) := by
                  show Grown _ _ _ _ _ _ _ _ _
                  rw [turnT_set _ _ _ _ _ hnt ⟨by rw [← HQ.out]; exact HQK.out, HBB.out⟩]
                  have h3 := hDd
                  rw [← HLEN.out] at h3 ⊢
                  exact h3.setT (d := { d2 with table := turnT ow k ps.length d1.table n }) (by show n < (turnT ow k ps.length d1.table n).length; rw [HLEN.out]; exact hnt)
                go_upto_region 22 with fail
                go_region_with (fail)
                all_goals
                  go_wp2_with fail
                  go_roundw
                  case rel => exact ⟨n + 1, by omega, by go_num, HDS.out⟩
                  case measure => simp [intOf]; omega
            · have hqb : ((tq : Int) == (k : Int)) = false := by simp; omega
              have HQK := Lib.hid hqk
              clear hqk xf
              go_wp2_with fail
              go_roundw
              case rel => exact ⟨n + 1, by omega, by go_num, by rw [turnT_same _ _ _ _ _ hnt (fun hh => HQK.out (HQ.out.trans hh.1))]; exact hD⟩
              case measure => simp [intOf]; omega
          · obtain rfl : n = d1.table.length := by omega
            have hnl2 : ¬ d1.table.length < d1.table.length := by omega
            go_wp2_with fail
            go_end0
            have e1 : splitD d k = { d2 with table := turnT ow k ps.length d1.table d1.table.length } := by
              unfold splitD
              simp only [HOW.out]
              rw [← HD1.out, HD2.out, HLV.out, ← HL.out, ← HLEN0.out]
            have hD' : Grown 84 86 w0 wy g (splitD d k) ⟨some ⟨bt1, 0, none⟩, d1.table.length, t1c⟩ ⟨A8, ps.length + 1, c8⟩ ps2 := by rw [e1]; exact hD
            exact ⟨rfl, _, _, _, hD'⟩
end Go.Proofs.Ytiieglfpmmhfiaa
namespace Go.Proofs.Ytiieglfpmmhfiaa
set_option maxRecDepth 100000
open Go.RowKit Go.Uc

/-- The leaf takes the entries, the dictionary the other one's head. -/
theorem put39_fin {w w1 w10 : World} {g gb b5 cc kc : Nat} {d dc : Dic} {t l tc s : Sl} {ps pc : List (Nat × Sl)} {E : List Ent}
    (h1 : DictM 84 86 w1 g d t l ps) (hK01 : Keeps Non w w1) (hD : Grown 84 86 w1 w10 gb dc tc ⟨some ⟨b5, 0, none⟩, pc.length, cc⟩ pc)
    (hk : kc < pc.length) (hE : RowE w10 s.v E) (hsf : ∀ q ∈ own s.v, q ∉ foot gb tc ⟨some ⟨b5, 0, none⟩, pc.length, cc⟩ pc) (hs : ∀ q ∈ own s.v, w1.heap.size ≤ q) :
    DictM 84 86 (w10.setCell ⟨b5, kc * 2 + 1, none⟩ s.v) gb (setL dc kc E) tc ⟨some ⟨b5, 0, none⟩, pc.length, cc⟩ (pc.set kc (pc[kc].1, s))
    ∧ DictM 84 86 (w10.setCell ⟨b5, kc * 2 + 1, none⟩ s.v) g d t l ps
    ∧ DoneD 84 86 w g t l ps (setL dc kc E) (((((w10.setCell ⟨b5, kc * 2 + 1, none⟩ s.v).setCell ⟨g, 0, none⟩ (.bool dc.small)).setCell ⟨g, 1, none⟩ (.int .i64 (dc.depth : Int))).setCell ⟨g, 2, none⟩ tc.v).setCell ⟨g, 3, none⟩ (.slice (some ⟨b5, 0, none⟩) pc.length cc)) := by
  have hkd : kc < dc.leaves.length := by rw [← hD.m.len]; exact hk
  have hz := hK01.size
  have hG := hD.setEnts hk hE hsf hs
  rw [hD.m.dep kc hk hkd, ← leafAt_get hkd] at hG
  have hg1 := h1.low
  have h2 : DictM 84 86 (w10.setCell ⟨b5, kc * 2 + 1, none⟩ s.v) g d t l ps := h1.non hG.k
  have hgF : g ∉ foot gb tc ⟨some ⟨b5, 0, none⟩, pc.length, cc⟩ (pc.set kc ((leafAt dc kc).depth, s)) := fun hq => by have := hG.n g hq; have := hg1 g foot_g; omega
  have hGm := hG.m
  refine ⟨by rw [hD.m.dep kc hk hkd, ← leafAt_get hkd]; exact hG.m, h2, tc, _, _, hGm.move h2.blk hgF, ?_, fun q hq => ?_⟩
  · have a1 : Keeps (· ∈ foot g t l ps) w (w10.setCell ⟨b5, kc * 2 + 1, none⟩ s.v) := (hK01.non hG.k).of_non
    exact (((a1.set (p := ⟨g, 0, none⟩) foot_g _).set (p := ⟨g, 1, none⟩) foot_g _).set (p := ⟨g, 2, none⟩) foot_g _).set (p := ⟨g, 3, none⟩) foot_g _
  · rcases List.mem_cons.1 hq with e | e
    · exact .inl (e ▸ foot_g)
    · have := hG.n q (List.mem_cons_of_mem _ e); exact .inr (by omega)
theorem put_full_R {R : Int × Dic} {d dc : Dic} {n : List UInt8} {v : Int} {f kc : Nat} (hk : kc = kOf dc n) (hR : R = outL (putL 8 d ⟨n, v⟩) d) (hp : putL (f + 1) dc ⟨n, v⟩ = putL 8 d ⟨n, v⟩)
    (hf : fitE (ins (leafAt dc (kOf dc n)).l ⟨n, v⟩) = false) (hs : dc.small = false) (h5 : (leafAt dc kc).depth = 5) : R = (152, d) := by
  subst hk
  have e3 : putL (f + 1) dc ⟨n, v⟩ = none := putL_full (f := f) (d := dc) (e := ⟨n, v⟩) hf hs h5
  rw [hR, hp.symm.trans e3]
  rfl
theorem put_fit_R {R : Int × Dic} {d dc : Dic} {n : List UInt8} {v : Int} {f kc : Nat} {Lc : List Ent} (hk : kc = kOf dc n) (hl : Lc = (leafAt dc kc).l) (hR : R = outL (putL 8 d ⟨n, v⟩) d) (hp : putL (f + 1) dc ⟨n, v⟩ = putL 8 d ⟨n, v⟩)
    (hf : fitE (ins (leafAt dc (kOf dc n)).l ⟨n, v⟩) = true) : R = (0, setL dc kc (ins Lc ⟨n, v⟩)) := by
  subst hk hl
  have e3 : putL (f + 1) dc ⟨n, v⟩ = some (setL dc (kOf dc n) (ins (leafAt dc (kOf dc n)).l ⟨n, v⟩)) := putL_fit (f := f) (d := dc) (e := ⟨n, v⟩) hf
  rw [hR, hp.symm.trans e3]
  rfl
theorem roomE_ins_has {L : List Ent} (hs : Srt L) (e : Ent) (h : has L e.name = true) : fitE (ins L e) = fitE L := by
  obtain ⟨hlt, hat⟩ := (has_lb hs e.name).1 h
  rw [← ins_set hs e h]
  have hr : ∀ (l : List Ent) (i : Nat) (hi : i < l.length) (x : Ent), x.name.length = l[i].name.length → roomE (l.set i x) = roomE l := by
    intro l
    induction l with
    | nil => intro i hi; simp at hi
    | cons y l ih =>
      intro i hi x hx
      cases i with
      | zero => simp only [List.getElem_cons_zero] at hx; simp [roomE, hx]
      | succ i => have := ih i (by simpa using hi) x (by simpa using hx); simp only [List.set_cons_succ]; simp only [roomE, List.map_cons, List.sum_cons] at this ⊢; omega
  unfold fitE
  rw [hr L _ hlt e (by rw [hat])]
set_option maxHeartbeats 8000000 in
theorem put39_any {w : World} {g : Nat} {d : Dic} {t l : Sl} {ps : List (Nat × Sl)} (h : DictM 84 86 w g d t l ps) (hi : Inv d) (n : List UInt8) (hn : n.length ≤ 9223372036854775807) (v : Int) :
    Calls Try.prog 39 #[.pointer (some ⟨g, 0, none⟩), .string (str n), .int .i64 v] w fun e w' => e = .returned (.int .i64 (putD d n v).1) ∧ DoneD 84 86 w g t l ps (putD d n v).2 w' := by
  have hsz : ((str n).size : Int) = (n.length : Int) := by rw [str_size]
  obtain ⟨nb, hnb⟩ : ∃ b, b = nameB n := ⟨_, rfl⟩
  cases nb
  case false =>
    have hP : putD d n v = (150, d) := by unfold putD; rw [← hnb]; simp
    rw [hP]
    have HS := Lib.hid (h.doneSelf (w' := w) (Keeps.refl _ _))
    have hnl : n.length < 1 ∨ 24 < n.length := by
      unfold nameB at hnb
      by_cases h1 : 1 ≤ n.length
      · by_cases h2 : n.length ≤ 24
        · simp [h1, h2] at hnb
        · omega
      · omega
    clear hP hnb hi h
    rcases hnl with hnl | hnl
    · go_enter Try.func39, Try.ntmps39
      go_wp2_with fail
      go_ret
      exact ⟨rfl, HS.out⟩
    · have hn1 : ¬ n.length < 1 := by omega
      go_enter Try.func39, Try.ntmps39
      go_wp2_with fail
      go_ret
      exact ⟨rfl, HS.out⟩
  case true =>
  have hnl : 1 ≤ n.length ∧ n.length ≤ 24 := by unfold nameB at hnb; simpa using hnb.symm
  obtain ⟨hn1, hn24⟩ := hnl
  by_cases hv : v < 0 ∨ 2147483647 < v
  · have hP : putD d n v = (1, d) := by unfold putD; rw [← hnb, if_neg (by simp), if_pos hv]
    rw [hP]
    have HS := Lib.hid (h.doneSelf (w' := w) (Keeps.refl _ _))
    clear hP hnb hi h
    rcases hv with hv | hv
    · go_enter Try.func39, Try.ntmps39
      go_wp2_with fail
      go_ret
      exact ⟨rfl, HS.out⟩
    · have hv0 : ¬ v < 0 := by omega
      go_enter Try.func39, Try.ntmps39
      go_wp2_with fail
      go_ret
      exact ⟨rfl, HS.out⟩
  obtain ⟨hv0, hv1⟩ : 0 ≤ v ∧ v ≤ 2147483647 := by omega
  obtain ⟨R, hR⟩ : ∃ R, R = putD d n v := ⟨_, rfl⟩
  rw [← hR]
  have ho := hi.ok
  have hkd := kOf_lt ho n
  have hRD : R = outL (putL 8 d ⟨n, v⟩) d := by
    rw [hR]; unfold putD; rw [← hnb, if_neg (by simp), if_neg hv]
    by_cases hh : has (leafAt d (kOf d n)).l n = true
    · rw [if_pos hh]
      have hLs : Srt (leafAt d (kOf d n)).l := ho.srt _ (leaf_mem hkd)
      rw [putL_fit (f := 7) (d := d) (e := ⟨n, v⟩) (by rw [roomE_ins_has hLs ⟨n, v⟩ hh]; exact ho.fit _ (leaf_mem hkd))]
      rfl
    · rw [if_neg hh]
  have HRD := Lib.hid hRD
  clear hR hRD hnb hv hkd
  have hX1 := Blk.new w 56 #[.string (str n), .int .i64 v]
  have hK1 := (Keeps.refl Non w).alloc (.cells #[.string (str n), .int .i64 v] 56)
  go_enter Try.func39, Try.ntmps39
  go_upto_region 6 with fail
  obtain ⟨w1, hw1⟩ : ∃ W : World, W = w.alloc (.cells #[.string (str n), .int .i64 v] 56) := ⟨_, rfl⟩
  rw [← hw1] at hX1 hK1 ⊢
  clear hw1
  obtain ⟨xb, hxb⟩ : ∃ b, b = w.heap.size := ⟨_, rfl⟩
  rw [← hxb] at hX1 ⊢
  clear hxb
  have h1 := h.non hK1
  have HC := Lib.hid (copied61_any h1 ho)
  go_upto_region 7 with ((go_at_call 61; go_must (refine HC.out.mono ?_); rintro e w2 ⟨gb, t2, l2, ps2, rfl, hG0⟩))
  clear HC
  go_loopg [9] 8 (fun gk u wr => ∃ dc tc lc2 pc, Inv dc ∧ Hid (putL gk dc ⟨n, v⟩ = putL 8 d ⟨n, v⟩) ∧ 6 + (if dc.small = true then 1 else 0) ≤ gk + (leafAt dc (kOf dc n)).depth ∧ Grown 84 86 w1 wr gb dc tc lc2 pc)
  case atStart =>
    refine ⟨d, t2, l2, ps2, hi, Lib.hid rfl, ?_, hG0⟩
    split <;> omega
  case round =>
    obtain ⟨dc, tc, lc2, pc, hic, HVP, hfu, hD⟩ := hrel
    obtain ⟨wx, rfl⟩ : ∃ W : World, W = wr := ⟨_, rfl⟩
    clear hG0
    have hoc := hic.ok
    have hkc := kOf_lt hoc n
    obtain ⟨kc, hkce⟩ : ∃ k, k = kOf dc n := ⟨_, rfl⟩
    rw [← hkce] at hkc hfu
    have hkcp : kc < pc.length := by rw [hD.m.len]; exact hkc
    have hdep5 : (leafAt dc kc).depth ≤ 5 := Nat.le_trans (hoc.low _ (leaf_mem hkc)) hoc.dep
    obtain ⟨gk', rfl⟩ : ∃ m, gk = m + 1 := ⟨gk - 1, by omega⟩
    obtain ⟨cA, cc, hle, hcc, -⟩ := hD.m.lvs.val
    obtain rfl : lc2 = ⟨cA, pc.length, cc⟩ := by cases lc2; injection hle with h1 h2 h3; subst h1 h2 h3; rfl
    clear hle
    obtain ⟨bc, ccl, e2, -⟩ := rowP_at hD.m.lvs hkcp
    injection e2 with e2 e2b e2c
    clear e2b
    subst e2 e2c
    have HO := Lib.hid (leaf_any hD.m hoc n hn)
    rw [← hkce] at HO
    have HKC := Lib.hid hkce
    clear hkce
    obtain ⟨Lc, hLc⟩ : ∃ L, L = (leafAt dc kc).l := ⟨_, rfl⟩
    have hLs : Srt Lc := by rw [hLc]; exact hoc.srt _ (leaf_mem hkc)
    have hLf : fitE Lc = true := by rw [hLc]; exact hoc.fit _ (leaf_mem hkc)
    have hLn := fitE_len hLf
    have hEx : RowE wx pc[kc].2.v Lc := by rw [hLc, leafAt_get hkc]; exact hD.m.ent kc hkcp hkc
    have HLC := Lib.hid hLc
    clear hLc
    obtain ⟨fA, fc, hev, hfc, -⟩ := hEx.val
    have HEV := Lib.hid hev
    clear hev
    have hki : (kc : Int) < (pc.length : Int) := by omega
    go_upto_region 8 with ((go_at_call 62; go_must (refine HO.out.mono ?_); rintro e _ ⟨rfl, q5, rfl⟩))
    obtain ⟨w5, hw5⟩ : ∃ W : World, W = wx.drewN q5 := ⟨_, rfl⟩
    have hK5 : Keeps Non wx w5 := by rw [hw5]; exact (Keeps.refl _ _).drewN q5
    rw [← hw5]
    clear hw5 HO
    have hD5 := hD.non hK5
    have hK5d : Keeps Non w5 w5.drew := (Keeps.refl Non w5).drew
    have hD5d := hD5.non hK5d
    have hX5 := (hX1.non hD5.k).non hK5d
    have e0 : w5.drew.cell? ⟨xb, 0, none⟩ = some (.string (str n)) := hX5.cell 0
    have e1 : w5.drew.cell? ⟨xb, 1, none⟩ = some (.int .i64 v) := hX5.cell 1
    have c3 : w5.drew.cell? ⟨gb, 3, none⟩ = some (.slice (some ⟨bc, 0, none⟩) pc.length cc) := hD5d.m.blk.cell 3
    have x1 : w5.drew.cell? ⟨bc, kc * 2 + 1, none⟩ = some (.slice fA Lc.length fc) := by
      obtain ⟨b3, _, e3, -, -, x1, -⟩ := rowP_at hD5d.m.lvs hkcp
      injection e3 with e3
      injection e3 with e3
      injection e3 with e3
      rw [e3, x1, HEV.out]
    have hE5 : RowE w5.drew (.slice fA Lc.length fc) Lc := by rw [← HEV.out]; exact (hEx.non hK5).non hK5d
    have HPu := Lib.hid (put63_any fA fc Lc (by omega) ⟨n, v⟩ w5.drew hE5)
    rw [put_ins hLs ⟨n, v⟩] at HPu
    go_region_law (first
      | (go_simp; go_at_call 63; refine HPu.out.mono ?_; rintro en w9 ⟨⟨sA, sn, sc⟩, he, hRI, hNI, hKI⟩; go_must (change en = .returned (.slice sA sn sc) at he; subst he)))
    all_goals
      obtain ⟨A', c', e', -, -⟩ := hRI.val
      obtain rfl : sn = (ins Lc ⟨n, v⟩).length := by have e' : Value.slice sA sn sc = .slice A' (ins Lc ⟨n, v⟩).length c' := e'; injection e' with e1 e2
      clear e'
      have HFT := Lib.hid (fits_any (.slice sA (ins Lc ⟨n, v⟩).length sc) (ins Lc ⟨n, v⟩) (by have := roomE_ins Lc ⟨n, v⟩; have e : (⟨n, v⟩ : Ent).name = n := rfl; rw [e] at this; omega) w9 hRI)
      obtain ⟨ft, hft⟩ : ∃ b, b = fitE (ins Lc ⟨n, v⟩) := ⟨_, rfl⟩
      rw [← hft] at HFT
      have hft' : fitE (ins (leafAt dc (kOf dc n)).l ⟨n, v⟩) = ft := by rw [hft, HLC.out, HKC.out]
      have HFI := Lib.hid hft'
      clear hft hft'
      have hD9 := hD5d.non hKI
      have HNf : Hid (∀ q ∈ own (.slice sA (ins Lc ⟨n, v⟩).length sc), q ∉ foot gb tc ⟨some ⟨bc, 0, none⟩, pc.length, cc⟩ pc) := Lib.hid (fun q hq hq' => by have h1 : w5.drew.heap.size ≤ q := hNI q hq; have := hD5d.m.low q hq'; omega)
      have HNn : Hid (∀ q ∈ own (.slice sA (ins Lc ⟨n, v⟩).length sc), w1.heap.size ≤ q) := Lib.hid (fun q hq => by have h1 : w5.drew.heap.size ≤ q := hNI q hq; have := hD5d.k.size; omega)
      have HILn := Lib.hid (rfl : (ins Lc ⟨n, v⟩).length = (ins Lc ⟨n, v⟩).length)
      clear HPu x1 c3 e0 e1 hE5 hX5 hD5 hD5d hEx hNI hKI HEV
      go_upto_region 10 with ((go_at_call 64; go_must (refine HFT.out.mono ?_); rintro e w10 ⟨rfl, hw10⟩; subst w10))
      clear HFT HILn
      have y3 : w9.cell? ⟨gb, 3, none⟩ = some (.slice (some ⟨bc, 0, none⟩) pc.length cc) := hD9.m.blk.cell 3
      cases ft
      case true =>
        obtain ⟨hA, hB, hC⟩ := put39_fin h1 hK1 hD9 hkcp hRI HNf.out HNn.out
        obtain ⟨b7, _, e7, -, z0, z1, zf, -⟩ := rowP_at hD9.m.lvs hkcp
        have hb7 : b7 = bc := by injection e7 with e7; injection e7 with e7; injection e7 with e7; exact e7.symm
        rw [hb7] at z1 zf
        have zfa := zf (kc * 2 + 1)
        clear e7 hb7 zf z0
        have HRR : Hid (R = (0, setL dc kc (ins Lc ⟨n, v⟩))) := Lib.hid (put_fit_R HKC.out HLC.out HRD.out HVP.out HFI.out)
        have HC2 := Lib.hid hC
        clear hC
        obtain ⟨tcA, tcn, tcc⟩ := tc
        go_upto_region 12 with fail
        obtain ⟨w11, hw11⟩ : ∃ W : World, W = w9.setCell ⟨bc, kc * 2 + 1, none⟩ (.slice sA (ins Lc ⟨n, v⟩).length sc) := ⟨_, rfl⟩
        change DictM 84 86 (w9.setCell ⟨bc, kc * 2 + 1, none⟩ (.slice sA (ins Lc ⟨n, v⟩).length sc)) _ _ _ _ _ at hA
        change DictM 84 86 (w9.setCell ⟨bc, kc * 2 + 1, none⟩ (.slice sA (ins Lc ⟨n, v⟩).length sc)) _ _ _ _ _ at hB
        rw [← hw11] at hA hB ⊢
        have HC3 : Hid (DoneD 84 86 w g t l ps (setL dc kc (ins Lc ⟨n, v⟩)) ((((w11.setCell ⟨g, 0, none⟩ (.bool dc.small)).setCell ⟨g, 1, none⟩ (.int .i64 (dc.depth : Int))).setCell ⟨g, 2, none⟩ (.slice tcA tcn tcc)).setCell ⟨g, 3, none⟩ (.slice (some ⟨bc, 0, none⟩) pc.length cc))) := Lib.hid (by rw [hw11]; exact HC2.out)
        clear hw11 z1 zfa HC2 y3
        have a0 : w11.cell? ⟨gb, 0, none⟩ = some (.bool dc.small) := hA.blk.cell 0
        have a1 : w11.cell? ⟨gb, 1, none⟩ = some (.int .i64 (dc.depth : Int)) := hA.blk.cell 1
        have a2 : w11.cell? ⟨gb, 2, none⟩ = some (.slice tcA tcn tcc) := hA.blk.cell 2
        have a3 : w11.cell? ⟨gb, 3, none⟩ = some (.slice (some ⟨bc, 0, none⟩) pc.length cc) := hA.blk.cell 3
        obtain ⟨c0, c1, c2, c3⟩ := dict_cells hB
        have f0 := hB.blk.frozen 0
        have f1 := hB.blk.frozen 1
        have f2 := hB.blk.frozen 2
        have f3 := hB.blk.frozen 3
        go_wp2_with fail
        go_ret
        exact ⟨by rw [HRR.out]; rfl, by rw [HRR.out]; exact HC3.out⟩
      case false =>
        have a0 : w9.cell? ⟨gb, 0, none⟩ = some (.bool dc.small) := hD9.m.blk.cell 0
        obtain ⟨sm, hsm⟩ : ∃ b, b = dc.small := ⟨_, rfl⟩
        rw [← hsm] at a0 hfu
        cases sm
        case true =>
          have f0 := hD9.m.blk.frozen 0
          have hDL := hD9.large
          have HPS := Lib.hid (putL_small (f := gk') (d := dc) (e := ⟨n, v⟩) HFI.out hsm.symm)
          clear hsm
          have hle : 6 ≤ gk' + (leafAt dc kc).depth := by simp at hfu; omega
          clear hfu
          go_wp2_with fail
          go_roundg gk'
          case measure => omega
          case rel =>
            refine ⟨_, tc, _, pc, large_inv hic, Lib.hid (HPS.out.symm.trans HVP.out), ?_, hDL⟩
            have e1 : leafAt { dc with small := false } (kOf { dc with small := false } n) = leafAt dc kc := by rw [HKC.out]; rfl
            rw [e1, if_neg (by simp)]
            exact hle
        case false =>
          have hle : 6 ≤ gk' + 1 + (leafAt dc kc).depth := by simpa using hfu
          clear hfu
          have hsmf := hsm.symm
          clear hsm
          obtain ⟨b7, _, e7, -, z0, -, -, -⟩ := rowP_at hD9.m.lvs hkcp
          have hb7 : b7 = bc := by injection e7 with e7; injection e7 with e7; injection e7 with e7; exact e7.symm
          rw [hb7, hD9.m.dep kc hkcp hkc, ← leafAt_get hkc] at z0
          clear e7 hb7
          by_cases h5 : (leafAt dc kc).depth = 5
          · have HRR : Hid (R = (152, d)) := Lib.hid (put_full_R HKC.out HRD.out HVP.out HFI.out hsmf h5)
            have HKK : Hid (Keeps Non w w9) := Lib.hid (hK1.non hD9.k)
            rw [h5] at z0
            clear h5 hle hsmf
            go_wp2_with fail
            go_ret
            exact ⟨by rw [HRR.out]; rfl, by rw [HRR.out]; exact h.doneSelf HKK.out⟩
          · have HSp := Lib.hid (split65_any hD9 hoc kc _ hkc rfl h5)
            obtain ⟨hI2, -, hL2, hS2⟩ := splitD_inv hic hsmf kc hkc h5
            have HPS : Hid (putL (gk' + 1) dc ⟨n, v⟩ = putL gk' (splitD dc kc) ⟨n, v⟩) := Lib.hid (by
              have e3 : putL (gk' + 1) dc ⟨n, v⟩ = putL gk' (splitD dc (kOf dc n)) ⟨n, v⟩ := putL_split (f := gk') (d := dc) (e := ⟨n, v⟩) HFI.out hsmf (by show (leafAt dc (kOf dc n)).depth ≠ 5; rw [← HKC.out]; exact h5)
              rw [e3, HKC.out])
            have HL2 := Lib.hid (hL2 n HKC.out.symm)
            have HS2 := Lib.hid hS2
            have h5b : (((leafAt dc kc).depth : Int) == 5) = false := beq_eq_false_iff_ne.2 (by omega)
            clear h5 hsmf hL2 hS2
            generalize hdp : (leafAt dc kc).depth = dp at z0 h5b hle HL2 hdep5
            have HDP := Lib.hid hdp
            clear hdp
            go_wp2_with fail
            refine HSp.out.mono ?_
            rintro e w12 ⟨rfl, t12, l12, p12, hD12⟩
            go_wp2_with fail
            go_roundg gk'
            case measure => omega
            case rel =>
              refine ⟨splitD dc kc, t12, l12, p12, hI2, Lib.hid (HPS.out.symm.trans HVP.out), ?_, hD12⟩
              rw [HL2.out, HS2.out, if_neg (by simp)]; omega
end Go.Proofs.Ytiieglfpmmhfiaa
