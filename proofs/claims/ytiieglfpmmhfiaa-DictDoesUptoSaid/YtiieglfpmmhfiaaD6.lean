/- A dictionary cloned. -/
import Derived.Test.YtiieglfpmmhfiaaG2
import Derived.Test.YtiieglfpmmhfiaaShelfs
import Derived.Deep.RegionHeld3
import Derived.Deep.RegionWith
import Derived.RegionTactic
namespace Go.Proofs.Ytiieglfpmmhfiaa
set_option maxRecDepth 100000
open Go.RowKit Go.Uc

/-- The leaves copied so far. -/
structure Cl (w0 w : World) (gb : Nat) (d : Dic) (t : Sl) (l2 : Sl) (ps2 : List (Nat × Sl)) (k : Nat) : Prop where
  keep : Keeps Non w0 w
  blk : Blk w gb 69 #[.bool d.small, .int .i64 (d.depth : Int), t.v, l2.v]
  tab : RowN w t.v d.table
  lvs : RowP w 66 2 encP l2.v ps2
  len : ps2.length = k
  dep : ∀ i (h : i < ps2.length) (h' : i < d.leaves.length), ps2[i].1 = d.leaves[i].depth
  ent : ∀ i (h : i < ps2.length) (h' : i < d.leaves.length), RowE w ps2[i].2.v d.leaves[i].l
  nod : (foot gb t l2 ps2).Nodup
  new : ∀ q ∈ foot gb t l2 ps2, w0.heap.size ≤ q

theorem Cl.non {w0 w w' : World} {gb : Nat} {d : Dic} {t l2 : Sl} {ps2 : List (Nat × Sl)} {k : Nat} (h : Cl w0 w gb d t l2 ps2 k) (hk : Keeps Non w w') : Cl w0 w' gb d t l2 ps2 k :=
  ⟨h.keep.non hk, h.blk.non hk, h.tab.non hk, h.lvs.non hk, h.len, h.dep, fun i hi hi' => (h.ent i hi hi').non hk, h.nod, h.new⟩
theorem Cl.low {w0 w : World} {gb : Nat} {d : Dic} {t l2 : Sl} {ps2 : List (Nat × Sl)} {k : Nat} (h : Cl w0 w gb d t l2 ps2 k) (hk : k ≤ d.leaves.length) : ∀ q ∈ foot gb t l2 ps2, q < w.heap.size := by
  intro q hq
  rcases List.mem_cons.1 hq with rfl | hq
  · exact h.blk.lt
  rcases List.mem_append.1 hq with hq | hq
  · exact h.tab.lt q hq
  rcases List.mem_append.1 hq with hq | hq
  · exact h.lvs.lt q hq
  obtain ⟨p, hp, hq⟩ := List.mem_flatMap.1 hq
  obtain ⟨i, hi, rfl⟩ := List.getElem_of_mem hp
  exact (h.ent i hi (by have := h.len; omega)).lt q hq

theorem Cl.step {w0 w6 w8 : World} {N gb : Nat} {d : Dic} {t l2 s8 s6 : Sl} {ps2 : List (Nat × Sl)} {k dk : Nat} {o : Obj} (h : Cl w0 w6 gb d t l2 ps2 k) (hk : k < d.leaves.length) (hdep : dk = d.leaves[k].depth) (hE : RowE w6 s6.v d.leaves[k].l)
    (hN : ∀ q ∈ own s6.v, N ≤ q) (hN0 : w0.heap.size ≤ N) (hf : ∀ q ∈ foot gb t l2 ps2, q < N)
    (hO : RowP w8 66 2 encP s8.v (ps2 ++ [(dk, s6)])) (hK : Keeps (· ∈ own l2.v) (w6.alloc o) w8) (hat : s8.v.ownBlock = l2.v.ownBlock ∨ s8.v.ownBlock = some (w6.alloc o).heap.size) :
    Cl w0 (w8.setCell ⟨gb, 3, none⟩ s8.v) gb d t s8 (ps2 ++ [(dk, s6)]) (k + 1) := by
  have hn := nod_iff.1 h.nod
  have hlow := h.low (by omega)
  have h7 := h.non ((Keeps.refl Non w6).alloc o)
  have hz : (w6.alloc o).heap.size = w6.heap.size + 1 := by simp
  have h8 : ∀ q ∈ own s8.v, q ∈ own l2.v ∨ q = w6.heap.size + 1 := fun q hq => by
    rw [mem_own] at hq
    rcases hat with e | e
    · rw [e] at hq; exact .inl (mem_own.2 hq)
    · rw [e, hz] at hq; injection hq with hq; exact .inr hq.symm
  have h6lt := hE.lt
  have hKg : Keeps (Only gb) w8 (w8.setCell ⟨gb, 3, none⟩ s8.v) := (Keeps.refl (Only gb) _).set (p := ⟨gb, 3, none⟩) rfl _
  have hgl : gb ∉ own l2.v := hn.gl
  have hg6 : gb ∉ own s6.v := fun hq => by have := hN _ hq; have := hf gb foot_g; omega
  have hg8 : gb ∉ own s8.v := fun hq => by
    rcases h8 _ hq with h | h
    · exact hgl h
    · have := hlow gb foot_g; omega
  have hB8 := (h7.blk.keep hK hgl).set 3 s8.v
  have hnew : Nod gb t s8 (ps2 ++ [(dk, s6)]) := by
    refine (hn.leaves fun q hq => ?_).snoc fun q hq => ?_
    · rcases h8 _ hq with h | h
      · exact ⟨fun e => hgl (e ▸ h), fun ht => hn.tl _ ht h, hn.le _ h⟩
      · have hq' : ∀ x ∈ foot gb t l2 ps2, q ≠ x := fun x hx e => by have := hlow x hx; omega
        exact ⟨hq' _ foot_g, fun ht => hq' q (foot_t ht) rfl, fun he => hq' q (mem_foot.2 (.inr (.inr (.inr he)))) rfl⟩
    · have hqN := hN q hq
      have hql := h6lt q hq
      have hq' : ∀ x ∈ foot gb t l2 ps2, q ≠ x := fun x hx e => by have := hf x hx; omega
      refine ⟨hq' _ foot_g, fun ht => hq' q (foot_t ht) rfl, fun h8' => ?_, fun he => hq' q (mem_foot.2 (.inr (.inr (.inr he)))) rfl⟩
      rcases h8 _ h8' with h | h
      · exact hq' q (foot_l h) rfl
      · omega
  refine ⟨?_, hB8, ?_, ?_, ?_, ?_, ?_, nod_iff.2 hnew, ?_⟩
  · refine ((h7.keep).then hK fun i hi e => ?_).setNew (p := ⟨gb, 3, none⟩) (h.new gb foot_g) _
    have := h.new i (foot_l e); omega
  · exact (h7.tab.keep hK fun q hq hq' => hn.tl q hq hq').keep hKg fun q hq e => hn.gt (by unfold Only at e; exact e ▸ hq)
  · exact hO.keep hKg fun q hq e => hg8 (by unfold Only at e; exact e ▸ hq)
  · simp [h.len]
  · intro i hi hi'
    simp at hi
    rcases Nat.lt_or_ge i ps2.length with hlt | hge
    · rw [List.getElem_append_left hlt]; exact h.dep i hlt hi'
    · obtain rfl : i = ps2.length := by omega
      have := h.len
      subst this
      rw [List.getElem_append_right (Nat.le_refl _)]
      simpa using hdep
  · intro i hi hi'
    simp at hi
    rcases Nat.lt_or_ge i ps2.length with hlt | hge
    · rw [List.getElem_append_left hlt]
      have he := h7.ent i hlt hi'
      have hm : ∀ q ∈ own ps2[i].2.v, q ∈ ents ps2 := fun q hq => mem_ents.2 ⟨i, hlt, hq⟩
      exact (he.keep hK fun q hq hq' => hn.le q hq' (hm q hq)).keep hKg fun q hq e => hn.ge (by unfold Only at e; exact e ▸ hm q hq)
    · obtain rfl : i = ps2.length := by omega
      have := h.len
      subst this
      rw [List.getElem_append_right (Nat.le_refl _)]
      have he := hE.non ((Keeps.refl Non w6).alloc o)
      simp only [Nat.sub_self, List.getElem_cons_zero]
      exact (he.keep hK fun q hq hq' => by have := hN q hq; have := hf q (foot_l hq'); omega).keep hKg fun q hq e => hg6 (by unfold Only at e; exact e ▸ hq)
  · intro q hq
    rcases mem_foot.1 hq with rfl | hq | hq | hq
    · exact h.new _ foot_g
    · exact h.new _ (foot_t hq)
    · rcases h8 _ hq with h' | h'
      · exact h.new _ (foot_l h')
      · have := h.keep.size; omega
    · rw [ents_snoc, List.mem_append] at hq
      rcases hq with hq | hq
      · exact h.new _ (mem_foot.2 (.inr (.inr (.inr hq))))
      · have := hN q hq; omega

set_option maxHeartbeats 4000000 in
theorem clone_any {w : World} {g : Nat} {d : Dic} {t l : Sl} {ps : List (Nat × Sl)} (h : DictM 69 66 w g d t l ps) (ho : Ok d) :
    Calls Try.prog 29 #[.pointer (some ⟨g, 0, none⟩)] w fun e w' => ∃ gb t2 l2 ps2, e = .returned (.pointer (some ⟨gb, 0, none⟩)) ∧ DictM 69 66 w' gb d t2 l2 ps2 ∧ (∀ q ∈ foot gb t2 l2 ps2, w.heap.size ≤ q) ∧ Keeps Non w w' := by
  obtain ⟨lA, lc, hle, hlc, -⟩ := h.lvs.val
  obtain rfl : l = ⟨lA, ps.length, lc⟩ := by cases l; injection hle with h1 h2 h3; subst h1 h2 h3; rfl
  clear hle
  have htl : d.table.length ≤ 1000000000000 := by rw [ho.tab]; have := two_pow d.depth ho.dep; omega
  have hd := h.drewN 1
  obtain ⟨c0, c1, c2, c3⟩ := dict_cells (h.non (Keeps.refl Non w).drew)
  have FS : Hid (w.drew.cell? ⟨g, 0, none⟩ = some (.bool d.small) ∧ w.drew.cell? ⟨g, 1, none⟩ = some (.int .i64 (d.depth : Int)) ∧ w.drew.cell? ⟨g, 2, none⟩ = some t.v) := ⟨c0, c1, c2⟩
  have HC := Lib.hid (cloneN_any t.v d.table htl w.drew (h.tab.non (Keeps.refl Non w).drew))
  clear hd c0 c1 c2 c3
  go_enter Try.func29, Try.ntmps29
  go_upto_region 1 with fail
  go_region_held3 (fun w' : World => w'.cell? ⟨g, 0, none⟩ = some (.bool d.small) ∧ w'.cell? ⟨g, 1, none⟩ = some (.int .i64 (d.depth : Int)) ∧ w'.cell? ⟨g, 2, none⟩ = some t.v)
    (with_reducible (first | exact FS.out | exact FS2.out | exact FS3.out))
    (first | (go_at_call 54; refine HC.out.mono ?_; rintro e w2 ⟨t2, rfl, hT2, hN2, hK2⟩; go_must (have hD2 := (h.non (Keeps.refl Non w).drew).non hK2; obtain ⟨e0, e1, e2, e3⟩ := dict_cells hD2; have FS2 : Hid (w2.cell? ⟨g, 0, none⟩ = some (.bool d.small) ∧ w2.cell? ⟨g, 1, none⟩ = some (.int .i64 (d.depth : Int)) ∧ w2.cell? ⟨g, 2, none⟩ = some t.v) := ⟨e0, e1, e2⟩; obtain ⟨f0, f1, f2, f3⟩ := dict_cells (hD2.non ((Keeps.refl Non w2).alloc (.cells #[.bool d.small, .int .i64 (d.depth : Int), t2.v, .slice none 0 0] 69))); have FS3 : Hid ((w2.alloc (.cells #[.bool d.small, .int .i64 (d.depth : Int), t2.v, .slice none 0 0] 69)).cell? ⟨g, 0, none⟩ = some (.bool d.small) ∧ (w2.alloc (.cells #[.bool d.small, .int .i64 (d.depth : Int), t2.v, .slice none 0 0] 69)).cell? ⟨g, 1, none⟩ = some (.int .i64 (d.depth : Int)) ∧ (w2.alloc (.cells #[.bool d.small, .int .i64 (d.depth : Int), t2.v, .slice none 0 0] 69)).cell? ⟨g, 2, none⟩ = some t.v) := ⟨f0, f1, f2⟩; clear e0 e1 e2 e3 f0 f1 f2 f3)))
  have hT3 := hT2.non ((Keeps.refl Non w2).alloc (.cells #[.bool d.small, .int .i64 (d.depth : Int), t2.v, .slice none 0 0] 69))
  have hB3 := Blk.new w2 69 #[.bool d.small, .int .i64 (d.depth : Int), t2.v, .slice none 0 0]
  have hK3 : Keeps Non w (w2.alloc (.cells #[.bool d.small, .int .i64 (d.depth : Int), t2.v, .slice none 0 0] 69)) := (((Keeps.refl Non w).drew).non hK2).alloc _
  have hz2 : w.heap.size ≤ w2.heap.size := by have := hK2.size; simpa using this
  have hlt2 := hT2.lt
  obtain ⟨w3, hw3⟩ : ∃ W : World, W = w2.alloc (.cells #[.bool d.small, .int .i64 (d.depth : Int), t2.v, .slice none 0 0] 69) := ⟨_, rfl⟩
  obtain ⟨gb, hgb⟩ : ∃ b, b = w2.heap.size := ⟨_, rfl⟩
  rw [← hw3] at hT3 hB3 hK3 ⊢
  rw [← hgb] at hB3 hz2 hlt2 ⊢
  have hn0 : own (⟨none, 0, 0⟩ : Sl).v = [] := rfl
  have hCl : Cl w w3 gb d t2 ⟨none, 0, 0⟩ [] 0 := by
    refine ⟨hK3, hB3, hT3, RowP.nil _ _ _ _, rfl, fun i h => absurd h (by simp), fun i h => absurd h (by simp), ?_, ?_⟩
    · unfold foot
      simp only [hn0, List.flatMap_nil, List.append_nil, List.nodup_cons]
      refine ⟨fun hm => ?_, ?_⟩
      · have := hlt2 _ hm; omega
      · unfold own
        cases Value.ownBlock t2.v <;> simp
    · intro q hq
      unfold foot at hq
      simp only [hn0, List.flatMap_nil, List.append_nil, List.mem_cons] at hq
      rcases hq with rfl | hq
      · exact hz2
      · exact hN2 q hq
  have hD3 := h.non hK3
  obtain ⟨e0, e1, e2, -⟩ := dict_cells hD3
  have e3 : w3.cell? ⟨g, 3, none⟩ = some (.slice lA ps.length lc) := hD3.blk.cell 3
  clear FS FS2 FS3 HC hT2 hN2 hK2 hw3 hgb hz2 hlt2 hT3 hB3 hK3 hD2
  go_wp2_with fail
  clear e0 e1 e2 e3 hD3
  go_loopw [26] (fun i wr => ∃ k l2 ps2, k ≤ ps.length ∧ i = .int .i64 (k : Int) ∧ Cl w wr gb d t2 l2 ps2 k) (fun i _ => ps.length - (intOf i).toNat)
  case atStart => exact ⟨0, _, _, Nat.zero_le _, rfl, hCl⟩
  case round =>
    obtain ⟨k, l2, ps2, hk, rfl, hR⟩ := hrel
    obtain ⟨wx, rfl⟩ : ∃ W : World, W = wr := ⟨_, rfl⟩
    have hDx := h.non hR.keep
    by_cases hlt : k < ps.length
    · have hltd : k < d.leaves.length := by rw [← h.len]; exact hlt
      have hk32 : k < 32 := by have := ho.many; omega
      obtain ⟨gl, cap, ev, hcap, x0, x1, -, -⟩ := rowP_at hDx.lvs hlt
      have hEx := hDx.ent k hlt hltd
      have hdep := hDx.dep k hlt hltd
      have hen : d.leaves[k].l.length ≤ 1000000000000 := by have := (fitE_len (ho.fit _ (List.getElem_mem hltd))).1; omega
      injection ev with ev ev2 ev3
      clear ev2
      subst ev ev3
      generalize hpk : ps[k] = pk at x0 x1 hEx hdep
      obtain ⟨dk, ek⟩ := pk
      replace x1 : wx.cell? ⟨gl, k * 2 + 1, none⟩ = some (.slice ek.A ek.n ek.c) := x1
      go_upto_region 5 with fail
      have hR5 : Cl w (wx.alloc (.cells #[.int .i64 (dk : Int), .slice ek.A ek.n ek.c] 66)) gb d t2 l2 ps2 k := hR.non ((Keeps.refl Non wx).alloc _)
      have hX5 := Blk.new wx 66 #[.int .i64 (dk : Int), .slice ek.A ek.n ek.c]
      have hE5 := hEx.non ((Keeps.refl Non wx).alloc (.cells #[.int .i64 (dk : Int), .slice ek.A ek.n ek.c] 66))
      have hgbx : gb < wx.heap.size := hR.blk.lt
      have hfx : ∀ q ∈ foot gb t2 l2 ps2, q < wx.heap.size := hR.low (by omega)
      obtain ⟨w5, hw5⟩ : ∃ W : World, W = wx.alloc (.cells #[.int .i64 (dk : Int), .slice ek.A ek.n ek.c] 66) := ⟨_, rfl⟩
      obtain ⟨xb, hxb⟩ : ∃ b, b = wx.heap.size := ⟨_, rfl⟩
      rw [← hw5] at hR5 hX5 hE5 ⊢
      rw [← hxb] at hX5 hgbx hfx ⊢
      clear hw5 hxb x0 x1 hR hEx hDx hcap
      obtain ⟨l2A, l2n, l2c⟩ := l2
      obtain rfl : l2n = ps2.length := by
        obtain ⟨A, c, e, -⟩ := hR5.lvs.val
        injection e
      have y0 : w5.drew.cell? ⟨xb, 0, none⟩ = some (.int .i64 (dk : Int)) := hX5.cell 0
      have y1 : w5.drew.cell? ⟨xb, 1, none⟩ = some (.slice ek.A ek.n ek.c) := hX5.cell 1
      have y2 : w5.drew.cell? ⟨gb, 3, none⟩ = some (.slice l2A ps2.length l2c) := hR5.blk.cell 3
      have HN0 : Hid (w.heap.size ≤ w5.drew.heap.size) := Lib.hid hR5.keep.size
      have hfx : ∀ q ∈ foot gb t2 ⟨l2A, ps2.length, l2c⟩ ps2, q < w5.drew.heap.size := fun q hq => by have := hfx q hq; have := hX5.lt; simp; omega
      have hgl2 : gb ∉ own (.slice l2A ps2.length l2c) := fun hm => by
        have := hR5.nod
        unfold foot at this
        rw [List.nodup_cons] at this
        exact this.1 (List.mem_append_right _ (List.mem_append_left _ hm))
      have Hgl2 := Lib.hid hgl2
      clear hgl2
      have HB1 : Hid (ps2.length + 1 ≤ maxLen) := Lib.hid (by have := hR5.len; have := ho.many; unfold maxLen; omega)
      have HB2 : Hid ((ps2.length + 1) * 32 ≤ 140737488355328) := Lib.hid (by have := hR5.len; have := ho.many; omega)
      have HCl := Lib.hid (cloneE_any ek.v d.leaves[k].l hen w5.drew (hE5.non (Keeps.refl Non w5).drew))
      go_region_law (first
        | (go_simp; go_at_call 31; refine HCl.out.mono ?_; rintro e w6 ⟨s6, rfl, hE6, hN6, hK6⟩; go_must (have hR6 := (hR5.non (Keeps.refl Non w5).drew).non hK6; have hX6 := (hX5.drew).non hK6; have hR7 := hR6.non ((Keeps.refl Non w6).alloc (.cells #[.int .i64 (dk : Int), .slice s6.A s6.n s6.c] 66)); have hX7 := hX6.non ((Keeps.refl Non w6).alloc (.cells #[.int .i64 (dk : Int), .slice s6.A s6.n s6.c] 66)); have z0 : w6.cell? ⟨xb, 0, none⟩ = some (.int .i64 (dk : Int)) := hX6.cell 0; have z2 : w6.cell? ⟨gb, 3, none⟩ = some (.slice l2A ps2.length l2c) := hR6.blk.cell 3; have v2 : (w6.alloc (.cells #[.int .i64 (dk : Int), .slice s6.A s6.n s6.c] 66)).cell? ⟨gb, 3, none⟩ = some (.slice l2A ps2.length l2c) := hR7.blk.cell 3))
        | (go_loud (refine step_append_row (o := ⟨some 42, _, _, _, _, _⟩) rfl (.tmp 34) (.tmp 41) 67 rfl 66 2 encP _ 32 Try.underlying67 info66 rfl (by decide) encP_len encP_one (.slice l2A ps2.length l2c) ps2 rfl hR7.lvs (some ⟨w6.heap.size, 0, none⟩) 1 1 [(dk, s6)] rfl rfl (Ats.lit w6 #[.int .i64 (dk : Int), .slice s6.A s6.n s6.c] 66 _ rfl) HB1.out HB2.out ?_; intro u8 w8 hO8 hK8 hat; obtain ⟨s8, rfl, -⟩ := RowP.sl hO8; have hB8 := hR7.blk.keep hK8 Hgl2.out; have z8 := hB8.cell 3; have f8 := hB8.frozen 3)))
      all_goals
        go_wp2_with fail
        go_roundw
        case rel => exact ⟨k + 1, s8, _, by omega, by go_num, hR6.step hltd hdep hE6 hN6 HN0.out hfx hO8 hK8 hat⟩
        case measure => simp [intOf]; omega
    · obtain rfl : k = ps.length := by omega
      go_wp2_with fail
      go_ret
      exact ⟨gb, t2, l2, ps2, rfl, ⟨hR.blk, hR.tab, hR.lvs, by rw [hR.len, h.len], hR.dep, hR.ent, hR.nod⟩, hR.new, hR.keep⟩
end Go.Proofs.Ytiieglfpmmhfiaa
