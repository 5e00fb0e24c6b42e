/- Drop; Len. -/
import Derived.Test.YtiieglfpmmhfiaaD20
import Derived.Test.YtiieglfpmmhfiaaD12
namespace Go.Proofs.Ytiieglfpmmhfiaa
set_option maxRecDepth 100000
open Go.RowKit Go.Uc

theorem slice_blk {a b n c n' c' : Nat} (h : Value.slice (some ⟨a, 0, none⟩) n c = .slice (some ⟨b, 0, none⟩) n' c') : a = b := by
  injection h with h; injection h with h; injection h
def dropD (d : Dic) (n : List UInt8) : Int × Dic :=
  if has (leafAt d (kOf d n)).l n = true then (0, setL d (kOf d n) (drp (leafAt d (kOf d n)).l n)) else (171, d)
theorem drop_inv {d : Dic} (h : Inv d) (n : List UInt8) : Inv (dropD d n).2 := by
  unfold dropD
  split
  · have hk := kOf_lt h.ok n
    refine setL_inv h _ hk _ (drp_srt (h.ok.srt _ (leaf_mem hk)) n) (fitE_sub List.filter_sublist (h.ok.fit _ (leaf_mem hk))) fun e he => ?_
    exact leaf_good h.toInv0 _ hk e (List.mem_filter.1 he).1
  · exact h
theorem getE_drp (l : List Ent) (n m : List UInt8) : getE (drp l n) m = if n = m then none else getE l m := by
  unfold drp
  by_cases h : n = m
  · subst h
    rw [if_pos rfl]
    unfold getE
    have : (l.filter fun x => x.name != n).find? (fun x => x.name == n) = none := by
      rw [List.find?_eq_none]
      intro x hx hh
      have h1 := (List.mem_filter.1 hx).2
      have h2 : x.name = n := by simpa using hh
      rw [h2] at h1; simp at h1
    rw [this]; rfl
  · rw [if_neg h]
    exact getE_filter (fun a => a != n) l m (by simp; exact fun e => h e.symm)
theorem val_drop {d : Dic} (h : Inv d) (n m : List UInt8) : val (dropD d n).2 m = if n = m then none else val d m := by
  have hk := kOf_lt h.ok n
  unfold dropD
  split
  · show val (setL d (kOf d n) _) m = _
    rw [val_setL _ hk, getE_drp]
    by_cases hn : n = m
    · subst hn; simp
    · rw [if_neg hn, if_neg hn]
      split
      · rename_i e1; unfold val; rw [e1]
      · rfl
  · rename_i hh
    show val d m = _
    by_cases hn : n = m
    · subst hn
      rw [if_pos rfl]
      rw [has_getE] at hh
      unfold val
      cases hg : getE (leafAt d (kOf d n)).l n with
      | none => rfl
      | some v => rw [hg] at hh; exact absurd rfl hh
    · rw [if_neg hn]
theorem drop_code {d : Dic} (n : List UInt8) : (dropD d n).1 = if (val d n).isSome = true then 0 else 171 := by
  unfold dropD val
  rw [has_getE]
  split <;> rfl

set_option maxHeartbeats 4000000 in
theorem drop_any {w : World} {g : Nat} {d : Dic} {t l : Sl} {ps : List (Nat × Sl)} (h : DictM 69 66 w g d t l ps) (ho : Ok d) (n : List UInt8) (hn : n.length ≤ 9223372036854775807) :
    Calls Try.prog 20 #[.pointer (some ⟨g, 0, none⟩), .string (str n)] w fun e w' => e = .returned (.int .i64 (dropD d n).1) ∧ DoneD 69 66 w g t l ps (dropD d n).2 w' := by
  have hkd := kOf_lt ho n
  have hkp : kOf d n < ps.length := by rw [h.len]; exact hkd
  have HO := Lib.hid (of_any h ho n hn)
  obtain ⟨R, hR⟩ : ∃ R, R = dropD d n := ⟨_, rfl⟩
  rw [← hR]
  have HR : Hid (R = if has (leafAt d (kOf d n)).l n = true then (0, setL d (kOf d n) (drp (leafAt d (kOf d n)).l n)) else (171, d)) := Lib.hid hR
  clear hR
  obtain ⟨k, hk⟩ : ∃ k, k = kOf d n := ⟨_, rfl⟩
  rw [← hk] at hkd hkp HO
  have HK := Lib.hid hk
  clear hk
  obtain ⟨lA, lc, hle, -, -⟩ := h.lvs.val
  obtain rfl : l = ⟨lA, ps.length, lc⟩ := by cases l; injection hle with h1 h2 h3; subst h1 h2 h3; rfl
  clear hle
  obtain ⟨bl, cl, e2, -⟩ := rowP_at h.lvs hkp
  injection e2 with e2 e2b e2c
  clear e2b
  subst e2 e2c
  obtain ⟨L, hL⟩ : ∃ L, L = (leafAt d k).l := ⟨_, rfl⟩
  have hLs : Srt L := by rw [hL]; exact ho.srt _ (leaf_mem hkd)
  have hLn : L.length ≤ 50 := by rw [hL]; exact (fitE_len (ho.fit _ (leaf_mem hkd))).1
  have hE : RowE w ps[k].2.v L := by rw [hL, leafAt_get hkd]; exact h.ent k hkp hkd
  have HL := Lib.hid hL
  clear hL
  have HF := Lib.hid (fun W (hW : Keeps Non w W) => find_any ps[k].2.v L n (by omega) hLs W (hE.non hW))
  obtain ⟨eA, ec, hev, hec, -⟩ := hE.val
  rw [hev] at HF
  have HEV := Lib.hid hev
  clear hev
  have HHL := Lib.hid (has_lb hLs n)
  obtain ⟨hb, hhb⟩ : ∃ b, b = has L n := ⟨_, rfl⟩
  have HHB := Lib.hid hhb
  rw [← hhb] at HF
  clear hhb
  go_enter Try.func20, Try.ntmps20
  go_upto_region 2 with ((go_at_call 27; refine HO.out.mono ?_; rintro e _ ⟨⟨b2, hb2, rfl⟩, q2, rfl⟩))
  obtain ⟨w2, hw2⟩ : ∃ W : World, W = w.drewN q2 := ⟨_, rfl⟩
  have hK2 : Keeps Non w w2 := by rw [hw2]; exact (Keeps.refl _ _).drewN q2
  rw [← hw2]
  obtain rfl : b2 = bl := by injection hb2 with e; injection e with e; exact e.symm
  clear hw2 hb2 HO
  have x1 : w2.cell? ⟨b2, k * 2 + 1, none⟩ = some (.slice eA L.length ec) := by
    obtain ⟨b3, _, e3, -, -, x1, -⟩ := rowP_at (h.non hK2).lvs hkp
    injection e3 with e3
    injection e3 with e3
    injection e3 with e3
    rw [e3, x1, HEV.out]
  have HF2 := Lib.hid (HF.out w2 hK2)
  clear HF
  go_upto_if 21 with ((go_at_call 28; refine HF2.out.mono ?_; rintro e w3 ⟨rfl, hK3⟩))
  clear HF2
  have hK23 := hK2.non hK3
  cases hb
  case true =>
    obtain ⟨hlt, hat⟩ := HHL.out.1 HHB.out.symm
    have HRR : Hid (R = (0, setL d k (drp L n))) := Lib.hid (by rw [HR.out, ← HK.out, ← HL.out, if_pos HHB.out.symm])
    have h3 := h.non hK23
    have hE3 := hE.non hK23
    have HDRP : Hid (L.take (lb L n) ++ L.drop (lb L n + 1) = drp L n) := Lib.hid (drp_lb hLs n HHB.out.symm)
    rw [HEV.out] at hE3
    obtain ⟨eb, ecap, ee, -, -, -, -, -⟩ := rowE_at hE3 hlt
    injection ee with e1 e2 e3
    clear e2
    subst e1 e3
    have y1 : w3.cell? ⟨b2, k * 2 + 1, none⟩ = some (.slice (some ⟨eb, 0, none⟩) L.length ec) := hK3.cell x1 id
    obtain ⟨N, hN⟩ : ∃ N, L.length = N + 1 := ⟨L.length - 1, by omega⟩
    have hE3' : RowE w3 (.slice (some ⟨eb, 0, none⟩) (N + 1) ec) L := by rw [← hN]; exact hE3
    have HDel := Lib.hid (delete_any eb ec L N (lb L n) hN (by omega) (by omega) w3 hE3')
    have hbl : (lb L n : Int) ≤ 50 := by omega
    have hebb : b2 ≠ eb := by
      have hn0 := nod_iff.1 h.nod
      rintro rfl
      refine hn0.le _ (by show b2 ∈ [b2]; simp) (mem_ents.2 ⟨k, hkp, ?_⟩)
      rw [HEV.out]; show b2 ∈ [b2]; simp
    rw [hN] at y1
    have HNN := Lib.hid hN
    clear hN hat
    generalize lb L n = at_ at *
    have hwr : IntKind.i64.wrap ((at_ : Int) + 1) = (at_ : Int) + 1 := by rw [IntKind.wrap_i64]; omega
    have hown : ∀ q, q ∈ own ps[k].2.v ↔ q = eb := fun q => by rw [HEV.out]; show q ∈ [eb] ↔ _; simp
    have HOWN := Lib.hid hown
    clear hown
    go_wp2_with ((go_at_call 46; refine HDel.out.mono ?_; rintro e w4 ⟨rfl, hRd, hK4⟩; go_must (have h4l := h3.lvs.keep hK4 (fun q hq e => by unfold Only at e; subst e; exact (nod_iff.1 h.nod).le _ hq (mem_ents.2 ⟨k, hkp, (HOWN.out _).2 rfl⟩)); obtain ⟨b7, _, e7, -, -, z1, zf, -⟩ := rowP_at h4l hkp; have hb7 := (slice_blk e7).symm; rw [hb7] at z1 zf; have zfa := zf (k * 2 + 1))))
    go_ret
    have hkS : Keeps (Only b2) w4 (w4.setCell ⟨b2, k * 2 + 1, none⟩ (.slice (some ⟨eb, 0, none⟩) N ec)) := (Keeps.refl (Only b2) _).set (p := ⟨b2, k * 2 + 1, none⟩) rfl _
    have hk4 : Keeps (· ∈ own ps[k].2.v) w3 w4 := hK4.mono fun q e => by unfold Only at e; exact (HOWN.out q).2 e
    have hRd' : RowE w4 (⟨some ⟨eb, 0, none⟩, N, ec⟩ : Sl).v (drp L n) := by rw [← HDRP.out]; exact hRd
    have hS := h3.setE (dp := ps[k].1) (a := ⟨some ⟨eb, 0, none⟩, N, ec⟩) hkp hk4 hRd' (fun q hq => .inl ((HOWN.out q).2 (by have : q ∈ [eb] := hq; simpa using this))) hkS (rowP_setE h4l hkp)
    rw [h.dep k hkp hkd, ← leafAt_get hkd] at hS
    refine ⟨by rw [HRR.out]; rfl, ?_⟩
    rw [HRR.out]
    have hbf : b2 ∈ foot g t ⟨some ⟨b2, 0, none⟩, ps.length, lc⟩ ps := foot_l (by show b2 ∈ [b2]; simp)
    have hef : ∀ q, q ∈ own ps[k].2.v → q ∈ foot g t ⟨some ⟨b2, 0, none⟩, ps.length, lc⟩ ps := fun q hq => mem_foot.2 (.inr (.inr (.inr (mem_ents.2 ⟨k, hkp, hq⟩))))
    refine ⟨t, _, _, hS, ((hK23.of_non).trans (hk4.mono hef)).trans (hkS.mono fun q e => by unfold Only at e; exact e ▸ hbf), fun q hq => .inl ?_⟩
    rcases mem_foot.1 hq with e | e | e | e
    · exact e ▸ foot_g
    · exact foot_t e
    · exact foot_l e
    · obtain ⟨i, hi, hqi⟩ := mem_ents.1 e
      rw [List.getElem_set] at hqi
      by_cases hik : k = i
      · rw [if_pos hik] at hqi
        exact hef q ((HOWN.out q).2 (by have : q ∈ [eb] := hqi; simpa using this))
      · rw [if_neg hik] at hqi
        exact mem_foot.2 (.inr (.inr (.inr (mem_ents.2 ⟨i, by simpa using hi, hqi⟩))))
  case false =>
    have HRR : Hid (R = (171, d)) := Lib.hid (by rw [HR.out, ← HK.out, ← HL.out, if_neg (by rw [← HHB.out]; simp)])
    go_wp2_with fail
    go_ret
    exact ⟨by rw [HRR.out]; rfl, by rw [HRR.out]; exact h.doneSelf hK23⟩
end Go.Proofs.Ytiieglfpmmhfiaa
