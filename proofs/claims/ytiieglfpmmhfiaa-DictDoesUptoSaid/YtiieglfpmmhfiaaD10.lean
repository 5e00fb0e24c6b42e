/- Put. -/
import Derived.Test.YtiieglfpmmhfiaaG4
import Derived.Deep.RegionHeld3
import Derived.Deep.LoopGhost
import Derived.Deep.CutRange
namespace Go.Proofs.Ytiieglfpmmhfiaa
set_option maxRecDepth 100000
open Go.RowKit Go.Uc

set_option maxHeartbeats 8000000 in
theorem put_any {w : World} {g : Nat} {d : Dic} {t l : Sl} {ps : List (Nat × Sl)} (h : DictM 69 66 w g d t l ps) (hi : Inv d) (n : List UInt8) (hn : n.length ≤ 9223372036854775807) (v : Int) :
    Calls Try.prog 9 #[.pointer (some ⟨g, 0, none⟩), .string (str n), .int .i64 v] w fun e w' => e = .returned (.int .i64 (putD d n v).1) ∧ DoneD 69 66 w g t l ps (putD d n v).2 w' := by
  have HN := Lib.hid (isName_any n hn w)
  obtain ⟨nb, hnb⟩ : ∃ b, b = nameB n := ⟨_, rfl⟩
  rw [← hnb] at HN
  cases nb
  case false =>
    have hP : putD d n v = (150, d) := by unfold putD; rw [← hnb]; simp
    rw [hP]
    have HS := Lib.hid (h.doneSelf (w' := w) (Keeps.refl _ _))
    clear hP hnb hi h
    go_enter Try.func9, Try.ntmps9
    go_wp2_with ((go_at_call 26; refine HN.out.mono ?_; rintro e w' ⟨rfl, hww⟩; subst w'))
    go_ret
    exact ⟨rfl, HS.out⟩
  case true =>
  have hnl : 1 ≤ n.length ∧ n.length ≤ 24 := by unfold nameB at hnb; simpa using hnb.symm
  by_cases hv : v < 0 ∨ 2147483647 < v
  · have hP : putD d n v = (1, d) := by unfold putD; rw [← hnb, if_neg (by simp), if_pos hv]
    rw [hP]
    have HS := Lib.hid (h.doneSelf (w' := w) (Keeps.refl _ _))
    clear hP hnb hi h hnl
    have HV : Hid _ := Lib.hid hv
    go_enter Try.func9, Try.ntmps9
    rcases hv with hv | hv
    · go_wp2_with ((go_at_call 26; refine HN.out.mono ?_; rintro e w' ⟨rfl, hww⟩; subst w'))
      go_ret
      exact ⟨rfl, HS.out⟩
    · have hv0 : ¬ v < 0 := by omega
      go_wp2_with ((go_at_call 26; refine HN.out.mono ?_; rintro e w' ⟨rfl, hww⟩; subst w'))
      go_ret
      exact ⟨rfl, HS.out⟩
  obtain ⟨hv0, hv1⟩ : 0 ≤ v ∧ v ≤ 2147483647 := by omega
  obtain ⟨R, hR⟩ : ∃ R, R = putD d n v := ⟨_, rfl⟩
  rw [← hR]
  have hR1 : R = if has (leafAt d (kOf d n)).l n = true then ((0 : Int), setL d (kOf d n) (ins (leafAt d (kOf d n)).l ⟨n, v⟩)) else outL (putL 8 d ⟨n, v⟩) d := by
    rw [hR]; unfold putD; rw [← hnb, if_neg (by simp), if_neg hv]
  have HR := Lib.hid hR1
  clear hR hR1 hnb hv
  have ho := hi.ok
  have hkd := kOf_lt ho n
  have hkp : kOf d n < ps.length := by rw [h.len]; exact hkd
  obtain ⟨k, hk⟩ : ∃ k, k = kOf d n := ⟨_, rfl⟩
  rw [← hk] at hkd hkp
  obtain ⟨lA, lc, hle, hlc, -⟩ := h.lvs.val
  obtain rfl : l = ⟨lA, ps.length, lc⟩ := by cases l; injection hle with h1 h2 h3; subst h1 h2 h3; rfl
  clear hle
  obtain ⟨bl, cl, e2, -⟩ := rowP_at h.lvs hkp
  injection e2 with e2 e2b e2c
  clear e2b
  subst e2 e2c
  obtain ⟨w1, hw1⟩ : ∃ W : World, W = w.alloc (.cells #[.string (str n), .int .i64 v] 56) := ⟨_, rfl⟩
  have hX1 : Blk w1 w.heap.size 56 #[.string (str n), .int .i64 v] := by rw [hw1]; exact Blk.new _ _ _
  have hK1 : Keeps Non w w1 := by rw [hw1]; exact (Keeps.refl Non w).alloc _
  obtain ⟨xb, hxb⟩ : ∃ b, b = w.heap.size := ⟨_, rfl⟩
  rw [← hxb] at hX1
  have h1 := h.non hK1
  have HO := Lib.hid (of_any h1 ho n hn)
  rw [← hk] at HO
  have HK := Lib.hid hk
  clear hk
  obtain ⟨L, hL⟩ : ∃ L, L = (leafAt d k).l := ⟨_, rfl⟩
  have hLs : Srt L := by rw [hL]; exact ho.srt _ (leaf_mem hkd)
  have hLf : fitE L = true := by rw [hL]; exact ho.fit _ (leaf_mem hkd)
  have hLn := (fitE_len hLf).1
  have hE1 : RowE w1 ps[k].2.v L := by rw [hL, leafAt_get hkd]; exact h1.ent k hkp hkd
  have HL := Lib.hid hL
  clear hL
  have HF := Lib.hid (fun W (hW : Keeps Non w1 W) => find_any ps[k].2.v L n (by omega) hLs W (hE1.non hW))
  obtain ⟨eA, ec, hev, hec, -⟩ := hE1.val
  rw [hev] at HF
  have HEV := Lib.hid hev
  have hlb : lb L n ≤ L.length := lb_le L n
  have HHL := Lib.hid (has_lb hLs n)
  obtain ⟨hb, hhb⟩ : ∃ b, b = has L n := ⟨_, rfl⟩
  have HHB := Lib.hid hhb
  rw [← hhb] at HF
  clear hhb hev
  have HW1 := Lib.hid hw1
  have HXB := Lib.hid hxb
  go_enter Try.func9, Try.ntmps9
  go_upto_region 6 with ((go_at_call 26; refine HN.out.mono ?_; rintro e w' ⟨rfl, hww⟩; subst w'))
  rw [show w.alloc (.cells #[.string (str n), .int .i64 v] 56) = w1 from HW1.out.symm, show w.heap.size = xb from HXB.out.symm]
  clear hw1 hxb
  go_upto_region 7 with ((go_at_call 27; refine HO.out.mono ?_; rintro e _ ⟨⟨b2, hb2, rfl⟩, q2, rfl⟩))
  obtain ⟨w2, hw2⟩ : ∃ W : World, W = w1.drewN q2 := ⟨_, rfl⟩
  have hK2 : Keeps Non w1 w2 := by rw [hw2]; exact (Keeps.refl _ _).drewN q2
  rw [← hw2]
  obtain rfl : b2 = bl := by injection hb2 with e; injection e with e; exact e.symm
  clear hw2 hb2 HO HN
  have x1 : w2.cell? ⟨b2, k * 2 + 1, none⟩ = some (.slice eA L.length ec) := by
    obtain ⟨b3, _, e3, -, -, x1, -⟩ := rowP_at (h1.non hK2).lvs hkp
    injection e3 with e3
    injection e3 with e3
    injection e3 with e3
    rw [e3, x1, HEV.out]
  have HF2 := Lib.hid (HF.out w2 hK2)
  go_upto_if 42 with ((go_at_call 28; refine HF2.out.mono ?_; rintro e w3 ⟨rfl, hK3⟩))
  clear HF2
  cases hb
  case true =>
    have hhas : has L n = true := HHB.out.symm
    obtain ⟨hlt, hat⟩ := HHL.out.1 hhas
    have h3 := (h1.non hK2).non hK3
    have hX3 := (hX1.non hK2).non hK3
    have hE3 := (hE1.non hK2).non hK3
    rw [HEV.out] at hE3
    obtain ⟨eb, ecap, ee, -, z0, z1, zf, -⟩ := rowE_at hE3 hlt
    injection ee with e1 e2 e3
    clear e2
    subst e1 e3
    have y1 : w3.drew.cell? ⟨b2, k * 2 + 1, none⟩ = some (.slice (some ⟨eb, 0, none⟩) L.length ec) := (hK3.drew).cell x1 id
    have yx0 : w3.drew.cell? ⟨xb, 0, none⟩ = some (.string (str n)) := hX3.cell 0
    have yx1 : w3.drew.cell? ⟨xb, 1, none⟩ = some (.int .i64 v) := hX3.cell 1
    have zf0 : w3.drew.frozen? ⟨eb, lb L n * 2, none⟩ = false := zf _
    have zf1 : w3.drew.frozen? ⟨eb, lb L n * 2 + 1, none⟩ = false := zf _
    have z0d : w3.drew.cell? ⟨eb, lb L n * 2, none⟩ = some (.string (str L[lb L n].name)) := z0
    have z1d : w3.drew.cell? ⟨eb, lb L n * 2 + 1, none⟩ = some (.int .i64 L[lb L n].val) := z1
    have HD : Hid (R = (0, setL d k (ins L ⟨n, v⟩))) := Lib.hid (by rw [HR.out, ← HK.out, ← HL.out, if_pos hhas])
    have HDn : Hid (DoneD 69 66 w g t ⟨some ⟨b2, 0, none⟩, ps.length, lc⟩ ps (setL d k (ins L ⟨n, v⟩)) ((w3.drew.setCell ⟨eb, lb L n * 2, none⟩ (.string (str n))).setCell ⟨eb, lb L n * 2 + 1, none⟩ (.int .i64 v))) := by
      show DoneD _ _ _ _ _ _ _ _ _
      have hs := rowE_set (hE3.non (Keeps.refl Non w3).drew) hlt ⟨n, v⟩
      rw [ins_set hLs ⟨n, v⟩ hhas] at hs
      have hk0 : Keeps (· ∈ own ps[k].2.v) w3.drew ((w3.drew.setCell ⟨eb, lb L n * 2, none⟩ (.string (str n))).setCell ⟨eb, lb L n * 2 + 1, none⟩ (.int .i64 v)) := (ent_keep (e := ⟨n, v⟩)).mono fun q e => by
        unfold Only at e; subst e; rw [HEV.out]; show q ∈ [q]; simp
      have hs' : RowE ((w3.drew.setCell ⟨eb, lb L n * 2, none⟩ (.string (str n))).setCell ⟨eb, lb L n * 2 + 1, none⟩ (.int .i64 v)) ps[k].2.v (ins L ⟨n, v⟩) := by rw [HEV.out]; exact hs
      obtain ⟨t2, l2, ps2, a1, a2, a3⟩ := (h3.non (Keeps.refl Non w3).drew).inE hkp hk0 hs'
      have hz : w.heap.size ≤ w3.drew.heap.size := Nat.le_trans hK1.size (Nat.le_trans hK2.size hK3.size)
      exact ⟨t2, l2, ps2, a1, (((hK1.non hK2).non hK3).drew.of_non).trans a2, fun q hq => (a3 q hq).imp id fun e => by omega⟩
    generalize lb L n = at_ at *
    have hlti : (at_ : Int) < (L.length : Int) := by omega
    have zfa := zf (at_ * 2)
    have zfb := zf (at_ * 2 + 1)
    clear zf hat
    generalize L[at_] = x0 at z0d z1d z0 z1
    go_upto_region 9 with fail
    go_region
    all_goals
      go_wp2_with fail
      go_ret
      exact ⟨by rw [HD.out]; rfl, by rw [HD.out]; exact HDn.out⟩
  case false =>
    have hnot : val d n = none := by
      have h1 := HHB.out
      rw [HL.out, HK.out, has_getE] at h1
      unfold val
      cases hh : getE (leafAt d (kOf d n)).l n with
      | none => rfl
      | some x => rw [hh] at h1; cases h1
    have HRD : Hid (R = outL (putL 8 d ⟨n, v⟩) d) := Lib.hid (by rw [HR.out, if_neg]; rw [← HK.out, ← HL.out, ← HHB.out]; simp)
    have HNOT := Lib.hid hnot
    clear hnot
    have h3 := (h1.non hK2).non hK3
    have hX3 := (hX1.non hK2).non hK3
    have hz3 : w.heap.size ≤ w3.heap.size := Nat.le_trans hK1.size (Nat.le_trans hK2.size hK3.size)
    have hK03 : Keeps Non w w3 := (hK1.non hK2).non hK3
    have hxl := hX3.lt
    have HC := Lib.hid (clone_any h3 ho)
    clear x1 HF HHL HEV HHB HR HL hE1 hLs hLf hLn hlb hec HK hkd hkp h1 hX1 hK1 hK2 hK3 HW1 HXB
    go_upto_region 12 with ((go_at_call 29; refine HC.out.mono ?_; rintro e w4 ⟨gb, t4, l4, ps4, rfl, hD4, hN4, hK4⟩))
    go_loopg [12] 8 (fun gk u wr => ∃ dc tc lc2 pc, Inv dc ∧ Hid (val dc n = none ∧ putL gk dc ⟨n, v⟩ = putL 8 d ⟨n, v⟩) ∧ 6 + (if dc.small = true then 1 else 0) ≤ gk + (leafAt dc (kOf dc n)).depth ∧ DictM 69 66 wr gb dc tc lc2 pc ∧ Keeps Non w3 wr ∧ ∀ q ∈ foot gb tc lc2 pc, w3.heap.size ≤ q)
    case atStart =>
      refine ⟨d, t4, l4, ps4, hi, Lib.hid ⟨HNOT.out, rfl⟩, ?_, hD4, hK4, hN4⟩
      split <;> omega
    case round =>
      obtain ⟨dc, tc, lc2, pc, hic, HVP, hfu, hD, hKr, hNr⟩ := hrel
      obtain ⟨wx, rfl⟩ : ∃ W : World, W = wr := ⟨_, rfl⟩
      have hoc := hic.ok
      have hkc := kOf_lt hoc n
      obtain ⟨kc, hkce⟩ : ∃ k, k = kOf dc n := ⟨_, rfl⟩
      rw [← hkce] at hkc hfu
      have hkcp : kc < pc.length := by rw [hD.len]; exact hkc
      have hdep5 : (leafAt dc kc).depth ≤ 5 := Nat.le_trans (hoc.low _ (leaf_mem hkc)) hoc.dep
      obtain ⟨gk', rfl⟩ : ∃ m, gk = m + 1 := ⟨gk - 1, by omega⟩
      obtain ⟨cA, cc, hle, hcc, -⟩ := hD.lvs.val
      obtain rfl : lc2 = ⟨cA, pc.length, cc⟩ := by cases lc2; injection hle with h1 h2 h3; subst h1 h2 h3; rfl
      clear hle
      obtain ⟨bc, ccl, e2, -⟩ := rowP_at hD.lvs hkcp
      injection e2 with e2 e2b e2c
      clear e2b
      subst e2 e2c
      have HO := Lib.hid (of_any hD hoc n hn)
      rw [← hkce] at HO
      have HKC := Lib.hid hkce
      clear hkce
      obtain ⟨Lc, hLc⟩ : ∃ L, L = (leafAt dc kc).l := ⟨_, rfl⟩
      have hLs : Srt Lc := by rw [hLc]; exact hoc.srt _ (leaf_mem hkc)
      have hLf : fitE Lc = true := by rw [hLc]; exact hoc.fit _ (leaf_mem hkc)
      have hLn := fitE_len hLf
      have hEx : RowE wx pc[kc].2.v Lc := by rw [hLc, leafAt_get hkc]; exact hD.ent kc hkcp hkc
      have HLC := Lib.hid hLc
      clear hLc
      have hnoL : has Lc n = false := by
        have := HVP.out.1
        unfold val at this
        rw [HLC.out, HKC.out, has_getE, this]; rfl
      have HF := Lib.hid (fun W (hW : Keeps Non wx W) => find_any pc[kc].2.v Lc n (by omega) hLs W (hEx.non hW))
      obtain ⟨fA, fc, hev, hfc, -⟩ := hEx.val
      rw [hev, hnoL] at HF
      have HEV := Lib.hid hev
      have hlb : lb Lc n ≤ Lc.length := lb_le Lc n
      have HNL := Lib.hid hnoL
      clear hnoL hev
      have hX5 := hX3.non hKr
      go_upto_region 13 with ((go_at_call 27; refine HO.out.mono ?_; rintro e _ ⟨⟨b5, hb5, rfl⟩, q5, rfl⟩))
      obtain rfl : b5 = bc := by injection hb5 with e; injection e with e; exact e.symm
      have hK5 : Keeps Non wx (wx.drewN q5) := (Keeps.refl _ _).drewN q5
      obtain ⟨w5, hw5⟩ : ∃ W : World, W = wx.drewN q5 := ⟨_, rfl⟩
      rw [← hw5] at hK5 ⊢
      clear hw5 hb5 HO
      have x1 : w5.cell? ⟨b5, kc * 2 + 1, none⟩ = some (.slice fA Lc.length fc) := by
        obtain ⟨b3, _, e3, -, -, x1, -⟩ := rowP_at (hD.non hK5).lvs hkcp
        injection e3 with e3
        injection e3 with e3
        injection e3 with e3
        rw [e3, x1, HEV.out]
      have HF2 := Lib.hid (HF.out w5 hK5)
      clear HF
      go_upto_region 14 with ((go_at_call 28; refine HF2.out.mono ?_; rintro e w6 ⟨rfl, hK6⟩))
      clear HF2
      have hE6 := (hEx.non hK5).non hK6
      rw [HEV.out] at hE6
      have hX6 := (hX5.non hK5).non hK6
      have x6 : w6.cell? ⟨b5, kc * 2 + 1, none⟩ = some (.slice fA Lc.length fc) := hK6.cell x1 id
      clear x1
      have hB5 : b5 < w6.heap.size := by have := hD.lvs.lt b5 (by show b5 ∈ [b5]; simp); have := hK5.size; have := hK6.size; omega
      go_cut [15] from 52 to 96 (fun s15 wc => ∃ s : Sl, s15 = s.v ∧ RowE wc s.v (ins Lc ⟨n, v⟩) ∧ (∀ q ∈ own s.v, w6.heap.size ≤ q) ∧ Keeps Non w6 wc)
      case first =>
        have x6d : w6.drew.cell? ⟨b5, kc * 2 + 1, none⟩ = some (.slice fA Lc.length fc) := x6
        have hka := (Keeps.refl Non w6.drew).alloc (.cells #[.string (str n), .int .i64 v] 56)
        have x6a : (w6.drew.alloc (.cells #[.string (str n), .int .i64 v] 56)).cell? ⟨b5, kc * 2 + 1, none⟩ = some (.slice fA Lc.length fc) := hka.cell x6d id
        have x6b : (w6.alloc (.cells #[.string (str n), .int .i64 v] 56)).cell? ⟨b5, kc * 2 + 1, none⟩ = some (.slice fA Lc.length fc) := x6a
        have e0 : w6.cell? ⟨xb, 0, none⟩ = some (.string (str n)) := hX6.cell 0
        have e1 : w6.cell? ⟨xb, 1, none⟩ = some (.int .i64 v) := hX6.cell 1
        have e0d : w6.drew.cell? ⟨xb, 0, none⟩ = some (.string (str n)) := hX6.cell 0
        have e1d : w6.drew.cell? ⟨xb, 1, none⟩ = some (.int .i64 v) := hX6.cell 1
        have hE6d := hE6.non (Keeps.refl Non w6).drew
        have HCa := Lib.hid (cloneE_any _ Lc (by omega) w6.drew hE6d)
        have HCb := Lib.hid (cloneE_any _ Lc (by omega) (w6.drew.alloc (.cells #[.string (str n), .int .i64 v] 56)) (hE6d.non hka))
        have HLB := Lib.hid hlb
        have HLN : Hid (Lc.length ≤ 1000000000000) := Lib.hid (by omega)
        have HLS := Lib.hid hLs
        clear hlb hLn
        go_region_law (first
          | (go_simp; go_at_call 31; refine HCa.out.mono ?_; rintro e w7 ⟨s7, rfl, hR7, hN7, hK7⟩; go_must (have hX7 := (hX6.drew).non hK7; have y0 : w7.cell? ⟨xb, 0, none⟩ = some (.string (str n)) := hX7.cell 0; have y1 : w7.cell? ⟨xb, 1, none⟩ = some (.int .i64 v) := hX7.cell 1; have HI := Lib.hid (insert_any s7.v Lc HLN.out ⟨n, v⟩ (lb Lc n) w7.heap.size HLB.out (w7.alloc (.cells #[.string (str n), .int .i64 v] 56)) (hR7.non ((Keeps.refl Non w7).alloc (.cells #[.string (str n), .int .i64 v] 56))) (RowP.lit encE_len w7 56 [⟨n, v⟩] _ rfl (by show 1 ≤ maxLen; decide)) (fun hq => by have := hR7.lt _ hq; omega)); have HKa := Lib.hid ((Keeps.refl Non w6).drew.non hK7); have HSz : Hid (w6.heap.size ≤ w7.heap.size) := Lib.hid hK7.size; have HNa := Lib.hid hN7; have HKb := Lib.hid ((Keeps.refl Non w7).alloc (.cells #[.string (str n), .int .i64 v] 56))))
          | (go_simp; go_at_call 31; refine HCb.out.mono ?_; rintro e w7 ⟨s7, rfl, hR7, hN7, hK7⟩; go_must (have HI := Lib.hid (insert_any s7.v Lc HLN.out ⟨n, v⟩ (lb Lc n) w6.drew.heap.size HLB.out w7 hR7 ((RowP.lit encE_len w6.drew 56 [⟨n, v⟩] _ rfl (by show 1 ≤ maxLen; decide)).non hK7) (fun hq => by have := hN7 _ hq; simp at this; omega)); have HKa := Lib.hid (((Keeps.refl Non w6).drew.non hka).non hK7); have HSz : Hid (w6.heap.size ≤ w7.heap.size) := Lib.hid (((Keeps.refl Non w6).drew.non hka).non hK7).size; have HNa : Hid (New w6.drew s7) := Lib.hid (fun q hq => by have := hN7 q hq; simp at this; simp; omega); have HKb := Lib.hid (Keeps.refl Non w7)))
          | (go_simp; go_at_call 30; refine HI.out.mono ?_; rintro e w8 ⟨s8, rfl, hR8, hN8, hK8⟩; go_must (have FR : Hid (∃ s : Sl, s8.v = s.v ∧ RowE w8 s.v (ins Lc ⟨n, v⟩) ∧ (∀ q ∈ own s.v, w6.heap.size ≤ q) ∧ Keeps Non w6 w8) := Lib.hid ⟨s8, rfl, (by rw [← ins_mid HLS.out ⟨n, v⟩ HNL.out]; exact hR8), (fun q hq => by rcases hN8 q hq with h' | h'; exact HNa.out q h'; exact Nat.le_trans HSz.out (Nat.le_trans HKb.out.size h')), (HKa.out.non HKb.out).then hK8 (fun i hi e => by have := HNa.out i e; simp at this; omega)⟩)))
        all_goals
          go_wp2_with fail
          go_meet
          case rel => exact FR.out
      case rest =>
        obtain ⟨s15, rfl, hRI, hNI, hKI⟩ := hcut
        obtain ⟨w9, rfl⟩ : ∃ W : World, W = wc := ⟨_, rfl⟩
        have HFT := Lib.hid (fit_any s15.v (ins Lc ⟨n, v⟩) (by have := roomE_ins Lc ⟨n, v⟩; have e : (⟨n, v⟩ : Ent).name = n := rfl; rw [e] at this; omega) w9 hRI)
        obtain ⟨ft, hft⟩ : ∃ b, b = fitE (ins Lc ⟨n, v⟩) := ⟨_, rfl⟩
        rw [← hft] at HFT
        have hft' : fitE (ins (leafAt dc (kOf dc n)).l ⟨n, v⟩) = ft := by rw [hft, HLC.out, HKC.out]
        have HFI := Lib.hid hft'
        clear hft hft'
        go_upto_if 74 with ((go_at_call 32; refine HFT.out.mono ?_; rintro e w10 ⟨rfl, hK10⟩))
        clear HFT
        have hK610 : Keeps Non w6 w10 := hKI.non hK10
        have hD10 := ((hD.non hK5).non hK6).non hK610
        have hK310 : Keeps Non w3 w10 := ((hKr.non hK5).non hK6).non hK610
        have hR10 := hRI.non hK10
        have h36 : w3.heap.size ≤ w6.heap.size := ((hKr.non hK5).non hK6).size
        have hlow6 := ((hD.non hK5).non hK6).low
        clear x6 hE6
        cases ft
        case true =>
          obtain ⟨hA, hB, hC⟩ := put_fin h3 hK03 hK310 hD10 hNr hlow6 h36 hkcp hR10 hNI
          obtain ⟨b7, _, e7, -, z0, z1, zf, -⟩ := rowP_at hD10.lvs hkcp
          have hb7 : b7 = b5 := by injection e7 with e7; injection e7 with e7; injection e7 with e7; exact e7.symm
          rw [hb7] at z1 zf
          have zfa := zf (kc * 2 + 1)
          clear e7 hb7 zf z0
          have HRR : Hid (R = (0, setL dc kc (ins Lc ⟨n, v⟩))) := Lib.hid (by rw [HRD.out, ← HVP.out.2, putL_fit HFI.out, HLC.out, HKC.out]; rfl)
          have HC2 := Lib.hid hC
          clear hC
          obtain ⟨sA, sn, sc⟩ := s15
          obtain ⟨tcA, tcn, tcc⟩ := tc
          go_upto_region 17 with fail
          obtain ⟨w11, hw11⟩ : ∃ W : World, W = w10.setCell ⟨b5, kc * 2 + 1, none⟩ (.slice sA sn sc) := ⟨_, rfl⟩
          rw [← hw11] at hA hB HC2 ⊢
          clear hw11 z1 zfa
          have a0 : w11.cell? ⟨gb, 0, none⟩ = some (.bool dc.small) := hA.blk.cell 0
          have a1 : w11.cell? ⟨gb, 1, none⟩ = some (.int .i64 (dc.depth : Int)) := hA.blk.cell 1
          have a2 : w11.cell? ⟨gb, 2, none⟩ = some (.slice tcA tcn tcc) := hA.blk.cell 2
          have a3 : w11.cell? ⟨gb, 3, none⟩ = some (.slice (some ⟨b5, 0, none⟩) pc.length cc) := hA.blk.cell 3
          obtain ⟨c0, c1, c2, c3⟩ := dict_cells hB
          have f0 := hB.blk.frozen 0
          have f1 := hB.blk.frozen 1
          have f2 := hB.blk.frozen 2
          have f3 := hB.blk.frozen 3
          go_wp2_with fail
          go_ret
          exact ⟨by rw [HRR.out]; rfl, by rw [HRR.out]; exact HC2.out⟩
        case false =>
          have a0 : w10.cell? ⟨gb, 0, none⟩ = some (.bool dc.small) := hD10.blk.cell 0
          have hgb : w3.heap.size ≤ gb := hNr gb foot_g
          obtain ⟨sm, hsm⟩ : ∃ b, b = dc.small := ⟨_, rfl⟩
          rw [← hsm] at a0 hfu
          cases sm
          case true =>
            have f0 := hD10.blk.frozen 0
            have hDL := hD10.large
            have HPS := Lib.hid (putL_small (f := gk') HFI.out hsm.symm)
            clear hsm
            have hle : 6 ≤ gk' + (leafAt dc kc).depth := by simp at hfu; omega
            clear hfu
            go_wp2_with fail
            go_roundg gk'
            case measure => omega
            case rel =>
              refine ⟨_, tc, _, pc, large_inv hic, Lib.hid ⟨HVP.out.1, HPS.out.symm.trans HVP.out.2⟩, ?_, hDL, hK310.setNew (p := ⟨gb, 0, none⟩) hgb _, hNr⟩
              have e1 : leafAt { dc with small := false } (kOf { dc with small := false } n) = leafAt dc kc := by rw [HKC.out]; rfl
              rw [e1, if_neg (by simp)]
              exact hle
          case false =>
            have hle : 6 ≤ gk' + 1 + (leafAt dc kc).depth := by simpa using hfu
            clear hfu
            have HPl := Lib.hid (fun q => place_any (hD10.drewN q) hoc.dep n hn)
            have hpl : plc dc n < dc.table.length := plc_lt hoc n
            have hplk : dc.table[plc dc n] = kc := by rw [HKC.out]; exact (kOf_get hoc n).symm
            have hsmf := hsm.symm
            clear hsm
            by_cases h5 : (leafAt dc kc).depth = 5
            · have HSF := Lib.hid (fun W (hW : Keeps Non w10 W) => split_full (hD10.non hW) hoc (plc dc n) kc hpl hplk h5)
              have HRR : Hid (R = (152, d)) := Lib.hid (by rw [HRD.out, ← HVP.out.2, putL_full HFI.out hsmf (by show (leafAt dc (kOf dc n)).depth = 5; rw [← HKC.out]; exact h5)]; rfl)
              have HKK : Hid (Keeps Non w w10) := Lib.hid (hK03.non hK310)
              clear hplk hpl h5 hle hsmf
              generalize plc dc n = pp at HPl HSF
              go_upto_if 96 with (first | (go_at_call 34; refine (HPl.out 0).mono ?_; rintro e _ ⟨rfl, q11, rfl⟩) | (go_at_call 33; refine (HSF.out _ ((Keeps.refl Non w10).drewN q11)).mono ?_; rintro e w12 ⟨rfl, hw12⟩; subst w12))
              go_wp2_with fail
              go_ret
              exact ⟨by rw [HRR.out]; rfl, by rw [HRR.out]; exact h.doneSelf (HKK.out.drewN q11)⟩
            · have HSp := Lib.hid (fun W (hW : Keeps Non w10 W) => split_any (hD10.non hW) hoc (plc dc n) kc _ hpl hplk rfl h5)
              obtain ⟨hI2, hV2, hL2, hS2⟩ := splitD_inv hic hsmf kc hkc h5
              have HPS : Hid (putL (gk' + 1) dc ⟨n, v⟩ = putL gk' (splitD dc kc) ⟨n, v⟩) := Lib.hid (by rw [putL_split HFI.out hsmf (by show (leafAt dc (kOf dc n)).depth ≠ 5; rw [← HKC.out]; exact h5)]; show putL gk' (splitD dc (kOf dc n)) _ = _; rw [← HKC.out])
              have HV2 := Lib.hid (hV2 n)
              have HL2 := Lib.hid (hL2 n HKC.out.symm)
              have HS2 := Lib.hid hS2
              clear hplk hpl h5 hsmf hV2 hL2 hS2
              generalize plc dc n = pp at HPl HSp
              go_upto_if 96 with (first | (go_at_call 34; refine (HPl.out 0).mono ?_; rintro e _ ⟨rfl, q11, rfl⟩) | (go_at_call 33; refine (HSp.out _ ((Keeps.refl Non w10).drewN q11)).mono ?_; rintro e w12 ⟨rfl, t12, l12, p12, hD12, hK12, hN12⟩))
              go_wp2_with fail
              go_roundg gk'
              case measure => omega
              case rel =>
                refine ⟨splitD dc kc, t12, l12, p12, hI2, Lib.hid ⟨HV2.out.trans HVP.out.1, HPS.out.symm.trans HVP.out.2⟩, ?_, hD12, ?_, fun q hq => ?_⟩
                · rw [HL2.out, HS2.out, if_neg (by simp)]; omega
                · exact (hK310.drewN q11).then hK12 fun i hi e => by have := hNr i e; omega
                · rcases hN12 q hq with h' | h'
                  · exact hNr q h'
                  · have := hK310.size; simp at h'; omega
end Go.Proofs.Ytiieglfpmmhfiaa
