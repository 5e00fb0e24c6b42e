/- VdevLog: the walk. -/
import Derived.Test.YtolknnmaadkgiaaGreatDoorW5
import Derived.Test.YtolknnmaadkgiaaGreatDoorG41
set_option linter.unusedVariables false
set_option linter.unusedSimpArgs false
namespace Go.Proofs.YtolknnmaadkgiaaGreatDoor
set_option maxRecDepth 100000
open Go.RowKit Go.Uc Go.Shelf
structure Two (w wr : World) (s z : Sl) (xs ys : List Int) : Prop where
 rs : RowP wr 3 1 encZ s.v xs
 rz : RowP wr 3 1 encZ z.v ys
 os : ∀ g ∈ own s.v, w.heap.size ≤ g
 oz : ∀ g ∈ own z.v, w.heap.size ≤ g
 ap : ∀ g ∈ own s.v, g ∉ own z.v
 kp : Keeps Non w wr
theorem Two.non {w wr w' : World} {s z : Sl} {xs ys : List Int} (h : Two w wr s z xs ys) (hk : Keeps Non wr w') : Two w w' s z xs ys := ⟨h.rs.non hk, h.rz.non hk, h.os, h.oz, h.ap, h.kp.non hk⟩
theorem Two.flip {w wr : World} {s z : Sl} {xs ys : List Int} (h : Two w wr s z xs ys) : Two w wr z s ys xs := ⟨h.rz, h.rs, h.oz, h.os, fun g h1 h2 => h.ap g h2 h1, h.kp⟩
theorem Two.grow {w wr w' : World} {s z s' : Sl} {xs ys xs' : List Int} (h : Two w wr s z xs ys) (hO : RowP w' 3 1 encZ s'.v xs') (hk : Keeps (· ∈ own s.v) wr w') (hat : s'.v.ownBlock = s.v.ownBlock ∨ s'.v.ownBlock = some wr.heap.size) : Two w w' s' z xs' ys := by
 refine ⟨hO, h.rz.keep hk (fun g h1 h2 => h.ap g h2 h1), own_grown hat h.os h.kp.size, h.oz, fun g h1 h2 => ?_, h.kp.then hk fun i hi e => by have := h.os i e; omega⟩
 rw [mem_own] at h1
 rcases hat with e | e
 · exact h.ap g (mem_own.2 (e.symm.trans h1)) h2
 · have e2 := e.symm.trans h1
   injection e2 with e2
   subst e2
   have := RowP.lt h.rz _ h2
   omega
theorem sec_eq : ∀ (N : Nat) {A B : List UInt8}, A.length = 88 * N → B.length = 88 * N → (∀ n, n < N → (A.drop (88 * n)).take 88 = (B.drop (88 * n)).take 88) → A = B
 | 0, A, B, hA, hB, _ => by rw [List.eq_nil_of_length_eq_zero hA, List.eq_nil_of_length_eq_zero hB]
 | N + 1, A, B, hA, hB, h => by
   have h0 := h 0 (by omega)
   rw [Nat.mul_zero, List.drop_zero, List.drop_zero] at h0
   have h1 : A.drop 88 = B.drop 88 := sec_eq N (by rw [List.length_drop, hA]; omega) (by rw [List.length_drop, hB]; omega) fun n hn => by
     have := h (n + 1) (by omega)
     rw [show 88 * (n + 1) = 88 + 88 * n by omega, ← List.drop_drop, ← List.drop_drop] at this
     exact this
   rw [← List.take_append_drop 88 A, ← List.take_append_drop 88 B, h0, h1]
theorem at_cut {w : World} {g : Nat} {D : List UInt8} (h : At w (some ⟨g, 0, none⟩) D) (m k : Nat) : At w (some ⟨g, m, none⟩) ((D.drop m).take k) := by
 have h1 := (h.drop m).take k
 have e : (some (⟨g, 0, none⟩ : Addr)).map (·.add m) = some ⟨g, m, none⟩ := by
   show some ((⟨g, 0, none⟩ : Addr).add m) = _
   rw [addr_add_none, Nat.zero_add]
 rw [e] at h1
 exact h1
set_option maxHeartbeats 16000000 in
theorem vdevLog3_any (leaves at_ left : Int) (hl1 : -9223372036854775808 ≤ leaves) (hl2 : leaves ≤ 9223372036854775807) (ha1 : -9223372036854775808 ≤ at_) (ha2 : at_ ≤ 9223372036854775807) (hf1 : -9223372036854775808 ≤ left) (hf2 : left ≤ 9223372036854775807)
   (b nx : List UInt8) (st : List Bool) (bA nA sA : Option Addr) (bc nc sc : Nat) (w : World) (hb : At w bA b) (hbc : b.length ≤ bc) (hn : At w nA nx) (hnc : nx.length ≤ nc) (hs : AtB w sA st) (hsl : ∀ ad, sA = some ad → ad.block < w.heap.size) (hsc : st.length ≤ 140737488351232) (hbl : b.length ≤ 140737488351232) (hnl : nx.length ≤ 140737488351232) :
   Calls Tryz.prog 3 #[.int .i64 leaves, .int .i64 at_, .slice bA b.length bc, .slice nA nx.length nc, .slice sA st.length sc, .int .i64 left] w fun e w' => e = .returned (.bool true) ∧ Keeps Non w w' := by
 have HAw := Lib.hid (awake6_any w)
 have HArg := Lib.hid (show _ ∧ _ ∧ _ ∧ _ ∧ _ from ⟨hb, hbc, hn, hnc, hs⟩)
 clear hb hbc hn hnc hs
 go_enter Tryz.func3, Tryz.ntmps3
 go_upto_region 2 with (go_at_call 6; go_must (refine HAw.out.mono ?_); rintro e w1 ⟨rfl, hK1⟩)
 have HK1 := Lib.hid hK1
 clear hK1 HAw
 by_cases c1 : leaves < 2
 · have d1 : decide (leaves < 2) = true := decide_eq_true c1
   clear c1
   go_wp2_with fail
   go_ret
   exact ⟨rfl, HK1.out⟩
 have d1 : decide (leaves < 2) = false := decide_eq_false c1
 by_cases c2 : 5 < leaves
 · have d2 : decide (5 < leaves) = true := decide_eq_true c2
   clear c1 c2
   go_wp2_with fail
   go_ret
   exact ⟨rfl, HK1.out⟩
 have d2 : decide (5 < leaves) = false := decide_eq_false c2
 by_cases c3 : left < 0
 · have d3 : decide (left < 0) = true := decide_eq_true c3
   clear c1 c2 c3
   go_wp2_with fail
   go_ret
   exact ⟨rfl, HK1.out⟩
 have d3 : decide (left < 0) = false := decide_eq_false c3
 by_cases c4 : leaves ≤ left
 · have d4 : decide (leaves ≤ left) = true := decide_eq_true c4
   clear c1 c2 c3 c4
   go_wp2_with fail
   go_ret
   exact ⟨rfl, HK1.out⟩
 have d4 : decide (leaves ≤ left) = false := decide_eq_false c4
 go_upto_region 7 with fail
 obtain ⟨l, rfl⟩ : ∃ l : Nat, leaves = (l : Int) := ⟨leaves.toNat, by omega⟩
 obtain ⟨lf, rfl⟩ : ∃ l : Nat, left = (l : Int) := ⟨left.toNat, by omega⟩
 have HL : Hid ((2 ≤ l ∧ l ≤ 5) ∧ lf < l) := Lib.hid ⟨⟨by omega, by omega⟩, by omega⟩
 clear c1 c2 c3 c4 d1 d2 d3 d4 hl1 hl2 hf1 hf2
 go_loopw [14, 15, 16] (fun a z i wr => ∃ (k : Nat) (sv zv : Sl), k ≤ l ∧ i = .int .i64 (k : Int) ∧ a = sv.v ∧ z = zv.v ∧ sv.n = k ∧ zv.n = k ∧ Two w1 wr sv zv (List.replicate k 324) (List.map (fun j : Nat => (j : Int)) (List.range k))) (fun _ _ i _ => l - (intOf i).toNat)
 case atStart => exact ⟨0, ⟨none, 0, 0⟩, ⟨none, 0, 0⟩, Nat.zero_le _, rfl, rfl, rfl, rfl, rfl, ⟨RowP.nil _ _ _ _, RowP.nil _ _ _ _, fun g hg => (List.not_mem_nil hg).elim, fun g hg => (List.not_mem_nil hg).elim, fun g hg => (List.not_mem_nil hg).elim, Keeps.refl _ _⟩⟩
 case round =>
   obtain ⟨k, ⟨pA, pn, pc'⟩, ⟨zA, zn, zc⟩, hk, rfl, rfl, rfl, h1, h2, hT⟩ := hrel
   obtain rfl : pn = k := h1
   obtain rfl : zn = pn := h2
   obtain ⟨wx, rfl⟩ : ∃ V : World, V = wr := ⟨_, rfl⟩
   have HT := Lib.hid hT
   clear hT
   by_cases hkl : zn < l
   · have hki : (zn : Int) < (l : Int) := by omega
     have hk5 : zn ≤ 5 := by have := HL.out; omega
     have HBs : Hid ((List.replicate zn (324 : Int)).length + ([324] : List Int).length ≤ maxLen ∧ ((List.replicate zn (324 : Int)).length + ([324] : List Int).length) * 8 ≤ 140737488355328) := Lib.hid (by simp only [List.length_replicate, List.length_singleton]; exact ⟨by unfold maxLen; omega, by omega⟩)
     have HBz : Hid ((List.map (fun j : Nat => (j : Int)) (List.range zn)).length + ([(zn : Int)] : List Int).length ≤ maxLen ∧ ((List.map (fun j : Nat => (j : Int)) (List.range zn)).length + ([(zn : Int)] : List Int).length) * 8 ≤ 140737488355328) := Lib.hid (by simp only [List.length_map, List.length_range, List.length_singleton]; exact ⟨by unfold maxLen; omega, by omega⟩)
     have HT2 := Lib.hid (HT.out.non ((Keeps.refl Non wx).alloc (.cells #[.int .i64 324] 3)))
     have HAt := Lib.hid (Ats.lit wx #[.int .i64 324] 3 (([324] : List Int).flatMap encZ) rfl)
     go_upto_region 10 with (at_builtin; go_must (refine wpList_append_row (o := ⟨some 57, _, _, _, _, _⟩) rfl (.tmp 55) (.tmp 56) 25 rfl 3 1 encZ (.int .i64 0) 8 Tryz.underlying25 info3z rfl (by decide) encZ_len encZ_one (.slice pA zn pc') (List.replicate zn 324) (by kernel_rfl) HT2.out.rs (some ⟨wx.heap.size, 0, none⟩) 1 1 [324] (by kernel_rfl) rfl HAt.out HBs.out.1 HBs.out.2 ?_); intro u8 w8 hO8 hK8 hat; obtain ⟨⟨A8, n8, c8⟩, rfl, h8⟩ := RowP.sl hO8; have hn8 : n8 = zn + 1 := (by simpa using h8); clear h8; subst hn8)
     have HT8 := Lib.hid (HT2.out.grow hO8 hK8 hat)
     clear hO8 hK8 hat HAt HBs HT2
     have HT9 := Lib.hid (HT8.out.non ((Keeps.refl Non w8).alloc (.cells #[.int .i64 (zn : Int)] 3)))
     have HAt := Lib.hid (Ats.lit w8 #[.int .i64 (zn : Int)] 3 (([(zn : Int)] : List Int).flatMap encZ) rfl)
     go_wp2_with (at_builtin; go_must (refine wpList_append_row (o := ⟨some 61, _, _, _, _, _⟩) rfl (.tmp 58) (.tmp 60) 25 rfl 3 1 encZ (.int .i64 0) 8 Tryz.underlying25 info3z rfl (by decide) encZ_len encZ_one (.slice zA zn zc) (List.map (fun j : Nat => (j : Int)) (List.range zn)) (by kernel_rfl) HT9.out.rz (some ⟨w8.heap.size, 0, none⟩) 1 1 [(zn : Int)] (by kernel_rfl) rfl HAt.out HBz.out.1 HBz.out.2 ?_); intro u9 w9 hO9 hK9 hat9; obtain ⟨⟨A9, n9, c9⟩, rfl, h9⟩ := RowP.sl hO9; have hn9 : n9 = zn + 1 := (by simpa using h9); clear h9; subst hn9)
     have HE := Lib.hid ((HT9.out.flip.grow hO9 hK9 hat9).flip)
     clear hO9 hK9 hat9
     go_roundw
     case rel => exact ⟨zn + 1, ⟨A8, zn + 1, c8⟩, ⟨A9, zn + 1, c9⟩, by omega, by go_num, rfl, rfl, rfl, rfl, by rw [List.replicate_succ', List.range_succ, List.map_append]; exact HE.out⟩
     case measure => simp [intOf]; omega
   · obtain rfl : zn = l := by omega
     have hl := HL.out.1
     have hT := HT.out
     obtain ⟨sa, hsa⟩ := row_headAt (s := ⟨pA, zn, pc'⟩) encZ_len hT.rs (by simp; omega)
     have hsa' : pA = some ⟨sa, 0, none⟩ := hsa
     subst hsa'
     obtain ⟨na, hna⟩ := row_headAt (s := ⟨zA, zn, zc⟩) encZ_len hT.rz (by simp; omega)
     have hna' : zA = some ⟨na, 0, none⟩ := hna
     subst hna'
     have r1 := RowP.lit encT_len wx 31 [(⟨2, zn, 324⟩ : Tp)] #[.int .i64 2, .int .i64 (zn : Int), .int .i64 324] rfl (by simp [maxLen])
     have k1 := (Keeps.refl Non wx).alloc (.cells #[.int .i64 2, .int .i64 (zn : Int), .int .i64 324] 31)
     have htp : (⟨2, zn, 324⟩ : Tp).ok := ⟨.inr (.inl ⟨rfl, hl.1, hl.2⟩), (by show 324 ≤ 324; decide), (by show 324 ≤ 8192; decide)⟩
     have HBg := Lib.hid (begun_one (tp := ⟨2, zn, 324⟩) (pool := 3) (tb := wx.heap.size) (tc := 1) (sa := sa) (sc := pc') (na := na) (nc := zc) r1 htp rfl rfl (by decide) (hT.rs.non k1) (hT.rz.non k1))
     have HKb := Lib.hid ((HK1.out.non hT.kp).non k1)
     have HTp := Lib.hid htp
     clear hT r1 k1 htp
     go_upto_region 12 with (go_at_call 7; go_must (refine HBg.out.mono ?_); rintro e w4 ⟨x, p, gd, gc, dv, K, k, B, L, Dk, F, Tj, q, u, rfl, hG⟩)
     obtain ⟨wb, hwb⟩ : ∃ V : World, V = wx.alloc (.cells #[.int .i64 2, .int .i64 (zn : Int), .int .i64 324] 31) := ⟨_, rfl⟩
     rw [← hwb] at hG HKb
     obtain ⟨tp, htp⟩ : ∃ t : Tp, t = ⟨2, zn, 324⟩ := ⟨_, rfl⟩
     obtain ⟨l, hll⟩ : ∃ z, z = tp.l := ⟨_, rfl⟩
     have hlz : zn = l := by rw [hll, htp]
     have HTp2 : Hid (tp.ok ∧ tp.k = 2 ∧ tp.s = 324) := Lib.hid (by rw [htp]; exact ⟨HTp.out, rfl, rfl⟩)
     rw [← htp] at hG
     subst hlz
     have HRu := Lib.hid (hG.ru (by rw [← hll]; exact hl))
     have HA0 := Lib.hid (Aw.fmt (l := tp.l) (pool := 3) (tp := tp) (f := Tj.f) fun i hi => (hG.ff i hi).1)
     have HP := Lib.hid hG.P
     have HArb := Lib.hid (show _ ∧ _ ∧ _ from ⟨HArg.out.1.non HKb.out, HArg.out.2.2.1.non HKb.out, HArg.out.2.2.2.2.keep HKb.out (fun _ _ e => e)⟩)
     have HLl := Lib.hid hll
     clear hG HBg hwb HTp htp hll
    
     have x2 : w4.cell? ⟨x, 2, none⟩ = some (.pointer (some ⟨k, 0, none⟩)) := HRu.out.bx.cell 2
     have HT0 : Hid (Tj.P.on ∧ Tj.P.waits = []) := Lib.hid (by rw [HP.out]; exact ⟨⟨rfl, rfl⟩, rfl⟩)
     have HW := Lib.hid (ru_logAny HRu.out HT0.out.1 (by rw [HT0.out.2]; exact Nat.zero_le _) (by decide) (by decide) at_ ha1 ha2 b bA bc HArb.out.1 HArg.out.2.1)
     go_upto_region 15 with (go_at_call 8; go_must (refine HW.out.mono ?_); rintro e w5 ⟨v1, W1, lg1, rfl, hR5, hg1, hg2, hLw, hWl, hLg, hNo, -⟩)
     have HA1 := Lib.hid (HA0.out.ov HRu.out.ixs v1 hLw.rg W1)
     obtain ⟨lgf, hlgf⟩ : ∃ z, z = fun a => (v1 (18 + a)).getD (zeros 128) := ⟨_, rfl⟩
     have HT1 : Hid ((Tj.ov (ixs F tp.l) v1 W1).P.on ∧ (Tj.ov (ixs F tp.l) v1 W1).P.waits.length ≤ 112640 ∧ (∀ y ∈ (Tj.ov (ixs F tp.l) v1 W1).P.waits, ∃ i, i < tp.l ∧ y.d = (K i).d) ∧ (Tj.ov (ixs F tp.l) v1 W1).P.left = -1 ∧ (Tj.ov (ixs F tp.l) v1 W1).P.off = false) := Lib.hid (by
       refine ⟨HT0.out.1, ?_, ?_, HT0.out.1.1, HT0.out.1.2⟩
       · show (Tj.P.waits ++ W1).length ≤ 112640
         rw [HT0.out.2]; exact hWl
       · intro y hy
         have hy' : y ∈ Tj.P.waits ++ W1 := hy
         rw [HT0.out.2, List.nil_append] at hy'
         obtain ⟨i, hi, e, -⟩ := hLw.wt y hy'
         obtain ⟨j, hj, e2⟩ := mem_ixs.1 hi
         exact ⟨i, by rw [← e2, HRu.out.ixe j hj]; exact hj, e⟩)
     have HL0 : Hid ((logD Tj F (pres L L.length)).length = 22528) := Lib.hid (HA0.out.logLen (fun a _ => zeros_length 128) HRu.out.pres HRu.out.psl)
     obtain ⟨T1, hT1⟩ : ∃ z, z = Tj.ov (ixs F tp.l) v1 W1 := ⟨_, rfl⟩
     rw [← hT1, ← hlgf] at HA1
     rw [← hT1] at HT1 hR5 hLg
     have HR5 := Lib.hid (show _ ∧ _ ∧ _ ∧ _ from ⟨hR5, hg1, hg2, hLg⟩)
     clear hlgf hT1 hR5 hLw hWl hLg hNo HW x2 hg1 hg2 HA0 HP HT0
    
     have x2 : w5.cell? ⟨x, 2, none⟩ = some (.pointer (some ⟨k, 0, none⟩)) := HR5.out.1.bx.cell 2
     have HFl := Lib.hid (ru_flush HR5.out.1 HT1.out.1 (by have := HT1.out.2.1; omega) HT1.out.2.2.1)
     go_upto_region 16 with (go_at_call 9; go_must (refine HFl.out.mono ?_); rintro e w6 ⟨rfl, T2, hR6, hf2, hgg2, hP2, hK6⟩)
     have HT2 := Lib.hid (show _ ∧ _ ∧ _ from ⟨hf2, hgg2, (by rw [hP2, HT1.out.2.2.2.1, HT1.out.2.2.2.2] : T2.P = ⟨[], -1, false⟩)⟩)
     have HR6 := Lib.hid hR6
     have HA2 := Lib.hid (show Aw tp.l 3 tp T2.f _ _ lgf from by rw [hf2]; exact HA1.out)
     clear hR6 hf2 hgg2 hP2 hK6 HFl x2 HA1
    
     have x2 : w6.cell? ⟨x, 2, none⟩ = some (.pointer (some ⟨k, 0, none⟩)) := HR6.out.bx.cell 2
     have HLr := Lib.hid (ru_logRead HR6.out (by rw [HT2.out.2.2]) 0 22528 (by decide))
     have HLn : Hid ((∀ a, a < 256 → (lgf a).length = 128) ∧ (logD T2 F (pres L L.length)).length = 22528) := Lib.hid (by
       have h1 : ∀ a, a < 256 → (lgf a).length = 128 := fun a ha => by
         rw [← HA2.out.lg 0 a (by rw [← HLl.out]; omega) ha]
         exact HR6.out.gs.secs (by rw [← HLl.out]; omega) (by omega)
       exact ⟨h1, HA2.out.logLen h1 HR6.out.pres HR6.out.psl⟩)
     rw [List.drop_zero, List.take_of_length_le (Nat.le_of_eq HLn.out.2)] at HLr
     go_upto_region 17 with (go_at_call 10; go_must (refine HLr.out.mono ?_); rintro e w7 ⟨v7, rfl, hO7, hK7⟩)
     have HR7 := Lib.hid (HR6.out.non hK7)
     obtain ⟨D1, hD1⟩ : ∃ z, z = logD T2 F (pres L L.length) := ⟨_, rfl⟩
     rw [← hD1] at hO7
     have HD1 := Lib.hid (show _ ∧ _ from ⟨hD1, (by rw [hD1]; exact HLn.out.2 : D1.length = 22528)⟩)
     clear hD1 hK7 HLr x2
     obtain ⟨g7, vc, hv, hvc, hB7⟩ : ∃ g c, v7 = .slice (some ⟨g, 0, none⟩) 22528 c ∧ 22528 ≤ c ∧ At w7 (some ⟨g, 0, none⟩) D1 ∧ (∃ cur, Blk w7 g 5 cur) ∧ w6.heap.size ≤ g := by
       obtain ⟨A, c, e, hc, hA, ho⟩ := OwnB.open hO7
       rw [HD1.out.2] at e hc
       rcases hO7.form with ⟨e1, -⟩ | ⟨g, cap, cur, e1, -, hB, -⟩
       · rw [e] at e1; injection e1 with e1 e2 e3; omega
       · rw [e] at e1
         injection e1 with e1 _ _
         subst e1
         exact ⟨g, c, e, hc, hA, ⟨cur, hB⟩, (ho _ rfl).1⟩
     subst hv
     have HB7 := Lib.hid hB7
     clear hB7 hO7
     obtain ⟨er, hor⟩ : ∃ er : Int, er = (if InL at_ b.length then 0 else 1) := ⟨_, rfl⟩
     rw [← hor]
     have HOr : Hid ((er = 0 ∧ InL at_ b.length) ∨ (er = 1 ∧ ¬ InL at_ b.length)) := Lib.hid (by
       rw [hor]
       by_cases c : InL at_ b.length
       · exact .inl ⟨if_pos c, c⟩
       · exact .inr ⟨if_neg c, c⟩)
     clear hor
     go_cut [126] from 98 to 126 (fun t wc => t = .bool false ∧ wc = w7)
     case first =>
       rcases HOr.out with ⟨rfl, r1, r2, r3⟩ | ⟨rfl, hr⟩
       · have d1 : decide (0 ≤ at_) = true := decide_eq_true r1
         have d2 : decide (at_ ≤ 22528) = true := decide_eq_true r2
         have d3 : decide ((b.length : Int) ≤ 22528 - at_) = true := decide_eq_true r3
         go_wp2_with fail
         go_meet
         case rel => exact ⟨rfl, rfl⟩
       · by_cases e1 : 0 ≤ at_
         · have d1 : decide (0 ≤ at_) = true := decide_eq_true e1
           by_cases e2 : at_ ≤ 22528
           · have d2 : decide (at_ ≤ 22528) = true := decide_eq_true e2
             have d3 : decide ((b.length : Int) ≤ 22528 - at_) = false := decide_eq_false (fun e3 => hr ⟨e1, e2, e3⟩)
             clear hr
             go_wp2_with fail
             go_meet
             case rel => exact ⟨rfl, rfl⟩
           · have d2 : decide (at_ ≤ 22528) = false := decide_eq_false e2
             clear hr
             go_wp2_with fail
             go_meet
             case rel => exact ⟨rfl, rfl⟩
         · have d1 : decide (0 ≤ at_) = false := decide_eq_false e1
           clear hr
           go_wp2_with fail
           go_meet
           case rel => exact ⟨rfl, rfl⟩
     case rest =>
       obtain ⟨rfl, rfl⟩ := hcut
       obtain ⟨w8, rfl⟩ : ∃ V : World, V = wc := ⟨_, rfl⟩
       go_upto_region 19 with fail
       go_cut [141] from 127 to 141 (fun t wc => t = .bool false ∧ Keeps Non w8 wc)
       case first =>
         rcases HOr.out with ⟨rfl, r1, r2, r3⟩ | ⟨rfl, hr⟩
         · obtain ⟨a, rfl⟩ : ∃ a : Nat, at_ = (a : Int) := ⟨at_.toNat, by omega⟩
           have hDm : D1 = mid (logD Tj F (pres L L.length)) b a b.length := by
             have h1 := HR5.out.2.2.2 ⟨r1, r2, r3⟩
             have h2 : logD T2 F (pres L L.length) = logD T1 F (pres L L.length) := by unfold logD lsec; rw [HT2.out.1]
             rw [HD1.out.1, h2, h1]
             rfl
           have hDb : (D1.drop a).take b.length = b := by
             rw [hDm, mid_at (by rw [HL0.out]; omega) (Nat.le_refl _), List.take_of_length_le (Nat.le_refl _)]
           have hA2 : At w8 bA b := HArb.out.1.non HR7.out.gs.keep
           have hcv2 : (convert 22 9 (.slice bA b.length bc)).run Tryz.prog w8.drew = .ok (.string (str b)) w8.drew := run_convert_at 22 9 5 Tryz.underlying22 Tryz.underlying5 Tryz.underlying9 _ b (hA2.non (Keeps.refl Non w8).drew) b.length bc rfl
           have hal : (a : Int) + (b.length : Int) ≤ 22528 := by omega
           have hali : (a : Int) + (b.length : Int) ≤ (vc : Int) := by omega
           have hw1 : IntKind.i64.wrap (a : Int) = (a : Int) := by rw [IntKind.wrap_i64]; omega
           have hp1 : (0 : Int) ≤ (a : Int) + (b.length : Int) := by omega
           have hp2 : a ≤ ((a : Int) + (b.length : Int)).toNat := by omega
           have hp3 : ((a : Int) + (b.length : Int)).toNat - a = b.length := by omega
           have hp4 : ((a : Int) + (b.length : Int)).toNat ≤ vc := by omega
           have hw2 : IntKind.i64.wrap ((a : Int) + (b.length : Int)) = (a : Int) + (b.length : Int) := by rw [IntKind.wrap_i64]; omega
           have HS := Lib.hid (show _ ∧ _ from ⟨hDb, hA2⟩)
           clear r1 r2 r3 hDm hDb hA2
           by_cases hva : vc = a
           · have hb0 : b.length = 0 := by omega
             have hcv1 : (convert 22 9 (.slice (some ⟨g7, 0, none⟩) b.length 0)).run Tryz.prog w8.drew = .ok (.string (str b)) w8.drew := run_convert_at 22 9 5 Tryz.underlying22 Tryz.underlying5 Tryz.underlying9 _ b (fun i hi => absurd hi (by omega)) b.length 0 rfl
             have hp5 : ¬ (a : Int) < (a : Int) + (b.length : Int) := by omega
             clear hb0
             refine wp_region_held_drew (S := fun W : World => (convert 22 9 (.slice (some ⟨g7, 0, none⟩) b.length 0)).run Tryz.prog W = .ok (.string (str b)) W ∧ (convert 22 9 (.slice bA b.length bc)).run Tryz.prog W = .ok (.string (str b)) W) (by kernel_rfl) ⟨hcv1, hcv2⟩ (fun hH0 => ?_)
             refine wpAnyH_take (i := 0) (oi := ⟨some 127, _, _, _, _, _⟩) (v := .int .i64 0) rfl (by kernel_rfl) (by kernel_rfl) (by kernel_rfl) (fun _ _ _ h => h) (Or.inl ⟨by kernel_rfl, by intro w' _hw'; go_simp⟩) (by assumption) ?_
             simp only [Act.put, List.setIfInBounds_toArray, List.set_cons_zero, List.set_cons_succ]
             refine wpAnyH_take (i := 1) (oi := ⟨some 128, _, _, _, _, _⟩) (v := .bool true) rfl (by kernel_rfl) (by kernel_rfl) (by kernel_rfl) (fun _ _ _ h => h) (Or.inl ⟨by kernel_rfl, by intro w' _hw'; go_simp⟩) (by assumption) ?_
             simp only [Act.put, List.setIfInBounds_toArray, List.set_cons_zero, List.set_cons_succ]
             refine wpAnyH_take (i := 2) (oi := ⟨some 129, _, _, _, _, _⟩) (v := .bool true) rfl (by kernel_rfl) (by kernel_rfl) (by kernel_rfl) (fun _ _ _ h => h) (Or.inl ⟨by kernel_rfl, by intro w' _hw'; go_simp⟩) (by assumption) ?_
             simp only [Act.put, List.setIfInBounds_toArray, List.set_cons_zero, List.set_cons_succ]
             refine wpAnyH_take (i := 3) (oi := ⟨some 130, _, _, _, _, _⟩) (v := .slice (some ⟨g7, 0, none⟩) 22528 vc) rfl (by kernel_rfl) (by kernel_rfl) (by kernel_rfl) (fun _ _ _ h => h) (Or.inl ⟨by kernel_rfl, by intro w' _hw'; go_simp⟩) (by assumption) ?_
             simp only [Act.put, List.setIfInBounds_toArray, List.set_cons_zero, List.set_cons_succ]
             refine wpAnyH_take (i := 4) (oi := ⟨some 131, _, _, _, _, _⟩) (v := .int .i64 (a : Int)) rfl (by kernel_rfl) (by kernel_rfl) (by kernel_rfl) (fun _ _ _ h => h) (Or.inl ⟨by kernel_rfl, by intro w' _hw'; go_simp⟩) (by assumption) ?_
             simp only [Act.put, List.setIfInBounds_toArray, List.set_cons_zero, List.set_cons_succ]
             refine wpAnyH_take (i := 5) (oi := ⟨some 132, _, _, _, _, _⟩) (v := .int .i64 (a : Int)) rfl (by kernel_rfl) (by kernel_rfl) (by kernel_rfl) (fun _ _ _ h => h) (Or.inl ⟨by kernel_rfl, by intro w' _hw'; go_simp⟩) (by assumption) ?_
             simp only [Act.put, List.setIfInBounds_toArray, List.set_cons_zero, List.set_cons_succ]
             refine wpAnyH_take (i := 6) (oi := ⟨some 133, _, _, _, _, _⟩) (v := .slice bA b.length bc) rfl (by kernel_rfl) (by kernel_rfl) (by kernel_rfl) (fun _ _ _ h => h) (Or.inl ⟨by kernel_rfl, by intro w' _hw'; go_simp⟩) (by assumption) ?_
             simp only [Act.put, List.setIfInBounds_toArray, List.set_cons_zero, List.set_cons_succ]
             refine wpAnyH_take (i := 7) (oi := ⟨some 134, _, _, _, _, _⟩) (v := .int .i64 (b.length : Int)) rfl (by kernel_rfl) (by kernel_rfl) (by kernel_rfl) (fun _ _ _ h => h) (Or.inl ⟨by kernel_rfl, by intro w' _hw'; go_simp⟩) (by assumption) ?_
             simp only [Act.put, List.setIfInBounds_toArray, List.set_cons_zero, List.set_cons_succ]
             refine wpAnyH_take (i := 8) (oi := ⟨some 135, _, _, _, _, _⟩) (v := .int .i64 ((a : Int) + (b.length : Int))) rfl (by kernel_rfl) (by kernel_rfl) (by kernel_rfl) (fun _ _ _ h => h) (Or.inl ⟨by kernel_rfl, by intro w' _hw'; go_simp⟩) (by assumption) ?_
             simp only [Act.put, List.setIfInBounds_toArray, List.set_cons_zero, List.set_cons_succ]
             refine wpAnyH_take (i := 9) (oi := ⟨some 136, _, _, _, _, _⟩) (v := .slice (some ⟨g7, 0, none⟩) b.length 0) rfl (by kernel_rfl) (by kernel_rfl) (by kernel_rfl) (fun _ _ _ h => h) (Or.inl ⟨by kernel_rfl, by intro w' _hw'; go_simp⟩) (by assumption) ?_
             simp only [Act.put, List.setIfInBounds_toArray, List.set_cons_zero, List.set_cons_succ]
             refine wpAnyH_take (i := 10) (oi := ⟨some 137, _, _, _, _, _⟩) (v := .string (str b)) rfl (by kernel_rfl) (by kernel_rfl) (by kernel_rfl) (fun _ _ _ h => h) (Or.inl ⟨by kernel_rfl, by intro w' hw'; obtain ⟨s0, s1⟩ := hw'; go_simp⟩) (by assumption) ?_
             simp only [Act.put, List.setIfInBounds_toArray, List.set_cons_zero, List.set_cons_succ]
             refine wpAnyH_take (i := 11) (oi := ⟨some 138, _, _, _, _, _⟩) (v := .slice bA b.length bc) rfl (by kernel_rfl) (by kernel_rfl) (by kernel_rfl) (fun _ _ _ h => h) (Or.inl ⟨by kernel_rfl, by intro w' _hw'; go_simp⟩) (by assumption) ?_
             simp only [Act.put, List.setIfInBounds_toArray, List.set_cons_zero, List.set_cons_succ]
             refine wpAnyH_take (i := 12) (oi := ⟨some 139, _, _, _, _, _⟩) (v := .string (str b)) rfl (by kernel_rfl) (by kernel_rfl) (by kernel_rfl) (fun _ _ _ h => h) (Or.inl ⟨by kernel_rfl, by intro w' hw'; obtain ⟨s0, s1⟩ := hw'; go_simp⟩) (by assumption) ?_
             simp only [Act.put, List.setIfInBounds_toArray, List.set_cons_zero, List.set_cons_succ]
             refine wpAnyH_take (i := 13) (oi := ⟨some 140, _, _, _, _, _⟩) (v := .bool false) rfl (by kernel_rfl) (by kernel_rfl) (by kernel_rfl) (fun _ _ _ h => h) (Or.inl ⟨by kernel_rfl, by intro w' _hw'; go_simp⟩) (by assumption) ?_
             simp only [Act.put, List.setIfInBounds_toArray, List.set_cons_zero, List.set_cons_succ]
             refine wpAnyH_take (i := 14) (oi := ⟨some 141, _, _, _, _, _⟩) (v := .bool false) rfl (by kernel_rfl) (by kernel_rfl) (by kernel_rfl) (fun _ _ _ h => h) (Or.inl ⟨by kernel_rfl, by intro w' _hw'; go_simp⟩) (by assumption) ?_
             simp only [Act.put, List.setIfInBounds_toArray, List.set_cons_zero, List.set_cons_succ]
             refine wpAnyH_done (by kernel_rfl) ?_ _
             clear hva hcv1 hcv2
             go_wp2_with fail
             go_meet
             case rel => exact ⟨rfl, (Keeps.refl Non w8).drew⟩
           · have hcv1 : (convert 22 9 (.slice (some ⟨g7, a, none⟩) b.length (vc - a))).run Tryz.prog w8.drew = .ok (.string (str b)) w8.drew := by
               have h1 := ((HB7.out.1.non (Keeps.refl Non w8).drew).drop a).take b.length
               rw [HS.out.1] at h1
               have h2 : At w8.drew (some ⟨g7, a, none⟩) b := by
                 have e : (some (⟨g7, 0, none⟩ : Addr)).map (·.add a) = some ⟨g7, a, none⟩ := by
                   show some ((⟨g7, 0, none⟩ : Addr).add a) = _
                   rw [addr_add_none, Nat.zero_add]
                 rw [e] at h1
                 exact h1
               exact run_convert_at 22 9 5 Tryz.underlying22 Tryz.underlying5 Tryz.underlying9 _ b h2 b.length (vc - a) rfl
             refine wp_region_held_drew (S := fun W : World => (convert 22 9 (.slice (some ⟨g7, a, none⟩) b.length (vc - a))).run Tryz.prog W = .ok (.string (str b)) W ∧ (convert 22 9 (.slice bA b.length bc)).run Tryz.prog W = .ok (.string (str b)) W) (by kernel_rfl) ⟨hcv1, hcv2⟩ (fun hH0 => ?_)
             refine wpAnyH_take (i := 0) (oi := ⟨some 127, _, _, _, _, _⟩) (v := .int .i64 0) rfl (by kernel_rfl) (by kernel_rfl) (by kernel_rfl) (fun _ _ _ h => h) (Or.inl ⟨by kernel_rfl, by intro w' _hw'; go_simp⟩) (by assumption) ?_
             simp only [Act.put, List.setIfInBounds_toArray, List.set_cons_zero, List.set_cons_succ]
             refine wpAnyH_take (i := 1) (oi := ⟨some 128, _, _, _, _, _⟩) (v := .bool true) rfl (by kernel_rfl) (by kernel_rfl) (by kernel_rfl) (fun _ _ _ h => h) (Or.inl ⟨by kernel_rfl, by intro w' _hw'; go_simp⟩) (by assumption) ?_
             simp only [Act.put, List.setIfInBounds_toArray, List.set_cons_zero, List.set_cons_succ]
             refine wpAnyH_take (i := 2) (oi := ⟨some 129, _, _, _, _, _⟩) (v := .bool true) rfl (by kernel_rfl) (by kernel_rfl) (by kernel_rfl) (fun _ _ _ h => h) (Or.inl ⟨by kernel_rfl, by intro w' _hw'; go_simp⟩) (by assumption) ?_
             simp only [Act.put, List.setIfInBounds_toArray, List.set_cons_zero, List.set_cons_succ]
             refine wpAnyH_take (i := 3) (oi := ⟨some 130, _, _, _, _, _⟩) (v := .slice (some ⟨g7, 0, none⟩) 22528 vc) rfl (by kernel_rfl) (by kernel_rfl) (by kernel_rfl) (fun _ _ _ h => h) (Or.inl ⟨by kernel_rfl, by intro w' _hw'; go_simp⟩) (by assumption) ?_
             simp only [Act.put, List.setIfInBounds_toArray, List.set_cons_zero, List.set_cons_succ]
             refine wpAnyH_take (i := 4) (oi := ⟨some 131, _, _, _, _, _⟩) (v := .int .i64 (a : Int)) rfl (by kernel_rfl) (by kernel_rfl) (by kernel_rfl) (fun _ _ _ h => h) (Or.inl ⟨by kernel_rfl, by intro w' _hw'; go_simp⟩) (by assumption) ?_
             simp only [Act.put, List.setIfInBounds_toArray, List.set_cons_zero, List.set_cons_succ]
             refine wpAnyH_take (i := 5) (oi := ⟨some 132, _, _, _, _, _⟩) (v := .int .i64 (a : Int)) rfl (by kernel_rfl) (by kernel_rfl) (by kernel_rfl) (fun _ _ _ h => h) (Or.inl ⟨by kernel_rfl, by intro w' _hw'; go_simp⟩) (by assumption) ?_
             simp only [Act.put, List.setIfInBounds_toArray, List.set_cons_zero, List.set_cons_succ]
             refine wpAnyH_take (i := 6) (oi := ⟨some 133, _, _, _, _, _⟩) (v := .slice bA b.length bc) rfl (by kernel_rfl) (by kernel_rfl) (by kernel_rfl) (fun _ _ _ h => h) (Or.inl ⟨by kernel_rfl, by intro w' _hw'; go_simp⟩) (by assumption) ?_
             simp only [Act.put, List.setIfInBounds_toArray, List.set_cons_zero, List.set_cons_succ]
             refine wpAnyH_take (i := 7) (oi := ⟨some 134, _, _, _, _, _⟩) (v := .int .i64 (b.length : Int)) rfl (by kernel_rfl) (by kernel_rfl) (by kernel_rfl) (fun _ _ _ h => h) (Or.inl ⟨by kernel_rfl, by intro w' _hw'; go_simp⟩) (by assumption) ?_
             simp only [Act.put, List.setIfInBounds_toArray, List.set_cons_zero, List.set_cons_succ]
             refine wpAnyH_take (i := 8) (oi := ⟨some 135, _, _, _, _, _⟩) (v := .int .i64 ((a : Int) + (b.length : Int))) rfl (by kernel_rfl) (by kernel_rfl) (by kernel_rfl) (fun _ _ _ h => h) (Or.inl ⟨by kernel_rfl, by intro w' _hw'; go_simp⟩) (by assumption) ?_
             simp only [Act.put, List.setIfInBounds_toArray, List.set_cons_zero, List.set_cons_succ]
             refine wpAnyH_take (i := 9) (oi := ⟨some 136, _, _, _, _, _⟩) (v := .slice (some ⟨g7, a, none⟩) b.length (vc - a)) rfl (by kernel_rfl) (by kernel_rfl) (by kernel_rfl) (fun _ _ _ h => h) (Or.inl ⟨by kernel_rfl, by intro w' _hw'; go_simp⟩) (by assumption) ?_
             simp only [Act.put, List.setIfInBounds_toArray, List.set_cons_zero, List.set_cons_succ]
             refine wpAnyH_take (i := 10) (oi := ⟨some 137, _, _, _, _, _⟩) (v := .string (str b)) rfl (by kernel_rfl) (by kernel_rfl) (by kernel_rfl) (fun _ _ _ h => h) (Or.inl ⟨by kernel_rfl, by intro w' hw'; obtain ⟨s0, s1⟩ := hw'; go_simp⟩) (by assumption) ?_
             simp only [Act.put, List.setIfInBounds_toArray, List.set_cons_zero, List.set_cons_succ]
             refine wpAnyH_take (i := 11) (oi := ⟨some 138, _, _, _, _, _⟩) (v := .slice bA b.length bc) rfl (by kernel_rfl) (by kernel_rfl) (by kernel_rfl) (fun _ _ _ h => h) (Or.inl ⟨by kernel_rfl, by intro w' _hw'; go_simp⟩) (by assumption) ?_
             simp only [Act.put, List.setIfInBounds_toArray, List.set_cons_zero, List.set_cons_succ]
             refine wpAnyH_take (i := 12) (oi := ⟨some 139, _, _, _, _, _⟩) (v := .string (str b)) rfl (by kernel_rfl) (by kernel_rfl) (by kernel_rfl) (fun _ _ _ h => h) (Or.inl ⟨by kernel_rfl, by intro w' hw'; obtain ⟨s0, s1⟩ := hw'; go_simp⟩) (by assumption) ?_
             simp only [Act.put, List.setIfInBounds_toArray, List.set_cons_zero, List.set_cons_succ]
             refine wpAnyH_take (i := 13) (oi := ⟨some 140, _, _, _, _, _⟩) (v := .bool false) rfl (by kernel_rfl) (by kernel_rfl) (by kernel_rfl) (fun _ _ _ h => h) (Or.inl ⟨by kernel_rfl, by intro w' _hw'; go_simp⟩) (by assumption) ?_
             simp only [Act.put, List.setIfInBounds_toArray, List.set_cons_zero, List.set_cons_succ]
             refine wpAnyH_take (i := 14) (oi := ⟨some 141, _, _, _, _, _⟩) (v := .bool false) rfl (by kernel_rfl) (by kernel_rfl) (by kernel_rfl) (fun _ _ _ h => h) (Or.inl ⟨by kernel_rfl, by intro w' _hw'; go_simp⟩) (by assumption) ?_
             simp only [Act.put, List.setIfInBounds_toArray, List.set_cons_zero, List.set_cons_succ]
             refine wpAnyH_done (by kernel_rfl) ?_ _
             go_wp2_with fail
             go_meet
             case rel => exact ⟨rfl, (Keeps.refl Non w8).drew⟩
         · have d0 : ((1 : Int) == 0) = false := rfl
           go_quiet (fail)
           go_wp2_with fail
           go_meet
           case rel => exact ⟨rfl, (Keeps.refl Non w8).drewN nq⟩
       case rest =>
         obtain ⟨rfl, hK8⟩ := hcut
         obtain ⟨w9, rfl⟩ : ∃ V : World, V = wc := ⟨_, rfl⟩
         have HR9 := Lib.hid (HR7.out.non hK8)
         have HB9 := Lib.hid (show _ ∧ _ ∧ _ from ⟨HB7.out.1.non hK8, (let ⟨c, hc⟩ := HB7.out.2.1; ⟨c, hc.non hK8⟩ : ∃ cur, Blk w9 g7 5 cur), HB7.out.2.2⟩)
         clear hK8 HR7 HB7
        
         have x2 : w9.cell? ⟨x, 2, none⟩ = some (.pointer (some ⟨k, 0, none⟩)) := HR9.out.bx.cell 2
         have HW := Lib.hid (ru_logAny HR9.out (by rw [HT2.out.2.2]; exact ⟨rfl, rfl⟩) (by rw [HT2.out.2.2]; exact Nat.zero_le _) (by have := HR5.out.2.1; omega) (by have := HR5.out.2.2.1; omega) at_ ha1 ha2 nx nA nc HArb.out.2.1 HArg.out.2.2.2.1)
         go_upto_region 22 with (go_at_call 8; go_must (refine HW.out.mono ?_); rintro e w10 ⟨v2, W2, lg2, rfl, hR10, -, -, hLw2, hWl2, -, hNo2, hK10⟩)
         obtain ⟨er2, hor2⟩ : ∃ er : Int, er = (if InL at_ nx.length then 0 else 1) := ⟨_, rfl⟩
         rw [← hor2]
         have HO2 : Hid ((er2 = 0 ∨ er2 = 1) ∧ (er2 ≠ 0 → v2 = fun _ => none)) := Lib.hid (by
           rw [hor2]
           by_cases c : InL at_ nx.length
           · rw [if_pos c]; exact ⟨.inl rfl, fun h => absurd rfl h⟩
           · rw [if_neg c]; exact ⟨.inr rfl, fun _ => hNo2 c⟩)
         have HLw2 := Lib.hid hLw2
         have HWl2 := Lib.hid hWl2
         have HR10 := Lib.hid hR10
         have hF7 : ¬ Fg w9 p tp.l K g7 := by
           obtain ⟨cur, hc⟩ := HB9.out.2.1
           exact HR9.out.gs.freeB hc (HR6.out.gs.new HB9.out.2.2)
         have HB10 : Hid (At w10 (some ⟨g7, 0, none⟩) D1 ∧ (∃ cur, Blk w10 g7 5 cur) ∧ ¬ Fg w10 p tp.l K g7) := Lib.hid (by
           obtain ⟨cur, hc⟩ := HB9.out.2.1
           have hnk : ¬ (Fg w9 p tp.l K g7 ∨ g7 = k) := fun e => by
             rcases e with e | e
             · exact hF7 e
             · exact hc.ne HR9.out.tk.blk (by decide) e
           refine ⟨HB9.out.1.keep hK10 (fun ad e => by injection e with e; subst e; exact hnk), ⟨cur, hc.keep hK10 hnk⟩, ?_⟩
           exact fg_not' hK10 hc.lt hF7 (fun e => hnk (.inr e)))
         clear hor2 hR10 hLw2 hWl2 hNo2 HW x2 hF7 hK10
        
         have x2 : w10.cell? ⟨x, 2, none⟩ = some (.pointer (some ⟨k, 0, none⟩)) := HR10.out.bx.cell 2
         have hoff : (T2.ov (ixs F tp.l) v2 W2).P.off = false := by
           show T2.P.off = false
           rw [HT2.out.2.2]
         have HLr := Lib.hid (ru_logRead HR10.out hoff 0 22528 (by decide))
         have HA3 := Lib.hid (HA2.out.ov HR9.out.ixs v2 HLw2.out.rg W2)
         have HL3 : Hid (∀ a, a < 256 → ((v2 (18 + a)).getD (lgf a)).length = 128) := Lib.hid (fun a ha => by
           rw [← HA3.out.lg 0 a (by rw [← HLl.out]; omega) ha]
           exact HR10.out.gs.secs (by rw [← HLl.out]; omega) (by omega))
         have HD2 : Hid ((logD (T2.ov (ixs F tp.l) v2 W2) F (pres L L.length)).length = 22528 ∧ ∀ n, n < 256 → ((logD (T2.ov (ixs F tp.l) v2 W2) F (pres L L.length)).drop (88 * n)).take 88 = (lstep (0, zeros 88) ((v2 (18 + n)).getD (lgf n))).2) := Lib.hid ⟨HA3.out.logLen HL3.out HR9.out.pres HR9.out.psl, fun n hn => HA3.out.logAt HL3.out HR9.out.pres HR9.out.psl hn⟩
         have HD1n : Hid (∀ n, n < 256 → (D1.drop (88 * n)).take 88 = (lstep (0, zeros 88) (lgf n)).2) := Lib.hid (fun n hn => by
           rw [HD1.out.1]
           exact HA2.out.logAt HLn.out.1 HR9.out.pres HR9.out.psl hn)
         rw [List.drop_zero, List.take_of_length_le (Nat.le_of_eq HD2.out.1)] at HLr
         go_upto_region 23 with (go_at_call 10; go_must (refine HLr.out.mono ?_); rintro e w11 ⟨v11, rfl, hO11, hK11⟩)
         obtain ⟨D2, hD2⟩ : ∃ z, z = logD (T2.ov (ixs F tp.l) v2 W2) F (pres L L.length) := ⟨_, rfl⟩
         rw [← hD2] at hO11 HD2
         obtain ⟨g11, vc2, hv, hvc2, hB11⟩ : ∃ g c, v11 = .slice (some ⟨g, 0, none⟩) 22528 c ∧ 22528 ≤ c ∧ At w11 (some ⟨g, 0, none⟩) D2 ∧ (∃ cur, Blk w11 g 5 cur) ∧ w10.heap.size ≤ g := by
           obtain ⟨A, c, e, hc, hA, ho⟩ := OwnB.open hO11
           rw [HD2.out.1] at e hc
           rcases hO11.form with ⟨e1, -⟩ | ⟨g, cap, cur, e1, -, hB, -⟩
           · rw [e] at e1; injection e1 with e1 e2 e3; omega
           · rw [e] at e1
             injection e1 with e1 _ _
             subst e1
             exact ⟨g, c, e, hc, hA, ⟨cur, hB⟩, (ho _ rfl).1⟩
         subst hv
         have HB11 := Lib.hid hB11
         have HR11 := Lib.hid (HR10.out.non hK11)
         have HK11 := Lib.hid hK11
         clear hD2 hO11 hB11 hK11 HLr x2 hoff
         have HB12 := Lib.hid (show At w11 (some ⟨g7, 0, none⟩) D1 ∧ (∃ cur, Blk w11 g7 5 cur) ∧ ¬ Fg w11 p tp.l K g7 from ⟨HB10.out.1.non HK11.out, (let ⟨c, hc⟩ := HB10.out.2.1; ⟨c, hc.non HK11.out⟩), by
           obtain ⟨c, hc⟩ := HB10.out.2.1
           exact fg_not_non HK11.out hc.lt HB10.out.2.2⟩)
         have HF11 : Hid (¬ Fg w11 p tp.l K g11) := Lib.hid (by
           obtain ⟨cur, hc⟩ := HB11.out.2.1
           exact HR11.out.gs.freeB hc (HR10.out.gs.new HB11.out.2.2))
        
         have x0 : w11.cell? ⟨x, 0, none⟩ = some (.pointer (some ⟨p, 0, none⟩)) := HR11.out.bx.cell 0
         have HU := Lib.hid (ru_up HR11.out (by
           show (T2.P.waits ++ W2).length ≤ 1099511627776
           rw [HT2.out.2.2, List.nil_append]
           have := HWl2.out
           omega) st sA sc (HArb.out.2.2.keep HR11.out.gs.keep (fun _ _ e => e)) (fun ad e => HR11.out.gs.low (by have h1 := hsl ad e; have h2 := HKb.out.size; omega)) (by omega))
         go_upto_region 24 with (go_at_call 11; go_must (refine HU.out.mono ?_); rintro e w12 ⟨rfl, f5, hR12, hf5, hK12⟩)
         have HE := Lib.hid (up_label (f5 := f5) HA2.out HLw2.out (by rw [← HLl.out]; exact HL.out.2) (fun q hq => up_or (K := K) (by rw [HT2.out.2.2]) (fun i hi => by rw [HT2.out.2.1 i hi, HT2.out.1]) HLw2.out hf5 (by rw [← HLl.out]; exact HL.out.2) hq))
         have HR12 := Lib.hid hR12
         have HB13 := Lib.hid (show At w12 (some ⟨g7, 0, none⟩) D1 ∧ At w12 (some ⟨g11, 0, none⟩) D2 from ⟨HB12.out.1.keep hK12 (fun ad e => by injection e with e; subst e; exact HB12.out.2.2), HB11.out.1.keep hK12 (fun ad e => by injection e with e; subst e; exact HF11.out)⟩)
         have HSe := Lib.hid (fun a (ha : a < 256) => hR12.gs.secs (i := lf) (q := 18 + a) (by rw [← HLl.out]; exact HL.out.2) (by omega))
         clear hR12 hf5 hK12 HU x0 HB12 HB11 HF11 HK11 HR11
        
         have hlt : lf < tp.l := by rw [← HLl.out]; exact HL.out.2
         have hlti : (lf : Int) < (zn : Int) := by have := HL.out.2; omega
         have x1 : w12.cell? ⟨x, 1, none⟩ = some (.slice (some ⟨gd, 0, none⟩) zn gc) := by
           have := HR12.out.bx.cell 1
           rw [HLl.out]
           exact this
         have g1 : w12.cell? ⟨gd, lf, none⟩ = some (.pointer (some ⟨(K lf).d, 0, none⟩)) := row_cellAt (s := ⟨some ⟨gd, 0, none⟩, tp.l, gc⟩) encP_len HR12.out.dr rfl (i := lf) (x := (K lf).d) (by rw [List.getElem?_map, List.getElem?_range hlt]; rfl)
         have k13 := (Keeps.refl Non w12).alloc (.cells #[.pointer (some ⟨(K lf).d, 0, none⟩)] 49)
         have hc13 := (Blk.new w12 49 #[.pointer (some ⟨(K lf).d, 0, none⟩)]).cell 0
         have HIm := Lib.hid (ru_importD (HR12.out.non k13) rfl HTp2.out.1 HTp2.out.2.1 HTp2.out.2.2 (by decide) (.inl ⟨rfl, fun _ _ => rfl⟩) lf hlt HE.out.1 HE.out.2.1 (gb := w12.heap.size) (cd := 1) (by decide) hc13)
         have HB14 := Lib.hid (And.intro (HB13.out.1.non k13) (HB13.out.2.non k13))
         clear k13 hc13 HR12 HB13
         go_upto_region 25 with (go_at_call 12; go_must (refine HIm.out.mono ?_); rintro e w13 ⟨k2, B2, L2, Dk2, F2, lg3, rfl, hFo⟩)
         have HF := Lib.hid hFo
         have HB15 := Lib.hid (And.intro (HB14.out.1.non hFo.kp) (HB14.out.2.non hFo.kp))
         have HD3 := Lib.hid (hFo.logAt hlt HSe.out)
         have HLr := Lib.hid (logRead_tk hFo.tk hFo.gs hFo.lv (by rw [hFo.ll]; omega) (by decide) rfl 0 22528 (by decide))
         rw [List.drop_zero, List.take_of_length_le (Nat.le_of_eq HD3.out.1)] at HLr
         clear hFo HIm HB14 x1 g1
         go_upto_region 28 with (go_at_call 10; go_must (refine HLr.out.mono ?_); rintro e w14 ⟨v14, rfl, hO14, hK14⟩)
         obtain ⟨D3, hD3⟩ : ∃ z, z = logD ⟨f5, f5, ⟨[], -1, false⟩⟩ F2 (pres L2 L2.length) := ⟨_, rfl⟩
         rw [← hD3] at hO14 HD3
         obtain ⟨g14, vc3, hv, hvc3, hA14⟩ : ∃ g c, v14 = .slice (some ⟨g, 0, none⟩) 22528 c ∧ 22528 ≤ c ∧ At w14 (some ⟨g, 0, none⟩) D3 := by
           obtain ⟨A, c, e, hc, hA, ho⟩ := OwnB.open hO14
           rw [HD3.out.1] at e hc
           rcases hO14.form with ⟨e1, -⟩ | ⟨g, cap, cur, e1, -, hB, -⟩
           · rw [e] at e1; injection e1 with e1 e2 e3; omega
           · rw [e] at e1
             injection e1 with e1 _ _
             subst e1
             exact ⟨g, c, e, hc, hA⟩
         subst hv
         have HEnd : Hid (Keeps Non w w14) := Lib.hid ((HKb.out.non HF.out.gs.keep).non hK14)
         have HB14 := Lib.hid (show At w14 (some ⟨g14, 0, none⟩) D3 ∧ At w14 (some ⟨g7, 0, none⟩) D1 ∧ At w14 (some ⟨g11, 0, none⟩) D2 from ⟨hA14, HB15.out.1.non hK14, HB15.out.2.non hK14⟩)
         have HEq : Hid (∀ n, n < 256 → (D3.drop (88 * n)).take 88 = (D1.drop (88 * n)).take 88 ∨ (D3.drop (88 * n)).take 88 = (D2.drop (88 * n)).take 88) := Lib.hid (fun n hn => by
           rw [HD3.out.2 n hn, HD1n.out n hn, HD2.out.2 n hn]
           rcases HE.out.2.2 n hn with e | e
           · exact .inl e
           · right; rw [e])
         have HEq2 : Hid (er2 ≠ 0 → D3 = D1) := Lib.hid (fun h => by
           refine sec_eq 256 HD3.out.1 HD1.out.2 fun n hn => ?_
           rw [HD3.out.2 n hn, HD1n.out n hn]
           rcases HE.out.2.2 n hn with e | e
           · exact e
           · rw [HO2.out.2 h] at e
             rw [← e]
             rfl)
         have HO2' := Lib.hid HO2.out.1
         have HLd3 := Lib.hid HD3.out.1
         have HLd := Lib.hid HD1.out.2
         have HLd2 := Lib.hid HD2.out.1
         clear hD3 hO14 hA14 hK14 HLr HB15 HE HO2 HF HD3 HD2 HD1n HD1 HSe
         go_cut [212] from 195 to 212 (fun t wc => t = .bool false ∧ wc = w14)
         case first =>
           rcases HO2'.out with rfl | rfl
           · go_wp2_with fail
             go_meet
             case rel => exact ⟨rfl, rfl⟩
           · have hcv1 : (convert 22 9 (.slice (some ⟨g14, 0, none⟩) 22528 vc3)).run Tryz.prog w14 = .ok (.string (str D1)) w14 := by
               have h1 := HB14.out.1
               rw [HEq2.out (by decide)] at h1
               exact run_convert_at 22 9 5 Tryz.underlying22 Tryz.underlying5 Tryz.underlying9 _ D1 h1 22528 vc3 HLd.out.symm
             have hcv2 : (convert 22 9 (.slice (some ⟨g7, 0, none⟩) 22528 vc)).run Tryz.prog w14 = .ok (.string (str D1)) w14 := run_convert_at 22 9 5 Tryz.underlying22 Tryz.underlying5 Tryz.underlying9 _ D1 HB14.out.2.1 22528 vc HLd.out.symm
             go_wp2_with fail
             go_meet
             case rel => exact ⟨rfl, rfl⟩
         case rest =>
           obtain ⟨rfl, hwc⟩ := hcut
           rw [hwc]
           clear hwc
           go_upto_region 31 with fail
           go_loopw [31] (fun i wr => ∃ n : Nat, n ≤ 256 ∧ i = .int .i64 (n : Int) ∧ wr = w14) (fun i _ => 256 - (intOf i).toNat)
           case atStart => exact ⟨0, by decide, rfl, rfl⟩
           case round =>
             obtain ⟨n, hn, rfl, rfl⟩ := hrel
             obtain ⟨w15, rfl⟩ : ∃ V : World, V = wr := ⟨_, rfl⟩
             by_cases hn2 : n < 256
             · have hni : (n : Int) < 256 := by omega
               obtain ⟨m, hm⟩ : ∃ m : Nat, m = 88 * n := ⟨_, rfl⟩
               have hw1 : IntKind.i64.wrap (88 * (n : Int)) = (m : Int) := by rw [IntKind.wrap_i64]; omega
               have hw2 : IntKind.i64.wrap ((m : Int) + 88) = (m : Int) + 88 := by rw [IntKind.wrap_i64]; omega
               have hp1 : (0 : Int) ≤ (m : Int) + 88 := by omega
               have hp2 : m ≤ ((m : Int) + 88).toNat := by omega
               have hp3 : ((m : Int) + 88).toNat - m = 88 := by omega
               have hp4 : ((m : Int) + 88) ≤ (vc3 : Int) := by omega
               have hp5 : ((m : Int) + 88) ≤ (vc : Int) := by omega
               have hp6 : ((m : Int) + 88) ≤ (vc2 : Int) := by omega
               have hq1 : ¬ vc3 = m := by omega
               have hq2 : ¬ vc = m := by omega
               have hq3 : ¬ vc2 = m := by omega
               have hq4 : ((m : Int) + 88).toNat ≤ vc3 := by omega
               have hq5 : ((m : Int) + 88).toNat ≤ vc := by omega
               have hq6 : ((m : Int) + 88).toNat ≤ vc2 := by omega
               obtain ⟨S3, hS3⟩ : ∃ z, z = (D3.drop m).take 88 := ⟨_, rfl⟩
               obtain ⟨S1, hS1⟩ : ∃ z, z = (D1.drop m).take 88 := ⟨_, rfl⟩
               obtain ⟨S2, hS2⟩ : ∃ z, z = (D2.drop m).take 88 := ⟨_, rfl⟩
               have HQ : Hid (S3 = S1 ∨ S3 = S2) := Lib.hid (by rw [hS3, hS1, hS2, hm]; exact HEq.out n hn2)
               have hcv1 : (convert 22 9 (.slice (some ⟨g14, m, none⟩) 88 (vc3 - m))).run Tryz.prog w15 = .ok (.string (str S3)) w15 := run_convert_at 22 9 5 Tryz.underlying22 Tryz.underlying5 Tryz.underlying9 _ S3 (by rw [hS3]; exact at_cut HB14.out.1 m 88) 88 (vc3 - m) (by rw [hS3, List.length_take, List.length_drop, HLd3.out]; omega)
               have hcv2 : (convert 22 9 (.slice (some ⟨g7, m, none⟩) 88 (vc - m))).run Tryz.prog w15 = .ok (.string (str S1)) w15 := run_convert_at 22 9 5 Tryz.underlying22 Tryz.underlying5 Tryz.underlying9 _ S1 (by rw [hS1]; exact at_cut HB14.out.2.1 m 88) 88 (vc - m) (by rw [hS1, List.length_take, List.length_drop, HLd.out]; omega)
               have hcv3 : (convert 22 9 (.slice (some ⟨g11, m, none⟩) 88 (vc2 - m))).run Tryz.prog w15 = .ok (.string (str S2)) w15 := run_convert_at 22 9 5 Tryz.underlying22 Tryz.underlying5 Tryz.underlying9 _ S2 (by rw [hS2]; exact at_cut HB14.out.2.2 m 88) 88 (vc2 - m) (by rw [hS2, List.length_take, List.length_drop, HLd2.out]; omega)
               have HM := Lib.hid hm
               clear hm hS3 hS1 hS2
               by_cases hss : S3 = S1
               · subst hss
                 go_wp2_with fail
                 go_roundw
                 case rel => exact ⟨n + 1, by omega, by go_num, trivial⟩
                 case measure => simp [intOf]; omega
               · obtain hs2 := HQ.out.resolve_left hss
                 have dss : ((str S3).toList == (str S1).toList) = false := by
                   rw [str_toList, str_toList]
                   exact beq_eq_false_iff_ne.2 hss
                 subst hs2
                 go_wp2_with fail
                 go_roundw
                 case rel => exact ⟨n + 1, by omega, by go_num, trivial⟩
                 case measure => simp [intOf]; omega
             · have hni : ¬ (n : Int) < 256 := by omega
               go_wp2_with fail
               go_ret
               exact ⟨rfl, HEnd.out⟩
end Go.Proofs.YtolknnmaadkgiaaGreatDoor
