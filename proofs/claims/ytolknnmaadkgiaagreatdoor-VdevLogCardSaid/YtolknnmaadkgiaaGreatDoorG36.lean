/- The document's Create. pick: disks by their numbers. -/
import Derived.Test.YtolknnmaadkgiaaGreatDoorG35
import Derived.BigQuiet
import Derived.BigRegion
set_option linter.unusedVariables false
set_option linter.unusedSimpArgs false
namespace Go.Proofs.YtolknnmaadkgiaaGreatDoor
set_option maxRecDepth 100000
open Go.RowKit Go.Uc Go.Shelf
structure Cz (w0 w : World) (q m n : Nat) (dv : Sl) (D : Nat → Nat) (V : Nat → Sl) (pool : Nat) (tp : Tp) (tb tc : Nat) (ix : Nat → Nat) (na nc : Nat) : Prop where
 dg : Dg w0 w q dv m n D V
 n3 : 324 ≤ n
 n8 : n ≤ 8192
 md : Md tp.k tp.l
 k2 : tp.k = 2
 l1 : 1 ≤ tp.l
 l5 : tp.l ≤ 5
 s : tp.s = n
 po : pool < 18446744073709551616
 rt : RowT w (.slice (some ⟨tb, 0, none⟩) 1 tc) [tp]
 ixm : ∀ j, j < tp.l → ix j < m
 inj : ∀ i j, i < tp.l → j < tp.l → i ≠ j → ix i ≠ ix j
 mb : m ≤ 1000
 ns : RowP w 3 1 encZ (.slice (some ⟨na, 0, none⟩) tp.l nc) ((List.range tp.l).map fun j => (ix j : Int))
section
variable {w0 w w' : World} {q m n u pool mb mc lb lc db dc fb gb : Nat} {dv : Sl} {D : Nat → Nat} {V : Nat → Sl} {tp : Tp} {L : List (Option Nat)} {Z : List Int}
def Cy (w0 w : World) (q m n : Nat) (dv : Sl) (D : Nat → Nat) (V : Nat → Sl) (u pool mb mc lb lc db dc fb gb : Nat) (tp : Tp) (Z : List Int) (ix : Nat → Nat) (k : Nat) (wr : World) : Prop :=
 ∃ (L : List (Option Nat)) (lf : Nat → Nat), Dg w0 wr q dv m n D V ∧ Td wr u q pool mb mc lb lc db dc fb gb tp L Z ∧ (∀ i, i < tp.l → L[i]? = some (if i < k then some (lf i) else none)) ∧ (∀ i, i < k → Ld wr (lf i) q (ix i)) ∧ Keeps (Fz q m D V) w wr
set_option maxHeartbeats 16000000 in
theorem create32_one {tb tc na nc : Nat} {ix : Nat → Nat} (h : Cz w0 w q m n dv D V pool tp tb tc ix na nc) :
   Calls Tryz.prog 32 #[.pointer (some ⟨q, 0, none⟩), .int .u64 (pool : Int), .slice (some ⟨tb, 0, none⟩) 1 tc, .slice (some ⟨na, 0, none⟩) tp.l nc] w fun e w' => ∃ u, e = .returned (.tuple #[.pointer (some ⟨u, 0, none⟩), .int .i64 0]) ∧ Keeps (Fz q m D V) w w' := by
 obtain ⟨dA, dn, dvc⟩ := dv
 obtain rfl : dn = m := h.dg.dn
 have hm0 : 0 < dn := by have := h.ixm 0 (by have := h.l1; omega); omega
 obtain ⟨xb, hxb⟩ := row_headAt (s := ⟨dA, dn, dvc⟩) encP_len h.dg.row (by simp; omega)
 have hxb' : dA = some ⟨xb, 0, none⟩ := hxb
 subst hxb'
 have hl1 := h.l1
 have hl5 := h.l5
 have HC : Hid (∀ W, Keeps Non w W → ∀ k, k < tp.l → W.cell? ⟨na, k, none⟩ = some (.int .i64 (ix k : Int)) ∧ W.cell? ⟨q, 0, none⟩ = some (.slice (some ⟨xb, 0, none⟩) dn dvc) ∧ W.cell? ⟨xb, ix k, none⟩ = some (.pointer (some ⟨D (ix k), 0, none⟩)) ∧ W.cell? ⟨D (ix k), 0, none⟩ = some (.slice (V (ix k)).A n (V (ix k)).c) ∧ W.cell? ⟨tb, 1, none⟩ = some (.int .i64 (tp.l : Int)) ∧ W.cell? ⟨tb, 2, none⟩ = some (.int .i64 (n : Int))) := Lib.hid (fun W hW k hk => by
   have hD := h.dg.non hW
   obtain ⟨z, hz⟩ := hD.pb
   obtain ⟨P, -, hp1, hp2⟩ := hD.pl (ix k) (h.ixm k hk)
   obtain ⟨a0, a1, a2⟩ := (row_tb (h.rt.non hW)).1.cells
   refine ⟨?_, hz.cell 0, row_cellAt (s := ⟨some ⟨xb, 0, none⟩, dn, dvc⟩) encP_len hD.row rfl (x := D (ix k)) ?_, ?_, a1, by rw [a2, h.s]⟩
   · exact row_cellAt (s := ⟨some ⟨na, 0, none⟩, tp.l, nc⟩) encZ_len (h.ns.non hW) rfl (x := (ix k : Int)) (by rw [List.getElem?_map, List.getElem?_range hk]; rfl)
   · rw [List.getElem?_map, List.getElem?_range (h.ixm k hk)]; rfl
   · have := (hD.dk (ix k) (h.ixm k hk)).cell 0
     rw [← hp2, ← hp1]
     exact this)
 have HCk := Lib.hid (checkLabel100_one pool tb tc tp.k tp.l n 0 h.md (by omega) w (by have := (row_tb h.rt).1; rw [h.s] at this; exact this) h.n3 h.n8 (row_tb h.rt).2)
 have HBg := Lib.hid (fun W (hW : Keeps Non w W) => begun62_one (q := q) (pool := pool) (h.rt.non hW) h.l1 h.l5)
 have HH := Lib.hid h
 clear h
 go_enter Tryz.func32, Tryz.ntmps32
 go_upto_region 5 with (first
   | (go_at_call 61; go_must (refine HCk.out.mono ?_); rintro e w1 ⟨rfl, hK1⟩; have HB1 := Lib.hid (HBg.out w1 hK1))
   | (go_at_call 62; go_must (refine HB1.out.mono ?_); rintro e w2 ⟨u, mb, mc, lb, lc, db, dc, fb, gb, Z0, rfl, hT2, hb2, hK2⟩))
 have hk2 := hK1.non hK2
 have hbd : w.heap.size ≤ fb ∧ w.heap.size ≤ gb := ⟨by have := hK1.size; omega, by have := hK1.size; omega⟩
 have HU0 : Hid (w.heap.size ≤ u) := Lib.hid (by have := hK1.size; omega)
 have H2 := Lib.hid (show _ ∧ _ ∧ _ from ⟨hT2, hbd, hk2⟩)
 clear hT2 hb2 hK2 hK1 hk2 hbd HBg HB1 HCk
 go_upto_region 7 with fail
 go_loopw [12, 13] (fun a i wr => ∃ j : Nat, j ≤ 1 ∧ i = .int .i64 (j : Int) ∧ (j = 0 → a = .int .i64 0 ∧ wr = w2) ∧ (j = 1 → a = .int .i64 (tp.l : Int) ∧ ∃ Z : List Int, Td wr u q pool mb mc lb lc db dc fb gb tp (List.replicate tp.l none) Z ∧ (∀ i, i < tp.l → Z[i]? = some (ix i : Int)) ∧ Keeps Non w wr)) (fun _ i _ => 1 - (intOf i).toNat)
 case atStart => exact ⟨0, by omega, rfl, fun _ => ⟨rfl, rfl⟩, fun e => by omega⟩
 case round =>
   obtain ⟨j, hj, rfl, h0', h1'⟩ := hrel
   by_cases hj0 : j = 0
   · obtain ⟨rfl, rfl⟩ := h0' hj0
     subst hj0
     rw [show ((0 : Nat) : Int) = 0 from rfl]
     clear h0' h1'
     obtain ⟨wz, rfl⟩ : ∃ V : World, V = wr := ⟨_, rfl⟩
     go_upto_region 10 with fail
     go_loopw [12, 14] (fun a i wr => ∃ (k : Nat) (Z : List Int), k ≤ tp.l ∧ i = .int .i64 (k : Int) ∧ a = .int .i64 (k : Int) ∧ Td wr u q pool mb mc lb lc db dc fb gb tp (List.replicate tp.l none) Z ∧ (∀ i, i < k → Z[i]? = some (ix i : Int)) ∧ Keeps Non w wr) (fun _ i _ => tp.l - (intOf i).toNat)
     case atStart => exact ⟨0, Z0, Nat.zero_le _, rfl, rfl, H2.out.1, fun i hi => absurd hi (by omega), H2.out.2.2⟩
     case round =>
       obtain ⟨k, Z, hk, rfl, rfl, hT, hZ, hK⟩ := hrel
       obtain ⟨wx, rfl⟩ : ∃ V : World, V = wr := ⟨_, rfl⟩
       have HT := Lib.hid (show _ ∧ _ ∧ _ from ⟨hT, hZ, hK⟩)
       clear hT hZ hK
       by_cases hkl : k < tp.l
       · have hki : (k : Int) < (tp.l : Int) := by omega
         obtain ⟨c1, c2, c3, c4, c5, c6⟩ := HC.out wx HT.out.2.2 k hkl
         have hixm := HH.out.ixm k hkl
         have hixi : (ix k : Int) < (dn : Int) := by omega
         have d1 : decide ((tp.l : Int) ≤ (k : Int)) = false := decide_eq_false (by omega)
         have d2 : decide ((ix k : Int) < 0) = false := decide_eq_false (by omega)
         have d3 : decide (tp.l ≤ k) = false := decide_eq_false (by omega)
         go_upto_region 12 with fail
         go_quiet (fail)
         obtain ⟨wy, hwy⟩ : ∃ V : World, V = wx.drewN nq := ⟨_, rfl⟩
         have hky : Keeps Non wx wy := by rw [hwy]; exact (Keeps.refl Non wx).drewN nq
         rw [← hwy]
         have HKy := Lib.hid hky
         clear hwy hky c1 c2 c3 c4 c5 c6 d1 d2 d3 nq
         go_upto_region 15 with fail
         go_loopw [15] (fun i wr => ∃ r : Nat, r ≤ k ∧ i = .int .i64 (r : Int) ∧ Keeps Non wy wr) (fun i _ => k - (intOf i).toNat)
         case atStart => exact ⟨0, Nat.zero_le _, rfl, Keeps.refl _ _⟩
         case round =>
           obtain ⟨r, hr, rfl, hKr⟩ := hrel
           obtain ⟨wv, rfl⟩ : ∃ V : World, V = wr := ⟨_, rfl⟩
           have HKv := Lib.hid (HT.out.2.2.non (HKy.out.non hKr))
           have HKr := Lib.hid hKr
           clear hKr
           by_cases hrk : r < k
           · have hri : (r : Int) < (k : Int) := by omega
             have hri2 : (r : Int) < (tp.l : Int) := by omega
             have c1 := (HC.out wv HKv.out k hkl).1
             have c2 := (HC.out wv HKv.out r (by omega)).1
             have hne := HH.out.inj r k (by omega) hkl (by omega)
             have d1 : ((ix r : Int) == (ix k : Int)) = false := beq_eq_false_iff_ne.2 (by omega)
             clear hne
             go_upto_region 17 with fail
             go_quiet (fail)
             go_wp2_with fail
             go_roundw
             case rel => exact ⟨r + 1, by omega, by go_num, HKr.out.drewN nq⟩
             case measure => simp [intOf]; omega
           · obtain rfl : r = k := by omega
             have hTv := HT.out.1.non (HKy.out.non HKr.out)
             have c1 := (HC.out wv HKv.out r hkl).1
             have u5 : wv.cell? ⟨u, 5, none⟩ = some (.slice (some ⟨db, 0, none⟩) 1 dc) := hTv.blk.cell 5
             have x0 : wv.cell? ⟨db, 0, none⟩ = some (.slice (some ⟨gb, 0, none⟩) tp.l tp.l) := row_cellAt (s := ⟨some ⟨db, 0, none⟩, 1, dc⟩) encS_len hTv.dr rfl (i := 0) rfl
             obtain ⟨zv, hzv⟩ : ∃ zv, Z[r]? = some zv := ⟨_, List.getElem?_eq_getElem (by rw [hTv.zl]; exact hkl)⟩
             have z0 : wv.cell? ⟨gb, r, none⟩ = some (.int .i64 zv) := row_cellAt (s := ⟨some ⟨gb, 0, none⟩, tp.l, tp.l⟩) encZ_len hTv.dz rfl hzv
             obtain ⟨cg, hg⟩ := row_blk (s := ⟨some ⟨gb, 0, none⟩, tp.l, tp.l⟩) hTv.dz rfl
             have fz := hg.frozen r
             have HTv := Lib.hid hTv
             have hzl : r < Z.length := by rw [hTv.zl]; exact hkl
             have HZl := Lib.hid hzl
             clear hTv hzv hg hzl
             go_upto_region 19 with fail
             obtain ⟨hT9, hk9⟩ := HTv.out.setZ hkl (ix r : Int)
             have HT9 := Lib.hid (show _ ∧ _ from ⟨hT9, hk9⟩)
             clear hT9 hk9
             go_region
             go_wp2_with fail
             go_roundw
             case rel => exact ⟨r + 1, Z.set r (ix r : Int), by omega, by go_num, by go_num, HT9.out.1.non (Keeps.refl Non _).drew, fun i hi => by
               by_cases e : i = r
               · subst e; rw [List.getElem?_set_self HZl.out]
               · rw [List.getElem?_set_ne (Ne.symm e)]; exact HT.out.2.1 i (by omega), (HKv.out.then HT9.out.2 fun i hi e => by have := H2.out.2.1.2; unfold Only at e; omega).drew⟩
             case measure => simp [intOf]; omega
       · obtain rfl : k = tp.l := by omega
         obtain ⟨c1, c2, c3, c4, c5, c6⟩ := HC.out wx HT.out.2.2 0 (by omega)
         clear c1 c2 c3 c4 c6
         go_wp2_with fail
         go_roundw
         case rel => exact ⟨1, by omega, by go_num, fun e => by omega, fun _ => ⟨rfl, Z, HT.out⟩⟩
         case measure => simp [intOf]
   · obtain rfl : j = 1 := by omega
     rw [show ((1 : Nat) : Int) = 1 from rfl]
     obtain ⟨rfl, Z, hT, hZ, hK⟩ := h1' rfl
     clear h0' h1'
     obtain ⟨wx, rfl⟩ : ∃ V : World, V = wr := ⟨_, rfl⟩
     have HT := Lib.hid (show _ ∧ _ ∧ _ from ⟨hT, hZ, hK⟩)
     clear hT hZ hK
     go_upto_region 24 with fail
     have HR : Hid (∀ W, Keeps (Fz q dn D V) w W → W.cell? ⟨tb, 1, none⟩ = some (.int .i64 (tp.l : Int))) := Lib.hid (fun W hW => (row_tb (HH.out.rt.keep hW (HH.out.dg.freeRow HH.out.rt (by decide) (by decide) (by decide)))).1.cells.2.1)
     have HCy0 : Hid (Cy w0 w q dn n ⟨some ⟨xb, 0, none⟩, dn, dvc⟩ D V u pool mb mc lb lc db dc fb gb tp Z ix 0 wx) := Lib.hid ⟨List.replicate tp.l none, fun _ => 0, HH.out.dg.non HT.out.2.2, HT.out.1, fun i hi => by rw [List.getElem?_replicate, if_pos hi, if_neg (by omega)], fun i hi => absurd hi (by omega), HT.out.2.2.of_non⟩
     go_loopw [16] (fun i wr => ∃ j : Nat, j ≤ 1 ∧ i = .int .i64 (j : Int) ∧ (j = 0 → wr = wx) ∧ (j = 1 → Cy w0 w q dn n ⟨some ⟨xb, 0, none⟩, dn, dvc⟩ D V u pool mb mc lb lc db dc fb gb tp Z ix tp.l wr)) (fun i _ => 1 - (intOf i).toNat)
     case atStart => exact ⟨0, by omega, rfl, fun _ => rfl, fun e => by omega⟩
     case round =>
       obtain ⟨j, hj, rfl, h0', h1'⟩ := hrel
       by_cases hj0 : j = 0
       · obtain rfl := h0' hj0
         subst hj0
         rw [show ((0 : Nat) : Int) = 0 from rfl]
         clear h0' h1'
         obtain ⟨wz, rfl⟩ : ∃ V : World, V = wr := ⟨_, rfl⟩
         go_upto_region 27 with fail
         go_loopw [17] (fun i wr => ∃ k : Nat, k ≤ tp.l ∧ i = .int .i64 (k : Int) ∧ Cy w0 w q dn n ⟨some ⟨xb, 0, none⟩, dn, dvc⟩ D V u pool mb mc lb lc db dc fb gb tp Z ix k wr) (fun i _ => tp.l - (intOf i).toNat)
         case atStart => exact ⟨0, Nat.zero_le _, rfl, HCy0.out⟩
         case round =>
           obtain ⟨k, hk, rfl, hCy⟩ := hrel
           obtain ⟨wx, rfl⟩ : ∃ V : World, V = wr := ⟨_, rfl⟩
           have HCy := Lib.hid hCy
           obtain ⟨L, lf, hD, hT, hL, hLd, hK⟩ := hCy
           have tb1 := HR.out wx hK
           by_cases hkl : k < tp.l
           · have hki : (k : Int) < (tp.l : Int) := by omega
             have HS : Hid (∀ W, Keeps (Fz q dn D V) wx W → W.cell? ⟨u, 5, none⟩ = some (.slice (some ⟨db, 0, none⟩) 1 dc) ∧ W.cell? ⟨db, 0, none⟩ = some (.slice (some ⟨gb, 0, none⟩) tp.l tp.l) ∧ W.cell? ⟨gb, k, none⟩ = some (.int .i64 (ix k : Int))) := Lib.hid (fun W hW => by
               have hT' := hT.keep hW (fun hb ht => hD.free hb (by rintro rfl; omega) (by rintro rfl; omega) (by rintro rfl; omega))
               exact ⟨hT'.blk.cell 5, row_cellAt (s := ⟨some ⟨db, 0, none⟩, 1, dc⟩) encS_len hT'.dr rfl (i := 0) rfl, row_cellAt (s := ⟨some ⟨gb, 0, none⟩, tp.l, tp.l⟩) encZ_len hT'.dz rfl (HT.out.2.1 k hkl)⟩)
             have HLb : Hid (Calls Tryz.prog 64 #[.pointer (some ⟨u, 0, none⟩), .int .i64 0, .int .i64 (k : Int)] wx.drew fun e w' => e = .returned (.agg #[.int .u64 (pool : Int), .slice (some ⟨mb, 0, none⟩) 1 mc, .int .i64 0, .int .i64 (k : Int)]) ∧ Keeps Non wx.drew w') := Lib.hid (label64_any (w := wx.drew) (some ⟨mb, 0, none⟩) 1 mc 0 k (hT.blk.drew.cell 1) (hT.blk.drew.cell 2))
             have HF := Lib.hid (fun W (hW : Keeps Non wx.drew W) => dg_format (hD.non ((Keeps.refl Non wx).drew.non hW)) (HH.out.ixm k hkl) HH.out.n3 HH.out.n8 pool mb mc k HH.out.md hkl HH.out.s (hT.md.non ((Keeps.refl Non wx).drew.non hW)) HH.out.po)
             clear hD hT hL hLd hK
             go_upto_region 29 with fail
             refine wp_region_held_drew (S := fun w' : World => w'.cell? ⟨u, 5, none⟩ = some (.slice (some ⟨db, 0, none⟩) 1 dc) ∧ w'.cell? ⟨db, 0, none⟩ = some (.slice (some ⟨gb, 0, none⟩) tp.l tp.l) ∧ w'.cell? ⟨gb, k, none⟩ = some (.int .i64 (ix k : Int))) (by kernel_rfl) (HS.out _ (Keeps.refl Non wx).drew.of_non) (fun hH0 => ?_)
             refine wpAnyH_take (i := 0) (oi := ⟨some 127, _, _, _, _, _⟩) (v := .pointer (some ⟨q, 0, none⟩)) rfl (by kernel_rfl) (by kernel_rfl) (by kernel_rfl) (fun _ _ _ h => h) (Or.inl ⟨by kernel_rfl, by intro w' _hw'; go_simp⟩) (by assumption) ?_
             simp only [Act.put, List.setIfInBounds_toArray, List.set_cons_zero, List.set_cons_succ]
             refine wpAnyH_take (i := 1) (oi := ⟨some 128, _, _, _, _, _⟩) (v := .pointer (some ⟨u, 0, none⟩)) rfl (by kernel_rfl) (by kernel_rfl) (by kernel_rfl) (fun _ _ _ h => h) (Or.inl ⟨by kernel_rfl, by intro w' _hw'; go_simp⟩) (by assumption) ?_
             simp only [Act.put, List.setIfInBounds_toArray, List.set_cons_zero, List.set_cons_succ]
             refine wpAnyH_take (i := 2) (oi := ⟨some 129, _, _, _, _, _⟩) (v := .pointer (some ⟨u, 0, none⟩)) rfl (by kernel_rfl) (by kernel_rfl) (by kernel_rfl) (fun _ _ _ h => h) (Or.inl ⟨by kernel_rfl, by intro w' _hw'; go_simp⟩) (by assumption) ?_
             simp only [Act.put, List.setIfInBounds_toArray, List.set_cons_zero, List.set_cons_succ]
             refine wpAnyH_take (i := 3) (oi := ⟨some 130, _, _, _, _, _⟩) (v := .pointer (some ⟨u, 5, none⟩)) rfl (by kernel_rfl) (by kernel_rfl) (by kernel_rfl) (fun _ _ _ h => h) (Or.inl ⟨by kernel_rfl, by intro w' _hw'; go_simp⟩) (by assumption) ?_
             simp only [Act.put, List.setIfInBounds_toArray, List.set_cons_zero, List.set_cons_succ]
             refine wpAnyH_take (i := 4) (oi := ⟨some 131, _, _, _, _, _⟩) (v := .slice (some ⟨db, 0, none⟩) 1 dc) rfl (by kernel_rfl) (by kernel_rfl) (by kernel_rfl) (fun _ _ _ h => h) (Or.inl ⟨by kernel_rfl, by intro w' hw'; obtain ⟨s0, s1, s2⟩ := hw'; go_simp⟩) (by assumption) ?_
             simp only [Act.put, List.setIfInBounds_toArray, List.set_cons_zero, List.set_cons_succ]
             refine wpAnyH_take (i := 5) (oi := ⟨some 132, _, _, _, _, _⟩) (v := .int .i64 0) rfl (by kernel_rfl) (by kernel_rfl) (by kernel_rfl) (fun _ _ _ h => h) (Or.inl ⟨by kernel_rfl, by intro w' _hw'; go_simp⟩) (by assumption) ?_
             simp only [Act.put, List.setIfInBounds_toArray, List.set_cons_zero, List.set_cons_succ]
             refine wpAnyH_take (i := 6) (oi := ⟨some 133, _, _, _, _, _⟩) (v := .pointer (some ⟨db, 0, none⟩)) rfl (by kernel_rfl) (by kernel_rfl) (by kernel_rfl) (fun _ _ _ h => h) (Or.inl ⟨by kernel_rfl, by intro w' _hw'; go_simp⟩) (by assumption) ?_
             simp only [Act.put, List.setIfInBounds_toArray, List.set_cons_zero, List.set_cons_succ]
             refine wpAnyH_take (i := 7) (oi := ⟨some 134, _, _, _, _, _⟩) (v := .slice (some ⟨gb, 0, none⟩) tp.l tp.l) rfl (by kernel_rfl) (by kernel_rfl) (by kernel_rfl) (fun _ _ _ h => h) (Or.inl ⟨by kernel_rfl, by intro w' hw'; obtain ⟨s0, s1, s2⟩ := hw'; go_simp⟩) (by assumption) ?_
             simp only [Act.put, List.setIfInBounds_toArray, List.set_cons_zero, List.set_cons_succ]
             refine wpAnyH_take (i := 8) (oi := ⟨some 135, _, _, _, _, _⟩) (v := .int .i64 (k : Int)) rfl (by kernel_rfl) (by kernel_rfl) (by kernel_rfl) (fun _ _ _ h => h) (Or.inl ⟨by kernel_rfl, by intro w' _hw'; go_simp⟩) (by assumption) ?_
             simp only [Act.put, List.setIfInBounds_toArray, List.set_cons_zero, List.set_cons_succ]
             refine wpAnyH_take (i := 9) (oi := ⟨some 136, _, _, _, _, _⟩) (v := .pointer (some ⟨gb, k, none⟩)) rfl (by kernel_rfl) (by kernel_rfl) (by kernel_rfl) (fun _ _ _ h => h) (Or.inl ⟨by kernel_rfl, by intro w' _hw'; go_simp⟩) (by assumption) ?_
             simp only [Act.put, List.setIfInBounds_toArray, List.set_cons_zero, List.set_cons_succ]
             refine wpAnyH_take (i := 10) (oi := ⟨some 137, _, _, _, _, _⟩) (v := .int .i64 (ix k : Int)) rfl (by kernel_rfl) (by kernel_rfl) (by kernel_rfl) (fun _ _ _ h => h) (Or.inl ⟨by kernel_rfl, by intro w' hw'; obtain ⟨s0, s1, s2⟩ := hw'; go_simp⟩) (by assumption) ?_
             simp only [Act.put, List.setIfInBounds_toArray, List.set_cons_zero, List.set_cons_succ]
             refine wpAnyH_take (i := 11) (oi := ⟨some 138, _, _, _, _, _⟩) (v := .pointer (some ⟨u, 0, none⟩)) rfl (by kernel_rfl) (by kernel_rfl) (by kernel_rfl) (fun _ _ _ h => h) (Or.inl ⟨by kernel_rfl, by intro w' _hw'; go_simp⟩) (by assumption) ?_
             simp only [Act.put, List.setIfInBounds_toArray, List.set_cons_zero, List.set_cons_succ]
             refine wpAnyH_take (i := 12) (oi := ⟨some 139, _, _, _, _, _⟩) (v := .int .i64 0) rfl (by kernel_rfl) (by kernel_rfl) (by kernel_rfl) (fun _ _ _ h => h) (Or.inl ⟨by kernel_rfl, by intro w' _hw'; go_simp⟩) (by assumption) ?_
             simp only [Act.put, List.setIfInBounds_toArray, List.set_cons_zero, List.set_cons_succ]
             refine wpAnyH_take (i := 13) (oi := ⟨some 140, _, _, _, _, _⟩) (v := .int .i64 (k : Int)) rfl (by kernel_rfl) (by kernel_rfl) (by kernel_rfl) (fun _ _ _ h => h) (Or.inl ⟨by kernel_rfl, by intro w' _hw'; go_simp⟩) (by assumption) ?_
             simp only [Act.put, List.setIfInBounds_toArray, List.set_cons_zero, List.set_cons_succ]
             refine wpAnyH_ready (rs := [14]) (by kernel_rfl) (by simp) ?_
             refine AllReadyH.cons (o := ⟨some 141, _, _, _, _, _⟩) rfl (fun K' hK' => ?_) AllReadyH.nil
             go_simp
             refine (HLb.out).mono ?_
             rintro e w3 ⟨rfl, hK3⟩
             have HF3 := Lib.hid (HF.out w3 hK3)
             refine hK'.out _ _ (HS.out _ ((Keeps.refl Non wx).drew.non hK3).of_non) (fun hH => ?_)
             clear hK'
             clear K'
             try simp only [Act.put, List.setIfInBounds_toArray, List.set_cons_zero, List.set_cons_succ]
             refine wpAnyH_ready (rs := [15]) (by kernel_rfl) (by simp) ?_
             refine AllReadyH.cons (o := ⟨some 142, _, _, _, _, _⟩) rfl (fun K' hK' => ?_) AllReadyH.nil
             go_simp
             refine (HF3.out).mono ?_
             rintro e w4 ⟨lf', rfl, hD4, hl4, hn4, hK4⟩
             have HK4 := Lib.hid (show Keeps (Fz q dn D V) wx w4 from ((Keeps.refl Non wx).drew.non hK3).of_non.trans hK4)
             have H4 := Lib.hid (show _ ∧ _ from ⟨hD4, hl4⟩)
             have HN4 := Lib.hid (show wx.heap.size ≤ lf' from by have := ((Keeps.refl Non wx).drew.non hK3).size; omega)
             clear hD4 hl4 hn4 hK4 hK3 HF3
             refine hK'.out _ _ (HS.out _ HK4.out) (fun hH => ?_)
             clear hK'
             clear K'
             try simp only [Act.put, List.setIfInBounds_toArray, List.set_cons_zero, List.set_cons_succ]
             refine wpAnyH_take (i := 16) (oi := ⟨some 126, _, _, _, _, _⟩) (v := .tuple #[.pointer (some ⟨lf', 0, none⟩), .int .i64 0]) rfl (by kernel_rfl) (by kernel_rfl) (by kernel_rfl) (fun _ _ _ h => h) (Or.inl ⟨by kernel_rfl, by intro w' _hw'; go_simp⟩) (by assumption) ?_
             simp only [Act.put, List.setIfInBounds_toArray, List.set_cons_zero, List.set_cons_succ]
             refine wpAnyH_take (i := 17) (oi := ⟨some 143, _, _, _, _, _⟩) (v := .pointer (some ⟨lf', 0, none⟩)) rfl (by kernel_rfl) (by kernel_rfl) (by kernel_rfl) (fun _ _ _ h => h) (Or.inl ⟨by kernel_rfl, by intro w' _hw'; go_simp⟩) (by assumption) ?_
             simp only [Act.put, List.setIfInBounds_toArray, List.set_cons_zero, List.set_cons_succ]
             refine wpAnyH_take (i := 18) (oi := ⟨some 144, _, _, _, _, _⟩) (v := .int .i64 0) rfl (by kernel_rfl) (by kernel_rfl) (by kernel_rfl) (fun _ _ _ h => h) (Or.inl ⟨by kernel_rfl, by intro w' _hw'; go_simp⟩) (by assumption) ?_
             simp only [Act.put, List.setIfInBounds_toArray, List.set_cons_zero, List.set_cons_succ]
             refine wpAnyH_take (i := 19) (oi := ⟨some 18, _, _, _, _, _⟩) (v := .pointer (some ⟨lf', 0, none⟩)) rfl (by kernel_rfl) (by kernel_rfl) (by kernel_rfl) (fun _ _ _ h => h) (Or.inl ⟨by kernel_rfl, by intro w' _hw'; go_simp⟩) (by assumption) ?_
             simp only [Act.put, List.setIfInBounds_toArray, List.set_cons_zero, List.set_cons_succ]
             refine wpAnyH_take (i := 20) (oi := ⟨some 19, _, _, _, _, _⟩) (v := .int .i64 0) rfl (by kernel_rfl) (by kernel_rfl) (by kernel_rfl) (fun _ _ _ h => h) (Or.inl ⟨by kernel_rfl, by intro w' _hw'; go_simp⟩) (by assumption) ?_
             simp only [Act.put, List.setIfInBounds_toArray, List.set_cons_zero, List.set_cons_succ]
             refine wpAnyH_done (by kernel_rfl) ?_ _
             obtain ⟨L, lf, hD, hT, hL, hLd, hK⟩ := HCy.out
             have hT4 := hT.keep HK4.out (fun hb ht => hD.free hb (by rintro rfl; omega) (by rintro rfl; omega) (by rintro rfl; omega))
             obtain ⟨hT5, hk5⟩ := hT4.setL hkl lf'
             have u4 : w4.cell? ⟨u, 4, none⟩ = some (.slice (some ⟨lb, 0, none⟩) 1 lc) := hT4.blk.cell 4
             have l0 : w4.cell? ⟨lb, 0, none⟩ = some (.slice (some ⟨fb, 0, none⟩) tp.l tp.l) := row_cellAt (s := ⟨some ⟨lb, 0, none⟩, 1, lc⟩) encS_len hT4.lr rfl (i := 0) rfl
             have hLk := hL k hkl
             rw [if_neg (Nat.lt_irrefl k)] at hLk
             have f0 : w4.cell? ⟨fb, k, none⟩ = some (.pointer none) := row_cellAt (s := ⟨some ⟨fb, 0, none⟩, tp.l, tp.l⟩) encO_len hT4.lf rfl hLk
             obtain ⟨cf, hf⟩ := row_blk (s := ⟨some ⟨fb, 0, none⟩, tp.l, tp.l⟩) hT4.lf rfl
             have ff := hf.frozen k
             have hw0 := HH.out.dg.keep.size
             have hbd := H2.out.2.1
             have HN : Hid (Cy w0 w q dn n ⟨some ⟨xb, 0, none⟩, dn, dvc⟩ D V u pool mb mc lb lc db dc fb gb tp Z ix (k + 1) (w4.setCell ⟨fb, k, none⟩ (.pointer (some ⟨lf', 0, none⟩)))) := Lib.hid ⟨L.set k (some lf'), fun i => if i = k then lf' else lf i, H4.out.1.far hf (by decide) (by decide) (by decide) (by decide) (by omega) hk5, hT5, fun i hi => by
               by_cases e : i = k
               · subst e; rw [List.getElem?_set_self (by rw [hT.ll]; exact hkl), if_pos (by omega)]; simp
               · rw [List.getElem?_set_ne (Ne.symm e), hL i hi]
                 show some (if i < k then some (lf i) else none) = some (if i < k + 1 then some (if i = k then lf' else lf i) else none)
                 rw [if_neg e]
                 by_cases e2 : i < k
                 · rw [if_pos e2, if_pos (by omega)]
                 · rw [if_neg e2, if_neg (by omega)], fun i hi => by
               by_cases e : i = k
               · subst e
                 simp only [if_true]
                 obtain ⟨cs, hb, h3⟩ := H4.out.2
                 exact ⟨cs, hb.one hk5 (hb.ne hf (by decide)), h3⟩
               · simp only [if_neg e]
                 obtain ⟨cs, hb, h3⟩ := hLd i (by omega)
                 have hb4 := hb.keep HK4.out (hD.free hb (by decide) (by decide) (by decide))
                 exact ⟨cs, hb4.one hk5 (hb4.ne hf (by decide)), h3⟩, (hK.trans HK4.out).then hk5 fun i hi e => by unfold Only at e; omega⟩
             clear hD hT hL hLd hK hT4 hT5 hk5 hLk hf hw0 hbd HCy HS HLb HF H4 HN4 HK4
             go_wp2_with fail
             go_roundw
             case rel => exact ⟨k + 1, by omega, by go_num, HN.out⟩
             case measure => simp [intOf]; omega
           · obtain rfl : k = tp.l := by omega
             clear hD hT hL hLd hK
             go_wp2_with fail
             go_roundw
             case rel => exact ⟨1, by omega, by go_num, fun e => by omega, fun _ => HCy.out⟩
             case measure => simp [intOf]
       · obtain rfl : j = 1 := by omega
         have hCy := h1' rfl
         clear h0' h1'
         obtain ⟨wx, rfl⟩ : ∃ V : World, V = wr := ⟨_, rfl⟩
         obtain ⟨L, lf, hD, hT, hL, hLd, hK⟩ := hCy
         have hm0 := (row_tb hT.md).1.cells.1
         rw [HH.out.k2] at hm0
         have HB := Lib.hid (built65 hD hl1 hl5 hT.ll hT.lf (fun i hi => ⟨by rw [hL i hi, if_pos hi], HH.out.ixm i hi, hLd i hi⟩) (by have := HH.out.n3; omega) HH.out.n8 hT.blk hm0 (row_cellAt (s := ⟨some ⟨lb, 0, none⟩, 1, lc⟩) encS_len hT.lr rfl (i := 0) rfl))
         have HK := Lib.hid hK
         clear hD hT hL hLd hK hm0
         go_upto_region 33 with fail
         go_wp2_with (go_at_call 65; go_must (refine HB.out.mono ?_); rintro e w9 ⟨rfl, hK9⟩)
         go_ret2
         refine ⟨u, rfl, HK.out.then hK9 fun i hi e => ?_⟩
         have := HU0.out
         unfold Only at e
         omega
end
end Go.Proofs.YtolknnmaadkgiaaGreatDoor
namespace Go.Proofs.YtolknnmaadkgiaaGreatDoor
set_option maxRecDepth 100000
open Go.RowKit Go.Uc Go.Shelf
theorem info49 : (Tryz.prog.info? 49).map (fun i => (i.zero, i.size, i.bytes)) = some (some (.pointer none), 1, 8) := by kernel_rfl
theorem info3z : (Tryz.prog.info? 3).map (fun i => (i.zero, i.size, i.bytes)) = some (some (.int .i64 0), 1, 8) := by kernel_rfl
section
variable {w0 w w' : World} {x m l nc gb' cd' : Nat} {D : Nat → Nat} {us : Nat → Nat}
set_option maxHeartbeats 8000000 in
theorem pick_any {gb na dc : Nat} (hx : w.cell? ⟨x, 1, none⟩ = some (.slice (some ⟨gb, 0, none⟩) m dc)) (hD : RowP w 49 1 encP (.slice (some ⟨gb, 0, none⟩) m dc) ((List.range m).map D)) (hU : RowP w 3 1 encZ (.slice (some ⟨na, 0, none⟩) l nc) ((List.range l).map fun j => (us j : Int))) (hl : l ≤ 12) (hus : ∀ j, j < l → us j < m) (hm : m ≤ 1000) :
   Calls Tryz.prog 31 #[.pointer (some ⟨x, 0, none⟩), .slice (some ⟨na, 0, none⟩) l nc] w fun e w' => ∃ (o z : Sl), e = .returned (.tuple #[o.v, z.v]) ∧ o.n = l ∧ z.n = l ∧ RowP w' 49 1 encP o.v ((List.range l).map fun j => D (us j)) ∧ RowP w' 3 1 encZ z.v ((List.range l).map fun j => (us j : Int)) ∧ (∀ q ∈ own o.v, w.heap.size ≤ q) ∧ (∀ q ∈ own z.v, w.heap.size ≤ q) ∧ Keeps Non w w' := by
 have HC : Hid (∀ W, Keeps Non w W → ∀ k, k < l → W.cell? ⟨na, k, none⟩ = some (.int .i64 (us k : Int)) ∧ W.cell? ⟨x, 1, none⟩ = some (.slice (some ⟨gb, 0, none⟩) m dc) ∧ W.cell? ⟨gb, us k, none⟩ = some (.pointer (some ⟨D (us k), 0, none⟩))) := Lib.hid (fun W hW k hk => ⟨row_cellAt (s := ⟨some ⟨na, 0, none⟩, l, nc⟩) encZ_len (hU.non hW) rfl (x := (us k : Int)) (by rw [List.getElem?_map, List.getElem?_range hk]; rfl), hW.cell hx id, row_cellAt (s := ⟨some ⟨gb, 0, none⟩, m, dc⟩) encP_len (hD.non hW) rfl (x := D (us k)) (by rw [List.getElem?_map, List.getElem?_range (hus k hk)]; rfl)⟩)
 have HU := Lib.hid hus
 clear hx hD hU hus
 go_enter Tryz.func31, Tryz.ntmps31
 go_upto_region 4 with fail
 go_loopw [6, 7, 8] (fun a b i wr => ∃ (k : Nat) (o z : Sl), k ≤ l ∧ i = .int .i64 (k : Int) ∧ a = o.v ∧ b = z.v ∧ o.n = k ∧ z.n = k ∧ RowP wr 49 1 encP o.v ((List.range k).map fun j => D (us j)) ∧ RowP wr 3 1 encZ z.v ((List.range k).map fun j => (us j : Int)) ∧ (∀ q ∈ own o.v, w.heap.size ≤ q) ∧ (∀ q ∈ own z.v, w.heap.size ≤ q) ∧ Keeps Non w wr) (fun _ _ i _ => l - (intOf i).toNat)
 case atStart => exact ⟨0, ⟨none, 0, 0⟩, ⟨none, 0, 0⟩, Nat.zero_le _, rfl, rfl, rfl, rfl, rfl, RowP.nil _ _ _ _, RowP.nil _ _ _ _, fun g hg => (List.not_mem_nil hg).elim, fun g hg => (List.not_mem_nil hg).elim, Keeps.refl _ _⟩
 case round =>
   obtain ⟨k, ⟨oA, on, oc⟩, ⟨zA, zn, zc⟩, hk, rfl, rfl, rfl, ho, hz, hR, hZ, hoR, hoZ, hK⟩ := hrel
   obtain rfl : on = k := ho
   obtain rfl : zn = on := hz
   obtain ⟨wx, rfl⟩ : ∃ V : World, V = wr := ⟨_, rfl⟩
   have HI := Lib.hid (show _ ∧ _ ∧ _ ∧ _ ∧ _ from ⟨hR, hZ, hoR, hoZ, hK⟩)
   clear hR hZ hoR hoZ hK
   by_cases hkl : zn < l
   · have hki : (zn : Int) < (l : Int) := by omega
     have hk30 : (zn : Int) < 30 := by omega
     obtain ⟨c1, c2, c3⟩ := HC.out wx HI.out.2.2.2.2 zn hkl
     have hum := HU.out zn hkl
     have hui : (us zn : Int) < (m : Int) := by omega
     have d2 : decide ((us zn : Int) < 0) = false := decide_eq_false (by omega)
     have d3 : decide ((m : Int) ≤ (us zn : Int)) = false := decide_eq_false (by omega)
     have d4 : decide (m ≤ us zn) = false := decide_eq_false (by omega)
     go_upto_region 6 with fail
     go_quiet (fail)
     obtain ⟨wy, hwy⟩ : ∃ V : World, V = wx.drewN nq := ⟨_, rfl⟩
     have hky : Keeps Non wx wy := by rw [hwy]; exact (Keeps.refl Non wx).drewN nq
     rw [← hwy]
     clear hwy nq c1 c2 c3
     have HKy := Lib.hid (HI.out.2.2.2.2.non hky)
     have HRy := Lib.hid (show _ ∧ _ from ⟨HI.out.1.non hky, HI.out.2.1.non hky⟩)
     clear hky
     obtain ⟨c1, c2, c3⟩ := HC.out wy HKy.out zn hkl
     go_upto_region 9 with fail
     have HKd := Lib.hid (HKy.out.non (Keeps.refl Non wy).drew)
     have HRd := Lib.hid (show _ ∧ _ from ⟨HRy.out.1.non (Keeps.refl Non wy).drew, HRy.out.2.non (Keeps.refl Non wy).drew⟩)
     have HBb : Hid (((List.range zn).map fun j => D (us j)).length + ([D (us zn)] : List Nat).length ≤ maxLen ∧ (((List.range zn).map fun j => D (us j)).length + ([D (us zn)] : List Nat).length) * 8 ≤ 140737488355328) := Lib.hid (by simp only [List.length_map, List.length_range, List.length_singleton]; exact ⟨by unfold maxLen; omega, by omega⟩)
     clear HRy HKy c1 c2 c3
     refine wp_region_held_drew (S := fun w' : World => w'.cell? ⟨na, zn, none⟩ = some (.int .i64 (us zn : Int)) ∧ w'.cell? ⟨x, 1, none⟩ = some (.slice (some ⟨gb, 0, none⟩) m dc) ∧ w'.cell? ⟨gb, us zn, none⟩ = some (.pointer (some ⟨D (us zn), 0, none⟩))) (by kernel_rfl) (HC.out _ HKd.out zn hkl) (fun hH0 => ?_)
     refine wpAnyH_take (i := 0) (oi := ⟨some 42, _, _, _, _, _⟩) (v := ({ A := oA, n := zn, c := oc } : Sl).v) rfl (by kernel_rfl) (by kernel_rfl) (by kernel_rfl) (fun _ _ _ h => h) (Or.inl ⟨by kernel_rfl, by intro w' _hw'; go_simp⟩) (by assumption) ?_
     simp only [Act.put, List.setIfInBounds_toArray, List.set_cons_zero, List.set_cons_succ]
     refine wpAnyH_take (i := 1) (oi := ⟨some 43, _, _, _, _, _⟩) (v := .pointer (some ⟨x, 0, none⟩)) rfl (by kernel_rfl) (by kernel_rfl) (by kernel_rfl) (fun _ _ _ h => h) (Or.inl ⟨by kernel_rfl, by intro w' _hw'; go_simp⟩) (by assumption) ?_
     simp only [Act.put, List.setIfInBounds_toArray, List.set_cons_zero, List.set_cons_succ]
     refine wpAnyH_take (i := 2) (oi := ⟨some 44, _, _, _, _, _⟩) (v := .pointer (some ⟨x, 0, none⟩)) rfl (by kernel_rfl) (by kernel_rfl) (by kernel_rfl) (fun _ _ _ h => h) (Or.inl ⟨by kernel_rfl, by intro w' _hw'; go_simp⟩) (by assumption) ?_
     simp only [Act.put, List.setIfInBounds_toArray, List.set_cons_zero, List.set_cons_succ]
     refine wpAnyH_take (i := 3) (oi := ⟨some 45, _, _, _, _, _⟩) (v := .pointer (some ⟨x, 1, none⟩)) rfl (by kernel_rfl) (by kernel_rfl) (by kernel_rfl) (fun _ _ _ h => h) (Or.inl ⟨by kernel_rfl, by intro w' _hw'; go_simp⟩) (by assumption) ?_
     simp only [Act.put, List.setIfInBounds_toArray, List.set_cons_zero, List.set_cons_succ]
     refine wpAnyH_take (i := 4) (oi := ⟨some 46, _, _, _, _, _⟩) (v := .slice (some ⟨gb, 0, none⟩) m dc) rfl (by kernel_rfl) (by kernel_rfl) (by kernel_rfl) (fun _ _ _ h => h) (Or.inl ⟨by kernel_rfl, by intro w' hw'; obtain ⟨s0, s1, s2⟩ := hw'; go_simp⟩) (by assumption) ?_
     simp only [Act.put, List.setIfInBounds_toArray, List.set_cons_zero, List.set_cons_succ]
     refine wpAnyH_take (i := 5) (oi := ⟨some 47, _, _, _, _, _⟩) (v := .slice (some ⟨na, 0, none⟩) l nc) rfl (by kernel_rfl) (by kernel_rfl) (by kernel_rfl) (fun _ _ _ h => h) (Or.inl ⟨by kernel_rfl, by intro w' _hw'; go_simp⟩) (by assumption) ?_
     simp only [Act.put, List.setIfInBounds_toArray, List.set_cons_zero, List.set_cons_succ]
     refine wpAnyH_take (i := 6) (oi := ⟨some 48, _, _, _, _, _⟩) (v := .int .i64 (zn : Int)) rfl (by kernel_rfl) (by kernel_rfl) (by kernel_rfl) (fun _ _ _ h => h) (Or.inl ⟨by kernel_rfl, by intro w' _hw'; go_simp⟩) (by assumption) ?_
     simp only [Act.put, List.setIfInBounds_toArray, List.set_cons_zero, List.set_cons_succ]
     refine wpAnyH_take (i := 7) (oi := ⟨some 49, _, _, _, _, _⟩) (v := .pointer (some ⟨na, zn, none⟩)) rfl (by kernel_rfl) (by kernel_rfl) (by kernel_rfl) (fun _ _ _ h => h) (Or.inl ⟨by kernel_rfl, by intro w' _hw'; go_simp⟩) (by assumption) ?_
     simp only [Act.put, List.setIfInBounds_toArray, List.set_cons_zero, List.set_cons_succ]
     refine wpAnyH_take (i := 8) (oi := ⟨some 50, _, _, _, _, _⟩) (v := .int .i64 (us zn : Int)) rfl (by kernel_rfl) (by kernel_rfl) (by kernel_rfl) (fun _ _ _ h => h) (Or.inl ⟨by kernel_rfl, by intro w' hw'; obtain ⟨s0, s1, s2⟩ := hw'; go_simp⟩) (by assumption) ?_
     simp only [Act.put, List.setIfInBounds_toArray, List.set_cons_zero, List.set_cons_succ]
     refine wpAnyH_take (i := 9) (oi := ⟨some 51, _, _, _, _, _⟩) (v := .pointer (some ⟨gb, us zn, none⟩)) rfl (by kernel_rfl) (by kernel_rfl) (by kernel_rfl) (fun _ _ _ h => h) (Or.inl ⟨by kernel_rfl, by intro w' _hw'; go_simp⟩) (by assumption) ?_
     simp only [Act.put, List.setIfInBounds_toArray, List.set_cons_zero, List.set_cons_succ]
     refine wpAnyH_take (i := 10) (oi := ⟨some 52, _, _, _, _, _⟩) (v := .pointer (some ⟨D (us zn), 0, none⟩)) rfl (by kernel_rfl) (by kernel_rfl) (by kernel_rfl) (fun _ _ _ h => h) (Or.inl ⟨by kernel_rfl, by intro w' hw'; obtain ⟨s0, s1, s2⟩ := hw'; go_simp⟩) (by assumption) ?_
     simp only [Act.put, List.setIfInBounds_toArray, List.set_cons_zero, List.set_cons_succ]
     refine wpAnyH_ready (rs := [11]) (by kernel_rfl) (by simp) ?_
     refine AllReadyH.cons (o := ⟨some 53, _, _, _, _, _⟩) rfl (fun K' hK' => ?_) AllReadyH.nil
     go_simp
     refine hK'.out _ _ (HC.out _ (HKd.out.non ((Keeps.refl Non _).alloc _)) zn hkl) (fun hH => ?_)
     clear hK'
     clear K'
     try simp only [Act.put, List.setIfInBounds_toArray, List.set_cons_zero, List.set_cons_succ]
     refine wpAnyH_ready (rs := [12]) (by kernel_rfl) (by simp) ?_
     refine AllReadyH.cons (o := ⟨some 54, _, _, _, _, _⟩) rfl (fun K' hK' => ?_) AllReadyH.nil
     refine step_append_row (o := ⟨some 54, _, _, _, _, _⟩) rfl (.tmp 42) (.tmp 53) 35 rfl 49 1 encP (.pointer none) 8 Tryz.underlying35 info49 rfl (by decide) encP_len encP_one (.slice oA zn oc) ((List.range zn).map fun j => D (us j)) (by kernel_rfl) (HRd.out.1.non ((Keeps.refl Non _).alloc _)) (some ⟨wy.heap.size, 0, none⟩) 1 1 [D (us zn)] (by kernel_rfl) rfl (Ats.lit wy.drew #[.pointer (some ⟨D (us zn), 0, none⟩)] 49 ([D (us zn)].flatMap encP) rfl) HBb.out.1 HBb.out.2 ?_
     intro u8 w8 hO8 hK8 hat
     obtain ⟨⟨A8, n8, c8⟩, rfl, h8⟩ := RowP.sl hO8
     have hn8 : n8 = zn + 1 := (by simpa using h8)
     clear h8
     subst hn8
     have HK8 := Lib.hid ((HKd.out.non ((Keeps.refl Non _).alloc (.cells #[.pointer (some ⟨D (us zn), 0, none⟩)] 49))).then hK8 fun i hi e => by have := HI.out.2.2.1 i e; omega)
     have HO8 := Lib.hid (show _ ∧ _ ∧ _ from ⟨hO8, hat, hK8⟩)
     clear hO8 hat hK8
     refine hK'.out _ _ (HC.out _ HK8.out zn hkl) (fun hH => ?_)
     clear hK'
     clear K'
     try simp only [Act.put, List.setIfInBounds_toArray, List.set_cons_zero, List.set_cons_succ]
     refine wpAnyH_take (i := 13) (oi := ⟨some 6, _, _, _, _, _⟩) (v := ({ A := A8, n := zn + 1, c := c8 } : Sl).v) rfl (by kernel_rfl) (by kernel_rfl) (by kernel_rfl) (fun _ _ _ h => h) (Or.inl ⟨by kernel_rfl, by intro w' _hw'; go_simp⟩) (by assumption) ?_
     simp only [Act.put, List.setIfInBounds_toArray, List.set_cons_zero, List.set_cons_succ]
     refine wpAnyH_done (by kernel_rfl) ?_ _
     obtain ⟨c1, -, -⟩ := HC.out w8 HK8.out zn hkl
     have hz8 : RowP w8 3 1 encZ (.slice zA zn zc) ((List.range zn).map fun j => (us j : Int)) := (HRd.out.2.non ((Keeps.refl Non _).alloc (.cells #[.pointer (some ⟨D (us zn), 0, none⟩)] 49))).keep HO8.out.2.2 (fun q hq e => by
       have h1 := HI.out.2.2.2.1 q hq
       rcases HRd.out.1.form with ⟨e1, -⟩ | ⟨g, cap, cur, e1, hB, -⟩
       · rw [show (.slice oA zn oc : Value) = ({ A := oA, n := zn, c := oc } : Sl).v from rfl, e1] at e; exact (List.not_mem_nil e).elim
       · rw [show (.slice oA zn oc : Value) = ({ A := oA, n := zn, c := oc } : Sl).v from rfl, e1, own_slice, List.mem_singleton] at e
         subst e
         exact own_type HRd.out.2 hB (by decide) hq)
     have k6 : Keeps Non w8 (w8.alloc (.cells #[.int .i64 (us zn : Int)] 3)) := (Keeps.refl Non w8).alloc _
     have HZ6 := Lib.hid (hz8.non k6)
     have HAt := Lib.hid (Ats.lit w8 #[.int .i64 (us zn : Int)] 3 (([(us zn : Int)] : List Int).flatMap encZ) rfl)
     have HBz : Hid (((List.range zn).map fun j => (us j : Int)).length + ([(us zn : Int)] : List Int).length ≤ maxLen ∧ (((List.range zn).map fun j => (us j : Int)).length + ([(us zn : Int)] : List Int).length) * 8 ≤ 140737488355328) := Lib.hid (by simp only [List.length_map, List.length_range, List.length_singleton]; exact ⟨by unfold maxLen; omega, by omega⟩)
     have HK6 := Lib.hid (HK8.out.non k6)
     clear hz8 k6 d2 d3 d4
     go_wp2_with (at_builtin; go_must (refine wpList_append_row (o := ⟨some 61, _, _, _, _, _⟩) rfl (.tmp 55) (.tmp 60) 25 rfl 3 1 encZ (.int .i64 0) 8 Tryz.underlying25 info3z rfl (by decide) encZ_len encZ_one (.slice zA zn zc) ((List.range zn).map fun j => (us j : Int)) (by kernel_rfl) HZ6.out (some ⟨w8.heap.size, 0, none⟩) 1 1 [(us zn : Int)] (by kernel_rfl) rfl HAt.out HBz.out.1 HBz.out.2 ?_); intro u9 w9 hO9 hK9 hat9; obtain ⟨⟨A9, n9, c9⟩, rfl, h9⟩ := RowP.sl hO9; have hn9 : n9 = zn + 1 := (by simpa using h9); clear h9; subst hn9; have HO9 := Lib.hid (show _ ∧ _ ∧ _ from ⟨hO9, hat9, hK9⟩); clear hO9 hat9 hK9)
     have hk9 := HK6.out.then HO9.out.2.2 fun i hi e => by have := HI.out.2.2.2.1 i e; omega
     have hr8 : RowP w9 49 1 encP (.slice A8 (zn + 1) c8) ((List.range (zn + 1)).map fun j => D (us j)) := by
       rw [List.range_succ, List.map_append]
       have h1 := HO8.out.1.non ((Keeps.refl Non w8).alloc (.cells #[.int .i64 (us zn : Int)] 3))
       exact h1.keep HO9.out.2.2 (fun q hq e => by
         rcases HZ6.out.form with ⟨e1, -⟩ | ⟨g, cap, cur, e1, hB, -⟩
         · rw [e1] at e; exact (List.not_mem_nil e).elim
         · rw [e1, own_slice, List.mem_singleton] at e
           subst e
           exact own_type h1 hB (by decide) hq)
     have hz9 : RowP w9 3 1 encZ (.slice A9 (zn + 1) c9) ((List.range (zn + 1)).map fun j => (us j : Int)) := by
       rw [List.range_succ, List.map_append]
       exact HO9.out.1
     have ho9 := own_grown HO8.out.2.1 (B := w.heap.size) HI.out.2.2.1 (by have := HKd.out.size; simp at this ⊢; omega)
     have hoz := own_grown HO9.out.2.1 (B := w.heap.size) HI.out.2.2.2.1 (by have := HK6.out.size; exact this)
     have HE := Lib.hid (show _ ∧ _ ∧ _ ∧ _ ∧ _ from ⟨hr8, hz9, ho9, hoz, hk9⟩)
     clear hr8 hz9 ho9 hoz hk9 HO8 HO9 HK8 HK6
     go_roundw
     case rel => exact ⟨zn + 1, ⟨A8, zn + 1, c8⟩, ⟨A9, zn + 1, c9⟩, by omega, by go_num, rfl, rfl, rfl, rfl, HE.out⟩
     case measure => simp [intOf]; omega
   · obtain rfl : zn = l := by omega
     go_wp2_with fail
     go_ret2
     exact ⟨⟨oA, zn, oc⟩, ⟨zA, zn, zc⟩, rfl, rfl, rfl, HI.out⟩
end
end Go.Proofs.YtolknnmaadkgiaaGreatDoor
