/- begun: a tank of one mirror on disks of its own. What disks of one mirror say, all alike but for their labels: plain law. -/
import Derived.Test.YtolknnmaadkgiaaGreatDoorG37
import Derived.Test.YtolknnmaadkgiaaGreatDoorG31
set_option linter.unusedVariables false
set_option linter.unusedSimpArgs false
namespace Go.Proofs.YtolknnmaadkgiaaGreatDoor
set_option maxRecDepth 100000
open Go.RowKit Go.Uc Go.Shelf
section
variable {w0 w w' : World} {p m n k pool sz lg t : Nat} {tp : Tp} {B : TB} {dv lv kv : Sl} {K : Nat → Kb} {T : St} {L Dk : List (Option Nat)} {lk : List Lk} {X : Nat → Lb} {F : Nat → Lr}
theorem Mt.keepX {U : Nat → Prop} {z : Int} (h : Mt w t lv kv L lk z) (hk : Keeps U w w') (hU : ∀ {g t : Nat} {cs : Array Value}, Blk w g t cs → t = 249 ∨ t = 93 ∨ t = 350 → ¬ U g) : Mt w' t lv kv L lk z :=
 ⟨h.blk.keep hk (hU h.blk (by decide)), row_keepT h.lr hk (fun hb => hU hb (by decide)), h.ln, row_keepT h.kr hk (fun hb => hU hb (by decide)), h.kn, h.len, h.few⟩
theorem Tk.keepX {U : Nat → Prop} (h : Tk w k pool tp B L Dk lk sz lg) (hk : Keeps U w w') (hU : ∀ {g t : Nat} {cs : Array Value}, Blk w g t cs → t = 99 ∨ t = 101 ∨ t = 91 ∨ t = 35 ∨ t = 93 ∨ t = 49 ∨ t = 249 ∨ t = 350 → ¬ U g) (hm : ∀ g ∈ own B.made.v, ¬ U g) : Tk w' k pool tp B L Dk lk sz lg :=
 ⟨h.blk.keep hk (hU h.blk (by decide)), h.md.keep hk hm, h.mdn, row_keepT h.tr hk (fun hb => hU hb (by decide)), h.trn, row_keepT h.lr hk (fun hb => hU hb (by decide)), h.lrn, row_keepT h.dr hk (fun hb => hU hb (by decide)), h.drn, row_keepT h.lf hk (fun hb => hU hb (by decide)), h.lfn, row_keepT h.dk hk (fun hb => hU hb (by decide)), h.dkn, h.dkl, h.mt.keepX hk (fun hb ht => hU hb (by omega)), h.ne⟩
theorem Lvs.keepX {U : Nat → Prop} (h : Lvs w0 w m K X F L) (hk : Keeps U w w') (hU : ∀ {g : Nat} {cs : Array Value}, Blk w g 171 cs → ¬ U g) (hm : ∀ i b, L[i]? = some (some b) → ∀ g ∈ own (.slice (F i).tA (X i).ts.length (F i).tc), ¬ U g) : Lvs w0 w' m K X F L :=
 ⟨fun i b e => let ⟨h1, h2, h3⟩ := h.lf i b e; ⟨h1, h2, h3.blk.keep hk (hU h3.blk), h3.ts.keep hk (hm i b e), h3.new⟩, h.inj⟩
end
def T0 : St := ⟨fun _ _ => zeros 128, fun _ _ => zeros 128, P0⟩
structure Bg (w0 w' : World) (pool : Nat) (tp : Tp) (x p gd gc : Nat) (dv : Sl) (K : Nat → Kb) (k : Nat) (B : TB) (L Dk : List (Option Nat)) (F : Nat → Lr) (Tj : St) (q u : Nat) : Prop where
 bx : Blk w' x 41 #[.pointer (some ⟨p, 0, none⟩), .slice (some ⟨gd, 0, none⟩) tp.l gc, .pointer (some ⟨k, 0, none⟩), .pointer (some ⟨q, 0, none⟩), .pointer (some ⟨u, 0, none⟩), .slice none 0 0]
 dr : RowP w' 49 1 encP (.slice (some ⟨gd, 0, none⟩) tp.l gc) ((List.range tp.l).map fun i => (K i).d)
 tk : Tk w' k pool tp B L Dk (List.replicate tp.l Lk.no) 32 1
 gs : Gs w0 w' p dv tp.l 324 K Tj
 P : Tj.P = P0
 ff : ∀ i, i < tp.l → Tj.f i = fmtG 324 (labelB (lbX pool tp i)) (fun _ => zeros 128) ∧ Tj.g i = fmtG 324 (labelB (lbX pool tp i)) (fun _ => zeros 128)
 ll : L.length = tp.l
 le : ∀ i, i < tp.l → L[i]? = some (some (F i).b)
 lv : Lvs w0 w' tp.l K (lbX pool tp) F L
 ixe : ∀ i, i < tp.l → (F i).ix = i
 new : w0.heap.size ≤ x ∧ w0.heap.size ≤ k ∧ ∀ g, g ∈ own B.lf.v ∨ g ∈ own B.dk.v ∨ g ∈ own B.lv.v ∨ g ∈ own B.kv.v → w0.heap.size ≤ g
 gdv : gd ∉ own dv.v
 dkd : ∀ g ∈ own B.dk.v, g ∉ own dv.v ∧ g ≠ gd
 kp : Keeps Non w0 w'
theorem gm_none {w w' : World} {p : Nat} {K : Nat → Kb} {S : Nat → Dsk} (hp : Blk w' p 104 #[.slice none 0 0, .int .i64 (-1), .bool false, .int .i64 0, .slice none 0 0]) (h : w.heap.size ≤ p) (hk : Keeps Non w w') : Gm w w' p ⟨none, 0, 0⟩ ⟨none, 0, 0⟩ P0 0 K S :=
 ⟨⟨0, hp⟩, fun i hi => absurd hi (by omega), fun i hi => absurd hi (by omega), fun i hi => absurd hi (by omega), fun i j hi => absurd hi (by omega), RowP.nil _ _ _ _, rfl, RowP.nil _ _ _ _, rfl, fun x hx => (List.not_mem_nil hx).elim, ⟨h, fun q hq => (List.not_mem_nil hq).elim, fun q hq => (List.not_mem_nil hq).elim⟩, hk⟩
theorem gm_gs {w0 w : World} {p m : Nat} {dv : Sl} {K : Nat → Kb} {S : Nat → Dsk} (h : Gm w0 w p dv ⟨none, 0, 0⟩ P0 m K S) (hs : ∀ i, i < m → S i = Dsk.fresh (K i).d 324 P0) : Gs w0 w p dv m 324 K T0 :=
 ⟨⟨none, 0, 0⟩, S, h, fun i hi => ⟨(h.dm i hi).ok, by rw [hs i hi]; rfl, fun q hq => by rw [hs i hi]; exact secs_zeros 324 q hq, fun q hq => by rw [hs i hi]; exact secs_zeros 324 q hq⟩⟩
section
variable {w : World} {tp : Tp} {pool : Nat}
set_option maxHeartbeats 16000000 in
theorem begun_one {tb tc sa sc na nc : Nat} (hT : RowT w (.slice (some ⟨tb, 0, none⟩) 1 tc) [tp]) (htp : tp.ok) (hk2 : tp.k = 2) (hts : tp.s = 324) (hpo : pool < 18446744073709551616) (hS : RowP w 3 1 encZ (.slice (some ⟨sa, 0, none⟩) tp.l sc) (List.replicate tp.l 324)) (hU : RowP w 3 1 encZ (.slice (some ⟨na, 0, none⟩) tp.l nc) (List.map (fun j : Nat => (j : Int)) (List.range tp.l))) :
   Calls Tryz.prog 7 #[.int .u64 (pool : Int), .slice (some ⟨tb, 0, none⟩) 1 tc, .slice (some ⟨sa, 0, none⟩) tp.l sc, .slice (some ⟨na, 0, none⟩) tp.l nc] w fun e w' => ∃ x p gd gc dv K k B L Dk F Tj q u, e = .returned (.tuple #[.pointer (some ⟨x, 0, none⟩), .bool true, .bool true]) ∧ Bg w w' pool tp x p gd gc dv K k B L Dk F Tj q u := by
 have hl : 2 ≤ tp.l ∧ tp.l ≤ 5 := by have := htp.1; omega
 have HIn := Lib.hid (show _ ∧ _ ∧ _ from ⟨hT, hS, hU⟩)
 have HOk := Lib.hid (show _ ∧ _ ∧ _ ∧ _ from ⟨htp, hk2, hts, hpo⟩)
 have HP1 := Lib.hid (fun W => newPower22_any W)
 have HP2 := Lib.hid (fun W => newPower23_any W)
 have HSz : Hid (∀ W, Keeps Non w W → ∀ j, j < tp.l → W.cell? ⟨sa, j, none⟩ = some (.int .i64 324)) := Lib.hid (fun W hW j hj => row_cellAt (s := ⟨some ⟨sa, 0, none⟩, tp.l, sc⟩) encZ_len (hS.non hW) rfl (x := 324) (by rw [List.getElem?_replicate, if_pos hj]))
 clear hT hS hU htp hk2 hts hpo
 go_enter Tryz.func7, Tryz.ntmps7
 go_upto_region 2 with (first
   | (go_at_call 13; go_must (refine (HP1.out _).mono ?_); rintro e w1 ⟨p, rfl, hp1, hpw, hK1⟩)
   | (go_at_call 29; go_must (refine (HP2.out _).mono ?_); rintro e w2 ⟨q, rfl, hq2, hqw, hK2⟩))
 have hB := Blk.new w2 41 #[.pointer (some ⟨p, 0, none⟩), .slice none 0 0, .pointer none, .pointer (some ⟨q, 0, none⟩), .pointer none, .slice none 0 0]
 have ka := (Keeps.refl Non w2).alloc (.cells #[.pointer (some ⟨p, 0, none⟩), .slice none 0 0, .pointer none, .pointer (some ⟨q, 0, none⟩), .pointer none, .slice none 0 0] 41)
 obtain ⟨w3, hw3⟩ : ∃ V : World, V = w2.alloc (.cells #[.pointer (some ⟨p, 0, none⟩), .slice none 0 0, .pointer none, .pointer (some ⟨q, 0, none⟩), .pointer none, .slice none 0 0] 41) := ⟨_, rfl⟩
 rw [← hw3] at hB ka ⊢
 clear hw3
 obtain ⟨x, hx⟩ : ∃ z, z = w2.heap.size := ⟨_, rfl⟩
 rw [← hx] at hB ⊢
 have hk12 := hK1.non hK2
 have hxw : w.heap.size ≤ x := by rw [hx]; exact hk12.size
 have hqw0 : w.heap.size ≤ q := by have := hK1.size; omega
 have H0 : Hid (Be w w3 p q x 0 ⟨none, 0, 0⟩ ⟨none, 0, 0⟩ ⟨none, 0, 0⟩ (fun _ => ⟨0, 0, 0, 0, ⟨none, 0, 0⟩⟩) (fun _ => Dsk.fresh 0 324 P0) (fun _ => 0) (fun _ => ⟨none, 0, 0⟩)) := Lib.hid ⟨gm_none (hp1.non (hK2.non ka)) hpw (hk12.non ka), fun i hi => absurd hi (by omega), Dg.none hqw0 (hk12.non ka) (hq2.non ka), hB, RowP.nil _ _ _ _, rfl, fun g hg => (List.not_mem_nil hg).elim, hxw, hk12.non ka⟩
 have c0 : w3.cell? ⟨x, 0, none⟩ = some (.pointer (some ⟨p, 0, none⟩)) := hB.cell 0
 clear hx hB ka hk12 hxw hqw0 hp1 hpw hK1 hq2 hqw hK2 HP1 HP2
 go_upto_region 5 with fail
 go_loopw [12] (fun i wr => ∃ (j : Nat) (dv gs ddv : Sl) (K : Nat → Kb) (S : Nat → Dsk) (D : Nat → Nat) (V : Nat → Sl), j ≤ tp.l ∧ i = .int .i64 (j : Int) ∧ Be w wr p q x j dv gs ddv K S D V) (fun i _ => tp.l - (intOf i).toNat)
 case atStart => exact ⟨0, _, _, _, _, _, _, _, Nat.zero_le _, rfl, H0.out⟩
 case round =>
   obtain ⟨j, dv, ⟨gA, gn, gc⟩, ddv, K, S, D, V, hj, rfl, hBe⟩ := hrel
   obtain ⟨wx, rfl⟩ : ∃ V : World, V = wr := ⟨_, rfl⟩
   obtain rfl : gn = j := hBe.gn
   have HBe := Lib.hid hBe
   by_cases hjl : gn < tp.l
   · have hji : (gn : Int) < (tp.l : Int) := by omega
     have hj12 : (gn : Int) < 12 := by omega
     have s0 := HSz.out wx hBe.kp gn hjl
     have x0 : wx.cell? ⟨x, 0, none⟩ = some (.pointer (some ⟨p, 0, none⟩)) := hBe.bx.cell 0
     have HN : Hid (Calls Tryz.prog 14 #[.pointer (some ⟨p, 0, none⟩), .int .i64 324] wx _) := Lib.hid (new24_own hBe.gm 324 (by decide) (by decide) (by omega) ⟨by decide, by decide⟩)
     clear hBe
     go_upto_region 11 with (go_at_call 14; go_must (refine HN.out.mono ?_); rintro e w4 ⟨k, dv', rfl, hG4, hd4, hkd4, hK4⟩)
     have HF := Lib.hid (HBe.out.more k dv' hG4 hd4 hK4)
     clear hG4 hd4 hkd4 hK4 HN s0 x0
     have y3 : w4.cell? ⟨x, 3, none⟩ = some (.pointer (some ⟨q, 0, none⟩)) := HF.out.bx.cell 3
     have HN : Hid (Calls Tryz.prog 30 #[.pointer (some ⟨q, 0, none⟩), .int .i64 324] w4 _) := Lib.hid (new25_any HF.out.dg (by decide) (by decide) (by omega))
     go_upto_region 12 with (go_at_call 30; go_must (refine HN.out.mono ?_); rintro e w5 ⟨d, v, ddv', rfl, hD5, hK5⟩)
     have HF5 := Lib.hid (HF.out.more hD5 hK5)
     clear hD5 hK5 HN y3
     have x1 : w5.cell? ⟨x, 1, none⟩ = some (.slice gA gn gc) := HF5.out.bx.cell 1
     have ka := (Keeps.refl Non w5).alloc (.cells #[.pointer (some ⟨k.d, 0, none⟩)] 49)
     have HF6 := Lib.hid (HF5.out.non ka)
     have HAt := Lib.hid (Ats.lit w5 #[.pointer (some ⟨k.d, 0, none⟩)] 49 (([k.d] : List Nat).flatMap encP) rfl)
     have HBb : Hid (((List.range gn).map fun i => (K i).d).length + ([k.d] : List Nat).length ≤ maxLen ∧ (((List.range gn).map fun i => (K i).d).length + ([k.d] : List Nat).length) * 8 ≤ 140737488355328) := Lib.hid (by simp only [List.length_map, List.length_range, List.length_singleton]; exact ⟨by unfold maxLen; omega, by omega⟩)
     clear ka
     go_wp2_with (at_builtin; go_must (refine wpList_append_row (o := ⟨some 83, _, _, _, _, _⟩) rfl (.tmp 80) (.tmp 82) 35 rfl 49 1 encP (.pointer none) 8 Tryz.underlying35 info49 rfl (by decide) encP_len encP_one (.slice gA gn gc) ((List.range gn).map fun i => (K i).d) (by kernel_rfl) HF6.out.gr (some ⟨w5.heap.size, 0, none⟩) 1 1 [k.d] (by kernel_rfl) rfl HAt.out HBb.out.1 HBb.out.2 ?_); intro v8 w8 hO8 hK8 hat; obtain ⟨⟨A8, n8, c8⟩, rfl, h8⟩ := RowP.sl hO8; have hn8 : n8 = gn + 1 := (by simpa using h8); clear h8; subst hn8; have hB8 := HF6.out.bx.keep hK8 (own_type HF6.out.gr HF6.out.bx (by decide)); have z8 := hB8.cell 1; have f8 := hB8.frozen 1)
     have HE := Lib.hid (HF6.out.done hO8 hat hK8)
     clear hO8 hat hK8 hB8 z8 f8
     go_roundw
     case rel => exact ⟨gn + 1, _, _, _, _, _, _, _, by omega, by go_num, HE.out⟩
     case measure => simp [intOf]; omega
   · obtain rfl : gn = tp.l := by omega
     obtain ⟨gd, hgd⟩ := row_headAt (s := ⟨gA, tp.l, gc⟩) encP_len hBe.gr (by simp; omega)
     have hgd' : gA = some ⟨gd, 0, none⟩ := hgd
     subst hgd'
     have x1 : wx.cell? ⟨x, 1, none⟩ = some (.slice (some ⟨gd, 0, none⟩) tp.l gc) := hBe.bx.cell 1
     have HPk := Lib.hid (pick_any (us := fun j => j) x1 hBe.gr (HIn.out.2.2.non hBe.kp) (by omega) (fun j hj => hj) (by omega))
     clear hBe x1
     go_upto_region 16 with (go_at_call 31; go_must (refine HPk.out.mono ?_); rintro e w4 ⟨⟨oA, on, oc⟩, ⟨zA, zn, zc⟩, rfl, ho, hz, hO4, hZ4, hoO, hoZ, hK4⟩)
     obtain rfl : on = tp.l := ho
     obtain rfl : zn = tp.l := hz
     obtain ⟨od, hod⟩ := row_headAt (s := ⟨oA, tp.l, oc⟩) encP_len hO4 (by simp; omega)
     have hod' : oA = some ⟨od, 0, none⟩ := hod
     subst hod'
     obtain ⟨zd, hzd⟩ := row_headAt (s := ⟨zA, tp.l, zc⟩) encZ_len hZ4 (by simp; omega)
     have hzd' : zA = some ⟨zd, 0, none⟩ := hzd
     subst hzd'
     have HB4 := Lib.hid (HBe.out.non hK4)
     have HBk : Hid (wx.heap.size ≤ w4.heap.size) := Lib.hid hK4.size
     have HK4 := Lib.hid (HBe.out.kp.non hK4)
     have HO4 := Lib.hid (show _ ∧ _ from ⟨hO4, hZ4⟩)
     have HOo := Lib.hid (hoO od (by rw [show ({ A := some ⟨od, 0, none⟩, n := tp.l, c := oc } : Sl).v = .slice (some ⟨od, 0, none⟩) tp.l oc from rfl, own_slice]; exact List.mem_singleton.2 rfl))
     have HAt := Lib.hid (ats_row encT_len (HIn.out.1.non HK4.out))
     have HB1 : Hid (([] : List Tp).length + ([tp] : List Tp).length ≤ maxLen ∧ (([] : List Tp).length + ([tp] : List Tp).length) * 24 ≤ 140737488355328) := Lib.hid ⟨by simp [maxLen], by simp⟩
     clear hO4 hZ4 hoO hoZ hK4 HPk
     go_upto_region 17 with (at_builtin; go_must (refine wpList_append_row (o := ⟨some 93, _, _, _, _, _⟩) rfl (.const (.slice none 0 0)) (.tmp 92) 32 rfl 31 3 encT _ 24 Tryz.underlying32 info31 rfl (by decide) encT_len encT_one (.slice none 0 0) [] rfl (RowP.nil _ _ _ _) (some ⟨tb, 0, none⟩) 1 tc [tp] rfl rfl HAt.out HB1.out.1 HB1.out.2 ?_); intro v5 w5 hO5 hK5 hat5; obtain ⟨⟨A5, n5, c5⟩, rfl, h5⟩ := RowP.sl hO5; have hn5 : n5 = 1 := h5; clear h5; subst hn5)
     have hO5' : RowT w5 (.slice A5 1 c5) [tp] := hO5
     obtain ⟨ob, hob⟩ := row_headAt3 hO5'
     subst hob
     have hk5 : Keeps Non w4 w5 := hK5.mono fun k e => (List.not_mem_nil e).elim
     have HObw : Hid (w.heap.size ≤ ob) := Lib.hid (own_grown hat5 (B := w.heap.size) (fun g hg => (List.not_mem_nil hg).elim) HK4.out.size ob (by rw [show ({ A := some ⟨ob, 0, none⟩, n := 1, c := c5 } : Sl).v = .slice (some ⟨ob, 0, none⟩) 1 c5 from rfl, own_slice]; exact List.mem_singleton.2 rfl))
     have hB5 := HB4.out.non hk5
     have HC : Hid (Crd w w5 p tp.l 324 dv K T0 pool tp (some ⟨ob, 0, none⟩) c5 (fun j => j) od 0 oc) := Lib.hid (by
       obtain ⟨h1, h2, h3, h4⟩ := HOk.out
       have hc : tp.l ≤ oc := by
         rcases HO4.out.1.form with ⟨e1, -⟩ | ⟨g, cap, cur, e1, hB, h4, -⟩
         · injection e1 with e1 _ _; cases e1
         · injection e1 with e1 e2 e3
           have h9 : tp.l ≤ cap := by simpa using h4
           have e3' : oc = cap := e3
           omega
       exact ⟨gm_gs hB5.gm hB5.sf, ⟨rfl, rfl⟩, rfl, by decide, h4, h1, h2, h3, hO5', fun j hj => hj, fun i j _ _ hne => hne, hc, fun j hj => by rw [Nat.zero_add]; exact row_cellAt (s := ⟨some ⟨od, 0, none⟩, tp.l, oc⟩) encP_len (HO4.out.1.non hk5) rfl (x := (K j).d) (by rw [List.getElem?_map, List.getElem?_range hj]; rfl)⟩)
     have HCr := Lib.hid (create_one HC.out)
     have H5 := Lib.hid (show _ ∧ _ ∧ _ ∧ _ from ⟨hO5', hk5, hB5, HK4.out.non hk5⟩)
     clear hO5 hO5' hK5 hat5 hk5 hB5
     go_upto_region 18 with (go_at_call 15; go_must (refine HCr.out.mono ?_); rintro e w6 ⟨k, B, L, Dk, F, Tj, rfl, hM6⟩)
     have HM := Lib.hid hM6
     have x3 : w6.cell? ⟨x, 3, none⟩ = some (.pointer (some ⟨q, 0, none⟩)) := (HC.out.gs.stay hM6.kp H5.out.2.2.1.bx (by decide) (by decide) (by decide)).cell 3
     have hD6 := H5.out.2.2.1.dg.keepT hM6.kp (fun hb ht => HC.out.gs.free hb (by rintro rfl; omega) (by rintro rfl; omega) (by rintro rfl; omega)) hM6.gs.keep
     have HCz : Hid (Cz w w6 q tp.l 324 ddv D V pool tp tb tc (fun j => j) zd zc) := Lib.hid (by
       obtain ⟨h1, h2, h3, h4⟩ := HOk.out
       exact ⟨hD6, by decide, by decide, .inl ⟨h2, hl.1, hl.2⟩, h2, by omega, hl.2, h3, h4, HC.out.gs.stayRow hM6.kp (HIn.out.1.non H5.out.2.2.2) (by decide) (by decide) (by decide), fun j hj => hj, fun i j _ _ hne => hne, by omega, HC.out.gs.stayRow hM6.kp (HO4.out.2.non H5.out.2.1) (by decide) (by decide) (by decide)⟩)
     have HCr := Lib.hid (create32_one HCz.out)
     have HD6 := Lib.hid hD6
     clear hM6 hD6
     go_upto_region 19 with (go_at_call 32; go_must (refine HCr.out.mono ?_); rintro e w7 ⟨u, rfl, hK7⟩)
     have hft : ∀ {g t : Nat} {cs : Array Value}, Blk w6 g t cs → t ≠ 139 → t ≠ 143 → t ≠ 22 → ¬ Fz q tp.l D V g := fun hb a b c => HD6.out.free hb a b c
     have hfr : ∀ {α : Type} {e : TypeId} {kk : Nat} {enc : α → List Value} {v : Value} {xs : List α}, RowP w6 e kk enc v xs → e ≠ 139 → e ≠ 143 → e ≠ 22 → ∀ g ∈ own v, ¬ Fz q tp.l D V g := fun hr a b c => HD6.out.freeRow hr a b c
     have hFN : ∀ g, Fz q tp.l D V g → w.heap.size ≤ g := fun g e => by
       obtain ⟨n1, n2, n3⟩ := HD6.out.new
       rcases e with e | ⟨i, hi, e | e⟩
       · omega
       · have := (n3 i hi).1; omega
       · exact (n3 i hi).2 g e
     have htk := HM.out.tk.keepX hK7 (fun hb ht => hft hb (by rintro rfl; omega) (by rintro rfl; omega) (by rintro rfl; omega)) (hfr HM.out.tk.md (by decide) (by decide) (by decide))
     have hgs : Gs w w7 p dv tp.l 324 K Tj := by
       refine HM.out.gs.keepS hK7 (fun hb ht => hft hb (by rintro rfl; omega) (by rintro rfl; omega) (by rintro rfl; omega)) ?_ hFN
       obtain ⟨wv, S6, hG, -⟩ := HM.out.gs
       exact hfr hG.row (by decide) (by decide) (by decide)
     have hlv := HM.out.lv.keepX hK7 (fun hb => hft hb (by decide) (by decide) (by decide)) (fun i b e => hfr (HM.out.lv.lf i b e).2.2.ts (by decide) (by decide) (by decide))
     have hbx := (HC.out.gs.stay HM.out.kp H5.out.2.2.1.bx (by decide) (by decide) (by decide)).keep hK7 (hft (HC.out.gs.stay HM.out.kp H5.out.2.2.1.bx (by decide) (by decide) (by decide)) (by decide) (by decide) (by decide))
     have hgr6 := HC.out.gs.stayRow HM.out.kp H5.out.2.2.1.gr (by decide) (by decide) (by decide)
     have hgr := hgr6.keep hK7 (hfr hgr6 (by decide) (by decide) (by decide))
     have hor6 := HC.out.gs.stayRow HM.out.kp H5.out.1 (by decide) (by decide) (by decide)
     have hor := hor6.keep hK7 (hfr hor6 (by decide) (by decide) (by decide))
     have H7 := Lib.hid (show _ ∧ _ ∧ _ ∧ _ ∧ _ ∧ _ from ⟨htk, hgs, hlv, hbx, hgr, hor⟩)
     clear htk hgs hlv hbx hgr6 hgr hor6 hor hft hfr hFN hK7 x3 HCr HCz
     have hthere : w7.there ob 0 3 := by
       rcases H7.out.2.2.2.2.2.form with ⟨e1, -⟩ | ⟨g, cap, cur, e1, hB, h4, h5, h6, h7⟩
       · injection e1 with e1 _ _; cases e1
       · injection e1 with e1 _ _
         injection e1 with e1
         injection e1 with e1
         subst e1
         have h4' : 1 ≤ cap := by simpa using h4
         exact Blk.there hB 0 3 (by rw [h6]; omega)
     have HTh := Lib.hid hthere
     clear hthere
     go_upto_region 20 with fail
     simp only [Sl.v]
     go_loopw [23] (fun i wr => ∃ j : Nat, j ≤ 1 ∧ i = .int .i64 (j : Int) ∧ (j = 0 → wr = w7) ∧ (j = 1 → Keeps (Only ob) w7 wr)) (fun i _ => 1 - (intOf i).toNat)
     case atStart => exact ⟨0, by omega, rfl, fun _ => rfl, fun e => by omega⟩
     case round =>
       obtain ⟨j, hj, rfl, h0', h1'⟩ := hrel
       by_cases hj0 : j = 0
       · obtain rfl := h0' hj0
         subst hj0
         rw [show ((0 : Nat) : Int) = 0 from rfl]
         clear h0' h1'
         have hko : Hid (Keeps (Only ob) wr (wr.setCells ob 0 [.int .i64 0, .int .i64 0, .int .i64 0]) ) := Lib.hid (Keeps.cellsAt (S := Only ob) rfl _ 0 _ (Keeps.refl _ _))
         go_wp2_with ((with_reducible show wpList _ _ _ ({ dst := none, op := Op.store 31 _ _, type := _, pos := _, after := _, guard := _ } :: _) _ _); go_must (refine wpList_store_mid rfl 31 (.tmp 121) (.tmp 120) rfl ob 0 #[.int .i64 0, .int .i64 0, .int .i64 0] rfl rfl HTh.out (by kernel_rfl) (by kernel_rfl) ?_))
         go_roundw
         case rel => exact ⟨1, by omega, by go_num, fun e => by omega, fun _ => hko.out⟩
         case measure => simp [intOf]
       · obtain rfl : j = 1 := by omega
         have hko := h1' rfl
         clear h0' h1'
         rw [show ((1 : Nat) : Int) = 1 from rfl]
         obtain ⟨w8, rfl⟩ : ∃ V : World, V = wr := ⟨_, rfl⟩
         have hon : ∀ {g t : Nat} {cs : Array Value}, Blk w7 g t cs → t ≠ 31 → ¬ Only ob g := fun hb a e => by
           obtain ⟨co, hbo⟩ := row_blk (s := ⟨some ⟨ob, 0, none⟩, 1, c5⟩) H7.out.2.2.2.2.2 rfl
           exact hb.ne hbo a e
         have hobl : w.heap.size ≤ ob ∧ ob < w5.heap.size := by
           refine ⟨?_, RowP.lt H5.out.1 ob (by rw [own_slice]; exact List.mem_singleton.2 rfl)⟩
           have := H5.out.2.2.2.size
           exact HObw.out
         have hgr8 := row_keepT H7.out.2.2.2.2.1 hko (fun hb => hon hb (by decide))
         have hbx8 := H7.out.2.2.2.1.keep hko (hon H7.out.2.2.2.1 (by decide))
         have htk8 := H7.out.1.keepX hko (fun hb ht => hon hb (by rintro rfl; omega)) (fun g hg e => by have := HM.out.mn g hg; unfold Only at e; omega)
         have hgs8 : Gs w w8 p dv tp.l 324 K Tj := by
           refine H7.out.2.1.keepS hko (fun hb ht => hon hb (by rintro rfl; omega)) ?_ (fun g e => by unfold Only at e; omega)
           obtain ⟨wv, S6, hG, -⟩ := H7.out.2.1
           intro g hg e
           unfold Only at e
           subst e
           obtain ⟨co, hbo⟩ := row_blk (s := ⟨some ⟨g, 0, none⟩, 1, c5⟩) H7.out.2.2.2.2.2 rfl
           exact own_type hG.row hbo (by decide) hg
         have hlv8 := H7.out.2.2.1.keepX hko (fun hb => hon hb (by decide)) (fun i b e g hg e2 => by
           have hil : i < tp.l := by
             rcases Nat.lt_or_ge i tp.l with h1 | h1
             · exact h1
             · rw [List.getElem?_eq_none (by rw [HM.out.ll]; exact h1)] at e; cases e
           have := HM.out.tn i hil g hg
           unfold Only at e2
           omega)
         have k2 : w8.cell? ⟨x, 2, none⟩ = some (.pointer none) := hbx8.cell 2
         have f2 := hbx8.frozen 2
         have f4 := hbx8.frozen 4
         have k4 : w8.cell? ⟨x, 4, none⟩ = some (.pointer none) := hbx8.cell 4
         have hb9 := (hbx8.set 2 (.pointer (some ⟨k, 0, none⟩))).set 4 (.pointer (some ⟨u, 0, none⟩))
         have hk9 : Keeps (Only x) w8 ((w8.setCell ⟨x, 2, none⟩ (.pointer (some ⟨k, 0, none⟩))).setCell ⟨x, 4, none⟩ (.pointer (some ⟨u, 0, none⟩))) := ((Keeps.refl (Only x) w8).set (p := ⟨x, 2, none⟩) rfl _).set (p := ⟨x, 4, none⟩) rfl _
         have H8 := Lib.hid (show _ ∧ _ ∧ _ ∧ _ ∧ _ ∧ _ ∧ _ from ⟨htk8, hgs8, hlv8, hbx8, hgr8, hb9, hk9⟩)
         clear htk8 hgs8 hlv8 hbx8 hgr8 hb9 hk9 hon hobl
         go_wp2_with fail
         go_ret3
         obtain ⟨htk8, hgs8, hlv8, hbx8, hgr8, hb9, hk9⟩ := H8.out
         have hxl := H5.out.2.2.1.xw
         have hxo : ∀ {g t : Nat} {cs : Array Value}, Blk w8 g t cs → t ≠ 41 → ¬ Only x g := fun hb a e => hb.ne hbx8 a e
         have hmd : ∀ g ∈ own B.made.v, ¬ Only x g := fun g hg e => by
           unfold Only at e
           subst e
           exact own_type htk8.md hbx8 (by decide) hg
         have hgs9 := hgs8.keepS hk9 (fun hb ht => hxo hb (by rintro rfl; omega)) (fun g hg e => by
           obtain ⟨wv, S6, hG, -⟩ := hgs8
           unfold Only at e
           subst e
           exact own_type hG.row hbx8 (by decide) hg) (fun g e => by unfold Only at e; omega)
         have h56 := HC.out.gs.keep.size
         refine ⟨x, p, gd, gc, dv, K, k, B, L, Dk, F, Tj, q, u, rfl, ⟨hb9, row_keepT hgr8 hk9 (fun hb => hxo hb (by decide)), htk8.keepX hk9 (fun hb ht => hxo hb (by rintro rfl; omega)) hmd, hgs9, HM.out.P, fun i hi => HM.out.ff i hi, HM.out.ll, HM.out.le, hlv8.keepX hk9 (fun hb => hxo hb (by decide)) (fun i b e g hg e2 => by unfold Only at e2; subst e2; exact own_type (hlv8.lf i b e).2.2.ts hbx8 (by decide) hg), HM.out.ixe, ⟨hxl, by have := HM.out.new.1; omega, fun g hg => by have := HM.out.new.2 g hg; omega⟩, fun e => (HBe.out.go gd (by rw [show ({ A := some ⟨gd, 0, none⟩, n := tp.l, c := gc } : Sl).v = .slice (some ⟨gd, 0, none⟩) tp.l gc from rfl, own_slice]; exact List.mem_singleton.2 rfl)).2 e, fun g hg => ⟨fun e => ?_, ?_⟩, hgs9.keep⟩⟩
         · have h1 := HM.out.new.2 g (.inr (.inl hg))
           have h2 := RowP.lt HBe.out.gm.row g e
           have h3 := HB4.out.kp.size
           have h4 := H5.out.2.1.size
           have h5 := HBk.out
           omega
         · have h1 := HM.out.new.2 g (.inr (.inl hg))
           have h2 := RowP.lt HBe.out.gr gd (by rw [show ({ A := some ⟨gd, 0, none⟩, n := tp.l, c := gc } : Sl).v = .slice (some ⟨gd, 0, none⟩) tp.l gc from rfl, own_slice]; exact List.mem_singleton.2 rfl)
           have h4 := H5.out.2.1.size
           have h5 := HBk.out
           omega
end
end Go.Proofs.YtolknnmaadkgiaaGreatDoor
namespace Go.Proofs.YtolknnmaadkgiaaGreatDoor
set_option maxRecDepth 100000
open Go.RowKit Go.Uc Go.Shelf
structure Aw (l pool : Nat) (tp : Tp) (f : Nat → Nat → List UInt8) (dec : Nat → Nat → Option UB) (dt lg : Nat → List UInt8) : Prop where
 lb : ∀ i, i < l → f i 0 = labelB (lbX pool tp i)
 rg : ∀ i, i < l → Rng 324 pool (f i) dec
 dt : ∀ i q, i < l → 274 ≤ q → q < 306 → f i q = dt q
 lg : ∀ i a, i < l → a < 256 → f i (18 + a) = lg a
theorem Aw.fits {l pool : Nat} {tp : Tp} {f f' : Nat → Nat → List UInt8} {dec : Nat → Nat → Option UB} {dt lg : Nat → List UInt8} (h : Aw l pool tp f dec dt lg) (he : ∀ i q, i < l → q < 324 → f' i q = f i q) : Aw l pool tp f' dec dt lg :=
 ⟨fun i hi => by rw [he i 0 hi (by decide)]; exact h.lb i hi, fun i hi => (h.rg i hi).fits fun j q hj hq => he i _ hi (ring_lt (by decide) hq), fun i q hi h1 h2 => by rw [he i q hi (by omega)]; exact h.dt i q hi h1 h2, fun i a hi ha => by rw [he i _ hi (by omega)]; exact h.lg i a hi ha⟩
theorem Aw.fmt {l pool : Nat} {tp : Tp} {f : Nat → Nat → List UInt8} (h : ∀ i, i < l → f i = fmtG 324 (labelB (lbX pool tp i)) (fun _ => zeros 128)) : Aw l pool tp f (fun _ _ => none) (fun _ => zeros 128) (fun _ => zeros 128) := by
 refine Aw.fits (f := fun i => Proofs.YtolknnmaadkgiaaGreatDoor.fmt 324 (labelB (lbX pool tp i))) ⟨fun i hi => fmt_label (n := 324) (j := 0) (by decide), fun i hi => Rng.fmt (by decide), fun i q hi h1 h2 => fmt_mid (by decide) (by omega) (by omega), fun i a hi ha => fmt_mid (by decide) (by omega) (by omega)⟩ fun i q hi hq => ?_
 rw [h i hi]
 exact fmtG_zero 324 _ _ (fun _ _ => rfl) q hq
theorem Aw.write {l pool : Nat} {tp : Tp} {T : St} {dec : Nat → Nat → Option UB} {dt lg : Nat → List UInt8} (h : Aw l pool tp T.f dec dt lg) {I : List Nat} (hI : ∀ i, i < l → i ∈ I) (a m : Nat) (ha : a + m ≤ 32) (bs : List UInt8) (W : List Wt) : Aw l pool tp (T.all I (fun f => updN f (274 + a) m bs) W).f dec (updN dt (274 + a) m bs) lg := by
 have e : ∀ i, i < l → (T.all I (fun f => updN f (274 + a) m bs) W).f i = updN (T.f i) (274 + a) m bs := fun i hi => if_pos (hI i hi)
 have hlt := @ring_mid 324
 refine ⟨fun i hi => ?_, fun i hi => ?_, fun i q hi h1 h2 => ?_, fun i q hi hq => ?_⟩
 · rw [e i hi]; unfold updN; rw [if_neg (by omega)]; exact h.lb i hi
 · rw [e i hi]
   refine (h.rg i hi).fits fun j q hj hq => ?_
   unfold updN
   rw [if_neg (fun c => hlt (p := plc 324 j + 1 + q) (by decide) hj hq (by omega) (by omega) rfl)]
 · rw [e i hi]
   unfold updN
   split
   · rfl
   · exact h.dt i q hi h1 h2
 · rw [e i hi]; unfold updN; rw [if_neg (by omega)]; exact h.lg i q hi hq
theorem Aw.mark {l pool : Nat} {tp : Tp} {T : St} {dec : Nat → Nat → Option UB} {dt lg : Nat → List UInt8} (h : Aw l pool tp T.f dec dt lg) {I : List Nat} (hI : ∀ i, i < l → i ∈ I) (t note : Nat) (r : Pt) (h1 : 1 ≤ t) (h2 : t ≤ 281474976710656) (hno : note < 18446744073709551616) (hr : r.ok) (hb : r.bi ≤ t) (W : List Wt) : Aw l pool tp (T.all I (fun f => updL f (marks 324 t) (uberB pool t note r)) W).f (fun j i => if i = t % 8 then some ⟨pool, t, note, r⟩ else dec j i) dt lg := by
 have e : ∀ i, i < l → (T.all I (fun f => updL f (marks 324 t) (uberB pool t note r)) W).f i = updL (T.f i) (marks 324 t) (uberB pool t note r) := fun i hi => if_pos (hI i hi)
 refine ⟨fun i hi => ?_, fun i hi => ?_, fun i q hi h1 h2 => ?_, fun i q hi hq => ?_⟩
 · rw [e i hi]; unfold updL; rw [if_neg (show (0 : Nat) ∉ marks 324 t from marks_label (n := 324) (j := 0) (by decide) (by decide))]; exact h.lb i hi
 · rw [e i hi]; exact (h.rg i hi).mark (by decide) h1 h2 hno hr hb
 · rw [e i hi]; unfold updL; rw [if_neg (marks_mid (by decide) (by omega) (by omega))]; exact h.dt i q hi h1 h2
 · rw [e i hi]; unfold updL; rw [if_neg (marks_mid (by decide) (by omega) (by omega))]; exact h.lg i q hi hq
theorem Aw.ov {l pool : Nat} {tp : Tp} {T : St} {dec : Nat → Nat → Option UB} {dt lg : Nat → List UInt8} (h : Aw l pool tp T.f dec dt lg) {I : List Nat} (hI : ∀ i, i < l → i ∈ I) (v : Nat → Option (List UInt8)) (hv : ∀ q, v q ≠ none → 18 ≤ q ∧ q < 274) (W : List Wt) : Aw l pool tp (T.ov I v W).f dec dt (fun a => (v (18 + a)).getD (lg a)) := by
 have e : ∀ i q, i < l → (T.ov I v W).f i q = (v q).getD (T.f i q) := fun i q hi => if_pos (hI i hi)
 have hn : ∀ q, q < 18 ∨ 274 ≤ q → v q = none := fun q hq => by
   cases c : v q with
   | none => rfl
   | some b => have := hv q (by rw [c]; intro hh; cases hh); omega
 refine ⟨fun i hi => ?_, fun i hi => ?_, fun i q hi h1 h2 => ?_, fun i q hi hq => ?_⟩
 · rw [e i 0 hi, hn 0 (by omega)]; exact h.lb i hi
 · refine (h.rg i hi).fits fun j q hj hq => ?_
   rw [e i _ hi, hn _ ?_]
   · rfl
   · rcases Nat.lt_or_ge (plc 324 j + 1 + q) 18 with c | c
     · exact .inl c
     · rcases Nat.lt_or_ge (plc 324 j + 1 + q) 274 with c2 | c2
       · exact absurd rfl (ring_mid (n := 324) (p := plc 324 j + 1 + q) (by decide) hj hq c (by omega))
       · exact .inr c2
 · rw [e i q hi, hn q (by omega)]; exact h.dt i q hi h1 h2
 · rw [e i _ hi, h.lg i q hi hq]
theorem Aw.sec {l pool : Nat} {tp : Tp} {T : St} {dec : Nat → Nat → Option UB} {dt lg : Nat → List UInt8} (h : Aw l pool tp T.f dec dt lg) {F : Nat → Lr} {ps : List (Nat × Nat)} (h0 : ps ≠ []) (hps : ∀ x ∈ ps, (F x.1).ix < l) {a : Nat} (ha : a < 256) : lsec T F a ps = lstep (0, zeros 88) (lg a) := lsec_same h0 fun x hx => h.lg _ a (hps x hx) ha
theorem Aw.log {l pool : Nat} {tp : Tp} {T T' : St} {dec dec' : Nat → Nat → Option UB} {dt dt' lg : Nat → List UInt8} (h : Aw l pool tp T.f dec dt lg) (h' : Aw l pool tp T'.f dec' dt' lg) {F F' : Nat → Lr} {ps ps' : List (Nat × Nat)} (h0 : ps ≠ []) (hps : ∀ x ∈ ps, (F x.1).ix < l) (h0' : ps' ≠ []) (hps' : ∀ x ∈ ps', (F' x.1).ix < l) : logD T' F' ps' = logD T F ps := by
 unfold logD
 exact cat_congr _ _ fun a _ ha => by
   show (lsec T' F' a ps').2 = (lsec T F a ps).2
   rw [h.sec h0 hps (by omega), h'.sec h0' hps' (by omega)]
theorem pres_in {L : List (Option Nat)} {k : Nat} {x : Nat × Nat} (h : x ∈ pres L k) : x.1 < k ∧ L[x.1]? = some (some x.2) := by
 unfold pres at h
 obtain ⟨j, hj, e⟩ := List.mem_filterMap.1 h
 have hj' := List.mem_range.1 hj
 split at e
 · next b hb =>
   injection e with e
   subst e
   exact ⟨hj', hb⟩
 · cases e
theorem mem_ixs_of {F : Nat → Lr} {l : Nat} (h : ∀ i, i < l → (F i).ix = i) : ∀ i, i < l → i ∈ ixs F l := fun i hi => mem_ixs.2 ⟨i, hi, h i hi⟩
theorem one_uber {M : List UB} {u : UB} {t : Nat} (ht : t < 8) (hn : M.Nodup) (hm : ∀ v, v ∈ M ↔ ∃ j i, j < 4 ∧ i < 8 ∧ (if i = t then some u else none) = some v) : M = [u] := single hn fun v => by
 rw [hm]
 constructor
 · rintro ⟨j, i, -, -, h⟩
   by_cases e : i = t
   · rw [if_pos e] at h; injection h with h; exact h.symm
   · rw [if_neg e] at h; cases h
 · rintro rfl
   exact ⟨0, t, by decide, ht, by rw [if_pos rfl]⟩
theorem flN_none {K : Nat → Kb} {T : St} {I : List Nat} (h : ∀ y ∈ T.P.waits, ∃ i ∈ I, y.d = (K i).d) : (T.flN K I).P.waits = [] := by
 show T.P.waits.filter _ = []
 refine List.filter_eq_nil_iff.2 fun y hy => ?_
 obtain ⟨i, hi, e⟩ := h y hy
 simp only [decide_eq_true_eq]
 exact fun c => c i hi e
end Go.Proofs.YtolknnmaadkgiaaGreatDoor
