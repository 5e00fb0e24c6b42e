/- The document's tank without leaves. The document's disks as a whole; its tank, turned. -/
import Derived.Test.YtolknnmaadkgiaaGreatDoorG34
import Derived.Test.YtolknnmaadkgiaaGreatDoorG29
set_option linter.unusedVariables false
set_option linter.unusedSimpArgs false
namespace Go.Proofs.YtolknnmaadkgiaaGreatDoor
set_option maxRecDepth 100000
open Go.RowKit Go.Uc Go.Shelf
def encZ (z : Int) : List Value := [.int .i64 z]
theorem encZ_len (z : Int) : (encZ z).length = 1 := rfl
theorem encZ_one (z : Int) : ∀ u ∈ encZ z, u.oneCell' = true := by intro u hu; simp [encZ] at hu; subst hu; rfl
def zers (k : Nat) : Array Value := ((List.replicate k (0 : Int)).flatMap encZ).toArray
theorem make154 (k : Nat) (h1 : 1 ≤ k) (h5 : k ≤ 5) (W : World) : (Instr.makeSlice 154 (.int .i64 (k : Int)) (.int .i64 (k : Int))).run Tryz.prog W = .ok (.slice (some ⟨W.heap.size, 0, none⟩) k k) (W.alloc (.cells (nils k) 151)) := by
 rcases (by omega : k = 1 ∨ k = 2 ∨ k = 3 ∨ k = 4 ∨ k = 5) with rfl | rfl | rfl | rfl | rfl <;> kernel_rfl
theorem make25 (k : Nat) (h1 : 1 ≤ k) (h5 : k ≤ 5) (W : World) : (Instr.makeSlice 25 (.int .i64 (k : Int)) (.int .i64 (k : Int))).run Tryz.prog W = .ok (.slice (some ⟨W.heap.size, 0, none⟩) k k) (W.alloc (.cells (zers k) 3)) := by
 rcases (by omega : k = 1 ∨ k = 2 ∨ k = 3 ∨ k = 4 ∨ k = 5) with rfl | rfl | rfl | rfl | rfl <;> kernel_rfl
theorem zers_row {w : World} {g k e : Nat} (hk : k ≤ 5) (hB : Blk w g e (zers k)) : RowP w e 1 encZ (.slice (some ⟨g, 0, none⟩) k k) (List.replicate k 0) := by
 have hl := flat_len encZ_len (List.replicate k (0 : Int))
 have hr : (List.replicate k (0 : Int)).length = k := List.length_replicate
 have := RowP.mk (g := g) (cap := k) (cur := zers k) (xs := List.replicate k (0 : Int)) encZ_len hB (by rw [hr]; exact Nat.le_refl _) (by unfold maxLen; omega) (by unfold zers; rw [List.size_toArray, hl, hr]) (by unfold zers; rw [List.take_of_length_le]; show ((List.replicate k (0 : Int)).flatMap encZ).length ≤ _; rw [hl]; exact Nat.le_refl _)
 rw [hr] at this
 exact this
theorem info154 : (Tryz.prog.info? 154).map (fun i => (i.zero, i.size, i.bytes)) = some (some (.slice none 0 0), 1, 24) := by kernel_rfl
theorem info25s : (Tryz.prog.info? 25).map (fun i => (i.zero, i.size, i.bytes)) = some (some (.slice none 0 0), 1, 24) := by kernel_rfl
theorem info31 : (Tryz.prog.info? 31).map (fun i => (i.zero, i.size, i.bytes)) = some (some (.agg #[.int .i64 0, .int .i64 0, .int .i64 0]), 3, 24) := by kernel_rfl
structure Td (w : World) (u q pool mb mc lb lc db dc fb gb : Nat) (tp : Tp) (L : List (Option Nat)) (Z : List Int) : Prop where
 blk : Blk w u 150 #[.pointer (some ⟨q, 0, none⟩), .int .u64 (pool : Int), .slice (some ⟨mb, 0, none⟩) 1 mc, .slice none 0 0, .slice (some ⟨lb, 0, none⟩) 1 lc, .slice (some ⟨db, 0, none⟩) 1 dc, .int .u64 1]
 md : RowT w (.slice (some ⟨mb, 0, none⟩) 1 mc) [tp]
 lr : RowP w 154 1 encS (.slice (some ⟨lb, 0, none⟩) 1 lc) [⟨some ⟨fb, 0, none⟩, tp.l, tp.l⟩]
 dr : RowP w 25 1 encS (.slice (some ⟨db, 0, none⟩) 1 dc) [⟨some ⟨gb, 0, none⟩, tp.l, tp.l⟩]
 lf : RowP w 151 1 encO (.slice (some ⟨fb, 0, none⟩) tp.l tp.l) L
 ll : L.length = tp.l
 dz : RowP w 3 1 encZ (.slice (some ⟨gb, 0, none⟩) tp.l tp.l) Z
 zl : Z.length = tp.l
theorem Td.non {w w' : World} {u q pool mb mc lb lc db dc fb gb : Nat} {tp : Tp} {L : List (Option Nat)} {Z : List Int} (h : Td w u q pool mb mc lb lc db dc fb gb tp L Z) (hk : Keeps Non w w') : Td w' u q pool mb mc lb lc db dc fb gb tp L Z :=
 ⟨h.blk.non hk, h.md.non hk, h.lr.non hk, h.dr.non hk, h.lf.non hk, h.ll, h.dz.non hk, h.zl⟩
section
variable {w0 w w' : World} {q : Nat} {tp : Tp}
set_option maxHeartbeats 8000000 in
theorem begun62_one {pool tb tc : Nat} (hT : RowT w (.slice (some ⟨tb, 0, none⟩) 1 tc) [tp]) (h1 : 1 ≤ tp.l) (h5 : tp.l ≤ 5) :
   Calls Tryz.prog 62 #[.pointer (some ⟨q, 0, none⟩), .int .u64 (pool : Int), .slice (some ⟨tb, 0, none⟩) 1 tc] w fun e w' => ∃ u mb mc lb lc db dc fb gb Z, e = .returned (.pointer (some ⟨u, 0, none⟩)) ∧ Td w' u q pool mb mc lb lc db dc fb gb tp (List.replicate tp.l none) Z ∧ (w.heap.size ≤ u ∧ w.heap.size ≤ mb ∧ w.heap.size ≤ lb ∧ w.heap.size ≤ db ∧ w.heap.size ≤ fb ∧ w.heap.size ≤ gb) ∧ Keeps Non w w' := by
 have hmk := (Lib.hid (make154 tp.l h1 h5)).out
 have hmd' := (Lib.hid (make25 tp.l h1 h5)).out
 obtain ⟨g', cap, em, -, -, hmc2, -, -⟩ := hT.at_ encT_len (i := 0) (by simp)
 injection em with em emn emc
 injection em with em
 injection em with em
 subst em
 clear emn emc
 have HM : Hid (∀ V, Keeps Non w V → V.cell? ⟨tb, 1, none⟩ = some (.int .i64 (tp.l : Int))) := Lib.hid (fun V hV => hV.cell (hmc2 1 (by decide)) id)
 have HAt := Lib.hid (ats_row encT_len hT)
 have HB1 : Hid (([] : List Tp).length + ([tp] : List Tp).length ≤ maxLen ∧ (([] : List Tp).length + ([tp] : List Tp).length) * 24 ≤ 140737488355328) := Lib.hid ⟨by simp [maxLen], by simp⟩
 clear hmc2 hT
 go_enter Tryz.func62, Tryz.ntmps62
 go_upto_region 2 with (at_builtin; go_must (refine wpList_append_row (o := ⟨some 14, _, _, _, _, _⟩) rfl (.const (.slice none 0 0)) (.tmp 13) 32 rfl 31 3 encT _ 24 Tryz.underlying32 info31 rfl (by decide) encT_len encT_one (.slice none 0 0) [] rfl (RowP.nil _ _ _ _) (some ⟨tb, 0, none⟩) 1 tc [tp] rfl rfl HAt.out HB1.out.1 HB1.out.2 ?_); intro v3 w3 hO3 hK3 hat3; obtain ⟨⟨A3, n3, c3⟩, rfl, h3⟩ := RowP.sl hO3; have hn3 : n3 = 1 := h3; clear h3; subst hn3)
 have hO3' : RowT w3 (.slice A3 1 c3) [tp] := hO3
 have hown3 := own_grown hat3 (B := w.heap.size) (fun g hg => (List.not_mem_nil hg).elim) (Nat.le_refl _)
 obtain ⟨mb, hmb⟩ := row_headAt3 hO3'
 subst hmb
 have hmw : w.heap.size ≤ mb := hown3 mb (by rw [show ({ A := some ⟨mb, 0, none⟩, n := 1, c := c3 } : Sl).v = .slice (some ⟨mb, 0, none⟩) 1 c3 from rfl, own_slice]; exact List.mem_singleton.2 rfl)
 have hK3n : Keeps Non w w3 := hK3.mono fun k e => (List.not_mem_nil e).elim
 have hB := Blk.new w3 150 #[.pointer (some ⟨q, 0, none⟩), .int .u64 (pool : Int), .slice (some ⟨mb, 0, none⟩) 1 c3, .slice none 0 0, .slice none 0 0, .slice none 0 0, .int .u64 1]
 have ka := (Keeps.refl Non w3).alloc (.cells #[.pointer (some ⟨q, 0, none⟩), .int .u64 (pool : Int), .slice (some ⟨mb, 0, none⟩) 1 c3, .slice none 0 0, .slice none 0 0, .slice none 0 0, .int .u64 1] 150)
 obtain ⟨w4, hw4⟩ : ∃ V : World, V = w3.alloc (.cells #[.pointer (some ⟨q, 0, none⟩), .int .u64 (pool : Int), .slice (some ⟨mb, 0, none⟩) 1 c3, .slice none 0 0, .slice none 0 0, .slice none 0 0, .int .u64 1] 150) := ⟨_, rfl⟩
 rw [← hw4] at hB ka
 have hw4' : w3.alloc (.cells #[.pointer (some ⟨q, 0, none⟩), .int .u64 (pool : Int), ({ A := some ⟨mb, 0, none⟩, n := 1, c := c3 } : Sl).v, .slice none 0 0, .slice none 0 0, .slice none 0 0, .int .u64 1] 150) = w4 := hw4.symm
 try rw [hw4']
 try rw [← hw4]
 clear hw4 hw4'
 obtain ⟨u, hu⟩ : ∃ z, z = w3.heap.size := ⟨_, rfl⟩
 rw [← hu] at hB ⊢
 have hu0 : w.heap.size ≤ u := by rw [hu]; exact hK3n.size
 have hm4 := hO3'.non ka
 have hk4 := hK3n.non ka
 have H4 := Lib.hid (show _ ∧ _ ∧ _ ∧ _ ∧ _ from ⟨hB, hm4, hk4, hmw, hu0⟩)
 clear hu hO3 hO3' hown3 hat3 hK3 hK3n ka hB hm4 hk4 hmw hu0 HAt HB1
 go_upto_region 3 with fail
 go_loopw [8] (fun i wr => ∃ j : Nat, j ≤ 1 ∧ i = .int .i64 (j : Int) ∧ (j = 0 → wr = w4) ∧ (j = 1 → ∃ lb lc db dc fb gb Z, Td wr u q pool mb c3 lb lc db dc fb gb tp (List.replicate tp.l none) Z ∧ (w.heap.size ≤ u ∧ w.heap.size ≤ mb ∧ w.heap.size ≤ lb ∧ w.heap.size ≤ db ∧ w.heap.size ≤ fb ∧ w.heap.size ≤ gb) ∧ Keeps Non w wr)) (fun i _ => 1 - (intOf i).toNat)
 case atStart => exact ⟨0, by omega, rfl, fun _ => rfl, fun e => by omega⟩
 case round =>
   obtain ⟨j, hj, rfl, h0', h1'⟩ := hrel
   by_cases hj0 : j = 0
   · obtain rfl := h0' hj0
     subst hj0
     rw [show ((0 : Nat) : Int) = 0 from rfl]
     clear h0' h1'
     obtain ⟨w1, rfl⟩ : ∃ V : World, V = wr := ⟨_, rfl⟩
     go_upto_region 5 with fail
     have hBk := H4.out.1
     have HD := Lib.hid hBk.drew
     have x3 : w1.drew.cell? ⟨u, 4, none⟩ = some (.slice none 0 0) := HD.out.cell 4
     have f3 := HD.out.frozen 4
     have x1 : w1.drew.cell? ⟨tb, 1, none⟩ = some (.int .i64 (tp.l : Int)) := HM.out _ H4.out.2.2.1.drew
     have HAt : Hid (Ats ((w1.drew.alloc (.cells (nils tp.l) 151)).alloc (.cells #[.slice (some ⟨w1.heap.size, 0, none⟩) tp.l tp.l] 154)) (some ⟨w1.heap.size + 1, 0, none⟩) (([⟨some ⟨w1.heap.size, 0, none⟩, tp.l, tp.l⟩] : List Sl).flatMap encS)) := Lib.hid (by
       have := Ats.lit (w1.drew.alloc (.cells (nils tp.l) 151)) #[.slice (some ⟨w1.heap.size, 0, none⟩) tp.l tp.l] 154 (([⟨some ⟨w1.heap.size, 0, none⟩, tp.l, tp.l⟩] : List Sl).flatMap encS) rfl
       rw [show (w1.drew.alloc (.cells (nils tp.l) 151)).heap.size = w1.heap.size + 1 by simp] at this
       exact this)
     have HBb : Hid (([] : List Sl).length + ([⟨some ⟨w1.heap.size, 0, none⟩, tp.l, tp.l⟩] : List Sl).length ≤ maxLen ∧ (([] : List Sl).length + ([⟨some ⟨w1.heap.size, 0, none⟩, tp.l, tp.l⟩] : List Sl).length) * 24 ≤ 140737488355328) := Lib.hid ⟨by simp [maxLen], by simp⟩
     have HK2 : Hid (Keeps Non w1.drew ((w1.drew.alloc (.cells (nils tp.l) 151)).alloc (.cells #[.slice (some ⟨w1.heap.size, 0, none⟩) tp.l tp.l] 154)) ∧ Blk ((w1.drew.alloc (.cells (nils tp.l) 151)).alloc (.cells #[.slice (some ⟨w1.heap.size, 0, none⟩) tp.l tp.l] 154)) w1.heap.size 151 (nils tp.l)) := Lib.hid ⟨((Keeps.refl Non _).alloc _).alloc _, (Blk.new w1.drew 151 (nils tp.l)).non ((Keeps.refl Non _).alloc _)⟩
     have x4 : (w1.alloc (.cells (nils tp.l) 151)).cell? ⟨u, 4, none⟩ = some (.slice none 0 0) := (hBk.non ((Keeps.refl Non w1).alloc _)).cell 4
     have x5 : ((w1.alloc (.cells (nils tp.l) 151)).alloc (.cells #[.slice (some ⟨w1.heap.size, 0, none⟩) tp.l tp.l] 154)).cell? ⟨u, 4, none⟩ = some (.slice none 0 0) := (hBk.non (((Keeps.refl Non w1).alloc _).alloc _)).cell 4
     clear hBk
     go_cut [] from 17 to 62 (fun wc => ∃ (lb lc fb : Nat), Blk wc u 150 #[.pointer (some ⟨q, 0, none⟩), .int .u64 (pool : Int), .slice (some ⟨mb, 0, none⟩) 1 c3, .slice none 0 0, .slice (some ⟨lb, 0, none⟩) 1 lc, .slice none 0 0, .int .u64 1] ∧ RowP wc 154 1 encS (.slice (some ⟨lb, 0, none⟩) 1 lc) [⟨some ⟨fb, 0, none⟩, tp.l, tp.l⟩] ∧ RowP wc 151 1 encO (.slice (some ⟨fb, 0, none⟩) tp.l tp.l) (List.replicate tp.l none) ∧ w1.heap.size ≤ fb ∧ w1.heap.size ≤ lb ∧ Keeps (Only u) w1 wc)
     case first =>
       refine wp_tame ?_
       go_region_law (first
         | ((with_reducible show (if Region.wanted ({ dst := some 35, op := _, type := _, pos := _, after := _, guard := _ } : Oper) _ = true then _ else _)); go_must (refine step_append_row (o := ⟨some 35, _, _, _, _, _⟩) rfl (.tmp 27) (.tmp 34) 147 rfl 154 1 encS (.slice none 0 0) 24 Tryz.underlying147 info154 rfl (by decide) encS_len encS_one (.slice none 0 0) [] rfl (RowP.nil _ _ _ _) (some ⟨w1.heap.size + 1, 0, none⟩) 1 1 [⟨some ⟨w1.heap.size, 0, none⟩, tp.l, tp.l⟩] rfl rfl HAt.out HBb.out.1 HBb.out.2 ?_); intro u8 w8 hO8 hK8 hat; obtain ⟨⟨A8, n8, c8⟩, rfl, h8⟩ := RowP.sl hO8; have hK8n := HK2.out.1.non (hK8.mono fun k e => (List.not_mem_nil e).elim); have z8 := (HD.out.non hK8n).cell 4; have f8 := (HD.out.non hK8n).frozen 4; have hb8 := HK2.out.2.non (hK8.mono fun k e => (List.not_mem_nil e).elim)))
       all_goals
         go_wp2_with fail
         go_meet
         case rel =>
           obtain rfl : n8 = 1 := h8
           obtain ⟨lb, hlb⟩ := row_headAt (s := ⟨A8, 1, c8⟩) encS_len hO8 (by simp)
           have hlb' : A8 = some ⟨lb, 0, none⟩ := hlb
           subst hlb'
           have hlw := own_grown hat (B := w1.heap.size) (fun g hg => (List.not_mem_nil hg).elim) (by have := HK2.out.1.size; exact this) lb (by rw [show ({ A := some ⟨lb, 0, none⟩, n := 1, c := c8 } : Sl).v = .slice (some ⟨lb, 0, none⟩) 1 c8 from rfl, own_slice]; exact List.mem_singleton.2 rfl)
           have hBx := HD.out.non hK8n
           have k9 : Keeps (Only u) w8 (w8.setCell ⟨u, 4, none⟩ (.slice (some ⟨lb, 0, none⟩) 1 c8)) := (Keeps.refl (Only u) w8).set (p := ⟨u, 4, none⟩) rfl _
           have kk : Keeps (Only u) w1 (w8.setCell ⟨u, 4, none⟩ (.slice (some ⟨lb, 0, none⟩) 1 c8)) := ((Keeps.refl Non w1).drew.trans hK8n).of_non.trans k9
           have hrow := hO8.keep k9 (fun q hq e => by unfold Only at e; subst e; exact own_type hO8 hBx (by decide) hq)
           have hnl := nils_row h5 (hb8.one k9 (hb8.ne hBx (by decide)))
           have hbk := hBx.set 4 (.slice (some ⟨lb, 0, none⟩) 1 c8)
           exact ⟨lb, c8, w1.heap.size, hbk, hrow, hnl, Nat.le_refl _, hlw, kk⟩
     case rest =>
       obtain ⟨lb, lc, fb, hb2, hl2, hf2, hfb, hlb, hk2⟩ := hcut
       obtain ⟨w2, rfl⟩ : ∃ V : World, V = wc := ⟨_, rfl⟩
       have x6 : w2.cell? ⟨tb, 1, none⟩ = some (.int .i64 (tp.l : Int)) := HM.out _ (H4.out.2.2.1.then hk2 fun i hi e => by have := H4.out.2.2.2.2; unfold Only at e; omega)
       have H2 := Lib.hid (show _ ∧ _ ∧ _ ∧ _ ∧ _ ∧ _ from ⟨hb2, hl2, hf2, hfb, hlb, hk2⟩)
       clear HD x3 f3 x1 HAt HBb HK2 x4 x5 hb2 hl2 hf2 hfb hlb hk2
       go_upto_region 8 with fail
       have hG := Blk.new w2 3 (zers tp.l)
       have kg := (Keeps.refl Non w2).alloc (.cells (zers tp.l) 3)
       obtain ⟨w5, hw5⟩ : ∃ V : World, V = w2.alloc (.cells (zers tp.l) 3) := ⟨_, rfl⟩
       rw [← hw5] at hG kg ⊢
       clear hw5
       obtain ⟨gb, hgb⟩ : ∃ z, z = w2.heap.size := ⟨_, rfl⟩
       rw [← hgb] at hG ⊢
       have hgw : w1.heap.size ≤ gb := by rw [hgb]; exact H2.out.2.2.2.2.2.size
       have hgw2 : w2.heap.size ≤ gb := by rw [hgb]; exact Nat.le_refl _
       have HZ0 := Lib.hid (show RowP w5 3 1 encZ (.slice (some ⟨gb, 0, none⟩) tp.l tp.l) (List.replicate tp.l 0) from zers_row h5 hG)
       have HKg := Lib.hid (And.intro kg (And.intro hgw hgw2))
       clear hgb hG kg hgw hgw2 x6
       go_loopw [10] (fun i wr => ∃ (k : Nat) (Z : List Int), k ≤ tp.l ∧ i = .int .i64 (k : Int) ∧ Z.length = tp.l ∧ RowP wr 3 1 encZ (.slice (some ⟨gb, 0, none⟩) tp.l tp.l) Z ∧ Keeps (Only gb) w5 wr) (fun i _ => tp.l - (intOf i).toNat)
       case atStart => exact ⟨0, _, Nat.zero_le _, rfl, by simp, HZ0.out, Keeps.refl _ _⟩
       case round =>
         obtain ⟨k, Z, hk, rfl, hZ, hR, hK⟩ := hrel
         obtain ⟨wx, rfl⟩ : ∃ V : World, V = wr := ⟨_, rfl⟩
         by_cases hkl : k < tp.l
         · have hki : (k : Int) < (tp.l : Int) := by omega
           obtain ⟨r1, k1⟩ := row_set1 (s := ⟨some ⟨gb, 0, none⟩, tp.l, tp.l⟩) encZ_len hR hZ.symm rfl (i := k) (by omega) (-1) (v := .int .i64 (-1)) rfl
           obtain ⟨zv, hzv⟩ : ∃ zv, Z[k]? = some zv := ⟨_, List.getElem?_eq_getElem (by omega)⟩
           have z0 := row_cellAt (s := ⟨some ⟨gb, 0, none⟩, tp.l, tp.l⟩) encZ_len hR rfl hzv
           obtain ⟨cg, hg⟩ := row_blk (s := ⟨some ⟨gb, 0, none⟩, tp.l, tp.l⟩) hR rfl
           have fz := hg.frozen k
           replace z0 : wx.cell? ⟨gb, k, none⟩ = some (.int .i64 zv) := z0
           have HR := Lib.hid (show _ ∧ _ from ⟨r1, hK.trans k1⟩)
           have HZ := Lib.hid hZ
           clear r1 k1 hg hR hK hZ hzv
           go_wp2_with fail
           go_roundw
           case rel => exact ⟨k + 1, Z.set k (-1), by omega, by go_num, by rw [List.length_set]; exact HZ.out, HR.out.1, HR.out.2⟩
           case measure => simp [intOf]; omega
         · have hki : ¬ (k : Int) < (tp.l : Int) := by omega
           have hkg := HKg.out.2.1
           have hk5 : Keeps Non w2 wx := HKg.out.1.then hK fun i hi e => by have := HKg.out.2.2; unfold Only at e; omega
           have hBx := H2.out.1.non hk5
           have HZ := Lib.hid (show _ ∧ _ ∧ _ from ⟨hR, hZ, hk5⟩)
           clear hR hZ hK hk5
           have x5 : wx.cell? ⟨u, 5, none⟩ = some (.slice none 0 0) := hBx.cell 5
           have k6 : Keeps Non wx (wx.alloc (.cells #[.slice (some ⟨gb, 0, none⟩) tp.l tp.l] 25)) := (Keeps.refl Non wx).alloc _
           have HB6 := Lib.hid (hBx.non k6)
           have HAt := Lib.hid (Ats.lit wx #[.slice (some ⟨gb, 0, none⟩) tp.l tp.l] 25 (([⟨some ⟨gb, 0, none⟩, tp.l, tp.l⟩] : List Sl).flatMap encS) rfl)
           have HBb : Hid (([] : List Sl).length + ([⟨some ⟨gb, 0, none⟩, tp.l, tp.l⟩] : List Sl).length ≤ maxLen ∧ (([] : List Sl).length + ([⟨some ⟨gb, 0, none⟩, tp.l, tp.l⟩] : List Sl).length) * 24 ≤ 140737488355328) := Lib.hid ⟨by simp [maxLen], by simp⟩
           have HK6 := Lib.hid k6
           clear hBx k6
           go_wp2_with (at_builtin; go_must (refine wpList_append_row (o := ⟨some 60, _, _, _, _, _⟩) rfl (.tmp 57) (.tmp 59) 148 rfl 25 1 encS (.slice none 0 0) 24 Tryz.underlying148 info25s rfl (by decide) encS_len encS_one (.slice none 0 0) [] rfl (RowP.nil _ _ _ _) (some ⟨wx.heap.size, 0, none⟩) 1 1 [⟨some ⟨gb, 0, none⟩, tp.l, tp.l⟩] rfl rfl HAt.out HBb.out.1 HBb.out.2 ?_); intro v8 w8 hO8 hK8 hat; obtain ⟨⟨A8, n8, c8⟩, rfl, h8⟩ := RowP.sl hO8; have hn8 : n8 = 1 := h8; clear h8; subst hn8; have hK8n : Keeps Non _ w8 := hK8.mono fun k e => (List.not_mem_nil e).elim; have hB8 := HB6.out.non hK8n; have z8 := hB8.cell 5; have f8 := hB8.frozen 5)
           obtain ⟨db, hdb⟩ := row_headAt (s := ⟨A8, 1, c8⟩) encS_len hO8 (by simp)
           have hdb' : A8 = some ⟨db, 0, none⟩ := hdb
           subst hdb'
           have hdw := own_grown hat (B := w1.heap.size) (fun g hg => (List.not_mem_nil hg).elim) (by have := HK6.out.size; have := HZ.out.2.2.size; have := H2.out.2.2.2.2.2.size; omega) db (by rw [show ({ A := some ⟨db, 0, none⟩, n := 1, c := c8 } : Sl).v = .slice (some ⟨db, 0, none⟩) 1 c8 from rfl, own_slice]; exact List.mem_singleton.2 rfl)
           have k9 : Keeps (Only u) w8 (w8.setCell ⟨u, 5, none⟩ (.slice (some ⟨db, 0, none⟩) 1 c8)) := (Keeps.refl (Only u) w8).set (p := ⟨u, 5, none⟩) rfl _
           have k28 : Keeps Non w2 w8 := HZ.out.2.2.non (HK6.out.non hK8n)
           have st : ∀ {α : Type} {e : TypeId} {kk : Nat} {enc : α → List Value} {v : Value} {xs : List α}, RowP w8 e kk enc v xs → e ≠ 150 → RowP (w8.setCell ⟨u, 5, none⟩ (.slice (some ⟨db, 0, none⟩) 1 c8)) e kk enc v xs := fun hr he => hr.keep k9 fun q hq e => by unfold Only at e; subst e; exact own_type hr hB8 (Ne.symm he) hq
           have hm8 : RowT w8 (.slice (some ⟨mb, 0, none⟩) 1 c3) [tp] := (H4.out.2.1.keep H2.out.2.2.2.2.2 (fun q hq e => by unfold Only at e; subst e; exact own_type H4.out.2.1 H4.out.1 (by decide) hq)).non k28
           have HE := Lib.hid (show Td (w8.setCell ⟨u, 5, none⟩ (.slice (some ⟨db, 0, none⟩) 1 c8)) u q pool mb c3 lb lc db c8 fb gb tp (List.replicate tp.l none) Z from ⟨hB8.set 5 _, st hm8 (by decide), st (H2.out.2.1.non k28) (by decide), st hO8 (by decide), st (H2.out.2.2.1.non k28) (by decide), by simp, st (HZ.out.1.non (HK6.out.non hK8n)) (by decide), HZ.out.2.1⟩)
           have hkz : Keeps Non w (w8.setCell ⟨u, 5, none⟩ (.slice (some ⟨db, 0, none⟩) 1 c8)) := ((H4.out.2.2.1.then H2.out.2.2.2.2.2 fun i hi e => by have := H4.out.2.2.2.2; unfold Only at e; omega).non k28).then k9 fun i hi e => by have := H4.out.2.2.2.2; unfold Only at e; omega
           have hw1s := H4.out.2.2.1.size
           have hbd : w.heap.size ≤ u ∧ w.heap.size ≤ mb ∧ w.heap.size ≤ lb ∧ w.heap.size ≤ db ∧ w.heap.size ≤ fb ∧ w.heap.size ≤ gb := ⟨H4.out.2.2.2.2, H4.out.2.2.2.1, by have := H2.out.2.2.2.2.1; omega, by omega, by have := H2.out.2.2.2.1; omega, by omega⟩
           have HF := Lib.hid (And.intro hbd hkz)
           clear hO8 hK8 hat hK8n hB8 z8 f8 hdb hdw k9 k28 st hm8 hbd hkz HAt HBb
           go_roundw
           case rel => exact ⟨1, by omega, by go_num, fun e => by omega, fun _ => ⟨lb, lc, db, c8, fb, gb, Z, HE.out, HF.out.1, HF.out.2⟩⟩
           case measure => simp [intOf]
   · obtain rfl : j = 1 := by omega
     obtain ⟨lb, lc, db, dc, fb, gb, Z, hT, hb, hk⟩ := h1' rfl
     clear h0' h1'
     go_wp2_with fail
     go_ret
     exact ⟨u, mb, c3, lb, lc, db, dc, fb, gb, Z, rfl, hT, hb, hk⟩
end
end Go.Proofs.YtolknnmaadkgiaaGreatDoor
namespace Go.Proofs.YtolknnmaadkgiaaGreatDoor
set_option maxRecDepth 100000
open Go.RowKit Go.Uc Go.Shelf
def Fz (q m : Nat) (D : Nat → Nat) (V : Nat → Sl) (g : Nat) : Prop := g = q ∨ ∃ i, i < m ∧ (g = D i ∨ g ∈ own (V i).v)
section
variable {w0 w w' : World} {q m n u pool mb mc lb lc db dc fb gb : Nat} {dv : Sl} {D : Nat → Nat} {V : Nat → Sl} {tp : Tp} {L : List (Option Nat)} {Z : List Int}
theorem Dg.free (h : Dg w0 w q dv m n D V) {g t : Nat} {cs : Array Value} (hg : Blk w g t cs) (h1 : t ≠ 139) (h2 : t ≠ 143) (h3 : t ≠ 22) : ¬ Fz q m D V g := by
 obtain ⟨z, hp⟩ := h.pb
 rintro (e | ⟨i, hi, e | e⟩)
 · exact hg.ne hp h1 e
 · exact hg.ne (h.dk i hi) h2 e
 · obtain ⟨P, hP, -⟩ := h.pl i hi
   exact own_type hP hg h3 e
theorem Dg.freeRow (h : Dg w0 w q dv m n D V) {α : Type} {e : TypeId} {kk : Nat} {enc : α → List Value} {v : Value} {xs : List α} (hr : RowP w e kk enc v xs) (h1 : e ≠ 139) (h2 : e ≠ 143) (h3 : e ≠ 22) : ∀ g ∈ own v, ¬ Fz q m D V g := fun g hg => by
 rcases hr.form with ⟨e1, -⟩ | ⟨g', cap, cur, e1, hB, -⟩
 · rw [e1] at hg; exact (List.not_mem_nil hg).elim
 · rw [e1, own_slice, List.mem_singleton] at hg
   subst hg
   exact h.free hB h1 h2 h3
theorem Dg.far (h : Dg w0 w q dv m n D V) {g t : Nat} {cs : Array Value} (hg : Blk w g t cs) (h1 : t ≠ 139) (h2 : t ≠ 143) (h3 : t ≠ 22) (h4 : t ≠ 140) (h5 : w0.heap.size ≤ g) (hk : Keeps (Only g) w w') : Dg w0 w' q dv m n D V :=
 ⟨h.pb.imp fun _ i => i.one hk (i.ne hg (Ne.symm h1)), h.row.keep hk (fun q hq e => by unfold Only at e; subst e; exact own_type h.row hg h4 hq), h.dn, fun i hi => (h.dk i hi).one hk ((h.dk i hi).ne hg (Ne.symm h2)), fun i hi => (h.pl i hi).imp fun _ j => ⟨j.1.keep hk (fun q hq e => by unfold Only at e; subst e; exact own_type j.1 hg h3 hq), j.2⟩, h.ap, h.new, h.keep.then hk fun i hi e => by unfold Only at e; omega⟩
theorem Td.keep {S : Nat → Prop} (h : Td w u q pool mb mc lb lc db dc fb gb tp L Z) (hk : Keeps S w w') (hS : ∀ {g t : Nat} {cs : Array Value}, Blk w g t cs → t = 150 ∨ t = 31 ∨ t = 154 ∨ t = 25 ∨ t = 151 ∨ t = 3 → ¬ S g) : Td w' u q pool mb mc lb lc db dc fb gb tp L Z := by
 have sr : ∀ {α : Type} {e : TypeId} {kk : Nat} {enc : α → List Value} {v : Value} {xs : List α}, RowP w e kk enc v xs → (e = 150 ∨ e = 31 ∨ e = 154 ∨ e = 25 ∨ e = 151 ∨ e = 3) → RowP w' e kk enc v xs := fun hr he => hr.keep hk fun g hg => by
   rcases hr.form with ⟨e1, -⟩ | ⟨g', cap, cur, e1, hB, -⟩
   · rw [e1] at hg; exact (List.not_mem_nil hg).elim
   · rw [e1, own_slice, List.mem_singleton] at hg
     subst hg
     exact hS hB he
 exact ⟨h.blk.keep hk (hS h.blk (by decide)), sr h.md (by decide), sr h.lr (by decide), sr h.dr (by decide), sr h.lf (by decide), h.ll, sr h.dz (by decide), h.zl⟩
theorem Td.setL (h : Td w u q pool mb mc lb lc db dc fb gb tp L Z) {i : Nat} (hi : i < tp.l) (x : Nat) : Td (w.setCell ⟨fb, i, none⟩ (.pointer (some ⟨x, 0, none⟩))) u q pool mb mc lb lc db dc fb gb tp (L.set i (some x)) Z ∧ Keeps (Only fb) w (w.setCell ⟨fb, i, none⟩ (.pointer (some ⟨x, 0, none⟩))) := by
 obtain ⟨cf, hf⟩ := row_blk (s := ⟨some ⟨fb, 0, none⟩, tp.l, tp.l⟩) h.lf rfl
 obtain ⟨r1, k1⟩ := row_set1 (s := ⟨some ⟨fb, 0, none⟩, tp.l, tp.l⟩) encO_len h.lf h.ll.symm rfl (i := i) (by rw [h.ll]; exact hi) (some x) (v := .pointer (some ⟨x, 0, none⟩)) rfl
 have sr : ∀ {α : Type} {e : TypeId} {kk : Nat} {enc : α → List Value} {v : Value} {xs : List α}, RowP w e kk enc v xs → e ≠ 151 → RowP (w.setCell ⟨fb, i, none⟩ (.pointer (some ⟨x, 0, none⟩))) e kk enc v xs := fun hr he => hr.keep k1 fun g hg e => by unfold Only at e; subst e; exact own_type hr hf (Ne.symm he) hg
 exact ⟨⟨h.blk.one k1 (h.blk.ne hf (by decide)), sr h.md (by decide), sr h.lr (by decide), sr h.dr (by decide), r1, by rw [List.length_set]; exact h.ll, sr h.dz (by decide), h.zl⟩, k1⟩
theorem Td.setZ (h : Td w u q pool mb mc lb lc db dc fb gb tp L Z) {i : Nat} (hi : i < tp.l) (x : Int) : Td (w.setCell ⟨gb, i, none⟩ (.int .i64 x)) u q pool mb mc lb lc db dc fb gb tp L (Z.set i x) ∧ Keeps (Only gb) w (w.setCell ⟨gb, i, none⟩ (.int .i64 x)) := by
 obtain ⟨cf, hf⟩ := row_blk (s := ⟨some ⟨gb, 0, none⟩, tp.l, tp.l⟩) h.dz rfl
 obtain ⟨r1, k1⟩ := row_set1 (s := ⟨some ⟨gb, 0, none⟩, tp.l, tp.l⟩) encZ_len h.dz h.zl.symm rfl (i := i) (by rw [h.zl]; exact hi) x (v := .int .i64 x) rfl
 have sr : ∀ {α : Type} {e : TypeId} {kk : Nat} {enc : α → List Value} {v : Value} {xs : List α}, RowP w e kk enc v xs → e ≠ 3 → RowP (w.setCell ⟨gb, i, none⟩ (.int .i64 x)) e kk enc v xs := fun hr he => hr.keep k1 fun g hg e => by unfold Only at e; subst e; exact own_type hr hf (Ne.symm he) hg
 exact ⟨⟨h.blk.one k1 (h.blk.ne hf (by decide)), sr h.md (by decide), sr h.lr (by decide), sr h.dr (by decide), sr h.lf (by decide), h.ll, r1, by rw [List.length_set]; exact h.zl⟩, k1⟩
theorem row_tb {tb tc : Nat} (h : RowT w (.slice (some ⟨tb, 0, none⟩) 1 tc) [tp]) : Tb w tb tp.k tp.l tp.s ∧ 1 ≤ tc := by
 obtain ⟨cs, hB⟩ := row_blk (s := ⟨some ⟨tb, 0, none⟩, 1, tc⟩) h rfl
 obtain ⟨g', cap, em, h1, -, hmc2, -, -⟩ := h.at_ encT_len (i := 0) (by simp)
 injection em with em emn emc
 injection em with em
 injection em with em
 subst em
 have a0 := hmc2 0 (by decide)
 have a1 := hmc2 1 (by decide)
 have a2 := hmc2 2 (by decide)
 rw [show (0 * 3 + 0) = 0 from rfl, hB.cell] at a0
 rw [show (0 * 3 + 1) = 1 from rfl, hB.cell] at a1
 rw [show (0 * 3 + 2) = 2 from rfl, hB.cell] at a2
 refine ⟨⟨cs, hB, a0, a1, a2⟩, ?_⟩
 rcases h.form with ⟨e1, -⟩ | ⟨g, cap', cur, e1, -, h4, -⟩
 · injection e1 with e1 _ _; cases e1
 · injection e1 with _ _ e3
   rw [e3]; exact h4
theorem dg_format (h : Dg w0 w q dv m n D V) {j : Nat} (hj : j < m) (h1 : 324 ≤ n) (h2 : n ≤ 8192) (pool tb tc pl : Nat) (hmd : Md tp.k tp.l) (hpl : pl < tp.l) (hs : tp.s = n) (hT : RowT w (.slice (some ⟨tb, 0, none⟩) 1 tc) [tp]) (hp : pool < 18446744073709551616) :
   Calls Tryz.prog 63 #[.pointer (some ⟨q, 0, none⟩), .int .i64 (j : Int), .agg #[.int .u64 (pool : Int), .slice (some ⟨tb, 0, none⟩) 1 tc, .int .i64 0, .int .i64 (pl : Int)]] w fun e w' => ∃ lf, e = .returned (.tuple #[.pointer (some ⟨lf, 0, none⟩), .int .i64 0]) ∧ Dg w0 w' q dv m n D V ∧ Ld w' lf q j ∧ w.heap.size ≤ lf ∧ Keeps (Fz q m D V) w w' := by
 obtain ⟨Q, e1, e2, e3, e4, hd⟩ := h.dd hj
 obtain ⟨hTb, htc⟩ := row_tb hT
 rw [hs] at hTb
 have hc := format27_one hd h1 h2 pool tb tc tp.k tp.l pl hmd hpl hTb htc hp
 rw [e1, e3] at hc
 refine hc.mono ?_
 rintro e w' ⟨lf, cs, rfl, ⟨hD, hK⟩, h3, h4, h5, h6⟩
 exact ⟨lf, rfl, h.turn hj e1 e2 e4 hD hK, ⟨cs, h4, h5, h6⟩, h3, hK.mono fun g e => by
   rcases e with e | e | e | e
   · exact .inl (e.trans e1)
   · exact .inr ⟨j, hj, .inl (e.trans e2)⟩
   · exact .inr ⟨j, hj, .inr e⟩
   · exact (List.not_mem_nil e).elim⟩
set_option maxHeartbeats 1000000 in
theorem label64_any (A : Option Addr) (nt c : Nat) (top place : Nat) (h0 : w.cell? ⟨u, 1, none⟩ = some (.int .u64 (pool : Int))) (h1 : w.cell? ⟨u, 2, none⟩ = some (.slice A nt c)) :
   Calls Tryz.prog 64 #[.pointer (some ⟨u, 0, none⟩), .int .i64 (top : Int), .int .i64 (place : Int)] w fun e w' => e = .returned (.agg #[.int .u64 (pool : Int), .slice A nt c, .int .i64 (top : Int), .int .i64 (place : Int)]) ∧ Keeps Non w w' := by
 have hB := Blk.new w 114 #[.int .u64 0, .slice none 0 0, .int .i64 0, .int .i64 0]
 have ka := (Keeps.refl Non w).alloc (.cells #[.int .u64 0, .slice none 0 0, .int .i64 0, .int .i64 0] 114)
 have y0 := ka.cell h0 (by simp [Non])
 have y1 := ka.cell h1 (by simp [Non])
 clear h0 h1
 go_enter Tryz.func64, Tryz.ntmps64
 go_upto_region 1 with fail
 obtain ⟨w1, hw1⟩ : ∃ V : World, V = w.alloc (.cells #[.int .u64 0, .slice none 0 0, .int .i64 0, .int .i64 0] 114) := ⟨_, rfl⟩
 rw [← hw1] at hB ka y0 y1 ⊢
 clear hw1
 obtain ⟨q, hq⟩ : ∃ z, z = w.heap.size := ⟨_, rfl⟩
 rw [← hq] at hB ⊢
 have HQ := Lib.hid hq
 clear hq
 have hB1 := hB.drew
 have kd := ka.drew
 go_still_tail 11, (by kernel_rfl)
 change wpList _ _ _ _ _ w1.drew
 obtain ⟨w2, hw2⟩ : ∃ V : World, V = w1.drew := ⟨_, rfl⟩
 rw [← hw2] at hB1 kd ⊢
 clear hw2 hB ka
 go_wp2_with ((with_reducible show wpList _ _ _ ({ dst := none, op := Op.store 114 _ _, type := _, pos := _, after := _, guard := _ } :: _) _ _); go_must (refine wpList_store_blk rfl 114 (.tmp 6) (.tmp 17) rfl q #[.int .u64 (pool : Int), .slice A nt c, .int .i64 (top : Int), .int .i64 (place : Int)] rfl rfl 114 _ hB1 (by kernel_rfl) rfl (by simp [Value.oneCell']) ?_); intro w7 hB7 hK7)
 have hqw := HQ.out
 refine bodyPost_ret (results_cell_blk (ty := 114) rfl _ q 114 _ _ rfl hB7 Tryz.underlying114 rfl (by kernel_rfl)) rfl ⟨rfl, kd.then hK7 fun i hi e => by unfold Only at e; omega⟩
end
end Go.Proofs.YtolknnmaadkgiaaGreatDoor
