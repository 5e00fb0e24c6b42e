/- The log written: bytes that lie below all. LogWrite of any bytes anywhere; what an Up leaves of it. The log behind an Up, told by one disk. -/
import Derived.Test.YtolknnmaadkgiaaGreatDoorG27
import Derived.Test.YtolknnmaadkgiaaGreatDoorG39
set_option linter.unusedVariables false
set_option linter.unusedSimpArgs false
namespace Go.Proofs.YtolknnmaadkgiaaGreatDoor
set_option maxRecDepth 100000
open Go.RowKit Go.Uc Go.Shelf
theorem keeps_tight {S : Nat → Prop} {w0 w w' : World} (h0 : Keeps Non w0 w) (hk : Keeps S w w') (h1 : Keeps Non w0 w') : Keeps (fun g => S g ∧ w0.heap.size ≤ g) w w' :=
 ⟨hk.os, hk.tape, hk.output, hk.size, fun i hi hn => by
   by_cases c : w0.heap.size ≤ i
   · exact hk.block i hi fun e => hn ⟨e, c⟩
   · exact (h1.block i (by omega) id).trans (h0.block i (by omega) id).symm⟩
section
variable {w0 w w' : World} {p m n k pool sz lg : Nat} {tp : Tp} {B : TB} {dv : Sl} {K : Nat → Kb} {T : St} {L Dk : List (Option Nat)} {lk : List Lk} {X : Nat → Lb} {F : Nat → Lr}
set_option maxHeartbeats 16000000 in
theorem logWrite_low (h : Tk w k pool tp B L Dk lk sz lg) (hG : Gs w0 w p dv m n K T) (hL : Lvs w0 w m K X F L) (hall : ∀ k, k < L.length → ∃ b, L[k]? = some (some b)) (h0 : 0 < L.length) (hn : 324 ≤ n) (ho : T.P.on) (hw : T.P.waits.length ≤ 100000) (hlg1 : 1 ≤ lg) (hlg2 : lg ≤ 1000000) (hk0 : w0.heap.size ≤ k)
   (at_ : Nat) (b : List UInt8) (hb : at_ + b.length ≤ 22528) (A : Option Addr) (c : Nat) (hA : At w A b) (hc : b.length ≤ c) (hlow : 0 < b.length → ∀ ad, A = some ad → ad.block < w0.heap.size) :
   Calls Tryz.prog 8 #[.pointer (some ⟨k, 0, none⟩), .int .i64 (at_ : Int), .slice A b.length c] w fun e w' => ∃ v W lg', e = .returned (.int .i64 0) ∧ Tk w' k pool tp B L Dk lk sz lg' ∧ lg ≤ lg' ∧ lg' ≤ lg + b.length ∧ Gs w0 w' p dv m n K (T.ov (ixs F L.length) v W) ∧ Lw K (ixs F L.length) v W ∧ W.length ≤ 5 * b.length ∧ logD (T.ov (ixs F L.length) v W) F (pres L L.length) = mid (logD T F (pres L L.length)) b at_ b.length ∧ Keeps (fun g => Fg w p m K g ∨ g = k) w w' := by
 have HI : Hid (Calls Tryz.prog 33 #[.int .i64 (at_ : Int), .int .i64 (b.length : Int)] w fun e w' => e = .returned (.bool true) ∧ w' = w) := Lib.hid (by
   have := inLog_any (at_ : Int) (b.length : Int) (by omega) (by omega) w
   rw [decide_eq_true (by omega)] at this
   exact this)
 have H0 : Hid (LwI w0 w w k pool sz lg p m n tp B dv K T L Dk lk X F at_ b A 0 (fun _ => none) [] lg A) := Lib.hid ⟨h, Nat.le_refl _, Nat.le_refl _, by rw [St.ov_none]; exact hG, hL, ⟨fun q hq => absurd rfl hq, fun y hy => (List.not_mem_nil hy).elim⟩, Nat.le_refl _, fun _ _ => rfl, .inl rfl, fun q hq => absurd rfl hq, by rw [St.ov_none, mid_zero], hA, fun ad e => ⟨ad, e, rfl⟩, Keeps.refl _ _⟩
 have HDl := Lib.hid (logD_len hG hL hn)
 have HF := Lib.hid hlow
 have HAll := Lib.hid hall
 have hfew := h.mt.few
 have HP := Lib.hid (fun j (hj : j < L.length) => (pres_all hall L.length (Nat.le_refl _)).2 j hj)
 have HPl := Lib.hid (pres_all hall L.length (Nat.le_refl _)).1
 have HInj := Lib.hid hL.inj
 clear h hG hL hA hlow hall
 go_enter Tryz.func8, Tryz.ntmps8
 go_upto_region 3 with (go_at_call 33; go_must (refine HI.out.mono ?_); rintro e w3 ⟨rfl, hw3⟩; subst w3)
 go_loopw [1, 2] (fun t1 t2 wr => ∃ (l : Nat) (v : Nat → Option (List UInt8)) (W : List Wt) (lg' : Nat) (A' : Option Addr) (bl c' : Nat), l + bl = b.length ∧ t1 = .int .i64 ((at_ + l : Nat) : Int) ∧ t2 = .slice A' bl c' ∧ bl ≤ c' ∧ LwI w0 w wr k pool sz lg p m n tp B dv K T L Dk lk X F at_ b A l v W lg' A') (fun t1 _ _ => at_ + b.length - (intOf t1).toNat)
 case atStart => exact ⟨0, _, _, _, _, _, _, Nat.zero_add _, rfl, rfl, hc, H0.out⟩
 case round =>
   obtain ⟨l, v, W, lg', A', bl, c', hlb, rfl, rfl, hbc, hI⟩ := hrel
   obtain ⟨wx, rfl⟩ : ∃ V : World, V = wr := ⟨_, rfl⟩
   have HI' := Lib.hid hI
   clear hI
   by_cases hlt : 0 < bl
   · obtain ⟨gb, ob, rfl, -⟩ := HI'.out.at_.at_ (k := 0) (by rw [List.length_drop]; omega)
     obtain ⟨x, hx⟩ : ∃ x, x = at_ + l := ⟨_, rfl⟩
     rw [← hx]
     obtain ⟨q, hq⟩ : ∃ q, q = x / 88 := ⟨_, rfl⟩
     obtain ⟨r, hr⟩ : ∃ r, r = x % 88 := ⟨_, rfl⟩
     have hq1 : Int.tdiv (x : Int) 88 = (q : Int) := by rw [hq]; rfl
     have hr1 : Int.tmod (x : Int) 88 = (r : Int) := by rw [hr]; rfl
     have hq2 : (x : Int) / 88 = (q : Int) := by omega
     have hr2 : (x : Int) % 88 = (r : Int) := by omega
     have hq5 : q < 256 := by omega
     have hr5 : r < 88 := by omega
     have hr6 : (r : Int) ≤ 88 := by omega
     have HX := Lib.hid (show x = at_ + l ∧ x = 88 * q + r from ⟨hx, by omega⟩)
     have hvq : Hid (v (18 + q) = none) := Lib.hid (by
       rcases HI'.out.free with e | e
       · rw [hq, hx]; exact e
       · exact absurd (show l < b.length by omega) e)
     have HLx := Lib.hid (logSector_tk HI'.out.tk HI'.out.gs HI'.out.lv h0 hn ho.2 q hq5)
     obtain ⟨s, hs⟩ : ∃ s, s = (lsec (T.ov (ixs F L.length) v W) F q (pres L L.length)).2 := ⟨_, rfl⟩
     have hsl : s.length = 88 := by rw [hs]; exact lsec_ok HI'.out.gs HI'.out.lv hn hq5
     rw [← hs] at HLx
     have HS := Lib.hid hs
     clear hx hq hr hs
     obtain ⟨t, ht⟩ : ∃ t, t = min bl (88 - r) := ⟨_, rfl⟩
     go_upto_region 6 with (go_at_call 34; go_must (refine HLx.out.mono ?_); rintro e w6 ⟨sb, rfl, hb6, hbl6, hK6⟩)
     have hcs : ((b.drop l).take t).length = t := by rw [List.length_take, List.length_drop]; omega
     have hA6 : At w6 (some ⟨gb, ob, none⟩) ((b.drop l).take t) := (HI'.out.at_.non hK6).take t
     obtain ⟨s2, hs2⟩ : ∃ s2, s2 = s.take r ++ ((b.drop l).take t ++ s.drop (r + ((b.drop l).take t).length)) := ⟨_, rfl⟩
     have HN := Lib.hid (show _ ∧ _ ∧ _ ∧ _ ∧ _ ∧ _ from ⟨hcs, hA6, hs2, ht, hsl, hbl6⟩)
     have hmn : Hid (((b.drop l).take t).length = Nat.min bl (88 - r)) := Lib.hid (by rw [hcs, ht])
     have hft : Hid (r + ((b.drop l).take t).length ≤ s.length) := Lib.hid (by rw [hcs, hsl]; omega)
     have HK6 := Lib.hid hK6
     have ht88 : (t : Int) ≤ 88 := by omega
     have htb : (t : Int) ≤ (bl : Int) := by omega
     have ht0 : 0 < t := by omega
     clear hcs hA6 hs2 hK6 ht hsl HLx hbl6
     go_upto_region 7 with ((with_reducible show wpList _ _ _ ({ dst := some 31, op := _, type := _, pos := _, after := _, guard := _ } :: _) _ _); go_must (refine wpList_copy_bytes rfl (.tmp 29) (.tmp 30) 22 22 rfl 5 Tryz.underlying22 infoS5 (some ⟨sb, r, none⟩) (some ⟨gb, ob, none⟩) (88 - r) (88 - r) bl c' rfl rfl sb r s 5 hb6 ((b.drop l).take t) hmn.out (fun _ => rfl) HN.out.2.1 hft.out ?_); intro w7 hB7 hK7; rw [← HN.out.2.2.1] at hB7; rw [HN.out.1])
     clear hmn hft
     have hsw := HN.out.2.2.2.2.2
     have hk7 : Keeps Non wx w7 := HK6.out.then hK7 fun i hi e => by unfold Only at e; omega
     have HT7 := Lib.hid (show _ ∧ _ ∧ _ from ⟨HI'.out.tk.non hk7, HI'.out.gs.non hk7, HI'.out.lv.non hk7⟩)
     have hsf : ¬ Fu p m K sb := HI'.out.gs.new hsw
     have HK7 := Lib.hid hk7
     have HSB := Lib.hid (And.intro hB7 hsf)
     have hs2l : s2.length = 88 := by
       have e1 := HN.out.2.2.1
       have e2 := HN.out.1
       have e3 := HN.out.2.2.2.2.1
       have e4 := HN.out.2.2.2.1
       rw [e1, List.length_append, List.length_append, List.length_take, List.length_drop, e3]
       omega
     obtain ⟨TO, hTO⟩ : ∃ TO, TO = T.ov (ixs F L.length) v W := ⟨_, rfl⟩
     have HTO := Lib.hid hTO
     have HW : Hid (∀ (V : World) (j : Nat) (W' : List Wt) (bj : Nat), j < L.length → L[j]? = some (some bj) → Gs w0 V p dv m n K (TO.all (ixs F j) (fun f => upd f (18 + q) (logB lg' s2)) W') → Lvs w0 V m K X F L → W'.length ≤ 5 → At V (some ⟨sb, 0, none⟩) s2 →
         Calls Tryz.prog 36 #[.pointer (some ⟨bj, 0, none⟩), .int .i64 (q : Int), .int .u64 (lg' : Int), .slice (some ⟨sb, 0, none⟩) 88 88] V fun e w' => ∃ W2, e = .returned (.int .i64 0) ∧ Gs w0 w' p dv m n K (TO.all (ixs F (j + 1)) (fun f => upd f (18 + q) (logB lg' s2)) (W' ++ W2)) ∧ W2.length = 1 ∧ (∀ y ∈ W2, ∃ i ∈ [(F j).ix], y.d = (K i).d ∧ y.at_ = 18 + q ∧ y.b = logB lg' s2) ∧ Keeps (Fg V p m K) V w') := Lib.hid (fun V j W' bj hj hLj hGV hLV hWl hAV => by
       obtain ⟨e1, e2, e3⟩ := hLV.lf j bj hLj
       subst e1
       have hnot : (F j).ix ∉ ixs F j := fun hm => by
         obtain ⟨i, hi, e⟩ := mem_ixs.1 hm
         obtain ⟨bi, ei⟩ := HAll.out i (by omega)
         exact HInj.out i j bi _ ei hLj (by omega) e
       have hwl := HI'.out.wl
       have hl2 := HI'.out.l2
       have hl1 := HI'.out.l1
       have hon : (TO.all (ixs F j) (fun f => upd f (18 + q) (logB lg' s2)) W').P.on := by rw [hTO]; exact ho
       have hws : (TO.all (ixs F j) (fun f => upd f (18 + q) (logB lg' s2)) W').P.waits.length ≤ 1000000000 := by
         rw [hTO]
         show ((T.P.waits ++ W) ++ W').length ≤ _
         rw [List.length_append, List.length_append]
         omega
       refine (gs_logWrite hGV e2 e3 hn hon hws q lg' hq5 (by omega) (by omega) s2 hs2l (some ⟨sb, 0, none⟩) 88 hAV).mono ?_
       rintro e w' ⟨W2, rfl, j1, j2, j3, j5⟩
       refine ⟨W2, rfl, ?_, j2, fun y hy => ⟨_, List.mem_singleton.2 rfl, j3 y hy⟩, j5⟩
       rw [ixs_succ, ← St.all_snoc TO (ixs F j) _ W' W2 _ hnot]
       exact j1)
     have HA7 : Hid (Calls Tryz.prog 35 #[.pointer (some ⟨k, 0, none⟩)] w7 fun e w' => ∃ (A : Option Addr) (c : Nat), e = .returned (.slice A L.length c) ∧ RowP w' 93 1 encQ (.slice A L.length c) (pres L L.length) ∧ Keeps Non w7 w') := Lib.hid (by
       have := all_tk HT7.out.1 h0
       rw [HPl.out] at this
       exact this)
     have HG7 : Hid (Gs w0 w7 p dv m n K (TO.all (ixs F 0) (fun f => upd f (18 + q) (logB lg' s2)) [])) := Lib.hid (by show Gs w0 w7 p dv m n K (TO.all [] _ []); rw [St.all_nil, hTO]; exact HT7.out.2.1)
     obtain ⟨U, hU⟩ : ∃ U, U = (fun f : Nat → List UInt8 => upd f (18 + q) (logB lg' s2)) := ⟨_, rfl⟩
     rw [← hU] at HW HG7
     have HU := Lib.hid hU
     clear hTO hB7 hK7 hsf hk7 hsw hb6 hU
     go_upto_region 9 with (go_at_call 35; go_must (refine HA7.out.mono ?_); rintro e w8 ⟨gA, gc, rfl, hg8, hK8⟩)
     obtain ⟨g, hg⟩ := row_headAt (s := ⟨gA, L.length, gc⟩) encQ_len hg8 (by rw [HPl.out]; exact h0)
     have hg' : gA = some ⟨g, 0, none⟩ := hg
     subst hg'
     have HT8 := Lib.hid (show _ ∧ _ ∧ _ from ⟨HT7.out.1.non hK8, HT7.out.2.1.non hK8, HT7.out.2.2.non hK8⟩)
     have HCl : Hid (∀ V, Keeps (Fg w8 p m K) w8 V → ∀ j (hj : j < L.length), ∃ bj, L[j]? = some (some bj) ∧ V.cell? ⟨g, j, none⟩ = some (.pointer (some ⟨bj, 0, none⟩))) := Lib.hid (fun V hV j hj => by
       obtain ⟨bj, e1, e2⟩ := HP.out j hj
       obtain ⟨cg, hgb⟩ := row_blk (s := ⟨some ⟨g, 0, none⟩, L.length, gc⟩) hg8 rfl
       exact ⟨bj, e2, hV.cell (row_cellAt (s := ⟨some ⟨g, 0, none⟩, L.length, gc⟩) encQ_len hg8 rfl e1) (HT8.out.2.1.free hgb (by decide) (by decide) (by decide))⟩)
     have HS8 : Hid (∀ V, Keeps (Fg w8 p m K) w8 V → At V (some ⟨sb, 0, none⟩) s2) := Lib.hid (fun V hV => At.blk ((HSB.out.1.non hK8).keep hV (HT8.out.2.1.freeB (HSB.out.1.non hK8) HSB.out.2)))
     have HK8 := Lib.hid (HK7.out.non hK8)
     have HG8 := Lib.hid (HG7.out.non hK8)
     have HC5 : Hid (∀ V, Keeps (Fg w8 p m K) w8 V → V.cell? ⟨k, 5, none⟩ = some (.int .u64 (lg' : Int))) := Lib.hid (fun V hV => (HT8.out.1.fg HT8.out.2.1 hV).blk.cell 5)
     have HL8 := Lib.hid (fun V (hV : Keeps (Fg w8 p m K) w8 V) => HT8.out.2.2.fg HT8.out.2.1 hV)
     clear hg hg8 hK8 HA7 HG7
     go_loopw [10, 35] (fun t10 i wr => ∃ (j : Nat) (e : Int) (W' : List Wt), j ≤ L.length ∧ i = .int .i64 (j : Int) ∧ t10 = .int .i64 e ∧ (0 < j → e = 0) ∧ Gs w0 wr p dv m n K (TO.all (ixs F j) U W') ∧ W'.length = j ∧ (∀ y ∈ W', ∃ i ∈ ixs F j, y.d = (K i).d ∧ y.at_ = 18 + q ∧ y.b = logB lg' s2) ∧ Keeps (Fg w8 p m K) w8 wr) (fun _ i _ => L.length - (intOf i).toNat)
     case atStart => exact ⟨0, 4, [], Nat.zero_le _, rfl, rfl, fun e => absurd e (Nat.lt_irrefl _), HG8.out, rfl, fun y hy => (List.not_mem_nil hy).elim, Keeps.refl _ _⟩
     case round =>
       obtain ⟨j, e, W', hj, rfl, rfl, he0, hGj, hWl, hWm, hKj⟩ := hrel
       obtain ⟨wy, rfl⟩ : ∃ V : World, V = wr := ⟨_, rfl⟩
       by_cases hjl : j < L.length
       · have hji : (j : Int) < (L.length : Int) := by omega
         obtain ⟨bj, ej, y0⟩ := HCl.out wy hKj j hjl
         have y5 := HC5.out wy hKj
         have HWy := Lib.hid (HW.out wy j W' bj hjl ej hGj (HL8.out wy hKj) (by omega) (HS8.out wy hKj))
         have HJ := Lib.hid (show _ ∧ _ ∧ _ from ⟨hWl, hWm, hKj⟩)
         clear ej hGj hWl hWm hKj he0
         go_wp2_with (go_at_call 36; go_must (refine HWy.out.mono ?_); rintro e w9 ⟨W2, rfl, hG9, hW9, hm9, hK9⟩)
         have HR := Lib.hid (show Gs w0 w9 p dv m n K (TO.all (ixs F (j + 1)) U (W' ++ W2)) ∧ (W' ++ W2).length = j + 1 ∧ (∀ y ∈ W' ++ W2, ∃ i ∈ ixs F (j + 1), y.d = (K i).d ∧ y.at_ = 18 + q ∧ y.b = logB lg' s2) ∧ Keeps (Fg w8 p m K) w8 w9 from ⟨hG9, by rw [List.length_append, HJ.out.1, hW9], fun y hy => by
           rw [ixs_succ]
           rcases List.mem_append.1 hy with hy | hy
           · obtain ⟨i, hi, e⟩ := HJ.out.2.1 y hy
             exact ⟨i, List.mem_append_left _ hi, e⟩
           · obtain ⟨i, hi, e⟩ := hm9 y hy
             exact ⟨i, List.mem_append_right _ hi, e⟩, fg_trans HJ.out.2.2 hK9⟩)
         clear hG9 hW9 hm9 hK9 HWy HJ
         go_roundw
         case rel => exact ⟨j + 1, 0, W' ++ W2, by omega, by go_num, rfl, fun _ => rfl, HR.out⟩
         case measure => simp [intOf]; omega
       · obtain rfl : j = L.length := by omega
         obtain rfl : e = 0 := he0 h0
         clear he0
         have y5 := HC5.out wy hKj
         have hblk := (HT8.out.1.fg HT8.out.2.1 hKj).blk
         have f5 := hblk.frozen 5
         obtain ⟨hT10, hK10⟩ := (HT8.out.1.fg HT8.out.2.1 hKj).setLog (lg' + 1)
         have hl1 := HI'.out.l1
         have hl2 := HI'.out.l2
         have hlw : IntKind.u64.wrap ((lg' : Int) + 1) = ((lg' + 1 : Nat) : Int) := by rw [IntKind.wrap_u64]; omega
         have hxw : IntKind.i64.wrap ((x : Int) + (t : Int)) = ((x + t : Nat) : Int) := by have := HX.out.1; rw [IntKind.wrap_i64]; omega
         have HE := Lib.hid (show _ ∧ _ ∧ _ ∧ _ from ⟨hGj, hWl, hWm, hKj⟩)
         have HT := Lib.hid (show _ ∧ _ ∧ _ from ⟨hT10, hK10, hblk⟩)
         clear hGj hWl hWm hKj hT10 hK10 hblk hl1 hl2
         go_upto_region 20 with fail
         have hT10 : Tk (wy.setCell ⟨k, 5, none⟩ (.int .u64 ((lg' : Int) + 1))) k pool tp B L Dk lk sz (lg' + 1) := HT.out.1
         have hK10 : Keeps (Only k) wy (wy.setCell ⟨k, 5, none⟩ (.int .u64 ((lg' : Int) + 1))) := HT.out.2.1
         obtain ⟨w10, hw10⟩ : ∃ V : World, V = wy.setCell ⟨k, 5, none⟩ (.int .u64 ((lg' : Int) + 1)) := ⟨_, rfl⟩
         rw [← hw10] at hT10 hK10 ⊢
         have HT10 := Lib.hid (And.intro hT10 hK10)
         clear hw10 hT10 hK10 y5 f5
         have hbi : (t : Int) ≤ (c' : Int) := by omega
         go_quiet (fail)
         obtain ⟨w11, hw11⟩ : ∃ V : World, V = w10.drewN nq := ⟨_, rfl⟩
         rw [← hw11]
         have HK11 : Hid (Keeps Non w10 w11) := Lib.hid (by rw [hw11]; exact (Keeps.refl Non w10).drewN nq)
         clear hw11
         have HFin : Hid (∀ A2, (A2 = some ⟨gb, ob + t, none⟩ ∨ (A2 = some ⟨gb, ob, none⟩ ∧ t = bl)) → LwI w0 w w11 k pool sz lg p m n tp B dv K T L Dk lk X F at_ b A (l + t) (fun q' => if q' = 18 + q then some (logB lg' s2) else v q') (W ++ W') (lg' + 1) A2) := Lib.hid (fun A2 hA2 => by
           have hI := HI'.out
           have hX1 := HX.out.1
           have hX2 := HX.out.2
           have e4 := HN.out.2.2.2.1
           have hl1 := hI.l1
           have hl2 := hI.l2
           have hgs : Gs w0 wy p dv m n K (T.ov (ixs F L.length) (fun q' => if q' = 18 + q then some (logB lg' s2) else v q') (W ++ W')) := by
             rw [← St.ov_step, ← HTO.out, ← HU.out]
             exact HE.out.1
           have kA : ∀ ad, some (⟨gb, ob, none⟩ : Addr) = some ad → ad.block < w0.heap.size := fun ad e => by
             obtain ⟨ad0, e0, e1⟩ := hI.al ad e
             rw [e1]
             exact HF.out (by omega) ad0 e0
           have hk8y : Keeps (Fg wx p m K) wx wy := fg_trans (fg_non HK8.out) HE.out.2.2.2
           have hk11 : Keeps (fun g => Fg wx p m K g ∨ g = k) wx w11 := ((hk8y.mono fun g e => Or.inl e).trans (HT10.out.2.mono fun g e => Or.inr e)).non HK11.out
           refine ⟨HT10.out.1.non HK11.out, by omega, by omega, ?_, ?_, ?_, ?_, fun e => by omega, ?_, fun q' hq' => ?_, ?_, ?_, fun ad e => ?_, ?_⟩
           · exact (hgs.far HT.out.2.2 (by decide) (by decide) (by decide) (by decide) (by decide) hk0 HT10.out.2).non HK11.out
           · exact ((HL8.out wy HE.out.2.2.2).far HT.out.2.2 (by decide) (by decide) HT10.out.2).non HK11.out
           · exact hI.lw.step q hq5 hvq.out _ fun y hy => HE.out.2.2.1 y hy
           · have := hI.wl
             rw [List.length_append, HE.out.2.1]
             omega
           · by_cases hbr : bl ≤ 88 - r
             · exact .inr (.inl (by omega))
             · exact .inr (.inr (by omega))
           · by_cases e : q' = 18 + q
             · omega
             · have := hI.vr q' (by simpa [e] using hq')
               omega
           · have hps : pres L L.length ≠ [] := fun e => by have := HPl.out; rw [e] at this; simp at this; omega
             have hst := logD_step T F (ixs F L.length) v W (W ++ W') (pres L L.length) hps (fun x hx => by
               obtain ⟨j, hj⟩ := List.getElem?_of_mem hx
               exact mem_ixs.2 ⟨x.1, (pres_at hj).1, rfl⟩) (fun a ha => lsec_ok hI.gs hI.lv hn ha) q lg' r ((b.drop l).take t) hq5 (by omega) (by omega) (by rw [HN.out.1]; omega) s2 (by rw [← HS.out]; exact HN.out.2.2.1)
             rw [hst, hI.D, HN.out.1, ← hX2, hX1]
             exact mid_step _ b at_ l t (by omega) (by rw [HDl.out]; exact hb)
           · have h1 := hI.at_.keep (keeps_tight hI.gs.keep hk11 ((hgs.far HT.out.2.2 (by decide) (by decide) (by decide) (by decide) (by decide) hk0 HT10.out.2).non HK11.out).keep) (fun ad e h => by
               have := kA ad e
               have := h.2
               omega)
             have h2 := At.dropx h1 rfl t (b.drop l).length
             rw [List.drop_drop, List.take_of_length_le (by rw [List.length_drop, List.length_drop]; omega)] at h2
             rcases hA2 with rfl | ⟨rfl, e⟩
             · exact h2
             · rw [List.drop_of_length_le (by omega)]
               exact At.nil _ _
           · rcases hA2 with rfl | ⟨rfl, -⟩
             · injection e with e
               subst e
               exact hI.al ⟨gb, ob, none⟩ rfl
             · injection e with e
               subst e
               exact hI.al ⟨gb, ob, none⟩ rfl
           · refine hI.kp.then hk11 fun i hi e => ?_
             by_cases c1 : i = k
             · exact .inr c1
             · by_cases c2 : Fg w p m K i
               · exact .inl c2
               · rcases e with e | e
                 · exact absurd e (fg_not' hI.kp hi c2 c1)
                 · exact .inr e)
         have HX11 := Lib.hid (show x + t = at_ + (l + t) by rw [HX.out.1]; omega)
         have HM := Lib.hid (show x < at_ + b.length ∧ x + t ≤ 22528 ∧ l + t + (bl - t) = b.length ∧ bl - t ≤ c' - t by have := HX.out.1; omega)
         have hxi : (x : Int) + (t : Int) ≤ 22528 := by have := HM.out; omega
         clear HE HT HT10 HK11
         go_wp2_with fail
         go_roundw
         case rel => exact ⟨l + t, _, _, _, _, bl - t, c' - t, HM.out.2.2.1, by rw [← HX11.out]; go_num, rfl, HM.out.2.2.2, HFin.out _ (by by_cases e : c' = t; (· right; rw [if_pos e]; exact ⟨rfl, by omega⟩); (· left; rw [if_neg e]))⟩
         case measure => have := HM.out; simp [intOf]; omega
   · obtain rfl : bl = 0 := by omega
     obtain rfl : l = b.length := by omega
     go_wp2_with fail
     go_ret
     exact ⟨v, W, lg', rfl, HI'.out.tk, HI'.out.l1, HI'.out.l2, HI'.out.gs, HI'.out.lw, HI'.out.wl, HI'.out.D, HI'.out.kp⟩
end
end Go.Proofs.YtolknnmaadkgiaaGreatDoor
namespace Go.Proofs.YtolknnmaadkgiaaGreatDoor
set_option maxRecDepth 100000
open Go.RowKit Go.Uc Go.Shelf
def InL (at_ : Int) (m : Nat) : Prop := 0 ≤ at_ ∧ at_ ≤ 22528 ∧ (m : Int) ≤ 22528 - at_
instance (at_ : Int) (m : Nat) : Decidable (InL at_ m) := by unfold InL; exact inferInstance
section
variable {w0 wr w' : World} {pool x p gd gc k q u lg : Nat} {tp : Tp} {dv : Sl} {K : Nat → Kb} {B : TB} {L Dk : List (Option Nat)} {F : Nat → Lr} {T T' : St}
set_option maxHeartbeats 4000000 in
theorem logWrite_no {v0 : Value} (A : Option Addr) (n c : Nat) (at_ : Int) (h1 : -9223372036854775808 ≤ at_) (h2 : at_ ≤ 9223372036854775807) (hn : ¬ InL at_ n) : Calls Tryz.prog 8 #[v0, .int .i64 at_, .slice A n c] wr fun e w' => e = .returned (.int .i64 1) ∧ w' = wr := by
 have HI : Hid (Calls Tryz.prog 33 #[.int .i64 at_, .int .i64 (n : Int)] wr fun e w' => e = .returned (.bool false) ∧ w' = wr) := Lib.hid (by
   have := inLog_any at_ (n : Int) h1 h2 wr
   rw [decide_eq_false (fun h => hn ⟨h.1, h.2.2.1, h.2.2.2⟩)] at this
   exact this)
 clear hn
 go_enter Tryz.func8, Tryz.ntmps8
 go_wp2_with (go_at_call 33; go_must (refine HI.out.mono ?_); rintro e w3 ⟨rfl, hw3⟩; subst w3)
 go_ret
 exact ⟨rfl, rfl⟩
theorem ru_logAny (h : Ru w0 wr pool tp x p gd gc dv K k B L Dk F q u T lg) (ho : T.P.on) (hw : T.P.waits.length ≤ 100000) (hlg1 : 1 ≤ lg) (hlg2 : lg ≤ 1000000)
   (at_ : Int) (h1 : -9223372036854775808 ≤ at_) (h2 : at_ ≤ 9223372036854775807) (b : List UInt8) (A : Option Addr) (c : Nat) (hA : At w0 A b) (hc : b.length ≤ c) :
   Calls Tryz.prog 8 #[.pointer (some ⟨k, 0, none⟩), .int .i64 at_, .slice A b.length c] wr fun e w' => ∃ v W lg', e = .returned (.int .i64 (if InL at_ b.length then 0 else 1)) ∧ Ru w0 w' pool tp x p gd gc dv K k B L Dk F q u (T.ov (Proofs.YtolknnmaadkgiaaGreatDoor.ixs F tp.l) v W) lg' ∧ lg ≤ lg' ∧ lg' ≤ lg + 22528 ∧ Lw K (Proofs.YtolknnmaadkgiaaGreatDoor.ixs F tp.l) v W ∧ W.length ≤ 112640 ∧ (InL at_ b.length → logD (T.ov (Proofs.YtolknnmaadkgiaaGreatDoor.ixs F tp.l) v W) F (Proofs.YtolknnmaadkgiaaGreatDoor.pres L L.length) = mid (logD T F (Proofs.YtolknnmaadkgiaaGreatDoor.pres L L.length)) b at_.toNat b.length) ∧ (¬ InL at_ b.length → v = fun _ => none) ∧ Keeps (fun g => Fg wr p tp.l K g ∨ g = k) wr w' := by
 have hl := h.l2
 have hll := h.ll
 by_cases hr : InL at_ b.length
 · obtain ⟨r1, r2, r3⟩ := hr
   have hat : ((at_.toNat : Nat) : Int) = at_ := Int.toNat_of_nonneg r1
   have hcl := logWrite_low h.tk h.gs h.lv h.all (by omega) (by decide) ho hw hlg1 hlg2 h.nk at_.toNat b (by omega) A c (hA.non h.gs.keep) hc (fun h0 ad e => by
     obtain ⟨ad', e', hlt⟩ := hA.lt h0
     rw [e] at e'
     injection e' with e'
     rw [e']
     exact hlt)
   rw [hll, hat] at hcl
   refine hcl.mono ?_
   rintro e w' ⟨v, W, lg', rfl, hT, g1, g2, hG, hW, hWl, hD, hK⟩
   refine ⟨v, W, lg', by rw [if_pos ⟨r1, r2, r3⟩], h.fgk hK hG hT, g1, by omega, hW, by omega, fun _ => ?_, fun hn => absurd ⟨r1, r2, r3⟩ hn, hK⟩
   rw [hll]
   exact hD
 · refine (logWrite_no A b.length c at_ h1 h2 hr).mono ?_
   rintro e w' ⟨rfl, rfl⟩
   refine ⟨fun _ => none, [], lg, by rw [if_neg hr], ?_, Nat.le_refl _, by omega, ⟨fun q hq => absurd rfl hq, fun y hy => (List.not_mem_nil hy).elim⟩, by decide, fun h => absurd h hr, fun _ => rfl, Keeps.refl _ _⟩
   rw [St.ov_none]
   exact h
end
theorem cat_at {f : Nat → List UInt8} : ∀ (N a n : Nat), (∀ q, a ≤ q → q < a + N → (f q).length = 88) → n < N → ((cat f a N).drop (88 * n)).take 88 = f (a + n)
 | 0, _, _, _, h => absurd h (by omega)
 | N + 1, a, n, hf, hn => by
   rw [cat]
   match n with
   | 0 =>
     rw [Nat.mul_zero, List.drop_zero, List.take_append_of_le_length (by rw [hf a (Nat.le_refl _) (by omega)]; exact Nat.le_refl _), List.take_of_length_le (by rw [hf a (Nat.le_refl _) (by omega)]; exact Nat.le_refl _), Nat.add_zero]
   | n + 1 =>
     have h1 : (f a ++ cat f (a + 1) N).drop (88 * (n + 1)) = (cat f (a + 1) N).drop (88 * n) := by
       rw [show 88 * (n + 1) = 88 + 88 * n by omega]
       exact drop_over (hf a (Nat.le_refl _) (by omega))
     rw [h1, cat_at N (a + 1) n (fun q h1 h2 => hf q (by omega) (by omega)) (by omega)]
     congr 1
     omega
theorem Aw.logAt {l pool : Nat} {tp : Tp} {T : St} {dec : Nat → Nat → Option UB} {dt lg : Nat → List UInt8} (h : Aw l pool tp T.f dec dt lg) (hlg : ∀ a, a < 256 → (lg a).length = 128) {F : Nat → Lr} {ps : List (Nat × Nat)} (h0 : ps ≠ []) (hps : ∀ x ∈ ps, (F x.1).ix < l) {n : Nat} (hn : n < 256) : ((logD T F ps).drop (88 * n)).take 88 = (lstep (0, zeros 88) (lg n)).2 := by
 unfold logD
 rw [cat_at 256 0 n (fun q _ hq => by rw [h.sec h0 hps (by omega)]; exact lstep_len (hlg q (by omega))) hn, Nat.zero_add]
 rw [h.sec h0 hps hn]
end Go.Proofs.YtolknnmaadkgiaaGreatDoor
namespace Go.Proofs.YtolknnmaadkgiaaGreatDoor
set_option maxRecDepth 100000
open Go.RowKit Go.Uc Go.Shelf
section
variable {w0 wr w' : World} {pool x p gd gc k q u lg : Nat} {tp : Tp} {dv : Sl} {K : Nat → Kb} {B : TB} {L Dk : List (Option Nat)} {F : Nat → Lr} {T T' : St}
theorem ru_importD (h : Ru w0 wr pool tp x p gd gc dv K k B L Dk F q u T lg) (ho : T.P.off = false) (htp : tp.ok) (hk2 : tp.k = 2) (hts : tp.s = 324) (hpool : pool < 18446744073709551616) {dec : Nat → Nat → Option UB} {uo : Option UB} (hd : Dec dec uo) (i : Nat) (hi : i < tp.l) (hlab : T.f i 0 = labelB (lbX pool tp i)) (hrg : Rng 324 pool (T.f i) dec) {gb cd : Nat} (hcd : 1 ≤ cd) (hc : wr.cell? ⟨gb, 0, none⟩ = some (.pointer (some ⟨(K i).d, 0, none⟩))) :
   Calls Tryz.prog 12 #[.slice (some ⟨gb, 0, none⟩) 1 cd] wr fun e w' => ∃ k B L Dk F lg, e = .returned (.tuple #[.pointer (some ⟨k, 0, none⟩), .int .i64 0]) ∧ Fo w0 wr w' p tp.l 324 dv K T pool tp 1 (fun _ => i) (fun _ => pool) (fun _ => i) k B L Dk F lg (txO uo) := by
 have hI : Ip w0 wr p tp.l 324 dv K T pool tp 1 (fun _ => i) (fun _ => pool) (fun _ => i) gb 0 cd := ⟨h.gs, ho, by decide, by decide, by decide, htp, hk2, hts, rfl, fun _ _ => hpool, fun _ _ => hi, fun _ _ => hi, fun a b ha hb hne => absurd (show a = b by omega) hne, fun _ _ => hlab, hcd, fun j hj => by
   obtain rfl : j = 0 := by omega
   exact hc⟩
 have htx : txO uo ≤ 281474976710656 := by
   rcases hd with ⟨rfl, -⟩ | ⟨u, t, -, rfl, -, -, h2⟩
   · exact Nat.zero_le _
   · exact h2
 refine import_one hI (fun q => if q = i then uo else none) (fun V q' i' lf tA tc hw hG hl => ?_) (txO uo) htx (fun L f hL hle => ?_) (fun q' i' hw => ?_)
 · rw [who_one] at hw
   by_cases e : q' = i
   · subst e
     rw [if_pos rfl]
     exact ubers_dec hG hi hl ho hpool hrg hd
   · rw [if_neg e] at hw; cases hw
 · rw [bst_one (i := i) (b := f i) tp.l (fun q hq => by
     rw [hle q hq, who_one]
     by_cases e : q = i
     · subst e; rw [if_pos rfl, if_pos rfl]; rfl
     · rw [if_neg e, if_neg e]; rfl), if_pos hi, if_pos rfl]
   rcases hd with ⟨rfl, -⟩ | ⟨u, t, -, rfl, -, h1, -⟩
   · rfl
   · show (if UB.zero.txg < u.txg then u else UB.zero).txg = u.txg
     rw [if_pos (show UB.zero.txg < u.txg from h1)]
 · rw [who_one] at hw
   by_cases e : q' = i
   · rw [if_pos e]
     rcases hd with ⟨rfl, -⟩ | ⟨u, t, -, rfl, -, -, -⟩
     · exact .inl rfl
     · exact .inr fun hh => by cases hh
   · rw [if_neg e] at hw; cases hw
end
theorem up_or {l : Nat} {K : Nat → Kb} {I : List Nat} {Tb : St} {v : Nat → Option (List UInt8)} {W : List Wt} {f5 : Nat → Nat → List UInt8} (hw : Tb.P.waits = []) (hg : ∀ i, i < l → Tb.g i = Tb.f i) (hL : Lw K I v W) (h : ∀ i q, i < l → q < 324 → f5 i q = (Tb.ov I v W).g i q ∨ ∃ y ∈ (Tb.ov I v W).P.waits, y.d = (K i).d ∧ y.at_ = q ∧ f5 i q = y.b) {i q : Nat} (hi : i < l) (hq : q < 324) : f5 i q = Tb.f i q ∨ v q = some (f5 i q) := by
 rcases h i q hi hq with e | ⟨y, hy, e1, e2, e3⟩
 · left
   rw [e]
   show Tb.g i q = Tb.f i q
   rw [hg i hi]
 · right
   have hy' : y ∈ Tb.P.waits ++ W := hy
   rw [hw, List.nil_append] at hy'
   obtain ⟨j, -, -, e4⟩ := hL.wt y hy'
   rw [e3, ← e2, e4]
theorem Lw.out {K : Nat → Kb} {I : List Nat} {v : Nat → Option (List UInt8)} {W : List Wt} (h : Lw K I v W) {q : Nat} (hq : q < 18 ∨ 274 ≤ q) : v q = none := by
 cases c : v q with
 | none => rfl
 | some b => have := h.rg q (by rw [c]; intro hh; cases hh); omega
theorem up_label {l pool : Nat} {tp : Tp} {K : Nat → Kb} {I : List Nat} {Tb : St} {dec : Nat → Nat → Option UB} {dt lg : Nat → List UInt8} {v : Nat → Option (List UInt8)} {W : List Wt} {f5 : Nat → Nat → List UInt8} (hA : Aw l pool tp Tb.f dec dt lg) (hL : Lw K I v W) {i : Nat} (hi : i < l) (h : ∀ q, q < 324 → f5 i q = Tb.f i q ∨ v q = some (f5 i q)) : f5 i 0 = labelB (lbX pool tp i) ∧ Rng 324 pool (f5 i) dec ∧ ∀ n, n < 256 → (lstep (0, zeros 88) (f5 i (18 + n))).2 = (lstep (0, zeros 88) (lg n)).2 ∨ ((v (18 + n)).getD (lg n) = f5 i (18 + n)) := by
 have hs : ∀ q, q < 324 → q < 18 ∨ 274 ≤ q → f5 i q = Tb.f i q := fun q hq ho => by
   rcases h q hq with e | e
   · exact e
   · rw [hL.out ho] at e; cases e
 refine ⟨by rw [hs 0 (by decide) (by omega)]; exact hA.lb i hi, (hA.rg i hi).fits fun j q hj hq => ?_, fun n hn => ?_⟩
 · refine hs _ (ring_lt (by decide) hq) ?_
   rcases Nat.lt_or_ge (plc 324 j + 1 + q) 18 with c | c
   · exact .inl c
   · rcases Nat.lt_or_ge (plc 324 j + 1 + q) 274 with c2 | c2
     · exact absurd rfl (ring_mid (n := 324) (p := plc 324 j + 1 + q) (by decide) hj hq c (by omega))
     · exact .inr c2
 · rcases h (18 + n) (by omega) with e | e
   · left
     rw [e, hA.lg i n hi hn]
   · right
     rw [e]
     rfl
section
variable {w0 w w' : World} {p k lg tx i : Nat} {pool : Nat} {tp : Tp} {dv : Sl} {K : Nat → Kb} {B : TB} {L Dk : List (Option Nat)} {F : Nat → Lr} {T : St}
theorem Fo.ix1 (h : Fo w0 w w' p tp.l 324 dv K T pool tp 1 (fun _ => i) (fun _ => pool) (fun _ => i) k B L Dk F lg tx) (hi : i < tp.l) : ∀ y ∈ pres L L.length, (F y.1).ix = i := fun y hy => by
 obtain ⟨h1, h2, -, -, h5⟩ := h.one hi
 obtain ⟨a, b⟩ := pres_in hy
 rw [h.ll] at a
 by_cases e : y.1 = i
 · rw [e, h5]
 · rw [h2 _ a e] at b
   injection b with b
   cases b
theorem Fo.logAt (h : Fo w0 w w' p tp.l 324 dv K T pool tp 1 (fun _ => i) (fun _ => pool) (fun _ => i) k B L Dk F lg tx) (hi : i < tp.l) (hl : ∀ a, a < 256 → (T.f i (18 + a)).length = 128) : (logD T F (pres L L.length)).length = 22528 ∧ ∀ n, n < 256 → ((logD T F (pres L L.length)).drop (88 * n)).take 88 = (lstep (0, zeros 88) (T.f i (18 + n))).2 := by
 have hs : ∀ a, lsec T F a (pres L L.length) = lstep (0, zeros 88) (T.f i (18 + a)) := fun a => lsec_same (h.pres1 hi).1 fun y hy => by rw [h.ix1 hi y hy]
 refine ⟨?_, fun n hn => ?_⟩
 · unfold logD
   rw [cat_len88 256 0 fun q _ hq => by rw [hs]; exact lstep_len (hl q (by omega))]
 · unfold logD
   rw [cat_at 256 0 n (fun q _ hq => by rw [hs]; exact lstep_len (hl q (by omega))) hn, Nat.zero_add, hs]
end
theorem Gs.secs {w0 w : World} {p m : Nat} {dv : Sl} {K : Nat → Kb} {T : St} (h : Gs w0 w p dv m 324 K T) {i q : Nat} (hi : i < m) (hq : q < 324) : (T.f i q).length = 128 := by
 obtain ⟨wv, S, -, hS⟩ := h
 exact (hS i hi).len hq
end Go.Proofs.YtolknnmaadkgiaaGreatDoor
