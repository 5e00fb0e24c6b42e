/- The log written: the walk. A tank's rooms. -/
import Derived.Test.YtolknnmaadkgiaaGreatDoorG26
set_option linter.unusedVariables false
set_option linter.unusedSimpArgs false
namespace Go.Proofs.YtolknnmaadkgiaaGreatDoor
set_option maxRecDepth 100000
open Go.RowKit Go.Uc Go.Shelf
section
variable {w0 w w' : World} {p m n k pool sz lg : Nat} {tp : Tp} {B : TB} {dv : Sl} {K : Nat → Kb} {T : St} {L Dk : List (Option Nat)} {lk : List Lk} {X : Nat → Lb} {F : Nat → Lr}
structure LwI (w0 w wr : World) (k pool sz lg p m n : Nat) (tp : Tp) (B : TB) (dv : Sl) (K : Nat → Kb) (T : St) (L Dk : List (Option Nat)) (lk : List Lk) (X : Nat → Lb) (F : Nat → Lr) (at_ : Nat) (b : List UInt8) (A : Option Addr) (l : Nat) (v : Nat → Option (List UInt8)) (W : List Wt) (lg' : Nat) (A' : Option Addr) : Prop where
 tk : Tk wr k pool tp B L Dk lk sz lg'
 l1 : lg ≤ lg'
 l2 : lg' ≤ lg + l
 gs : Gs w0 wr p dv m n K (T.ov (ixs F L.length) v W)
 lv : Lvs w0 wr m K X F L
 lw : Lw K (ixs F L.length) v W
 wl : W.length ≤ 5 * l
 vz : l = 0 → ∀ q, v q = none
 vm : l = 0 ∨ l = b.length ∨ (at_ + l) % 88 = 0
 vr : ∀ q, v q ≠ none → 88 * (q - 18) < at_ + l
 D : logD (T.ov (ixs F L.length) v W) F (pres L L.length) = mid (logD T F (pres L L.length)) b at_ l
 at_ : At wr A' (b.drop l)
 al : ∀ ad, A' = some ad → ∃ ad0, A = some ad0 ∧ ad.block = ad0.block
 kp : Keeps (fun g => Fg w p m K g ∨ g = k) w wr
theorem LwI.free {wr : World} {at_ : Nat} {b : List UInt8} {A A' : Option Addr} {l lg' : Nat} {v : Nat → Option (List UInt8)} {W : List Wt} (h : LwI w0 w wr k pool sz lg p m n tp B dv K T L Dk lk X F at_ b A l v W lg' A') : v (18 + (at_ + l) / 88) = none ∨ ¬ l < b.length := by
 by_cases hl : l < b.length
 · left
   rcases h.vm with e | e | e
   · exact h.vz e _
   · omega
   · by_cases hv : v (18 + (at_ + l) / 88) = none
     · exact hv
     · have := h.vr _ hv
       omega
 · exact .inr hl
theorem fg_not' {g : Nat} (hk : Keeps (fun g => Fg w p m K g ∨ g = k) w w') (hg : g < w.heap.size) (hF : ¬ Fg w p m K g) (hne : g ≠ k) : ¬ Fg w' p m K g := fun e => by
 rcases e with e | ⟨cs, e⟩
 · exact hF (.inl e)
 · refine hF (.inr ⟨cs, ?_⟩)
   have := hk.block g hg (fun h => h.elim hF hne)
   unfold Blk at e ⊢
   rw [← this]
   exact e
set_option maxHeartbeats 16000000 in
theorem logWrite_tk (h : Tk w k pool tp B L Dk lk sz lg) (hG : Gs w0 w p dv m n K T) (hL : Lvs w0 w m K X F L) (hall : ∀ k, k < L.length → ∃ b, L[k]? = some (some b)) (h0 : 0 < L.length) (hn : 324 ≤ n) (ho : T.P.on) (hw : T.P.waits.length ≤ 100000) (hlg1 : 1 ≤ lg) (hlg2 : lg ≤ 1000000) (hk0 : w0.heap.size ≤ k)
   (at_ : Nat) (b : List UInt8) (hb : at_ + b.length ≤ 22528) (A : Option Addr) (c : Nat) (hA : At w A b) (hc : b.length ≤ c) (hF : Far w p m K A) (hAk : ∀ ad, A = some ad → ad.block ≠ k) :
   Calls Tryz.prog 8 #[.pointer (some ⟨k, 0, none⟩), .int .i64 (at_ : Int), .slice A b.length c] w fun e w' => ∃ v W lg', e = .returned (.int .i64 0) ∧ Tk w' k pool tp B L Dk lk sz lg' ∧ lg ≤ lg' ∧ lg' ≤ lg + b.length ∧ Gs w0 w' p dv m n K (T.ov (ixs F L.length) v W) ∧ Lw K (ixs F L.length) v W ∧ W.length ≤ 5 * b.length ∧ logD (T.ov (ixs F L.length) v W) F (pres L L.length) = mid (logD T F (pres L L.length)) b at_ b.length ∧ Keeps (fun g => Fg w p m K g ∨ g = k) w w' := by
 have HI : Hid (Calls Tryz.prog 33 #[.int .i64 (at_ : Int), .int .i64 (b.length : Int)] w fun e w' => e = .returned (.bool true) ∧ w' = w) := Lib.hid (by
   have := inLog_any (at_ : Int) (b.length : Int) (by omega) (by omega) w
   rw [decide_eq_true (by omega)] at this
   exact this)
 have H0 : Hid (LwI w0 w w k pool sz lg p m n tp B dv K T L Dk lk X F at_ b A 0 (fun _ => none) [] lg A) := Lib.hid ⟨h, Nat.le_refl _, Nat.le_refl _, by rw [St.ov_none]; exact hG, hL, ⟨fun q hq => absurd rfl hq, fun y hy => (List.not_mem_nil hy).elim⟩, Nat.le_refl _, fun _ _ => rfl, .inl rfl, fun q hq => absurd rfl hq, by rw [St.ov_none, mid_zero], hA, fun ad e => ⟨ad, e, rfl⟩, Keeps.refl _ _⟩
 have HDl := Lib.hid (logD_len hG hL hn)
 have HF := Lib.hid (show _ ∧ _ from ⟨hF, hAk⟩)
 have HAll := Lib.hid hall
 have hfew := h.mt.few
 have HP := Lib.hid (fun j (hj : j < L.length) => (pres_all hall L.length (Nat.le_refl _)).2 j hj)
 have HPl := Lib.hid (pres_all hall L.length (Nat.le_refl _)).1
 have HInj := Lib.hid hL.inj
 clear h hG hL hA hF hAk hall
 go_enter Tryz.func8, Tryz.ntmps8
 go_upto_region 3 with (go_at_call 33; go_must (refine HI.out.mono ?_); rintro e w3 ⟨rfl, hw3⟩; subst w3)
 go_loopw [1, 2] (fun t1 t2 wr => ∃ (l : Nat) (v : Nat → Option (List UInt8)) (W : List Wt) (lg' : Nat) (A' : Option Addr) (bl c' : Nat), l + bl = b.length ∧ t1 = .int .i64 ((at_ + l : Nat) : Int) ∧ t2 = .slice A' bl c' ∧ bl ≤ c' ∧ LwI w0 w wr k pool sz lg p m n tp B dv K T L Dk lk X F at_ b A l v W lg' A') (fun t1 _ _ => at_ + b.length - (intOf t1).toNat)
 case atStart => exact ⟨0, _, _, _, _, _, _, Nat.zero_add _, rfl, rfl, hc, H0.out⟩
 case round =>
   obtain ⟨l, v, W, lg', A', bl, c', hlb, rfl, rfl, hbc, hI⟩ := hrel
   obtain ⟨wx, rfl⟩ : ∃ V : World, V = wr := ⟨_, rfl⟩
   have HI' := Lib.hid hI
   clear hI
   by_cases hlt : 0 < bl
   · obtain ⟨gb, ob, rfl, -⟩ := HI'.out.at_.at_ (k := 0) (by rw [List.length_drop]; omega)
     obtain ⟨x, hx⟩ : ∃ x, x = at_ + l := ⟨_, rfl⟩
     rw [← hx]
     obtain ⟨q, hq⟩ : ∃ q, q = x / 88 := ⟨_, rfl⟩
     obtain ⟨r, hr⟩ : ∃ r, r = x % 88 := ⟨_, rfl⟩
     have hq1 : Int.tdiv (x : Int) 88 = (q : Int) := by rw [hq]; rfl
     have hr1 : Int.tmod (x : Int) 88 = (r : Int) := by rw [hr]; rfl
     have hq2 : (x : Int) / 88 = (q : Int) := by omega
     have hr2 : (x : Int) % 88 = (r : Int) := by omega
     have hq5 : q < 256 := by omega
     have hr5 : r < 88 := by omega
     have hr6 : (r : Int) ≤ 88 := by omega
     have HX := Lib.hid (show x = at_ + l ∧ x = 88 * q + r from ⟨hx, by omega⟩)
     have hvq : Hid (v (18 + q) = none) := Lib.hid (by
       rcases HI'.out.free with e | e
       · rw [hq, hx]; exact e
       · exact absurd (show l < b.length by omega) e)
     have HLx := Lib.hid (logSector_tk HI'.out.tk HI'.out.gs HI'.out.lv h0 hn ho.2 q hq5)
     obtain ⟨s, hs⟩ : ∃ s, s = (lsec (T.ov (ixs F L.length) v W) F q (pres L L.length)).2 := ⟨_, rfl⟩
     have hsl : s.length = 88 := by rw [hs]; exact lsec_ok HI'.out.gs HI'.out.lv hn hq5
     rw [← hs] at HLx
     have HS := Lib.hid hs
     clear hx hq hr hs
     obtain ⟨t, ht⟩ : ∃ t, t = min bl (88 - r) := ⟨_, rfl⟩
     go_upto_region 6 with (go_at_call 34; go_must (refine HLx.out.mono ?_); rintro e w6 ⟨sb, rfl, hb6, hbl6, hK6⟩)
     have hcs : ((b.drop l).take t).length = t := by rw [List.length_take, List.length_drop]; omega
     have hA6 : At w6 (some ⟨gb, ob, none⟩) ((b.drop l).take t) := (HI'.out.at_.non hK6).take t
     obtain ⟨s2, hs2⟩ : ∃ s2, s2 = s.take r ++ ((b.drop l).take t ++ s.drop (r + ((b.drop l).take t).length)) := ⟨_, rfl⟩
     have HN := Lib.hid (show _ ∧ _ ∧ _ ∧ _ ∧ _ ∧ _ from ⟨hcs, hA6, hs2, ht, hsl, hbl6⟩)
     have hmn : Hid (((b.drop l).take t).length = Nat.min bl (88 - r)) := Lib.hid (by rw [hcs, ht])
     have hft : Hid (r + ((b.drop l).take t).length ≤ s.length) := Lib.hid (by rw [hcs, hsl]; omega)
     have HK6 := Lib.hid hK6
     have ht88 : (t : Int) ≤ 88 := by omega
     have htb : (t : Int) ≤ (bl : Int) := by omega
     have ht0 : 0 < t := by omega
     clear hcs hA6 hs2 hK6 ht hsl HLx hbl6
     go_upto_region 7 with ((with_reducible show wpList _ _ _ ({ dst := some 31, op := _, type := _, pos := _, after := _, guard := _ } :: _) _ _); go_must (refine wpList_copy_bytes rfl (.tmp 29) (.tmp 30) 22 22 rfl 5 Tryz.underlying22 infoS5 (some ⟨sb, r, none⟩) (some ⟨gb, ob, none⟩) (88 - r) (88 - r) bl c' rfl rfl sb r s 5 hb6 ((b.drop l).take t) hmn.out (fun _ => rfl) HN.out.2.1 hft.out ?_); intro w7 hB7 hK7; rw [← HN.out.2.2.1] at hB7; rw [HN.out.1])
     clear hmn hft
     have hsw := HN.out.2.2.2.2.2
     have hk7 : Keeps Non wx w7 := HK6.out.then hK7 fun i hi e => by unfold Only at e; omega
     have HT7 := Lib.hid (show _ ∧ _ ∧ _ from ⟨HI'.out.tk.non hk7, HI'.out.gs.non hk7, HI'.out.lv.non hk7⟩)
     have hsf : ¬ Fu p m K sb := HI'.out.gs.new hsw
     have HK7 := Lib.hid hk7
     have HSB := Lib.hid (And.intro hB7 hsf)
     have hs2l : s2.length = 88 := by
       have e1 := HN.out.2.2.1
       have e2 := HN.out.1
       have e3 := HN.out.2.2.2.2.1
       have e4 := HN.out.2.2.2.1
       rw [e1, List.length_append, List.length_append, List.length_take, List.length_drop, e3]
       omega
     obtain ⟨TO, hTO⟩ : ∃ TO, TO = T.ov (ixs F L.length) v W := ⟨_, rfl⟩
     have HTO := Lib.hid hTO
     have HW : Hid (∀ (V : World) (j : Nat) (W' : List Wt) (bj : Nat), j < L.length → L[j]? = some (some bj) → Gs w0 V p dv m n K (TO.all (ixs F j) (fun f => upd f (18 + q) (logB lg' s2)) W') → Lvs w0 V m K X F L → W'.length ≤ 5 → At V (some ⟨sb, 0, none⟩) s2 →
         Calls Tryz.prog 36 #[.pointer (some ⟨bj, 0, none⟩), .int .i64 (q : Int), .int .u64 (lg' : Int), .slice (some ⟨sb, 0, none⟩) 88 88] V fun e w' => ∃ W2, e = .returned (.int .i64 0) ∧ Gs w0 w' p dv m n K (TO.all (ixs F (j + 1)) (fun f => upd f (18 + q) (logB lg' s2)) (W' ++ W2)) ∧ W2.length = 1 ∧ (∀ y ∈ W2, ∃ i ∈ [(F j).ix], y.d = (K i).d ∧ y.at_ = 18 + q ∧ y.b = logB lg' s2) ∧ Keeps (Fg V p m K) V w') := Lib.hid (fun V j W' bj hj hLj hGV hLV hWl hAV => by
       obtain ⟨e1, e2, e3⟩ := hLV.lf j bj hLj
       subst e1
       have hnot : (F j).ix ∉ ixs F j := fun hm => by
         obtain ⟨i, hi, e⟩ := mem_ixs.1 hm
         obtain ⟨bi, ei⟩ := HAll.out i (by omega)
         exact HInj.out i j bi _ ei hLj (by omega) e
       have hwl := HI'.out.wl
       have hl2 := HI'.out.l2
       have hl1 := HI'.out.l1
       have hon : (TO.all (ixs F j) (fun f => upd f (18 + q) (logB lg' s2)) W').P.on := by rw [hTO]; exact ho
       have hws : (TO.all (ixs F j) (fun f => upd f (18 + q) (logB lg' s2)) W').P.waits.length ≤ 1000000000 := by
         rw [hTO]
         show ((T.P.waits ++ W) ++ W').length ≤ _
         rw [List.length_append, List.length_append]
         omega
       refine (gs_logWrite hGV e2 e3 hn hon hws q lg' hq5 (by omega) (by omega) s2 hs2l (some ⟨sb, 0, none⟩) 88 hAV).mono ?_
       rintro e w' ⟨W2, rfl, j1, j2, j3, j5⟩
       refine ⟨W2, rfl, ?_, j2, fun y hy => ⟨_, List.mem_singleton.2 rfl, j3 y hy⟩, j5⟩
       rw [ixs_succ, ← St.all_snoc TO (ixs F j) _ W' W2 _ hnot]
       exact j1)
     have HA7 : Hid (Calls Tryz.prog 35 #[.pointer (some ⟨k, 0, none⟩)] w7 fun e w' => ∃ (A : Option Addr) (c : Nat), e = .returned (.slice A L.length c) ∧ RowP w' 93 1 encQ (.slice A L.length c) (pres L L.length) ∧ Keeps Non w7 w') := Lib.hid (by
       have := all_tk HT7.out.1 h0
       rw [HPl.out] at this
       exact this)
     have HG7 : Hid (Gs w0 w7 p dv m n K (TO.all (ixs F 0) (fun f => upd f (18 + q) (logB lg' s2)) [])) := Lib.hid (by show Gs w0 w7 p dv m n K (TO.all [] _ []); rw [St.all_nil, hTO]; exact HT7.out.2.1)
     obtain ⟨U, hU⟩ : ∃ U, U = (fun f : Nat → List UInt8 => upd f (18 + q) (logB lg' s2)) := ⟨_, rfl⟩
     rw [← hU] at HW HG7
     have HU := Lib.hid hU
     clear hTO hB7 hK7 hsf hk7 hsw hb6 hU
     go_upto_region 9 with (go_at_call 35; go_must (refine HA7.out.mono ?_); rintro e w8 ⟨gA, gc, rfl, hg8, hK8⟩)
     obtain ⟨g, hg⟩ := row_headAt (s := ⟨gA, L.length, gc⟩) encQ_len hg8 (by rw [HPl.out]; exact h0)
     have hg' : gA = some ⟨g, 0, none⟩ := hg
     subst hg'
     have HT8 := Lib.hid (show _ ∧ _ ∧ _ from ⟨HT7.out.1.non hK8, HT7.out.2.1.non hK8, HT7.out.2.2.non hK8⟩)
     have HCl : Hid (∀ V, Keeps (Fg w8 p m K) w8 V → ∀ j (hj : j < L.length), ∃ bj, L[j]? = some (some bj) ∧ V.cell? ⟨g, j, none⟩ = some (.pointer (some ⟨bj, 0, none⟩))) := Lib.hid (fun V hV j hj => by
       obtain ⟨bj, e1, e2⟩ := HP.out j hj
       obtain ⟨cg, hgb⟩ := row_blk (s := ⟨some ⟨g, 0, none⟩, L.length, gc⟩) hg8 rfl
       exact ⟨bj, e2, hV.cell (row_cellAt (s := ⟨some ⟨g, 0, none⟩, L.length, gc⟩) encQ_len hg8 rfl e1) (HT8.out.2.1.free hgb (by decide) (by decide) (by decide))⟩)
     have HS8 : Hid (∀ V, Keeps (Fg w8 p m K) w8 V → At V (some ⟨sb, 0, none⟩) s2) := Lib.hid (fun V hV => At.blk ((HSB.out.1.non hK8).keep hV (HT8.out.2.1.freeB (HSB.out.1.non hK8) HSB.out.2)))
     have HK8 := Lib.hid (HK7.out.non hK8)
     have HG8 := Lib.hid (HG7.out.non hK8)
     have HC5 : Hid (∀ V, Keeps (Fg w8 p m K) w8 V → V.cell? ⟨k, 5, none⟩ = some (.int .u64 (lg' : Int))) := Lib.hid (fun V hV => (HT8.out.1.fg HT8.out.2.1 hV).blk.cell 5)
     have HL8 := Lib.hid (fun V (hV : Keeps (Fg w8 p m K) w8 V) => HT8.out.2.2.fg HT8.out.2.1 hV)
     clear hg hg8 hK8 HA7 HG7
     go_loopw [10, 35] (fun t10 i wr => ∃ (j : Nat) (e : Int) (W' : List Wt), j ≤ L.length ∧ i = .int .i64 (j : Int) ∧ t10 = .int .i64 e ∧ (0 < j → e = 0) ∧ Gs w0 wr p dv m n K (TO.all (ixs F j) U W') ∧ W'.length = j ∧ (∀ y ∈ W', ∃ i ∈ ixs F j, y.d = (K i).d ∧ y.at_ = 18 + q ∧ y.b = logB lg' s2) ∧ Keeps (Fg w8 p m K) w8 wr) (fun _ i _ => L.length - (intOf i).toNat)
     case atStart => exact ⟨0, 4, [], Nat.zero_le _, rfl, rfl, fun e => absurd e (Nat.lt_irrefl _), HG8.out, rfl, fun y hy => (List.not_mem_nil hy).elim, Keeps.refl _ _⟩
     case round =>
       obtain ⟨j, e, W', hj, rfl, rfl, he0, hGj, hWl, hWm, hKj⟩ := hrel
       obtain ⟨wy, rfl⟩ : ∃ V : World, V = wr := ⟨_, rfl⟩
       by_cases hjl : j < L.length
       · have hji : (j : Int) < (L.length : Int) := by omega
         obtain ⟨bj, ej, y0⟩ := HCl.out wy hKj j hjl
         have y5 := HC5.out wy hKj
         have HWy := Lib.hid (HW.out wy j W' bj hjl ej hGj (HL8.out wy hKj) (by omega) (HS8.out wy hKj))
         have HJ := Lib.hid (show _ ∧ _ ∧ _ from ⟨hWl, hWm, hKj⟩)
         clear ej hGj hWl hWm hKj he0
         go_wp2_with (go_at_call 36; go_must (refine HWy.out.mono ?_); rintro e w9 ⟨W2, rfl, hG9, hW9, hm9, hK9⟩)
         have HR := Lib.hid (show Gs w0 w9 p dv m n K (TO.all (ixs F (j + 1)) U (W' ++ W2)) ∧ (W' ++ W2).length = j + 1 ∧ (∀ y ∈ W' ++ W2, ∃ i ∈ ixs F (j + 1), y.d = (K i).d ∧ y.at_ = 18 + q ∧ y.b = logB lg' s2) ∧ Keeps (Fg w8 p m K) w8 w9 from ⟨hG9, by rw [List.length_append, HJ.out.1, hW9], fun y hy => by
           rw [ixs_succ]
           rcases List.mem_append.1 hy with hy | hy
           · obtain ⟨i, hi, e⟩ := HJ.out.2.1 y hy
             exact ⟨i, List.mem_append_left _ hi, e⟩
           · obtain ⟨i, hi, e⟩ := hm9 y hy
             exact ⟨i, List.mem_append_right _ hi, e⟩, fg_trans HJ.out.2.2 hK9⟩)
         clear hG9 hW9 hm9 hK9 HWy HJ
         go_roundw
         case rel => exact ⟨j + 1, 0, W' ++ W2, by omega, by go_num, rfl, fun _ => rfl, HR.out⟩
         case measure => simp [intOf]; omega
       · obtain rfl : j = L.length := by omega
         obtain rfl : e = 0 := he0 h0
         clear he0
         have y5 := HC5.out wy hKj
         have hblk := (HT8.out.1.fg HT8.out.2.1 hKj).blk
         have f5 := hblk.frozen 5
         obtain ⟨hT10, hK10⟩ := (HT8.out.1.fg HT8.out.2.1 hKj).setLog (lg' + 1)
         have hl1 := HI'.out.l1
         have hl2 := HI'.out.l2
         have hlw : IntKind.u64.wrap ((lg' : Int) + 1) = ((lg' + 1 : Nat) : Int) := by rw [IntKind.wrap_u64]; omega
         have hxw : IntKind.i64.wrap ((x : Int) + (t : Int)) = ((x + t : Nat) : Int) := by have := HX.out.1; rw [IntKind.wrap_i64]; omega
         have HE := Lib.hid (show _ ∧ _ ∧ _ ∧ _ from ⟨hGj, hWl, hWm, hKj⟩)
         have HT := Lib.hid (show _ ∧ _ ∧ _ from ⟨hT10, hK10, hblk⟩)
         clear hGj hWl hWm hKj hT10 hK10 hblk hl1 hl2
         go_upto_region 20 with fail
         have hT10 : Tk (wy.setCell ⟨k, 5, none⟩ (.int .u64 ((lg' : Int) + 1))) k pool tp B L Dk lk sz (lg' + 1) := HT.out.1
         have hK10 : Keeps (Only k) wy (wy.setCell ⟨k, 5, none⟩ (.int .u64 ((lg' : Int) + 1))) := HT.out.2.1
         obtain ⟨w10, hw10⟩ : ∃ V : World, V = wy.setCell ⟨k, 5, none⟩ (.int .u64 ((lg' : Int) + 1)) := ⟨_, rfl⟩
         rw [← hw10] at hT10 hK10 ⊢
         have HT10 := Lib.hid (And.intro hT10 hK10)
         clear hw10 hT10 hK10 y5 f5
         have hbi : (t : Int) ≤ (c' : Int) := by omega
         go_quiet (fail)
         obtain ⟨w11, hw11⟩ : ∃ V : World, V = w10.drewN nq := ⟨_, rfl⟩
         rw [← hw11]
         have HK11 : Hid (Keeps Non w10 w11) := Lib.hid (by rw [hw11]; exact (Keeps.refl Non w10).drewN nq)
         clear hw11
         have HFin : Hid (∀ A2, (A2 = some ⟨gb, ob + t, none⟩ ∨ (A2 = some ⟨gb, ob, none⟩ ∧ t = bl)) → LwI w0 w w11 k pool sz lg p m n tp B dv K T L Dk lk X F at_ b A (l + t) (fun q' => if q' = 18 + q then some (logB lg' s2) else v q') (W ++ W') (lg' + 1) A2) := Lib.hid (fun A2 hA2 => by
           have hI := HI'.out
           have hX1 := HX.out.1
           have hX2 := HX.out.2
           have e4 := HN.out.2.2.2.1
           have hl1 := hI.l1
           have hl2 := hI.l2
           have hgs : Gs w0 wy p dv m n K (T.ov (ixs F L.length) (fun q' => if q' = 18 + q then some (logB lg' s2) else v q') (W ++ W')) := by
             rw [← St.ov_step, ← HTO.out, ← HU.out]
             exact HE.out.1
           have kA : ∀ ad, some (⟨gb, ob, none⟩ : Addr) = some ad → ad.block < wx.heap.size ∧ ¬ Fg wx p m K ad.block ∧ ad.block ≠ k := fun ad e => by
             obtain ⟨ad0, e0, e1⟩ := hI.al ad e
             obtain ⟨f1, f2⟩ := HF.out.1 ad0 e0
             have f3 := HF.out.2 ad0 e0
             rw [e1]
             exact ⟨by have := hI.kp.size; omega, fg_not' hI.kp f1 f2 f3, f3⟩
           have hk8y : Keeps (Fg wx p m K) wx wy := fg_trans (fg_non HK8.out) HE.out.2.2.2
           have hk11 : Keeps (fun g => Fg wx p m K g ∨ g = k) wx w11 := ((hk8y.mono fun g e => Or.inl e).trans (HT10.out.2.mono fun g e => Or.inr e)).non HK11.out
           refine ⟨HT10.out.1.non HK11.out, by omega, by omega, ?_, ?_, ?_, ?_, fun e => by omega, ?_, fun q' hq' => ?_, ?_, ?_, fun ad e => ?_, ?_⟩
           · exact (hgs.far HT.out.2.2 (by decide) (by decide) (by decide) (by decide) (by decide) hk0 HT10.out.2).non HK11.out
           · exact ((HL8.out wy HE.out.2.2.2).far HT.out.2.2 (by decide) (by decide) HT10.out.2).non HK11.out
           · exact hI.lw.step q hq5 hvq.out _ fun y hy => HE.out.2.2.1 y hy
           · have := hI.wl
             rw [List.length_append, HE.out.2.1]
             omega
           · by_cases hbr : bl ≤ 88 - r
             · exact .inr (.inl (by omega))
             · exact .inr (.inr (by omega))
           · by_cases e : q' = 18 + q
             · omega
             · have := hI.vr q' (by simpa [e] using hq')
               omega
           · have hps : pres L L.length ≠ [] := fun e => by have := HPl.out; rw [e] at this; simp at this; omega
             have hst := logD_step T F (ixs F L.length) v W (W ++ W') (pres L L.length) hps (fun x hx => by
               obtain ⟨j, hj⟩ := List.getElem?_of_mem hx
               exact mem_ixs.2 ⟨x.1, (pres_at hj).1, rfl⟩) (fun a ha => lsec_ok hI.gs hI.lv hn ha) q lg' r ((b.drop l).take t) hq5 (by omega) (by omega) (by rw [HN.out.1]; omega) s2 (by rw [← HS.out]; exact HN.out.2.2.1)
             rw [hst, hI.D, HN.out.1, ← hX2, hX1]
             exact mid_step _ b at_ l t (by omega) (by rw [HDl.out]; exact hb)
           · have h1 := hI.at_.keep hk11 (fun ad e => by
               obtain ⟨-, f2, f3⟩ := kA ad e
               exact fun h => h.elim f2 f3)
             have h2 := At.dropx h1 rfl t (b.drop l).length
             rw [List.drop_drop, List.take_of_length_le (by rw [List.length_drop, List.length_drop]; omega)] at h2
             rcases hA2 with rfl | ⟨rfl, e⟩
             · exact h2
             · rw [List.drop_of_length_le (by omega)]
               exact At.nil _ _
           · rcases hA2 with rfl | ⟨rfl, -⟩
             · injection e with e
               subst e
               exact hI.al ⟨gb, ob, none⟩ rfl
             · injection e with e
               subst e
               exact hI.al ⟨gb, ob, none⟩ rfl
           · refine hI.kp.then hk11 fun i hi e => ?_
             by_cases c1 : i = k
             · exact .inr c1
             · by_cases c2 : Fg w p m K i
               · exact .inl c2
               · rcases e with e | e
                 · exact absurd e (fg_not' hI.kp hi c2 c1)
                 · exact .inr e)
         have HX11 := Lib.hid (show x + t = at_ + (l + t) by rw [HX.out.1]; omega)
         have HM := Lib.hid (show x < at_ + b.length ∧ x + t ≤ 22528 ∧ l + t + (bl - t) = b.length ∧ bl - t ≤ c' - t by have := HX.out.1; omega)
         have hxi : (x : Int) + (t : Int) ≤ 22528 := by have := HM.out; omega
         clear HE HT HT10 HK11
         go_wp2_with fail
         go_roundw
         case rel => exact ⟨l + t, _, _, _, _, bl - t, c' - t, HM.out.2.2.1, by rw [← HX11.out]; go_num, rfl, HM.out.2.2.2, HFin.out _ (by by_cases e : c' = t; (· right; rw [if_pos e]; exact ⟨rfl, by omega⟩); (· left; rw [if_neg e]))⟩
         case measure => have := HM.out; simp [intOf]; omega
   · obtain rfl : bl = 0 := by omega
     obtain rfl : l = b.length := by omega
     go_wp2_with fail
     go_ret
     exact ⟨v, W, lg', rfl, HI'.out.tk, HI'.out.l1, HI'.out.l2, HI'.out.gs, HI'.out.lw, HI'.out.wl, HI'.out.D, HI'.out.kp⟩
end
end Go.Proofs.YtolknnmaadkgiaaGreatDoor
namespace Go.Proofs.YtolknnmaadkgiaaGreatDoor
set_option maxRecDepth 100000
open Go.RowKit Go.Uc Go.Shelf
def nils (k : Nat) : Array Value := ((List.replicate k (none : Option Nat)).flatMap encO).toArray
theorem make91 (k : Nat) (h1 : 1 ≤ k) (h5 : k ≤ 5) (W : World) : (Instr.makeSlice 91 (.int .i64 (k : Int)) (.int .i64 (k : Int))).run Tryz.prog W = .ok (.slice (some ⟨W.heap.size, 0, none⟩) k k) (W.alloc (.cells (nils k) 93)) := by
 rcases (by omega : k = 1 ∨ k = 2 ∨ k = 3 ∨ k = 4 ∨ k = 5) with rfl | rfl | rfl | rfl | rfl <;> kernel_rfl
theorem make35 (k : Nat) (h1 : 1 ≤ k) (h5 : k ≤ 5) (W : World) : (Instr.makeSlice 35 (.int .i64 (k : Int)) (.int .i64 (k : Int))).run Tryz.prog W = .ok (.slice (some ⟨W.heap.size, 0, none⟩) k k) (W.alloc (.cells (nils k) 49)) := by
 rcases (by omega : k = 1 ∨ k = 2 ∨ k = 3 ∨ k = 4 ∨ k = 5) with rfl | rfl | rfl | rfl | rfl <;> kernel_rfl
theorem nils_row {w : World} {g k e : Nat} (hk : k ≤ 5) (hB : Blk w g e (nils k)) : RowP w e 1 encO (.slice (some ⟨g, 0, none⟩) k k) (List.replicate k none) := by
 have hl := flat_len encO_len (List.replicate k (none : Option Nat))
 have hr : (List.replicate k (none : Option Nat)).length = k := List.length_replicate
 have := RowP.mk (g := g) (cap := k) (cur := nils k) (xs := List.replicate k (none : Option Nat)) encO_len hB (by rw [hr]; exact Nat.le_refl _) (by unfold maxLen; omega) (by unfold nils; rw [List.size_toArray, hl, hr]) (by unfold nils; rw [List.take_of_length_le]; show ((List.replicate k (none : Option Nat)).flatMap encO).length ≤ _; rw [hl]; exact Nat.le_refl _)
 rw [hr] at this
 exact this
theorem info91 : (Tryz.prog.info? 91).map (fun i => (i.zero, i.size, i.bytes)) = some (some (.slice none 0 0), 1, 24) := by kernel_rfl
theorem info35s : (Tryz.prog.info? 35).map (fun i => (i.zero, i.size, i.bytes)) = some (some (.slice none 0 0), 1, 24) := by kernel_rfl
section
variable {w0 w w' : World} {p m n k pool sz lg : Nat} {tp : Tp} {B : TB} {dv : Sl} {K : Nat → Kb} {T : St} {L Dk : List (Option Nat)} {lk : List Lk} {X : Nat → Lb} {F : Nat → Lr}
set_option maxHeartbeats 8000000 in
theorem places_one {mb mc : Nat} (hB : Blk w k 99 #[.int .u64 (pool : Int), .slice (some ⟨mb, 0, none⟩) 1 mc, .slice none 0 0, .slice none 0 0, .slice none 0 0, .int .u64 (lg : Int)]) (hmd : RowT w (.slice (some ⟨mb, 0, none⟩) 1 mc) [tp]) (h1 : 1 ≤ tp.l) (h5 : tp.l ≤ 5) :
   Calls Tryz.prog 41 #[.pointer (some ⟨k, 0, none⟩)] w fun e w' => e = .returned (.tuple #[]) ∧ ∃ (lA : Option Addr) (lc : Nat) (dA : Option Addr) (dc fb gb : Nat), Blk w' k 99 #[.int .u64 (pool : Int), .slice (some ⟨mb, 0, none⟩) 1 mc, .slice none 0 0, .slice lA 1 lc, .slice dA 1 dc, .int .u64 (lg : Int)] ∧ RowP w' 91 1 encS (.slice lA 1 lc) [⟨some ⟨fb, 0, none⟩, tp.l, tp.l⟩] ∧ RowP w' 35 1 encS (.slice dA 1 dc) [⟨some ⟨gb, 0, none⟩, tp.l, tp.l⟩] ∧ RowP w' 93 1 encO (.slice (some ⟨fb, 0, none⟩) tp.l tp.l) (List.replicate tp.l none) ∧ RowP w' 49 1 encO (.slice (some ⟨gb, 0, none⟩) tp.l tp.l) (List.replicate tp.l none) ∧ (w.heap.size ≤ fb ∧ w.heap.size ≤ gb) ∧ Keeps (Only k) w w' := by
 have hmk := (Lib.hid (make91 tp.l h1 h5)).out
 have hmd' := (Lib.hid (make35 tp.l h1 h5)).out
 obtain ⟨g', cap, em, -, -, hmc2, -, -⟩ := hmd.at_ encT_len (i := 0) (by simp)
 injection em with em emn emc
 injection em with em
 injection em with em
 subst em
 clear emn emc
 have m0 : w.cell? ⟨mb, 0, none⟩ = some (.int .i64 (tp.k : Int)) := hmc2 0 (by decide)
 have m1 : w.cell? ⟨mb, 1, none⟩ = some (.int .i64 (tp.l : Int)) := hmc2 1 (by decide)
 have m2 : w.cell? ⟨mb, 2, none⟩ = some (.int .i64 (tp.s : Int)) := hmc2 2 (by decide)
 have c1 := hB.cell 1
 clear hmc2
 go_enter Tryz.func41, Tryz.ntmps41
 go_upto_region 1 with fail
 go_loopw [9] (fun i wr => ∃ j : Nat, j ≤ 1 ∧ i = .int .i64 (j : Int) ∧ (j = 0 → wr = w) ∧ (j = 1 → ∃ (lA : Option Addr) (lc : Nat) (dA : Option Addr) (dc fb gb : Nat), Blk wr k 99 #[.int .u64 (pool : Int), .slice (some ⟨mb, 0, none⟩) 1 mc, .slice none 0 0, .slice lA 1 lc, .slice dA 1 dc, .int .u64 (lg : Int)] ∧ RowP wr 91 1 encS (.slice lA 1 lc) [⟨some ⟨fb, 0, none⟩, tp.l, tp.l⟩] ∧ RowP wr 35 1 encS (.slice dA 1 dc) [⟨some ⟨gb, 0, none⟩, tp.l, tp.l⟩] ∧ RowP wr 93 1 encO (.slice (some ⟨fb, 0, none⟩) tp.l tp.l) (List.replicate tp.l none) ∧ RowP wr 49 1 encO (.slice (some ⟨gb, 0, none⟩) tp.l tp.l) (List.replicate tp.l none) ∧ (w.heap.size ≤ fb ∧ w.heap.size ≤ gb) ∧ Keeps (Only k) w wr)) (fun i _ => 1 - (intOf i).toNat)
 case atStart => exact ⟨0, by omega, rfl, fun _ => rfl, fun e => by omega⟩
 case round =>
   obtain ⟨j, hj, rfl, h0', h1'⟩ := hrel
   by_cases hj0 : j = 0
   · obtain rfl := h0' hj0
     subst hj0
     rw [show ((0 : Nat) : Int) = 0 from rfl]
     clear h0' h1'
     obtain ⟨wz, rfl⟩ : ∃ V : World, V = wr := ⟨_, rfl⟩
     have hT := Blk.new wz 31 #[.int .i64 (tp.k : Int), .int .i64 (tp.l : Int), .int .i64 (tp.s : Int)]
     have ka := (Keeps.refl Non wz).alloc (.cells #[.int .i64 (tp.k : Int), .int .i64 (tp.l : Int), .int .i64 (tp.s : Int)] 31)
     go_upto_region 3 with fail
     obtain ⟨w1, hw1⟩ : ∃ V : World, V = wz.alloc (.cells #[.int .i64 (tp.k : Int), .int .i64 (tp.l : Int), .int .i64 (tp.s : Int)] 31) := ⟨_, rfl⟩
     rw [← hw1] at hT ka ⊢
     clear hw1
     obtain ⟨q, hq⟩ : ∃ z, z = wz.heap.size := ⟨_, rfl⟩
     rw [← hq] at hT ⊢
     have HQ := Lib.hid hq
     clear hq
     have hBk := hB.non ka
     clear m0 m1 m2 c1 hmd
     have HD := Lib.hid (show _ ∧ _ from ⟨hBk.drew, hT.drew⟩)
     have x3 : w1.drew.cell? ⟨k, 3, none⟩ = some (.slice none 0 0) := HD.out.1.cell 3
     have f3 := HD.out.1.frozen 3
     have x1 : w1.drew.cell? ⟨q, 1, none⟩ = some (.int .i64 (tp.l : Int)) := HD.out.2.cell 1
     have HAt : Hid (Ats ((w1.drew.alloc (.cells (nils tp.l) 93)).alloc (.cells #[.slice (some ⟨w1.heap.size, 0, none⟩) tp.l tp.l] 91)) (some ⟨w1.heap.size + 1, 0, none⟩) (([⟨some ⟨w1.heap.size, 0, none⟩, tp.l, tp.l⟩] : List Sl).flatMap encS)) := Lib.hid (by
       have := Ats.lit (w1.drew.alloc (.cells (nils tp.l) 93)) #[.slice (some ⟨w1.heap.size, 0, none⟩) tp.l tp.l] 91 (([⟨some ⟨w1.heap.size, 0, none⟩, tp.l, tp.l⟩] : List Sl).flatMap encS) rfl
       rw [show (w1.drew.alloc (.cells (nils tp.l) 93)).heap.size = w1.heap.size + 1 by simp] at this
       exact this)
     have HBb : Hid (([] : List Sl).length + ([⟨some ⟨w1.heap.size, 0, none⟩, tp.l, tp.l⟩] : List Sl).length ≤ maxLen ∧ (([] : List Sl).length + ([⟨some ⟨w1.heap.size, 0, none⟩, tp.l, tp.l⟩] : List Sl).length) * 24 ≤ 140737488355328) := Lib.hid ⟨by simp [maxLen], by simp⟩
     have HK2 : Hid (Keeps Non w1.drew ((w1.drew.alloc (.cells (nils tp.l) 93)).alloc (.cells #[.slice (some ⟨w1.heap.size, 0, none⟩) tp.l tp.l] 91)) ∧ Blk ((w1.drew.alloc (.cells (nils tp.l) 93)).alloc (.cells #[.slice (some ⟨w1.heap.size, 0, none⟩) tp.l tp.l] 91)) w1.heap.size 93 (nils tp.l)) := Lib.hid ⟨((Keeps.refl Non _).alloc _).alloc _, (Blk.new w1.drew 93 (nils tp.l)).non ((Keeps.refl Non _).alloc _)⟩
     have x4 : (w1.alloc (.cells (nils tp.l) 93)).cell? ⟨k, 3, none⟩ = some (.slice none 0 0) := (hBk.non ((Keeps.refl Non w1).alloc _)).cell 3
     have x5 : ((w1.alloc (.cells (nils tp.l) 93)).alloc (.cells #[.slice (some ⟨w1.heap.size, 0, none⟩) tp.l tp.l] 91)).cell? ⟨k, 3, none⟩ = some (.slice none 0 0) := (hBk.non (((Keeps.refl Non w1).alloc _).alloc _)).cell 3
     clear hBk hT
     go_cut [13] from 13 to 24 (fun v13 wc => v13 = .pointer (some ⟨k, 0, none⟩) ∧ ∃ (lA : Option Addr) (lc fb : Nat), Blk wc k 99 #[.int .u64 (pool : Int), .slice (some ⟨mb, 0, none⟩) 1 mc, .slice none 0 0, .slice lA 1 lc, .slice none 0 0, .int .u64 (lg : Int)] ∧ RowP wc 91 1 encS (.slice lA 1 lc) [⟨some ⟨fb, 0, none⟩, tp.l, tp.l⟩] ∧ RowP wc 93 1 encO (.slice (some ⟨fb, 0, none⟩) tp.l tp.l) (List.replicate tp.l none) ∧ w1.heap.size ≤ fb ∧ Keeps (Only k) w1 wc)
     case first =>
       refine wp_tame ?_
       go_region_law (first
         | ((with_reducible show (if Region.wanted ({ dst := some 22, op := _, type := _, pos := _, after := _, guard := _ } : Oper) _ = true then _ else _)); go_must (refine step_append_row (o := ⟨some 22, _, _, _, _, _⟩) rfl (.tmp 17) (.tmp 21) 96 rfl 91 1 encS (.slice none 0 0) 24 Tryz.underlying96 info91 rfl (by decide) encS_len encS_one (.slice none 0 0) [] rfl (RowP.nil _ _ _ _) (some ⟨w1.heap.size + 1, 0, none⟩) 1 1 [⟨some ⟨w1.heap.size, 0, none⟩, tp.l, tp.l⟩] rfl rfl HAt.out HBb.out.1 HBb.out.2 ?_); intro u8 w8 hO8 hK8 hat; obtain ⟨⟨A8, n8, c8⟩, rfl, h8⟩ := RowP.sl hO8; have hK8n := HK2.out.1.non (hK8.mono fun k e => (List.not_mem_nil e).elim); have z8 := (HD.out.1.non hK8n).cell 3; have f8 := (HD.out.1.non hK8n).frozen 3; have hb8 := HK2.out.2.non (hK8.mono fun k e => (List.not_mem_nil e).elim)))
       all_goals
         go_wp2_with fail
         go_meet
         case rel =>
           obtain rfl : n8 = 1 := h8
           have hBx := HD.out.1.non hK8n
           have k9 : Keeps (Only k) w8 (w8.setCell ⟨k, 3, none⟩ (.slice A8 1 c8)) := (Keeps.refl (Only k) w8).set (p := ⟨k, 3, none⟩) rfl _
           have kk : Keeps (Only k) w1 (w8.setCell ⟨k, 3, none⟩ (.slice A8 1 c8)) := ((Keeps.refl Non w1).drew.trans hK8n).of_non.trans k9
           have hrow := hO8.keep k9 (fun q hq e => by unfold Only at e; subst e; exact own_type hO8 hBx (by decide) hq)
           have hnl := nils_row h5 (hb8.one k9 (hb8.ne hBx (by decide)))
           have hbk := hBx.set 3 (.slice A8 1 c8)
           exact ⟨rfl, A8, c8, w1.heap.size, hbk, hrow, hnl, Nat.le_refl _, kk⟩
     case rest =>
       obtain ⟨rfl, lA, lc, fb, hb2, hl2, hf2, hfb, hk2⟩ := hcut
       obtain ⟨w2, rfl⟩ : ∃ V : World, V = wc := ⟨_, rfl⟩
       have hT2 : Blk w2 q 31 #[.int .i64 (tp.k : Int), .int .i64 (tp.l : Int), .int .i64 (tp.s : Int)] := HD.out.2.keep (by have := hk2; exact ⟨this.os, this.tape, this.output, this.size, this.block⟩) (fun e => by have := hB.lt; have := HQ.out; unfold Only at e; omega)
       clear HD x3 f3 x1 HAt HBb HK2 x4 x5
       go_upto_region 4 with fail
       have hBk := hb2
       have hT := hT2
       have H2 := Lib.hid (show _ ∧ _ ∧ _ ∧ _ from ⟨hl2, hf2, hfb, hk2⟩)
       clear hb2 hT2 hl2 hf2 hfb hk2
       have HD := Lib.hid (show _ ∧ _ from ⟨hBk.drew, hT.drew⟩)
       have x3 : w2.drew.cell? ⟨k, 4, none⟩ = some (.slice none 0 0) := HD.out.1.cell 4
       have f3 := HD.out.1.frozen 4
       have x1 : w2.drew.cell? ⟨q, 1, none⟩ = some (.int .i64 (tp.l : Int)) := HD.out.2.cell 1
       have HAt : Hid (Ats ((w2.drew.alloc (.cells (nils tp.l) 49)).alloc (.cells #[.slice (some ⟨w2.heap.size, 0, none⟩) tp.l tp.l] 35)) (some ⟨w2.heap.size + 1, 0, none⟩) (([⟨some ⟨w2.heap.size, 0, none⟩, tp.l, tp.l⟩] : List Sl).flatMap encS)) := Lib.hid (by
         have := Ats.lit (w2.drew.alloc (.cells (nils tp.l) 49)) #[.slice (some ⟨w2.heap.size, 0, none⟩) tp.l tp.l] 35 (([⟨some ⟨w2.heap.size, 0, none⟩, tp.l, tp.l⟩] : List Sl).flatMap encS) rfl
         rw [show (w2.drew.alloc (.cells (nils tp.l) 49)).heap.size = w2.heap.size + 1 by simp] at this
         exact this)
       have HBb : Hid (([] : List Sl).length + ([⟨some ⟨w2.heap.size, 0, none⟩, tp.l, tp.l⟩] : List Sl).length ≤ maxLen ∧ (([] : List Sl).length + ([⟨some ⟨w2.heap.size, 0, none⟩, tp.l, tp.l⟩] : List Sl).length) * 24 ≤ 140737488355328) := Lib.hid ⟨by simp [maxLen], by simp⟩
       have HK2 : Hid (Keeps Non w2.drew ((w2.drew.alloc (.cells (nils tp.l) 49)).alloc (.cells #[.slice (some ⟨w2.heap.size, 0, none⟩) tp.l tp.l] 35)) ∧ Blk ((w2.drew.alloc (.cells (nils tp.l) 49)).alloc (.cells #[.slice (some ⟨w2.heap.size, 0, none⟩) tp.l tp.l] 35)) w2.heap.size 49 (nils tp.l)) := Lib.hid ⟨((Keeps.refl Non _).alloc _).alloc _, (Blk.new w2.drew 49 (nils tp.l)).non ((Keeps.refl Non _).alloc _)⟩
       have x4 : (w2.alloc (.cells (nils tp.l) 49)).cell? ⟨k, 4, none⟩ = some (.slice none 0 0) := (hBk.non ((Keeps.refl Non w2).alloc _)).cell 4
       have x5 : ((w2.alloc (.cells (nils tp.l) 49)).alloc (.cells #[.slice (some ⟨w2.heap.size, 0, none⟩) tp.l tp.l] 35)).cell? ⟨k, 4, none⟩ = some (.slice none 0 0) := (hBk.non (((Keeps.refl Non w2).alloc _).alloc _)).cell 4
       clear hBk hT
       go_region_law (first
         | ((with_reducible show (if Region.wanted ({ dst := some 34, op := _, type := _, pos := _, after := _, guard := _ } : Oper) _ = true then _ else _)); go_must (refine step_append_row (o := ⟨some 34, _, _, _, _, _⟩) rfl (.tmp 29) (.tmp 33) 97 rfl 35 1 encS (.slice none 0 0) 24 Tryz.underlying97 info35s rfl (by decide) encS_len encS_one (.slice none 0 0) [] rfl (RowP.nil _ _ _ _) (some ⟨w2.heap.size + 1, 0, none⟩) 1 1 [⟨some ⟨w2.heap.size, 0, none⟩, tp.l, tp.l⟩] rfl rfl HAt.out HBb.out.1 HBb.out.2 ?_); intro u8 w8 hO8 hK8 hat; obtain ⟨⟨A8, n8, c8⟩, rfl, h8⟩ := RowP.sl hO8; have hK8n := HK2.out.1.non (hK8.mono fun k e => (List.not_mem_nil e).elim); have z8 := (HD.out.1.non hK8n).cell 4; have f8 := (HD.out.1.non hK8n).frozen 4; have hb8 := HK2.out.2.non (hK8.mono fun k e => (List.not_mem_nil e).elim)))
       all_goals
         go_wp2_with fail
         obtain rfl : n8 = 1 := h8
         have hBx := HD.out.1.non hK8n
         have k9 : Keeps (Only k) w8 (w8.setCell ⟨k, 4, none⟩ (.slice A8 1 c8)) := (Keeps.refl (Only k) w8).set (p := ⟨k, 4, none⟩) rfl _
         have kk : Keeps (Only k) w2 (w8.setCell ⟨k, 4, none⟩ (.slice A8 1 c8)) := ((Keeps.refl Non w2).drew.trans hK8n).of_non.trans k9
         have hrow := hO8.keep k9 (fun q hq e => by unfold Only at e; subst e; exact own_type hO8 hBx (by decide) hq)
         have hnl := nils_row h5 (hb8.one k9 (hb8.ne hBx (by decide)))
         have hbk := hBx.set 4 (.slice A8 1 c8)
         have hl3 := H2.out.1.keep kk (fun q hq e => by unfold Only at e; subst e; exact own_type H2.out.1 HD.out.1 (by decide) hq)
         have hf3 := H2.out.2.1.keep kk (fun q hq e => by unfold Only at e; subst e; exact own_type H2.out.2.1 HD.out.1 (by decide) hq)
         have hsz : wz.heap.size ≤ fb ∧ wz.heap.size ≤ w2.heap.size := ⟨by have := ka.size; have := H2.out.2.2.1; omega, by have := ka.size; have := H2.out.2.2.2.size; omega⟩
         have hkz := (ka.of_non.trans H2.out.2.2.2).trans kk
         have HE := Lib.hid (show _ ∧ _ ∧ _ ∧ _ ∧ _ ∧ _ ∧ _ from ⟨hbk, hl3, hrow, hf3, hnl, hsz, hkz⟩)
         clear hBx k9 kk hrow hnl hbk hl3 hf3 hsz hkz hK8n z8 f8 hb8 hO8 hK8 hat
         go_roundw
         case rel => exact ⟨1, by omega, by go_num, fun e => by omega, fun _ => ⟨lA, lc, A8, c8, fb, w2.heap.size, HE.out⟩⟩
         case measure => simp [intOf]
   · obtain rfl : j = 1 := by omega
     obtain ⟨lA, lc, dA, dc, fb, gb, g1⟩ := h1' rfl
     clear h0' h1'
     go_wp2_with fail
     go_end0
     exact ⟨rfl, lA, lc, dA, dc, fb, gb, g1⟩
end
end Go.Proofs.YtolknnmaadkgiaaGreatDoor
