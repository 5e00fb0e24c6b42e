/- A tank of one mirror: Mark. A tank of one mirror: Best. The label of a place; is a disk among these?. -/
import Derived.Test.YtolknnmaadkgiaaGreatDoorG23
import Derived.StillTailTactics
set_option linter.unusedVariables false
set_option linter.unusedSimpArgs false
namespace Go.Proofs.YtolknnmaadkgiaaGreatDoor
set_option maxRecDepth 100000
open Go.RowKit Go.Uc Go.Shelf
theorem row_cellAt {α : Type} {w : World} {e : TypeId} {s : Sl} {enc : α → List Value} {xs : List α} (henc : ∀ x, (enc x).length = 1) (h : RowP w e 1 enc s.v xs) {g i : Nat} (hg : s.A = some ⟨g, 0, none⟩) {x : α} (hx : xs[i]? = some x) : w.cell? ⟨g, i, none⟩ = (enc x)[0]? := by
 have hlt : i < xs.length := by
   rcases Nat.lt_or_ge i xs.length with h | h
   · exact h
   · rw [List.getElem?_eq_none h] at hx; cases hx
 obtain ⟨g', cap, e1, -, -, hc, -, -⟩ := h.at_ henc hlt
 injection e1 with e1 _ _
 rw [hg] at e1
 injection e1 with e1
 injection e1 with e1
 subst e1
 have := hc 0 (by decide)
 rw [Nat.mul_one, Nat.add_zero] at this
 rw [this, List.getElem_of_getElem? hx |>.2]
theorem row_headAt {α : Type} {w : World} {e : TypeId} {s : Sl} {enc : α → List Value} {xs : List α} (henc : ∀ x, (enc x).length = 1) (h : RowP w e 1 enc s.v xs) (h0 : 0 < xs.length) : ∃ g, s.A = some ⟨g, 0, none⟩ := by
 obtain ⟨g', cap, e1, -⟩ := h.at_ henc h0
 injection e1 with e1 _ _
 exact ⟨g', e1⟩
structure Hd (B : TB) (tb lb db fb gb : Nat) : Prop where
 t : B.tops.A = some ⟨tb, 0, none⟩
 l : B.lvs.A = some ⟨lb, 0, none⟩
 d : B.dks.A = some ⟨db, 0, none⟩
 f : B.lf.A = some ⟨fb, 0, none⟩
 g : B.dk.A = some ⟨gb, 0, none⟩
structure Tc (w : World) (k : Nat) (B : TB) (L Dk : List (Option Nat)) (tb lb db fb gb : Nat) : Prop where
 c2 : w.cell? ⟨k, 2, none⟩ = some (.slice (some ⟨tb, 0, none⟩) 1 B.tops.c)
 ct : w.cell? ⟨tb, 0, none⟩ = some (.iface 183 (.pointer (some ⟨B.t, 0, none⟩)))
 c3 : w.cell? ⟨k, 3, none⟩ = some (.slice (some ⟨lb, 0, none⟩) 1 B.lvs.c)
 cl : w.cell? ⟨lb, 0, none⟩ = some (.slice (some ⟨fb, 0, none⟩) L.length B.lf.c)
 c4 : w.cell? ⟨k, 4, none⟩ = some (.slice (some ⟨db, 0, none⟩) 1 B.dks.c)
 cd : w.cell? ⟨db, 0, none⟩ = some (.slice (some ⟨gb, 0, none⟩) L.length B.dk.c)
 cf : ∀ (j : Nat) (o : Option Nat), L[j]? = some o → w.cell? ⟨fb, j, none⟩ = some (.pointer (o.map fun b => ⟨b, 0, none⟩))
 cg : ∀ (j : Nat) (o : Option Nat), Dk[j]? = some o → w.cell? ⟨gb, j, none⟩ = some (.pointer (o.map fun b => ⟨b, 0, none⟩))
section
variable {w0 w w' : World} {p m n k pool sz lg : Nat} {tp : Tp} {B : TB} {dv : Sl} {K : Nat → Kb} {T : St} {L Dk : List (Option Nat)} {lk : List Lk} {X : Nat → Lb} {F : Nat → Lr}
theorem Tk.hds (h : Tk w k pool tp B L Dk lk sz lg) (h0 : 0 < L.length) : ∃ tb lb db fb gb, Hd B tb lb db fb gb := by
 obtain ⟨tb, e1⟩ := row_headAt encI_len h.tr (by simp)
 obtain ⟨lb, e2⟩ := row_headAt encS_len h.lr (by simp)
 obtain ⟨db, e3⟩ := row_headAt encS_len h.dr (by simp)
 obtain ⟨fb, e4⟩ := row_headAt encO_len h.lf h0
 obtain ⟨gb, e5⟩ := row_headAt encO_len h.dk (by rw [h.dkl]; exact h0)
 exact ⟨tb, lb, db, fb, gb, e1, e2, e3, e4, e5⟩
theorem Tk.tc (h : Tk w k pool tp B L Dk lk sz lg) {tb lb db fb gb : Nat} (e : Hd B tb lb db fb gb) : Tc w k B L Dk tb lb db fb gb := by
 refine ⟨?_, ?_, ?_, ?_, ?_, ?_, fun j o ho => ?_, fun j o ho => ?_⟩
 · have : w.cell? ⟨k, 2, none⟩ = some (.slice B.tops.A B.tops.n B.tops.c) := h.blk.cell 2
   rw [e.t, h.trn] at this; exact this
 · exact row_cellAt encI_len h.tr e.t (i := 0) (x := B.t) rfl
 · have : w.cell? ⟨k, 3, none⟩ = some (.slice B.lvs.A B.lvs.n B.lvs.c) := h.blk.cell 3
   rw [e.l, h.lrn] at this; exact this
 · have := row_cellAt encS_len h.lr e.l (i := 0) (x := B.lf) rfl
   rw [show (encS B.lf)[0]? = some (.slice B.lf.A B.lf.n B.lf.c) from rfl, e.f, h.lfn] at this; exact this
 · have : w.cell? ⟨k, 4, none⟩ = some (.slice B.dks.A B.dks.n B.dks.c) := h.blk.cell 4
   rw [e.d, h.drn] at this; exact this
 · have := row_cellAt encS_len h.dr e.d (i := 0) (x := B.dk) rfl
   rw [show (encS B.dk)[0]? = some (.slice B.dk.A B.dk.n B.dk.c) from rfl, e.g, h.dkn, h.dkl] at this; exact this
 · exact row_cellAt encO_len h.lf e.f ho
 · exact row_cellAt encO_len h.dk e.g ho
set_option maxHeartbeats 8000000 in
theorem mark_tk (h : Tk w k pool tp B L Dk lk sz lg) (hG : Gs w0 w p dv m n K T) (hL : Lvs w0 w m K X F L) (hall : ∀ k, k < L.length → ∃ b, L[k]? = some (some b)) (h0 : 0 < L.length) (hlk : ∀ j, j < L.length → ∃ o, lk[j]? = some o ∧ o.is = false) (hX : ∀ j, (X j).pool = pool) (hpool : pool < 18446744073709551616) (hn : 324 ≤ n) (ho : T.P.on) (hw : T.P.waits.length ≤ 900000000)
   (txg note : Nat) (r : Pt) (h1 : 1 ≤ txg) (h2 : txg ≤ 281474976710656) (hno : note < 18446744073709551616) (hro : r.ok) (hrb : r.bi ≤ txg) :
   Calls Tryz.prog 17 #[.pointer (some ⟨k, 0, none⟩), .agg #[.int .u64 (pool : Int), .int .u64 (txg : Int), .int .u64 (note : Int), .int .i64 (r.t : Int), .int .i64 (r.at_ : Int), .int .i64 (r.n : Int), .int .u64 (r.bi : Int), .int .i64 (r.k : Int), .int .u64 (r.s.a : Int), .int .u64 (r.s.b : Int), .int .u64 (r.s.c : Int), .int .u64 (r.s.d : Int)]] w fun e w' => ∃ W, e = .returned (.int .i64 0) ∧ Gs w0 w' p dv m n K (T.all (ixs F L.length) (fun f => updL f (marks n txg) (uberB pool txg note r)) W) ∧ W.length ≤ 4 * L.length ∧ Of K (ixs F L.length) W ∧ Keeps (Fg w p m K) w w' := by
 have hB := Blk.new w 63 #[.int .u64 (pool : Int), .int .u64 (txg : Int), .int .u64 (note : Int), .int .i64 (r.t : Int), .int .i64 (r.at_ : Int), .int .i64 (r.n : Int), .int .u64 (r.bi : Int), .int .i64 (r.k : Int), .int .u64 (r.s.a : Int), .int .u64 (r.s.b : Int), .int .u64 (r.s.c : Int), .int .u64 (r.s.d : Int)]
 have ka := (Keeps.refl Non w).alloc (.cells #[.int .u64 (pool : Int), .int .u64 (txg : Int), .int .u64 (note : Int), .int .i64 (r.t : Int), .int .i64 (r.at_ : Int), .int .i64 (r.n : Int), .int .u64 (r.bi : Int), .int .i64 (r.k : Int), .int .u64 (r.s.a : Int), .int .u64 (r.s.b : Int), .int .u64 (r.s.c : Int), .int .u64 (r.s.d : Int)] 63)
 obtain ⟨tb, lb, db, fb, gb, hd⟩ := h.hds h0
 have HT := Lib.hid (fun V (hV : Keeps (Fg w p m K) w V) => (h.fg hG hV).tc hd)
 have HC := Lib.hid (fun V => checkUber68_any pool txg note r h1 h2 hro hrb V)
 have HLk : Hid (∀ V, Keeps (Fg w p m K) w V → ∀ j, j < L.length → ∃ f t : Nat, Calls Tryz.prog 279 #[.pointer (some ⟨B.t, 0, none⟩), .int .i64 (j : Int)] V fun e w' => e = .returned (.tuple #[.agg #[.int .u64 (f : Int), .int .u64 (t : Int)], .bool false]) ∧ Keeps Non V w') := Lib.hid (fun V hV j hj => by
   obtain ⟨o, e1, e2⟩ := hlk j hj
   have := lacks_any (h.fg hG hV).mt j hj o e1
   rw [e2] at this
   exact ⟨_, _, this⟩)
 have HMk : Hid (∀ (V : World) (j : Nat) (W : List Wt) (bj : Nat), j < L.length → L[j]? = some (some bj) → Gs w0 V p dv m n K (T.all (ixs F j) (fun f => updL f (marks n txg) (uberB pool txg note r)) W) → Lvs w0 V m K X F L → W.length ≤ 4 * j →
     Calls Tryz.prog 54 #[.pointer (some ⟨bj, 0, none⟩), .agg #[.int .u64 (pool : Int), .int .u64 (txg : Int), .int .u64 (note : Int), .int .i64 (r.t : Int), .int .i64 (r.at_ : Int), .int .i64 (r.n : Int), .int .u64 (r.bi : Int), .int .i64 (r.k : Int), .int .u64 (r.s.a : Int), .int .u64 (r.s.b : Int), .int .u64 (r.s.c : Int), .int .u64 (r.s.d : Int)]] V fun e w' => ∃ W', e = .returned (.int .i64 0) ∧ Gs w0 w' p dv m n K (T.all (ixs F (j + 1)) (fun f => updL f (marks n txg) (uberB pool txg note r)) (W ++ W')) ∧ W'.length ≤ 4 ∧ Of K [(F j).ix] W' ∧ Keeps (Fg V p m K) V w') := Lib.hid (fun V j W bj hj hLj hGV hLV hWl => by
   obtain ⟨e1, e2, e3⟩ := hLV.lf j bj hLj
   subst e1
   have hnot : (F j).ix ∉ ixs F j := fun hm => by
     obtain ⟨i, hi, e⟩ := mem_ixs.1 hm
     obtain ⟨bi, ei⟩ := hall i (by omega)
     exact hL.inj i j bi _ ei hLj (by omega) e
   have hM := gs_mark hGV e2 e3 hn ho (by show (T.P.waits ++ W).length ≤ _; have := h.mt.few; rw [List.length_append]; omega) txg note r (by rw [hX]; exact hpool) h1 h2 hno hro hrb
   rw [hX] at hM
   refine hM.mono ?_
   rintro e w' ⟨W', rfl, j1, j2, j3, j5⟩
   refine ⟨W', rfl, ?_, j2, fun y hy => ⟨_, List.mem_singleton.2 rfl, (j3 y hy).1⟩, j5⟩
   rw [ixs_succ, ← St.all_snoc T (ixs F j) _ W W' _ hnot]
   exact j1)
 have HLv := Lib.hid (fun V (hV : Keeps (Fg w p m K) w V) => hL.fg hG hV)
 have HAll := Lib.hid hall
 have HG0 : Hid (Gs w0 w p dv m n K (T.all (ixs F 0) (fun f => updL f (marks n txg) (uberB pool txg note r)) [])) := Lib.hid (by show Gs w0 w p dv m n K (T.all [] _ []); rw [St.all_nil]; exact hG)
 have HGn := Lib.hid hG
 have HK : Hid (∀ V, Keeps (Fg w p m K) w V → V.cell? ⟨k, 0, none⟩ = some (.int .u64 (pool : Int))) := Lib.hid (fun V hV => (h.fg hG hV).blk.cell 0)
 have hfew := h.mt.few
 clear h hG hL hall hlk hX hd hro hrb
 obtain ⟨U, hU⟩ : ∃ U, U = (fun f : Nat → List UInt8 => updL f (marks n txg) (uberB pool txg note r)) := ⟨_, rfl⟩
 rw [← hU] at HMk HG0
 rw [← hU]
 clear hU
 go_enter Tryz.func17, Tryz.ntmps17
 go_upto_region 1 with fail
 obtain ⟨w1, hw1⟩ : ∃ V : World, V = w.alloc (.cells #[.int .u64 (pool : Int), .int .u64 (txg : Int), .int .u64 (note : Int), .int .i64 (r.t : Int), .int .i64 (r.at_ : Int), .int .i64 (r.n : Int), .int .u64 (r.bi : Int), .int .i64 (r.k : Int), .int .u64 (r.s.a : Int), .int .u64 (r.s.b : Int), .int .u64 (r.s.c : Int), .int .u64 (r.s.d : Int)] 63) := ⟨_, rfl⟩
 rw [← hw1] at hB ka ⊢
 clear hw1
 obtain ⟨pb, hpb⟩ : ∃ z, z = w.heap.size := ⟨_, rfl⟩
 rw [← hpb] at hB ⊢
 clear hpb
 have HB : Hid (∀ V, Keeps (Fg w1 p m K) w1 V → Blk V pb 63 #[.int .u64 (pool : Int), .int .u64 (txg : Int), .int .u64 (note : Int), .int .i64 (r.t : Int), .int .i64 (r.at_ : Int), .int .i64 (r.n : Int), .int .u64 (r.bi : Int), .int .i64 (r.k : Int), .int .u64 (r.s.a : Int), .int .u64 (r.s.b : Int), .int .u64 (r.s.c : Int), .int .u64 (r.s.d : Int)]) := Lib.hid (fun V hV => (HGn.out.non ka).stay hV hB (by decide) (by decide) (by decide))
 have y0 := hB.cell 0
 have y1 := hB.cell 1
 have y2 := hB.cell 2
 have y3 := hB.cell 3
 have y4 := hB.cell 4
 have y5 := hB.cell 5
 have y6 := hB.cell 6
 have y7 := hB.cell 7
 have y8 := hB.cell 8
 have y9 := hB.cell 9
 have y10 := hB.cell 10
 have y11 := hB.cell 11
 have HC1 := Lib.hid (HC.out w1)
 go_upto_region 4 with (go_at_call 53; go_must (refine HC1.out.mono ?_); rintro e w2 ⟨rfl, hK2⟩)
 have x0 := (HB.out w2 (fg_non hK2)).cell 0
 have k0 := HK.out w2 (fg_non (ka.non hK2))
 clear y0 y1 y2 y3 y4 y5 y6 y7 y8 y9 y10 y11 hB HC1 HC
 go_quiet (fail)
 obtain ⟨w3, hw3⟩ : ∃ V : World, V = w2.drewN nq := ⟨_, rfl⟩
 rw [← hw3]
 have K3 : Keeps Non w1 w3 := by rw [hw3]; exact hK2.drewN nq
 clear hw3
 obtain ⟨w4, rfl⟩ : ∃ V : World, V = w3 := ⟨_, rfl⟩
 have t3 := (HT.out w4 (fg_non (ka.non K3))).c3
 go_upto_region 8 with fail
 clear t3
 have HK4 := Lib.hid (ka.non K3)
 have HK13 := Lib.hid K3
 have hkf : Keeps (Fg w p m K) w w4 := fg_non (ka.non K3)
 have HGF := Lib.hid (show Keeps (Fg w1 p m K) w1 w4 from fg_non K3)
 clear K3
 go_loopw [6, 31] (fun b6 i wr => ∃ j : Nat, j ≤ 1 ∧ b6 = .int .i64 0 ∧ i = .int .i64 (j : Int) ∧ (j = 0 → wr = w4) ∧ (j = 1 → ∃ W : List Wt, Gs w0 wr p dv m n K (T.all (ixs F L.length) U W) ∧ W.length ≤ 4 * L.length ∧ Of K (ixs F L.length) W ∧ Keeps (Fg w p m K) w wr)) (fun _ i _ => 1 - (intOf i).toNat)
 case atStart => exact ⟨0, by omega, rfl, rfl, fun _ => rfl, fun e => by omega⟩
 case round =>
   obtain ⟨j, hj, rfl, rfl, h0', h1'⟩ := hrel
   by_cases hj0 : j = 0
   · obtain rfl := h0' hj0
     subst hj0
     rw [show ((0 : Nat) : Int) = 0 from rfl]
     clear h0' h1'
     obtain ⟨wz, rfl⟩ : ∃ V : World, V = wr := ⟨_, rfl⟩
     have t3 := (HT.out wz hkf).c3
     have tl := (HT.out wz hkf).cl
     go_upto_region 12 with fail
     go_loopw [9, 38] (fun tk i wr => ∃ (j : Nat) (W : List Wt), j ≤ L.length ∧ i = .int .i64 (j : Int) ∧ tk = .bool (decide (0 < j)) ∧ Gs w0 wr p dv m n K (T.all (ixs F j) U W) ∧ W.length ≤ 4 * j ∧ Of K (ixs F j) W ∧ Keeps (Fg wz p m K) wz wr) (fun _ i _ => L.length - (intOf i).toNat)
     case atStart => exact ⟨0, [], Nat.zero_le _, rfl, rfl, HG0.out.non HK4.out, Nat.le_refl _, Of.nil _ _, Keeps.refl _ _⟩
     case round =>
       obtain ⟨j, W, hj, rfl, rfl, hGj, hWl, hOf, hK⟩ := hrel
       obtain ⟨wx, rfl⟩ : ∃ V : World, V = wr := ⟨_, rfl⟩
       have HI := Lib.hid (And.intro hGj (And.intro hWl hOf))
       have HKx := Lib.hid (fg_trans hkf hK)
       have HKb := Lib.hid (fg_trans HGF.out hK)
       clear hGj hWl hOf t3 tl
       by_cases hlt : j < L.length
       · have hji : (j : Int) < (L.length : Int) := by omega
         obtain ⟨bj, ej⟩ := HAll.out j hlt
         have y0 : wx.cell? ⟨fb, j, none⟩ = some (.pointer (some ⟨bj, 0, none⟩)) := (HT.out wx HKx.out).cf j _ ej
         have t2 := (HT.out wx HKx.out).c2
         have tt := (HT.out wx HKx.out).ct
         obtain ⟨f, t, hLc⟩ := HLk.out wx HKx.out j hlt
         have HLc := Lib.hid hLc
         clear hLc
         have HEj := Lib.hid ej
         clear ej
         go_upto_region 15 with (go_at_call 279; go_must (refine HLc.out.mono ?_); rintro e w5 ⟨rfl, hK5⟩)
         have k6 := hK5.alloc (.cells #[.int .u64 (f : Int), .int .u64 (t : Int)] 74)
         obtain ⟨w6, hw6⟩ : ∃ V : World, V = w5.alloc (.cells #[.int .u64 (f : Int), .int .u64 (t : Int)] 74) := ⟨_, rfl⟩
         rw [← hw6] at k6 ⊢
         clear hw6
         have hB6 := HB.out w6 (fg_trans HKb.out (fg_non k6))
         have z0 := hB6.cell 0
         have z1 := hB6.cell 1
         have z2 := hB6.cell 2
         have z3 := hB6.cell 3
         have z4 := hB6.cell 4
         have z5 := hB6.cell 5
         have z6 := hB6.cell 6
         have z7 := hB6.cell 7
         have z8 := hB6.cell 8
         have z9 := hB6.cell 9
         have z10 := hB6.cell 10
         have z11 := hB6.cell 11
         have HM6 := Lib.hid (HMk.out w6 j W bj hlt HEj.out (HI.out.1.non k6) (HLv.out w6 (fg_trans HKx.out (fg_non k6))) HI.out.2.1)
         have HK6 := Lib.hid (And.intro hK k6)
         clear hB6 k6 hK5 y0 t2 tt HLc hK
         go_upto_region 17 with (go_at_call 54; go_must (refine HM6.out.mono ?_); rintro e w7 ⟨W', rfl, hG7, hW7, hO7, hK7⟩)
         have HR := Lib.hid (show _ ∧ _ ∧ _ ∧ _ from ⟨hG7, (by rw [List.length_append]; have := HI.out.2.1; omega : (W ++ W').length ≤ 4 * (j + 1)), (by rw [ixs_succ]; exact HI.out.2.2.app hO7 : Of K (ixs F (j + 1)) (W ++ W')), fg_trans (fg_trans HK6.out.1 (fg_non HK6.out.2)) hK7⟩)
         clear hG7 hW7 hO7 hK7 HM6 z0 z1 z2 z3 z4 z5 z6 z7 z8 z9 z10 z11
         go_wp2_with fail
         go_roundw
         case rel => exact ⟨j + 1, W ++ W', by omega, by go_num, by simp, HR.out⟩
         case measure => simp [intOf]; omega
       · obtain rfl : j = L.length := by omega
         have hd : decide (0 < L.length) = true := decide_eq_true h0
         rw [hd]
         have HE := Lib.hid (show _ ∧ _ ∧ _ ∧ _ from ⟨HI.out.1, HI.out.2.1, HI.out.2.2, HKx.out⟩)
         clear HI HKx HKb hK
         go_wp2_with fail
         go_roundw
         case rel => exact ⟨1, by omega, rfl, by go_num, fun e => by omega, fun _ => ⟨W, HE.out⟩⟩
         case measure => simp [intOf]
   · obtain rfl : j = 1 := by omega
     obtain ⟨W, g1, g2, g3, g4⟩ := h1' rfl
     clear h0' h1'
     go_wp2_with fail
     go_ret
     exact ⟨W, rfl, g1, g2, g3, g4⟩
end
end Go.Proofs.YtolknnmaadkgiaaGreatDoor
namespace Go.Proofs.YtolknnmaadkgiaaGreatDoor
set_option maxRecDepth 100000
open Go.RowKit Go.Uc Go.Shelf
def UB.zero : UB := ⟨0, 0, 0, Pt.zero⟩
def later (a : UB) : Option UB → UB
 | some u => if a.txg < u.txg then u else a
 | none => a
def bst (hd : Nat → Option UB) (L : List (Option Nat)) : Nat → UB
 | 0 => UB.zero
 | j + 1 => match L[j]? with
   | some (some _) => later (bst hd L j) (hd j)
   | _ => bst hd L j
def bestE (o : UB) : Value := if o.txg = 0 then .tuple #[.agg (encB UB.zero).toArray, .int .i64 82] else .tuple #[.agg (encB o).toArray, .int .i64 0]
section
variable {w0 w w' : World} {p m n k pool sz lg : Nat} {tp : Tp} {B : TB} {dv : Sl} {K : Nat → Kb} {T : St} {L Dk : List (Option Nat)} {lk : List Lk} {X : Nat → Lb} {F : Nat → Lr} {hd : Nat → Option UB}
theorem blk_row {u : UB} {M : List UB} {mA : Option Addr} {mc : Nat} (h : RowB w (.slice mA M.length mc) M) (hM : M.head? = some u) : ∃ g, mA = some ⟨g, 0, none⟩ ∧ ∀ i, i < 12 → w.cell? ⟨g, i, none⟩ = (encB u)[i]? := by
 obtain ⟨rest, rfl⟩ : ∃ rest, M = u :: rest := by
   cases M with
   | nil => cases hM
   | cons a r => injection hM with e; exact ⟨r, by rw [e]⟩
 obtain ⟨g, cap, e1, -, -, hc, -, -⟩ := RowP.at_ encB_len h (i := 0) (by simp)
 injection e1 with e1 _ _
 exact ⟨g, e1, fun i hi => by have := hc i hi; rw [Nat.zero_mul, Nat.zero_add] at this; exact this⟩
set_option maxHeartbeats 8000000 in
theorem best_tk (h : Tk w k pool tp B L Dk lk sz lg) (h0 : 0 < L.length)
   (hU : ∀ V j b, Keeps Non w V → L[j]? = some (some b) → Calls Tryz.prog 55 #[.pointer (some ⟨b, 0, none⟩)] V fun e w' => ∃ (mA : Option Addr) (mc : Nat) (M : List UB), e = .returned (.slice mA M.length mc) ∧ RowB w' (.slice mA M.length mc) M ∧ M.head? = hd j ∧ M.length ≤ 19 ∧ Keeps Non V w') :
   Calls Tryz.prog 18 #[.pointer (some ⟨k, 0, none⟩)] w fun e w' => e = .returned (bestE (bst hd L L.length)) ∧ Keeps Non w w' := by
 obtain ⟨hA, hB, ka⟩ := two_new w (encB UB.zero).toArray (encB UB.zero).toArray 63 63
 obtain ⟨tb, lb, db, fb, gb, hd'⟩ := h.hds h0
 have HT := Lib.hid (fun V (hV : Keeps Non w V) => (h.non hV).tc hd')
 have HU := Lib.hid hU
 have hfew := h.mt.few
 clear h hU hd'
 go_enter Tryz.func18, Tryz.ntmps18
 go_upto_region 2 with fail
 obtain ⟨w1, hw1⟩ : ∃ V : World, V = (w.alloc (.cells #[.int .u64 0, .int .u64 0, .int .u64 0, .int .i64 0, .int .i64 0, .int .i64 0, .int .u64 0, .int .i64 0, .int .u64 0, .int .u64 0, .int .u64 0, .int .u64 0] 63)).alloc (.cells #[.int .u64 0, .int .u64 0, .int .u64 0, .int .i64 0, .int .i64 0, .int .i64 0, .int .u64 0, .int .i64 0, .int .u64 0, .int .u64 0, .int .u64 0, .int .u64 0] 63) := ⟨_, rfl⟩
 rw [show (w.alloc (.cells (encB UB.zero).toArray 63)).alloc (.cells (encB UB.zero).toArray 63) = w1 from hw1.symm] at hA hB ka
 rw [← hw1]
 clear hw1
 obtain ⟨q, hq⟩ : ∃ z, z = w.heap.size := ⟨_, rfl⟩
 rw [← hq] at hA hB ⊢
 have HQ := Lib.hid hq
 clear hq
 have t3 := (HT.out w1 ka).c3
 go_upto_region 3 with fail
 clear t3
 go_loopw [15] (fun i wr => ∃ j : Nat, j ≤ 1 ∧ i = .int .i64 (j : Int) ∧ (j = 0 → wr = w1) ∧ (j = 1 → Blk wr (q + 1) 63 (encB (bst hd L L.length)).toArray ∧ Blk wr q 63 (encB UB.zero).toArray ∧ Keeps Non w wr)) (fun i _ => 1 - (intOf i).toNat)
 case atStart => exact ⟨0, by omega, rfl, fun _ => rfl, fun e => by omega⟩
 case round =>
   obtain ⟨j, hj, rfl, h0', h1'⟩ := hrel
   by_cases hj0 : j = 0
   · obtain rfl := h0' hj0
     subst hj0
     rw [show ((0 : Nat) : Int) = 0 from rfl]
     clear h0' h1'
     obtain ⟨wz, rfl⟩ : ∃ V : World, V = wr := ⟨_, rfl⟩
     have t3 := (HT.out wz ka).c3
     have tl := (HT.out wz ka).cl
     go_upto_region 6 with fail
     go_loopw [21] (fun i wr => ∃ (j : Nat) (o : UB), j ≤ L.length ∧ i = .int .i64 (j : Int) ∧ o = bst hd L j ∧ Blk wr (q + 1) 63 (encB o).toArray ∧ Blk wr q 63 (encB UB.zero).toArray ∧ Keeps Non w wr) (fun i _ => L.length - (intOf i).toNat)
     case atStart => exact ⟨0, _, Nat.zero_le _, rfl, rfl, hB, hA, ka⟩
     case round =>
       obtain ⟨j, o, hj, rfl, ho, hBo, hAo, hK⟩ := hrel
       obtain ⟨wx, rfl⟩ : ∃ V : World, V = wr := ⟨_, rfl⟩
       have HO := Lib.hid ho
       clear ho t3 tl
       by_cases hlt : j < L.length
       · have hji : (j : Int) < (L.length : Int) := by omega
         obtain ⟨e0, he0⟩ : ∃ e, L[j]? = some e := ⟨_, List.getElem?_eq_getElem hlt⟩
         have y0 := (HT.out wx hK).cf j _ he0
         cases e0 with
         | none =>
           have HS := Lib.hid (show o = bst hd L (j + 1) by rw [HO.out, bst, he0])
           clear he0
           go_wp2_with fail
           go_roundw
           case rel => exact ⟨j + 1, o, by omega, by go_num, HS.out, hBo, hAo, hK⟩
           case measure => simp [intOf]; omega
         | some b =>
           have HU5 := Lib.hid (HU.out wx j b hK he0)
           have HE := Lib.hid he0
           clear he0
           go_upto_region 10 with (go_at_call 55; go_must (refine HU5.out.mono ?_); rintro e w5 ⟨mA, mc, M, rfl, hM5, hh5, hl5, hK5⟩)
           have hB5 := hBo.non hK5
           have hA5 := hAo.non hK5
           have hKw := hK.non hK5
           clear hBo hAo hK hK5 HU5 y0
           obtain ⟨ml, hml⟩ : ∃ z, z = M.length := ⟨_, rfl⟩
           cases hh : hd j with
           | none =>
             have HS := Lib.hid (show o = bst hd L (j + 1) by rw [HO.out, bst, HE.out]; show _ = later _ (hd j); rw [hh]; rfl)
             obtain rfl : M = [] := by cases M with | nil => rfl | cons a r => rw [hh] at hh5; cases hh5
             clear hM5 hh5 hl5 hml
             have dg : decide ((0 : Int) < (([] : List UB).length : Int)) = false := rfl
             go_quiet (fail)
             go_wp2_with fail
             go_roundw
             case rel => exact ⟨j + 1, o, by omega, by go_num, HS.out, hB5.drewN _, hA5.drewN _, hKw.drewN _⟩
             case measure => simp [intOf]; omega
           | some u =>
             rw [hh] at hh5
             have h0m : (0 : Int) < (M.length : Int) := by
               cases M with
               | nil => cases hh5
               | cons a r => simp
             obtain ⟨g, rfl, hc⟩ := blk_row hM5 hh5
             have HS : Hid (bst hd L (j + 1) = if o.txg < u.txg then u else o) := Lib.hid (by rw [bst, HE.out]; show later _ (hd j) = _; rw [hh, ← HO.out]; rfl)
             have hml1 : (M.length : Int) ≤ 19 := by omega
             clear hM5 hh5 hh hl5
             have c0 : w5.cell? ⟨g, 0, none⟩ = some (.int .u64 (u.pool : Int)) := hc 0 (by decide)
             have c1 : w5.cell? ⟨g, 1, none⟩ = some (.int .u64 (u.txg : Int)) := hc 1 (by decide)
             have c2 : w5.cell? ⟨g, 2, none⟩ = some (.int .u64 (u.note : Int)) := hc 2 (by decide)
             have c3 : w5.cell? ⟨g, 3, none⟩ = some (.int .i64 (u.r.t : Int)) := hc 3 (by decide)
             have c4 : w5.cell? ⟨g, 4, none⟩ = some (.int .i64 (u.r.at_ : Int)) := hc 4 (by decide)
             have c5 : w5.cell? ⟨g, 5, none⟩ = some (.int .i64 (u.r.n : Int)) := hc 5 (by decide)
             have c6 : w5.cell? ⟨g, 6, none⟩ = some (.int .u64 (u.r.bi : Int)) := hc 6 (by decide)
             have c7 : w5.cell? ⟨g, 7, none⟩ = some (.int .i64 (u.r.k : Int)) := hc 7 (by decide)
             have c8 : w5.cell? ⟨g, 8, none⟩ = some (.int .u64 (u.r.s.a : Int)) := hc 8 (by decide)
             have c9 : w5.cell? ⟨g, 9, none⟩ = some (.int .u64 (u.r.s.b : Int)) := hc 9 (by decide)
             have c10 : w5.cell? ⟨g, 10, none⟩ = some (.int .u64 (u.r.s.c : Int)) := hc 10 (by decide)
             have c11 : w5.cell? ⟨g, 11, none⟩ = some (.int .u64 (u.r.s.d : Int)) := hc 11 (by decide)
             have b1 : w5.cell? ⟨q + 1, 1, none⟩ = some (.int .u64 (o.txg : Int)) := hB5.cell 1
             by_cases hlu : o.txg < u.txg
             · have dg : decide (o.txg < u.txg) = true := decide_eq_true (by omega)
               have d0 : decide (0 < M.length) = true := decide_eq_true (by omega)
               have HS2 := Lib.hid (show u = bst hd L (j + 1) by rw [HS.out, if_pos hlu])
               clear hc
               go_quiet (fail)
               obtain ⟨w6, hw6⟩ : ∃ V : World, V = w5.drewN nq := ⟨_, rfl⟩
               rw [← hw6]
               have hB6 : Blk w6 (q + 1) 63 (encB o).toArray := by rw [hw6]; exact hB5.drewN nq
               have hA6 : Blk w6 q 63 (encB UB.zero).toArray := by rw [hw6]; exact hA5.drewN nq
               have hK6 : Keeps Non w w6 := by rw [hw6]; exact hKw.drewN nq
               have hcc : ∀ a, w6.cell? a = w5.cell? a := fun a => by rw [hw6]; rfl
               rw [← hcc] at c0
               rw [← hcc] at c1
               rw [← hcc] at c2
               rw [← hcc] at c3
               rw [← hcc] at c4
               rw [← hcc] at c5
               rw [← hcc] at c6
               rw [← hcc] at c7
               rw [← hcc] at c8
               rw [← hcc] at c9
               rw [← hcc] at c10
               rw [← hcc] at c11
               clear hw6 hcc hB5 hA5 hKw b1 dg
               go_wp2_with ((with_reducible show wpList _ _ _ ({ dst := none, op := Op.store 63 _ _, type := _, pos := _, after := _, guard := _ } :: _) _ _); go_must (refine wpList_store_blk rfl 63 (.tmp 4) (.tmp 43) rfl (q + 1) #[.int .u64 (u.pool : Int), .int .u64 (u.txg : Int), .int .u64 (u.note : Int), .int .i64 (u.r.t : Int), .int .i64 (u.r.at_ : Int), .int .i64 (u.r.n : Int), .int .u64 (u.r.bi : Int), .int .i64 (u.r.k : Int), .int .u64 (u.r.s.a : Int), .int .u64 (u.r.s.b : Int), .int .u64 (u.r.s.c : Int), .int .u64 (u.r.s.d : Int)] rfl rfl 63 _ hB6 (by kernel_rfl) rfl (by kernel_rfl) ?_); intro w7 hB7 hK7)
               have hA7 := hA6.one hK7 (by omega)
               have hqw := HQ.out
               have hKz := hK6.then hK7 fun i hi e => by unfold Only at e; omega
               clear hK7 hB6 hA6 hK6
               go_roundw
               case rel => exact ⟨j + 1, u, by omega, by go_num, HS2.out, hB7, hA7, hKz⟩
               case measure => simp [intOf]; omega
             · have dg : decide (o.txg < u.txg) = false := decide_eq_false (by omega)
               have d0 : decide (0 < M.length) = true := decide_eq_true (by omega)
               have HS2 := Lib.hid (show o = bst hd L (j + 1) by rw [HS.out, if_neg hlu])
               clear hc
               go_quiet (fail)
               go_wp2_with fail
               go_roundw
               case rel => exact ⟨j + 1, o, by omega, by go_num, HS2.out, hB5.drewN _, hA5.drewN _, hKw.drewN _⟩
               case measure => simp [intOf]; omega
       · obtain rfl : j = L.length := by omega
         have HE := Lib.hid (show _ ∧ _ ∧ _ from ⟨HO.out ▸ hBo, hAo, hK⟩)
         clear hBo hAo hK
         go_wp2_with fail
         go_roundw
         case rel => exact ⟨1, by omega, by go_num, fun e => by omega, fun _ => HE.out⟩
         case measure => simp [intOf]
   · obtain rfl : j = 1 := by omega
     obtain ⟨g1, g2, g3⟩ := h1' rfl
     clear h0' h1'
     obtain ⟨wx, rfl⟩ : ∃ V : World, V = wr := ⟨_, rfl⟩
     obtain ⟨o, ho⟩ : ∃ o, o = bst hd L L.length := ⟨_, rfl⟩
     rw [← ho] at g1
     have HO := Lib.hid ho
     clear ho
     have c0 : wx.cell? ⟨q + 1, 0, none⟩ = some (.int .u64 (o.pool : Int)) := g1.cell 0
     have c1 : wx.cell? ⟨q + 1, 1, none⟩ = some (.int .u64 (o.txg : Int)) := g1.cell 1
     have c2 : wx.cell? ⟨q + 1, 2, none⟩ = some (.int .u64 (o.note : Int)) := g1.cell 2
     have c3 : wx.cell? ⟨q + 1, 3, none⟩ = some (.int .i64 (o.r.t : Int)) := g1.cell 3
     have c4 : wx.cell? ⟨q + 1, 4, none⟩ = some (.int .i64 (o.r.at_ : Int)) := g1.cell 4
     have c5 : wx.cell? ⟨q + 1, 5, none⟩ = some (.int .i64 (o.r.n : Int)) := g1.cell 5
     have c6 : wx.cell? ⟨q + 1, 6, none⟩ = some (.int .u64 (o.r.bi : Int)) := g1.cell 6
     have c7 : wx.cell? ⟨q + 1, 7, none⟩ = some (.int .i64 (o.r.k : Int)) := g1.cell 7
     have c8 : wx.cell? ⟨q + 1, 8, none⟩ = some (.int .u64 (o.r.s.a : Int)) := g1.cell 8
     have c9 : wx.cell? ⟨q + 1, 9, none⟩ = some (.int .u64 (o.r.s.b : Int)) := g1.cell 9
     have c10 : wx.cell? ⟨q + 1, 10, none⟩ = some (.int .u64 (o.r.s.c : Int)) := g1.cell 10
     have c11 : wx.cell? ⟨q + 1, 11, none⟩ = some (.int .u64 (o.r.s.d : Int)) := g1.cell 11
     by_cases ht : o.txg = 0
     · have c1' : wx.cell? ⟨q + 1, 1, none⟩ = some (.int .u64 0) := by rw [c1, ht]; rfl
       clear c1
       go_wp2_with ((with_reducible show wpList _ _ _ ({ dst := none, op := Op.store 63 _ _, type := _, pos := _, after := _, guard := _ } :: _) _ _); go_must (refine wpList_store_blk rfl 63 (.tmp 2) (.tmp 49) rfl q #[.int .u64 (UB.zero.pool : Int), .int .u64 (UB.zero.txg : Int), .int .u64 (UB.zero.note : Int), .int .i64 (UB.zero.r.t : Int), .int .i64 (UB.zero.r.at_ : Int), .int .i64 (UB.zero.r.n : Int), .int .u64 (UB.zero.r.bi : Int), .int .i64 (UB.zero.r.k : Int), .int .u64 (UB.zero.r.s.a : Int), .int .u64 (UB.zero.r.s.b : Int), .int .u64 (UB.zero.r.s.c : Int), .int .u64 (UB.zero.r.s.d : Int)] rfl rfl 63 _ g2 (by kernel_rfl) rfl (by kernel_rfl) ?_); intro w7 hB7 hK7)
       have hqw := HQ.out
       refine bodyPost_ret (results_cell_tmp (ty := 63) rfl _ q 63 _ _ rfl hB7 Tryz.underlying63 rfl (by kernel_rfl)) rfl ⟨?_, g3.then hK7 fun i hi e => by unfold Only at e; omega⟩
       rw [← HO.out]
       unfold bestE
       rw [if_pos ht]
       rfl
     · have d1 : ¬ (o.txg : Int) = 0 := by omega
       go_wp2_with ((with_reducible show wpList _ _ _ ({ dst := none, op := Op.store 63 _ _, type := _, pos := _, after := _, guard := _ } :: _) _ _); go_must (refine wpList_store_blk rfl 63 (.tmp 2) (.tmp 50) rfl q #[.int .u64 (o.pool : Int), .int .u64 (o.txg : Int), .int .u64 (o.note : Int), .int .i64 (o.r.t : Int), .int .i64 (o.r.at_ : Int), .int .i64 (o.r.n : Int), .int .u64 (o.r.bi : Int), .int .i64 (o.r.k : Int), .int .u64 (o.r.s.a : Int), .int .u64 (o.r.s.b : Int), .int .u64 (o.r.s.c : Int), .int .u64 (o.r.s.d : Int)] rfl rfl 63 _ g2 (by kernel_rfl) rfl (by kernel_rfl) ?_); intro w7 hB7 hK7)
       have hqw := HQ.out
       refine bodyPost_ret (results_cell_tmp (ty := 63) rfl _ q 63 _ _ rfl hB7 Tryz.underlying63 rfl (by kernel_rfl)) rfl ⟨?_, g3.then hK7 fun i hi e => by unfold Only at e; omega⟩
       rw [← HO.out]
       unfold bestE
       rw [if_neg ht]
       rfl
end
end Go.Proofs.YtolknnmaadkgiaaGreatDoor
namespace Go.Proofs.YtolknnmaadkgiaaGreatDoor
set_option maxRecDepth 100000
open Go.RowKit Go.Uc Go.Shelf
theorem eql35_other {d e : Nat} {w : World} {ca cb : Array Value} (hne : d ≠ e) (ha : Blk w d 110 ca) (hb : Blk w e 110 cb) : (binOp .eql 49 (.pointer (some ⟨d, 0, none⟩)) (.pointer (some ⟨e, 0, none⟩))).run Tryz.prog w = .ok (.bool false) w := by
 obtain ⟨j, hj, hs⟩ := info100
 have hn : (⟨d, 0, none⟩ : Addr) ≠ ⟨e, 0, none⟩ := fun h => hne (by injection h)
 have h : ∀ q : Nat, (Op.equalIn (q + 1) 49 (.pointer (some ⟨d, 0, none⟩)) (.pointer (some ⟨e, 0, none⟩))).run Tryz.prog w = .ok false w := fun q => by
   simp [Op.equalIn, run_underlying Tryz.underlying49, sizeOf, typeInfo, hj, hs, run_sameAddr_other w hn ha hb]
 simp only [binOp]
 simp [Op.equal, Op.maxDepth, h 9999]
section
variable {w0 w w' : World} {p m n k pool sz lg : Nat} {tp : Tp} {B : TB} {dv : Sl} {K : Nat → Kb} {T : St} {L Dk : List (Option Nat)} {lk : List Lk} {X : Nat → Lb} {F : Nat → Lr}
set_option maxHeartbeats 2000000 in
theorem labelOf_any (A : Option Addr) (nt c : Nat) (top place : Nat) (h0 : w.cell? ⟨k, 0, none⟩ = some (.int .u64 (pool : Int))) (h1 : w.cell? ⟨k, 1, none⟩ = some (.slice A nt c)) :
   Calls Tryz.prog 47 #[.pointer (some ⟨k, 0, none⟩), .int .i64 (top : Int), .int .i64 (place : Int)] w fun e w' => e = .returned (.agg #[.int .u64 (pool : Int), .slice A nt c, .int .i64 (top : Int), .int .i64 (place : Int)]) ∧ Keeps Non w w' := by
 have hB := Blk.new w 114 #[.int .u64 0, .slice none 0 0, .int .i64 0, .int .i64 0]
 have ka := (Keeps.refl Non w).alloc (.cells #[.int .u64 0, .slice none 0 0, .int .i64 0, .int .i64 0] 114)
 have y0 := ka.cell h0 (by simp [Non])
 have y1 := ka.cell h1 (by simp [Non])
 clear h0 h1
 go_enter Tryz.func47, Tryz.ntmps47
 go_upto_region 1 with fail
 obtain ⟨w1, hw1⟩ : ∃ V : World, V = w.alloc (.cells #[.int .u64 0, .slice none 0 0, .int .i64 0, .int .i64 0] 114) := ⟨_, rfl⟩
 rw [← hw1] at hB ka y0 y1 ⊢
 clear hw1
 obtain ⟨q, hq⟩ : ∃ z, z = w.heap.size := ⟨_, rfl⟩
 rw [← hq] at hB ⊢
 have HQ := Lib.hid hq
 clear hq
 have hB1 := hB.drew
 have kd := ka.drew
 go_still_tail 11, (by kernel_rfl)
 change wpList _ _ _ _ _ w1.drew
 obtain ⟨w2, hw2⟩ : ∃ V : World, V = w1.drew := ⟨_, rfl⟩
 rw [← hw2] at hB1 kd ⊢
 clear hw2 hB ka
 go_wp2_with ((with_reducible show wpList _ _ _ ({ dst := none, op := Op.store 114 _ _, type := _, pos := _, after := _, guard := _ } :: _) _ _); go_must (refine wpList_store_blk rfl 114 (.tmp 6) (.tmp 17) rfl q #[.int .u64 (pool : Int), .slice A nt c, .int .i64 (top : Int), .int .i64 (place : Int)] rfl rfl 114 _ hB1 (by kernel_rfl) rfl (by simp [Value.oneCell']) ?_); intro w7 hB7 hK7)
 have hqw := HQ.out
 refine bodyPost_ret (results_cell_blk (ty := 114) rfl _ q 114 _ _ rfl hB7 Tryz.underlying114 rfl (by kernel_rfl)) rfl ⟨rfl, kd.then hK7 fun i hi e => by unfold Only at e; omega⟩
set_option maxHeartbeats 2000000 in
theorem index59_no (s : Sl) (hs : s.n = Dk.length) (hR : RowP w 49 1 encO s.v Dk) (d : Nat) (hdk : ∃ cs, Blk w d 110 cs) (hd : ∀ b, some b ∈ Dk → b ≠ d ∧ ∃ cs, Blk w b 110 cs) (hl : Dk.length ≤ 100) : Calls Tryz.prog 59 #[.slice s.A s.n s.c, .pointer (some ⟨d, 0, none⟩)] w fun e w' => e = .returned (.int .i64 (-1)) ∧ w' = w := by
 have HC := Lib.hid (fun g (hg : s.A = some ⟨g, 0, none⟩) j o (ho : Dk[j]? = some o) => row_cellAt encO_len hR hg ho)
 have HG := Lib.hid (fun h0 : 0 < Dk.length => row_headAt encO_len hR h0)
 obtain ⟨A, ns, c⟩ := s
 obtain rfl : ns = Dk.length := hs
 replace HC : Hid (∀ g, A = some ⟨g, 0, none⟩ → ∀ j o, Dk[j]? = some o → w.cell? ⟨g, j, none⟩ = (encO o)[0]?) := HC
 replace HG : Hid (0 < Dk.length → ∃ g, A = some ⟨g, 0, none⟩) := HG
 show Calls Tryz.prog 59 #[.slice A Dk.length c, .pointer (some ⟨d, 0, none⟩)] w _
 have HD := Lib.hid hd
 have HDK := Lib.hid hdk
 clear hd hR hdk
 go_enter Tryz.func59, Tryz.ntmps59
 go_upto_region 2 with fail
 go_loopw [8] (fun i wr => ∃ j : Nat, j ≤ Dk.length ∧ i = .int .i64 (j : Int) ∧ wr = w) (fun i _ => Dk.length - (intOf i).toNat)
 case atStart => exact ⟨0, Nat.zero_le _, rfl, rfl⟩
 case round =>
   obtain ⟨j, hj, rfl, rfl⟩ := hrel
   by_cases hlt : j < Dk.length
   · have hji : (j : Int) < (Dk.length : Int) := by omega
     obtain ⟨g, hg⟩ := HG.out (by omega)
     subst hg
     have y0 := HC.out g rfl j _ (List.getElem?_eq_getElem hlt)
     have hm : Dk[j] ∈ Dk := List.getElem_mem hlt
     revert y0 hm
     generalize Dk[j] = o
     intro y0 hm
     have HE := hj
     cases o with
     | none =>
       replace y0 : _ = some (Value.pointer none) := y0
       go_wp2_with fail
       go_roundw
       case rel => exact ⟨j + 1, by omega, by go_num, by trivial⟩
       case measure => simp [intOf]; omega
     | some b =>
       replace y0 : _ = some (Value.pointer (some ⟨b, 0, none⟩)) := y0
       obtain ⟨hbd, cb, hcb⟩ := HD.out b hm
       obtain ⟨ca, hca⟩ := HDK.out
       have hnq := eql35_other (Ne.symm hbd) hca hcb
       clear hbd hca hcb
       go_wp2_with fail
       go_roundw
       case rel => exact ⟨j + 1, by omega, by go_num, by trivial⟩
       case measure => simp [intOf]; omega
   · obtain rfl : j = Dk.length := by omega
     go_wp2_with fail
     go_ret
     exact ⟨rfl, rfl⟩
end
end Go.Proofs.YtolknnmaadkgiaaGreatDoor
