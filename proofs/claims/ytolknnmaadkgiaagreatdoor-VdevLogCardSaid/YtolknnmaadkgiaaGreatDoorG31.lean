/- Import: a tank of one mirror found again. Import: a tank of one mirror found again. -/
import Derived.Test.YtolknnmaadkgiaaGreatDoorG30
import Derived.BigQuiet
import Derived.BigRegion
set_option linter.unusedVariables false
set_option linter.unusedSimpArgs false
namespace Go.Proofs.YtolknnmaadkgiaaGreatDoor
set_option maxRecDepth 100000
open Go.RowKit Go.Uc Go.Shelf
section
variable {w0 w w' : World} {p m n k pool sz lg : Nat} {tp : Tp} {B : TB} {dv : Sl} {K : Nat → Kb} {T : St} {L Dk : List (Option Nat)} {lk : List Lk} {X : Nat → Lb} {F : Nat → Lr}
structure Ip (w0 w : World) (p m n : Nat) (dv : Sl) (K : Nat → Kb) (T : St) (pool : Nat) (tp : Tp) (c : Nat) (ds po pc : Nat → Nat) (gd od cd : Nat) : Prop where
 gs : Gs w0 w p dv m n K T
 off : T.P.off = false
 n3 : 324 ≤ n
 c0 : 0 < c
 c1 : c ≤ 100
 tok : tp.ok
 k2 : tp.k = 2
 tsn : tp.s = n
 p0 : po 0 = pool
 pl : ∀ j, j < c → po j < 18446744073709551616
 cl : ∀ j, j < c → pc j < tp.l
 dm : ∀ j, j < c → ds j < m
 inj : ∀ i j, i < c → j < c → i ≠ j → ds i ≠ ds j
 lab : ∀ j, j < c → T.f (ds j) 0 = labelB (lbX (po j) tp (pc j))
 cdl : c ≤ cd
 cs : ∀ j, j < c → w.cell? ⟨gd, od + j, none⟩ = some (.pointer (some ⟨(K (ds j)).d, 0, none⟩))
theorem Ip.l5 {c : Nat} {ds po pc : Nat → Nat} {gd od cd : Nat} (h : Ip w0 w p m n dv K T pool tp c ds po pc gd od cd) : 2 ≤ tp.l ∧ tp.l ≤ 5 := by
 have := h.tok.1
 have := h.k2
 omega
theorem Ip.lok {c : Nat} {ds po pc : Nat → Nat} {gd od cd : Nat} (h : Ip w0 w p m n dv K T pool tp c ds po pc gd od cd) {j : Nat} (hj : j < c) : (lbX (po j) tp (pc j)).ok := by
 have h1 := h.pl j hj
 have h2 := h.cl j hj
 exact ⟨h1, by simp [lbX], by simp [lbX], ⟨by simp [lbX], by simp [lbX]; omega⟩, by intro t ht; simp [lbX] at ht; subst ht; exact h.tok⟩
theorem eq36_none (W : World) : (binOp .eql 36 (.pointer none) (.pointer none)).run Tryz.prog W = .ok (.bool true) W := by kernel_rfl
theorem eq36_some (k : Nat) (W : World) : (binOp .eql 36 (.pointer (some ⟨k, 0, none⟩)) (.pointer none)).run Tryz.prog W = .ok (.bool false) W := by kernel_rfl
theorem eg36_none (x y : Operand) (W : World) : (eqGuard .eql 36 x y (.pointer none) (.pointer none)).run Tryz.prog W = .ok () W := by kernel_rfl
theorem eg36_some (x y : Operand) (k : Nat) (W : World) : (eqGuard .eql 36 x y (.pointer (some ⟨k, 0, none⟩)) (.pointer none)).run Tryz.prog W = .ok () W := by kernel_rfl
set_option maxHeartbeats 16000000 in
theorem import_loop {c : Nat} {ds po pc : Nat → Nat} {gd od cd : Nat} (h : Ip w0 w p m n dv K T pool tp c ds po pc gd od cd) (Q : Ending → World → Prop)
   (hQ : ∀ V k mb mc lvs dks fb gb L Dk F, Im w0 w V m K pool tp ds po pc c k mb mc lvs dks fb gb L Dk F → Calls Tryz.prog 43 #[.pointer (some ⟨k, 0, none⟩)] V fun e w' => e = .returned (.int .i64 0) ∧ Calls Tryz.prog 44 #[.pointer (some ⟨k, 0, none⟩)] w' fun e w' => e = .returned (.tuple #[]) ∧ Q (.returned (.tuple #[.pointer (some ⟨k, 0, none⟩), .int .i64 0])) w') :
   Calls Tryz.prog 12 #[.slice (some ⟨gd, od, none⟩) c cd] w Q := by
 have hl5 := h.l5
 have HQ := Lib.hid hQ
 have HH := Lib.hid h
 have hc0 := h.c0
 have hc1 := h.c1
 clear h hQ
 go_enter Tryz.func12, Tryz.ntmps12
 go_upto_region 3 with fail
 go_loopw [4, 13] (fun t i wr => ∃ j : Nat, j ≤ c ∧ i = .int .i64 (j : Int) ∧ ((j = 0 ∧ t = .pointer none ∧ wr = w) ∨ (0 < j ∧ ∃ k mb mc lvs dks fb gb L Dk F, t = .pointer (some ⟨k, 0, none⟩) ∧ Im w0 w wr m K pool tp ds po pc j k mb mc lvs dks fb gb L Dk F))) (fun _ i _ => c - (intOf i).toNat)
 case atStart => exact ⟨0, Nat.zero_le _, rfl, .inl ⟨rfl, rfl, rfl⟩⟩
 case round =>
   obtain ⟨j, hj, rfl, hr⟩ := hrel
   obtain ⟨wx, rfl⟩ : ∃ V : World, V = wr := ⟨_, rfl⟩
   by_cases hjc : j < c
   · have hji : (j : Int) < (c : Int) := by omega
     have hkx : Keeps Non w wx := by
       rcases hr with ⟨-, -, rfl⟩ | ⟨-, k, mb, mc, lvs, dks, fb, gb, L, Dk, F, -, hI⟩
       · exact Keeps.refl _ _
       · exact hI.kp
     have HR := Lib.hid hr
     clear hr
     have y0 := hkx.cell (HH.out.cs j hjc) id
     have HOp := Lib.hid (gs_open (x := lbX (po j) tp (pc j)) (HH.out.gs.non hkx) (HH.out.dm j hjc) HH.out.n3 HH.out.off (HH.out.lok hjc) (fun _ => HH.out.tsn) (HH.out.lab j hjc))
     have HKx := Lib.hid hkx
     clear hkx
     go_upto_region 10 with (go_at_call 39; go_must (refine HOp.out.mono ?_); rintro e w3 ⟨lf, tA, tc, rfl, hq3, hl3, ho3, hK3⟩)
     have HLb : Hid (Calls Tryz.prog 40 #[.pointer (some ⟨lf, 0, none⟩)] w3 fun e w' => ∃ A2 c2, e = .returned (.agg #[.int .u64 (po j : Int), .slice A2 1 c2, .int .i64 0, .int .i64 (pc j : Int)]) ∧ RowT w' (.slice A2 1 c2) [tp] ∧ Keeps Non w3 w') := Lib.hid ((gs_label (x := lbX (po j) tp (pc j)) (HH.out.gs.non (HKx.out.non hK3)) (HH.out.dm j hjc) hq3 (by simp [lbX]) (by simp [lbX])).mono (by rintro e w' ⟨A2, c2, rfl, h1, -, h3⟩; exact ⟨A2, c2, rfl, h1, h3⟩))
     have H3 := Lib.hid (show _ ∧ _ ∧ _ ∧ _ from ⟨hq3, hl3, ho3, hK3⟩)
     clear hq3 hl3 ho3 hK3 HOp y0
     go_upto_region 11 with (go_at_call 40; go_must (refine HLb.out.mono ?_); rintro e w4 ⟨A2, c2, rfl, hr4, hK4⟩)
     obtain ⟨a2, ha2⟩ := row_headAt3 hr4
     subst ha2
     have hB9 := Blk.new w4 114 #[.int .u64 (po j : Int), .slice (some ⟨a2, 0, none⟩) 1 c2, .int .i64 0, .int .i64 (pc j : Int)]
     have ka := (Keeps.refl Non w4).alloc (.cells #[.int .u64 (po j : Int), .slice (some ⟨a2, 0, none⟩) 1 c2, .int .i64 0, .int .i64 (pc j : Int)] 114)
     obtain ⟨w5, hw5⟩ : ∃ V : World, V = w4.alloc (.cells #[.int .u64 (po j : Int), .slice (some ⟨a2, 0, none⟩) 1 c2, .int .i64 0, .int .i64 (pc j : Int)] 114) := ⟨_, rfl⟩
     rw [← hw5] at hB9 ka ⊢
     clear hw5
     obtain ⟨q9, hq9⟩ : ∃ z, z = w4.heap.size := ⟨_, rfl⟩
     rw [← hq9] at hB9 ⊢
     clear hq9
     have HR5 := Lib.hid (hr4.non ka)
     have HK5 := Lib.hid (H3.out.2.2.2.non (hK4.non ka))
     have HL5 := Lib.hid (H3.out.1.non (hK4.non ka))
     clear hr4 hK4 ka HLb
     have hev : ∀ W, (binOp .eql 36 u4 (.pointer none)).run Tryz.prog W = .ok (.bool (decide (j = 0))) W := fun W => by
       rcases HR.out with ⟨e1, e2, -⟩ | ⟨e1, k, mb, mc, lvs, dks, fb, gb, L, Dk, F, e2, -⟩
       · rw [e2, e1]; exact eq36_none W
       · rw [e2, show decide (j = 0) = false from decide_eq_false (by omega)]; exact eq36_some k W
     have heg : ∀ x y W, (eqGuard .eql 36 x y u4 (.pointer none)).run Tryz.prog W = .ok () W := fun x y W => by
       rcases HR.out with ⟨e1, e2, -⟩ | ⟨e1, k, mb, mc, lvs, dks, fb, gb, L, Dk, F, e2, -⟩
       · rw [e2]; exact eg36_none x y W
       · rw [e2]; exact eg36_some x y k W
     go_upto_if 32 with fail
     go_cut [4] from 31 to 40 (fun t wc => ∃ k mb mc lvs dks fb gb L Dk F, t = .pointer (some ⟨k, 0, none⟩) ∧ Im w0 w wc m K pool tp ds po pc j k mb mc lvs dks fb gb L Dk F ∧ Keeps Non w5 wc)
     case first =>
       by_cases hj0 : j = 0
       · obtain ⟨-, ht, hwx⟩ := HR.out.resolve_right (fun e => absurd e.1 (by omega))
         subst ht
         subst hj0
         have hp0 := HH.out.p0
         rw [hp0] at hB9
         have x0 : w5.cell? ⟨q9, 0, none⟩ = some (.int .u64 (pool : Int)) := hB9.cell 0
         have x1 : w5.cell? ⟨q9, 1, none⟩ = some (.slice (some ⟨a2, 0, none⟩) 1 c2) := hB9.cell 1
         go_upto_region 13 with fail
         have hBk := Blk.new w5 99 #[.int .u64 (pool : Int), .slice (some ⟨a2, 0, none⟩) 1 c2, .slice none 0 0, .slice none 0 0, .slice none 0 0, .int .u64 1]
         have kb := (Keeps.refl Non w5).alloc (.cells #[.int .u64 (pool : Int), .slice (some ⟨a2, 0, none⟩) 1 c2, .slice none 0 0, .slice none 0 0, .slice none 0 0, .int .u64 1] 99)
         obtain ⟨w6, hw6⟩ : ∃ V : World, V = w5.alloc (.cells #[.int .u64 (pool : Int), .slice (some ⟨a2, 0, none⟩) 1 c2, .slice none 0 0, .slice none 0 0, .slice none 0 0, .int .u64 1] 99) := ⟨_, rfl⟩
         rw [← hw6] at hBk kb ⊢
         clear hw6
         obtain ⟨k, hk⟩ : ∃ z, z = w5.heap.size := ⟨_, rfl⟩
         rw [← hk] at hBk ⊢
         have HKk := Lib.hid hk
         clear hk x0 x1 hp0
         have HPl := Lib.hid (places_one (lg := 1) hBk (HR5.out.non kb) (by omega) hl5.2)
         have HR6 := Lib.hid (And.intro (HR5.out.non kb) hBk)
         have HKb := Lib.hid kb
         clear hBk kb
         go_wp2_with (go_at_call 41; go_must (refine HPl.out.mono ?_); rintro e w7 ⟨rfl, lA, lc, dA, dc, fb, gb, hB7, hl7, hd7, hf7, hg7, hnw, hK7⟩)
         go_meet
         case rel =>
           have hkk := HKk.out
           have hk7 : Keeps Non w5 w7 := HKb.out.then hK7 fun i hi e => by unfold Only at e; omega
           have hwx' : wx = w := hwx
           subst hwx'
           have h5 := HK5.out.size
           have h6 := HKb.out.size
           exact ⟨k, a2, c2, ⟨lA, 1, lc⟩, ⟨dA, 1, dc⟩, fb, gb, List.replicate tp.l none, List.replicate tp.l none, fun _ => ⟨0, 0, none, 0⟩, rfl, ⟨hB7, HR6.out.1.keep hK7 (fun q hq e => by unfold Only at e; subst e; exact own_type HR6.out.1 HR6.out.2 (by decide) hq), hl7, rfl, hd7, rfl, hf7, hg7, by simp, by simp, fun q hq => by rw [List.getElem?_replicate, if_pos hq]; rfl, fun q hq => by rw [List.getElem?_replicate, if_pos hq]; rfl, lvs_nil _ _, fun q i h => (by cases h), ⟨by omega, by omega, by omega⟩, HK5.out.non hk7⟩, hk7⟩
       · obtain ⟨-, k, mb, mc, lvs, dks, fb, gb, L, Dk, F, ht, hI⟩ := HR.out.resolve_left (fun e => hj0 e.1)
         subst ht
         go_wp2_with fail
         go_meet
         case rel => exact ⟨k, mb, mc, lvs, dks, fb, gb, L, Dk, F, rfl, hI.non HK5.out, Keeps.refl _ _⟩
     case rest =>
       obtain ⟨k, mb, mc, ⟨lA, ln, lc⟩, ⟨dA, dn, dc⟩, fb, gb, L, Dk, F, rfl, hI, hKc⟩ := hcut
       obtain ⟨w8, rfl⟩ : ∃ V : World, V = wc := ⟨_, rfl⟩
       obtain rfl : ln = 1 := hI.lrn
       obtain rfl : dn = 1 := hI.drn
       obtain ⟨lb, hlb⟩ := row_headAt encS_len hI.lr (by simp)
       obtain rfl : lA = some ⟨lb, 0, none⟩ := hlb
       obtain ⟨db, hdb⟩ := row_headAt encS_len hI.dr (by simp)
       obtain rfl : dA = some ⟨db, 0, none⟩ := hdb
       have hcl := HH.out.cl j hjc
       have q3 : w8.cell? ⟨q9, 3, none⟩ = some (.int .i64 (pc j : Int)) := (hB9.non hKc).cell 3
       have q2 : w8.cell? ⟨q9, 2, none⟩ = some (.int .i64 0) := (hB9.non hKc).cell 2
       have q1 : w8.cell? ⟨q9, 1, none⟩ = some (.slice (some ⟨a2, 0, none⟩) 1 c2) := (hB9.non hKc).cell 1
       have q0 : w8.cell? ⟨q9, 0, none⟩ = some (.int .u64 (po j : Int)) := (hB9.non hKc).cell 0
       have k0 : w8.cell? ⟨k, 0, none⟩ = some (.int .u64 (pool : Int)) := hI.blk.cell 0
       have k1 : w8.cell? ⟨k, 1, none⟩ = some (.slice (some ⟨mb, 0, none⟩) 1 mc) := hI.blk.cell 1
       have k3 : w8.cell? ⟨k, 3, none⟩ = some (.slice (some ⟨lb, 0, none⟩) 1 lc) := hI.blk.cell 3
       have l0 : w8.cell? ⟨lb, 0, none⟩ = some (.slice (some ⟨fb, 0, none⟩) tp.l tp.l) := row_cellAt encS_len hI.lr rfl (i := 0) rfl
       have f0 := row_cellAt (s := ⟨some ⟨fb, 0, none⟩, tp.l, tp.l⟩) encO_len hI.lf rfl (hI.le (pc j) hcl)
       have hci : (pc j : Int) < (tp.l : Int) := by omega
       have HE42 := Lib.hid (fun q => equal42_one (tp := tp) (HR5.out.non (hKc.drewN q)) (hI.md.non ((Keeps.refl Non w8).drewN q)))
       have HI := Lib.hid (And.intro hI hKc)
       have HB9 := Lib.hid (hB9.non hKc)
       clear hI hKc hcl hB9
       go_upto_region 14 with fail
       by_cases hpo : po j = pool
       · rw [hpo] at q0
         cases hwho : who po pc pool (pc j) j with
         | some i =>
           rw [hwho] at f0
           replace f0 : w8.cell? ⟨fb, pc j, none⟩ = some (.pointer (some ⟨(F (pc j)).b, 0, none⟩)) := f0
           have HS := Lib.hid (HI.out.1.pass (fun _ => ⟨i, hwho⟩))
           clear hwho hpo
           go_quiet ((go_at_call 42; exact Calls.quiet_of (HE42.out _)))
           go_wp2_with fail
           go_roundw
           case rel => exact ⟨j + 1, by omega, by go_num, .inr ⟨by omega, k, mb, mc, _, _, fb, gb, L, Dk, F, rfl, HS.out.non ((Keeps.refl Non w8).drewN nq)⟩⟩
           case measure => simp [intOf]; omega
         | none =>
           rw [hwho] at f0
           replace f0 : w8.cell? ⟨fb, pc j, none⟩ = some (.pointer none) := f0
           go_quiet ((go_at_call 42; exact Calls.quiet_of (HE42.out _)))
           go_upto_region 15 with fail
           obtain ⟨w9, hw9⟩ : ∃ V : World, V = w8.drewN nq := ⟨_, rfl⟩
           have k89 : Keeps Non w8 w9 := by rw [hw9]; exact (Keeps.refl Non w8).drewN nq
           rw [← hw9]
           clear hw9
           have HI9 := Lib.hid (HI.out.1.non k89)
           have HL9 := Lib.hid (HL5.out.non (HI.out.2.non k89))
           have hb9 := HI9.out.blk
           obtain ⟨cf, hf⟩ := row_blk (s := ⟨some ⟨fb, 0, none⟩, tp.l, tp.l⟩) HI9.out.lf rfl
           obtain ⟨cg, hg⟩ := row_blk (s := ⟨some ⟨gb, 0, none⟩, tp.l, tp.l⟩) HI9.out.dk rfl
           obtain ⟨cl', hl'⟩ := row_blk (s := ⟨some ⟨lb, 0, none⟩, 1, lc⟩) HI9.out.lr rfl
           obtain ⟨cd', hd'⟩ := row_blk (s := ⟨some ⟨db, 0, none⟩, 1, dc⟩) HI9.out.dr rfl
           have n1 : k ≠ fb := hb9.ne hf (by decide)
           have n2 : k ≠ gb := hb9.ne hg (by decide)
           have n3 : lb ≠ fb := hl'.ne hf (by decide)
           have n4 : lb ≠ gb := hl'.ne hg (by decide)
           have n5 : db ≠ fb := hd'.ne hf (by decide)
           have n6 : db ≠ gb := hd'.ne hg (by decide)
           have n7 : fb ≠ gb := hf.ne hg (by decide)
           have n8 : q9 ≠ fb := (HB9.out.non k89).ne hf (by decide)
           have n9 : q9 ≠ gb := (HB9.out.non k89).ne hg (by decide)
           have x3 : w9.cell? ⟨q9, 3, none⟩ = some (.int .i64 (pc j : Int)) := k89.cell q3 id
           have x2 : w9.cell? ⟨q9, 2, none⟩ = some (.int .i64 0) := k89.cell q2 id
           have y3 : w9.cell? ⟨k, 3, none⟩ = some (.slice (some ⟨lb, 0, none⟩) 1 lc) := k89.cell k3 id
           have y4 : w9.cell? ⟨k, 4, none⟩ = some (.slice (some ⟨db, 0, none⟩) 1 dc) := hb9.cell 4
           have z3 : w9.cell? ⟨lb, 0, none⟩ = some (.slice (some ⟨fb, 0, none⟩) tp.l tp.l) := k89.cell l0 id
           have z4 : w9.cell? ⟨db, 0, none⟩ = some (.slice (some ⟨gb, 0, none⟩) tp.l tp.l) := row_cellAt (s := ⟨some ⟨db, 0, none⟩, 1, dc⟩) encS_len HI9.out.dr rfl (i := 0) rfl
           have u3 : w9.cell? ⟨fb, pc j, none⟩ = some (.pointer none) := k89.cell f0 id
           have u4 : w9.cell? ⟨gb, pc j, none⟩ = some (.pointer none) := by
             have := row_cellAt (s := ⟨some ⟨gb, 0, none⟩, tp.l, tp.l⟩) encO_len HI9.out.dk rfl (HI9.out.de (pc j) (HH.out.cl j hjc))
             rw [hwho] at this
             exact this
           have ff := hf.frozen (pc j)
           have fg := hg.frozen (pc j)
           have HS := Lib.hid (HI9.out.put hpo hwho (HH.out.cl j hjc) (HH.out.dm j hjc) (fun i hi => HH.out.inj i j (by omega) hjc (by omega)) (by rw [← hpo]; exact HL9.out))
           clear q0 q1 q2 q3 k0 k1 k3 l0 f0 hf hg hl' hd' hb9 hwho hpo k89 HE42
           have HSa : Hid ((fun w' : World => w'.cell? ⟨k, 3, none⟩ = some (.slice (some ⟨lb, 0, none⟩) 1 lc) ∧ w'.cell? ⟨lb, 0, none⟩ = some (.slice (some ⟨fb, 0, none⟩) tp.l tp.l) ∧ w'.cell? ⟨q9, 2, none⟩ = some (.int .i64 0) ∧ w'.cell? ⟨q9, 3, none⟩ = some (.int .i64 (pc j : Int)) ∧ w'.cell? ⟨k, 4, none⟩ = some (.slice (some ⟨db, 0, none⟩) 1 dc) ∧ w'.cell? ⟨db, 0, none⟩ = some (.slice (some ⟨gb, 0, none⟩) tp.l tp.l)) (w9.drew.setCell ⟨fb, pc j, none⟩ (.pointer (some ⟨lf, 0, none⟩)))) := Lib.hid (by have kk := (Keeps.refl (Only fb) w9.drew).set (p := ⟨fb, pc j, none⟩) rfl (.pointer (some ⟨lf, 0, none⟩)); exact ⟨kk.cell y3 n1, kk.cell z3 n3, kk.cell x2 n8, kk.cell x3 n8, kk.cell y4 n1, kk.cell z4 n5⟩)
           have HSb : Hid ((fun w' : World => w'.cell? ⟨k, 3, none⟩ = some (.slice (some ⟨lb, 0, none⟩) 1 lc) ∧ w'.cell? ⟨lb, 0, none⟩ = some (.slice (some ⟨fb, 0, none⟩) tp.l tp.l) ∧ w'.cell? ⟨q9, 2, none⟩ = some (.int .i64 0) ∧ w'.cell? ⟨q9, 3, none⟩ = some (.int .i64 (pc j : Int)) ∧ w'.cell? ⟨k, 4, none⟩ = some (.slice (some ⟨db, 0, none⟩) 1 dc) ∧ w'.cell? ⟨db, 0, none⟩ = some (.slice (some ⟨gb, 0, none⟩) tp.l tp.l)) ((w9.drew.setCell ⟨fb, pc j, none⟩ (.pointer (some ⟨lf, 0, none⟩))).setCell ⟨gb, pc j, none⟩ (.pointer (some ⟨(K (ds j)).d, 0, none⟩)))) := Lib.hid (by have kk := (Keeps.refl (Only gb) (w9.drew.setCell ⟨fb, pc j, none⟩ (.pointer (some ⟨lf, 0, none⟩)))).set (p := ⟨gb, pc j, none⟩) rfl (.pointer (some ⟨(K (ds j)).d, 0, none⟩)); obtain ⟨s0, s1, s2, s3, s4, s5⟩ := HSa.out; exact ⟨kk.cell s0 n2, kk.cell s1 n4, kk.cell s2 n9, kk.cell s3 n9, kk.cell s4 n2, kk.cell s5 n6⟩)
           refine wp_region_held_drew (S := fun w' : World => w'.cell? ⟨k, 3, none⟩ = some (.slice (some ⟨lb, 0, none⟩) 1 lc) ∧ w'.cell? ⟨lb, 0, none⟩ = some (.slice (some ⟨fb, 0, none⟩) tp.l tp.l) ∧ w'.cell? ⟨q9, 2, none⟩ = some (.int .i64 0) ∧ w'.cell? ⟨q9, 3, none⟩ = some (.int .i64 (pc j : Int)) ∧ w'.cell? ⟨k, 4, none⟩ = some (.slice (some ⟨db, 0, none⟩) 1 dc) ∧ w'.cell? ⟨db, 0, none⟩ = some (.slice (some ⟨gb, 0, none⟩) tp.l tp.l)) (by kernel_rfl) ⟨y3, z3, x2, x3, y4, z4⟩ (fun hH0 => ?_)
           refine wpAnyH_take (i := 0) (oi := ⟨some 72, _, _, _, _, _⟩) (v := .pointer (some ⟨k, 0, none⟩)) rfl (by kernel_rfl) (by kernel_rfl) (by kernel_rfl) (fun _ _ _ h => h) (Or.inl ⟨by kernel_rfl, by intro w' _hw'; go_simp⟩) (by assumption) ?_
           simp only [Act.put, List.setIfInBounds_toArray, List.set_cons_zero, List.set_cons_succ]
           refine wpAnyH_take (i := 1) (oi := ⟨some 73, _, _, _, _, _⟩) (v := .pointer (some ⟨k, 0, none⟩)) rfl (by kernel_rfl) (by kernel_rfl) (by kernel_rfl) (fun _ _ _ h => h) (Or.inl ⟨by kernel_rfl, by intro w' _hw'; go_simp⟩) (by assumption) ?_
           simp only [Act.put, List.setIfInBounds_toArray, List.set_cons_zero, List.set_cons_succ]
           refine wpAnyH_take (i := 2) (oi := ⟨some 74, _, _, _, _, _⟩) (v := .pointer (some ⟨k, 3, none⟩)) rfl (by kernel_rfl) (by kernel_rfl) (by kernel_rfl) (fun _ _ _ h => h) (Or.inl ⟨by kernel_rfl, by intro w' _hw'; go_simp⟩) (by assumption) ?_
           simp only [Act.put, List.setIfInBounds_toArray, List.set_cons_zero, List.set_cons_succ]
           refine wpAnyH_take (i := 3) (oi := ⟨some 75, _, _, _, _, _⟩) (v := .slice (some ⟨lb, 0, none⟩) 1 lc) rfl (by kernel_rfl) (by kernel_rfl) (by kernel_rfl) (fun _ _ _ h => h) (Or.inl ⟨by kernel_rfl, by intro w' hw'; obtain ⟨s0, s1, s2, s3, s4, s5⟩ := hw'; go_simp⟩) (by assumption) ?_
           simp only [Act.put, List.setIfInBounds_toArray, List.set_cons_zero, List.set_cons_succ]
           refine wpAnyH_take (i := 4) (oi := ⟨some 76, _, _, _, _, _⟩) (v := .pointer (some ⟨q9, 2, none⟩)) rfl (by kernel_rfl) (by kernel_rfl) (by kernel_rfl) (fun _ _ _ h => h) (Or.inl ⟨by kernel_rfl, by intro w' _hw'; go_simp⟩) (by assumption) ?_
           simp only [Act.put, List.setIfInBounds_toArray, List.set_cons_zero, List.set_cons_succ]
           refine wpAnyH_take (i := 5) (oi := ⟨some 77, _, _, _, _, _⟩) (v := .int .i64 0) rfl (by kernel_rfl) (by kernel_rfl) (by kernel_rfl) (fun _ _ _ h => h) (Or.inl ⟨by kernel_rfl, by intro w' hw'; obtain ⟨s0, s1, s2, s3, s4, s5⟩ := hw'; go_simp⟩) (by assumption) ?_
           simp only [Act.put, List.setIfInBounds_toArray, List.set_cons_zero, List.set_cons_succ]
           refine wpAnyH_take (i := 6) (oi := ⟨some 78, _, _, _, _, _⟩) (v := .pointer (some ⟨lb, 0, none⟩)) rfl (by kernel_rfl) (by kernel_rfl) (by kernel_rfl) (fun _ _ _ h => h) (Or.inl ⟨by kernel_rfl, by intro w' _hw'; go_simp⟩) (by assumption) ?_
           simp only [Act.put, List.setIfInBounds_toArray, List.set_cons_zero, List.set_cons_succ]
           refine wpAnyH_take (i := 7) (oi := ⟨some 79, _, _, _, _, _⟩) (v := .slice (some ⟨fb, 0, none⟩) tp.l tp.l) rfl (by kernel_rfl) (by kernel_rfl) (by kernel_rfl) (fun _ _ _ h => h) (Or.inl ⟨by kernel_rfl, by intro w' hw'; obtain ⟨s0, s1, s2, s3, s4, s5⟩ := hw'; go_simp⟩) (by assumption) ?_
           simp only [Act.put, List.setIfInBounds_toArray, List.set_cons_zero, List.set_cons_succ]
           refine wpAnyH_take (i := 8) (oi := ⟨some 80, _, _, _, _, _⟩) (v := .pointer (some ⟨q9, 3, none⟩)) rfl (by kernel_rfl) (by kernel_rfl) (by kernel_rfl) (fun _ _ _ h => h) (Or.inl ⟨by kernel_rfl, by intro w' _hw'; go_simp⟩) (by assumption) ?_
           simp only [Act.put, List.setIfInBounds_toArray, List.set_cons_zero, List.set_cons_succ]
           refine wpAnyH_take (i := 9) (oi := ⟨some 81, _, _, _, _, _⟩) (v := .int .i64 (pc j : Int)) rfl (by kernel_rfl) (by kernel_rfl) (by kernel_rfl) (fun _ _ _ h => h) (Or.inl ⟨by kernel_rfl, by intro w' hw'; obtain ⟨s0, s1, s2, s3, s4, s5⟩ := hw'; go_simp⟩) (by assumption) ?_
           simp only [Act.put, List.setIfInBounds_toArray, List.set_cons_zero, List.set_cons_succ]
           refine wpAnyH_take (i := 10) (oi := ⟨some 82, _, _, _, _, _⟩) (v := .pointer (some ⟨k, 0, none⟩)) rfl (by kernel_rfl) (by kernel_rfl) (by kernel_rfl) (fun _ _ _ h => h) (Or.inl ⟨by kernel_rfl, by intro w' _hw'; go_simp⟩) (by assumption) ?_
           simp only [Act.put, List.setIfInBounds_toArray, List.set_cons_zero, List.set_cons_succ]
           refine wpAnyH_take (i := 11) (oi := ⟨some 83, _, _, _, _, _⟩) (v := .pointer (some ⟨k, 0, none⟩)) rfl (by kernel_rfl) (by kernel_rfl) (by kernel_rfl) (fun _ _ _ h => h) (Or.inl ⟨by kernel_rfl, by intro w' _hw'; go_simp⟩) (by assumption) ?_
           simp only [Act.put, List.setIfInBounds_toArray, List.set_cons_zero, List.set_cons_succ]
           refine wpAnyH_take (i := 12) (oi := ⟨some 84, _, _, _, _, _⟩) (v := .pointer (some ⟨k, 4, none⟩)) rfl (by kernel_rfl) (by kernel_rfl) (by kernel_rfl) (fun _ _ _ h => h) (Or.inl ⟨by kernel_rfl, by intro w' _hw'; go_simp⟩) (by assumption) ?_
           simp only [Act.put, List.setIfInBounds_toArray, List.set_cons_zero, List.set_cons_succ]
           refine wpAnyH_take (i := 13) (oi := ⟨some 85, _, _, _, _, _⟩) (v := .slice (some ⟨db, 0, none⟩) 1 dc) rfl (by kernel_rfl) (by kernel_rfl) (by kernel_rfl) (fun _ _ _ h => h) (Or.inl ⟨by kernel_rfl, by intro w' hw'; obtain ⟨s0, s1, s2, s3, s4, s5⟩ := hw'; go_simp⟩) (by assumption) ?_
           simp only [Act.put, List.setIfInBounds_toArray, List.set_cons_zero, List.set_cons_succ]
           refine wpAnyH_take (i := 14) (oi := ⟨some 86, _, _, _, _, _⟩) (v := .pointer (some ⟨q9, 2, none⟩)) rfl (by kernel_rfl) (by kernel_rfl) (by kernel_rfl) (fun _ _ _ h => h) (Or.inl ⟨by kernel_rfl, by intro w' _hw'; go_simp⟩) (by assumption) ?_
           simp only [Act.put, List.setIfInBounds_toArray, List.set_cons_zero, List.set_cons_succ]
           refine wpAnyH_take (i := 15) (oi := ⟨some 87, _, _, _, _, _⟩) (v := .int .i64 0) rfl (by kernel_rfl) (by kernel_rfl) (by kernel_rfl) (fun _ _ _ h => h) (Or.inl ⟨by kernel_rfl, by intro w' hw'; obtain ⟨s0, s1, s2, s3, s4, s5⟩ := hw'; go_simp⟩) (by assumption) ?_
           simp only [Act.put, List.setIfInBounds_toArray, List.set_cons_zero, List.set_cons_succ]
           refine wpAnyH_take (i := 16) (oi := ⟨some 88, _, _, _, _, _⟩) (v := .pointer (some ⟨db, 0, none⟩)) rfl (by kernel_rfl) (by kernel_rfl) (by kernel_rfl) (fun _ _ _ h => h) (Or.inl ⟨by kernel_rfl, by intro w' _hw'; go_simp⟩) (by assumption) ?_
           simp only [Act.put, List.setIfInBounds_toArray, List.set_cons_zero, List.set_cons_succ]
           refine wpAnyH_take (i := 17) (oi := ⟨some 89, _, _, _, _, _⟩) (v := .slice (some ⟨gb, 0, none⟩) tp.l tp.l) rfl (by kernel_rfl) (by kernel_rfl) (by kernel_rfl) (fun _ _ _ h => h) (Or.inl ⟨by kernel_rfl, by intro w' hw'; obtain ⟨s0, s1, s2, s3, s4, s5⟩ := hw'; go_simp⟩) (by assumption) ?_
           simp only [Act.put, List.setIfInBounds_toArray, List.set_cons_zero, List.set_cons_succ]
           refine wpAnyH_take (i := 18) (oi := ⟨some 90, _, _, _, _, _⟩) (v := .pointer (some ⟨q9, 3, none⟩)) rfl (by kernel_rfl) (by kernel_rfl) (by kernel_rfl) (fun _ _ _ h => h) (Or.inl ⟨by kernel_rfl, by intro w' _hw'; go_simp⟩) (by assumption) ?_
           simp only [Act.put, List.setIfInBounds_toArray, List.set_cons_zero, List.set_cons_succ]
           refine wpAnyH_take (i := 19) (oi := ⟨some 91, _, _, _, _, _⟩) (v := .int .i64 (pc j : Int)) rfl (by kernel_rfl) (by kernel_rfl) (by kernel_rfl) (fun _ _ _ h => h) (Or.inl ⟨by kernel_rfl, by intro w' hw'; obtain ⟨s0, s1, s2, s3, s4, s5⟩ := hw'; go_simp⟩) (by assumption) ?_
           simp only [Act.put, List.setIfInBounds_toArray, List.set_cons_zero, List.set_cons_succ]
           refine wpAnyH_take (i := 20) (oi := ⟨some 92, _, _, _, _, _⟩) (v := .pointer (some ⟨lf, 0, none⟩)) rfl (by kernel_rfl) (by kernel_rfl) (by kernel_rfl) (fun _ _ _ h => h) (Or.inl ⟨by kernel_rfl, by intro w' _hw'; go_simp⟩) (by assumption) ?_
           simp only [Act.put, List.setIfInBounds_toArray, List.set_cons_zero, List.set_cons_succ]
           refine wpAnyH_take (i := 21) (oi := ⟨some 93, _, _, _, _, _⟩) (v := .pointer (some ⟨(K (ds j)).d, 0, none⟩)) rfl (by kernel_rfl) (by kernel_rfl) (by kernel_rfl) (fun _ _ _ h => h) (Or.inl ⟨by kernel_rfl, by intro w' _hw'; go_simp⟩) (by assumption) ?_
           simp only [Act.put, List.setIfInBounds_toArray, List.set_cons_zero, List.set_cons_succ]
           refine wpAnyH_take (i := 22) (oi := ⟨some 94, _, _, _, _, _⟩) (v := .pointer (some ⟨fb, pc j, none⟩)) rfl (by kernel_rfl) (by kernel_rfl) (by kernel_rfl) (fun _ _ _ h => h) (Or.inl ⟨by kernel_rfl, by intro w' _hw'; go_simp⟩) (by assumption) ?_
           simp only [Act.put, List.setIfInBounds_toArray, List.set_cons_zero, List.set_cons_succ]
           refine wpAnyH_ready (rs := [23]) (by kernel_rfl) (by simp) ?_
           refine AllReadyH.cons (o := ⟨none, _, _, _, _, _⟩) rfl (fun K' hK' => ?_) AllReadyH.nil
           go_simp
           refine hK'.out _ _ (HSa.out) (fun hH => ?_)
           clear hK'
           clear K'
           try simp only [Act.put, List.setIfInBounds_toArray, List.set_cons_zero, List.set_cons_succ]
           refine wpAnyH_take (i := 24) (oi := ⟨some 95, _, _, _, _, _⟩) (v := .pointer (some ⟨gb, pc j, none⟩)) rfl (by kernel_rfl) (by kernel_rfl) (by kernel_rfl) (fun _ _ _ h => h) (Or.inl ⟨by kernel_rfl, by intro w' _hw'; go_simp⟩) (by assumption) ?_
           simp only [Act.put, List.setIfInBounds_toArray, List.set_cons_zero, List.set_cons_succ]
           refine wpAnyH_ready (rs := [25]) (by kernel_rfl) (by simp) ?_
           refine AllReadyH.cons (o := ⟨none, _, _, _, _, _⟩) rfl (fun K' hK' => ?_) AllReadyH.nil
           go_simp
           refine hK'.out _ _ (HSb.out) (fun hH => ?_)
           clear hK'
           clear K'
           try simp only [Act.put, List.setIfInBounds_toArray, List.set_cons_zero, List.set_cons_succ]
           refine wpAnyH_done (by kernel_rfl) ?_ _
           go_wp2_with fail
           go_roundw
           case rel => exact ⟨j + 1, by omega, by go_num, .inr ⟨by omega, k, mb, mc, _, _, fb, gb, _, _, _, rfl, HS.out.non ((Keeps.refl Non _).drew)⟩⟩
           case measure => simp [intOf]; omega
       · have dg : ((po j : Int) == (pool : Int)) = false := beq_eq_false_iff_ne.2 (by omega)
         have HS := Lib.hid (HI.out.1.pass (fun e => absurd e hpo))
         clear hpo
         go_quiet ((go_at_call 42; exact Calls.quiet_of (HE42.out _)))
         go_wp2_with fail
         go_roundw
         case rel => exact ⟨j + 1, by omega, by go_num, .inr ⟨by omega, k, mb, mc, _, _, fb, gb, L, Dk, F, rfl, HS.out.non ((Keeps.refl Non w8).drewN nq)⟩⟩
         case measure => simp [intOf]; omega
   · obtain rfl : j = c := by omega
     obtain ⟨-, k, mb, mc, lvs, dks, fb, gb, L, Dk, F, ht, hI⟩ := hr.resolve_left (fun e => by omega)
     subst ht
     have HB := Lib.hid (HQ.out wx k mb mc lvs dks fb gb L Dk F hI)
     clear hI
     go_wp2_with (first
       | (go_at_call 43; go_must (refine HB.out.mono ?_); rintro e w4 ⟨rfl, hB4⟩; have HB4 := Lib.hid hB4; clear hB4)
       | (go_at_call 44; go_must (refine HB4.out.mono ?_); rintro e w5 ⟨rfl, hB5⟩; have HB5 := Lib.hid hB5; clear hB5))
     exact HB5.out
end
end Go.Proofs.YtolknnmaadkgiaaGreatDoor
namespace Go.Proofs.YtolknnmaadkgiaaGreatDoor
set_option maxRecDepth 100000
open Go.RowKit Go.Uc Go.Shelf
theorem who_zero {po pc : Nat → Nat} {pool : Nat} (h : po 0 = pool) : ∀ c, 0 < c → who po pc pool (pc 0) c = some 0
 | 0, h0 => absurd h0 (by omega)
 | 1, _ => who_new rfl h rfl
 | c + 2, _ => who_had (who_zero h (c + 1) (by omega))
theorem pres_mem {L : List (Option Nat)} {q b k : Nat} (h : L[q]? = some (some b)) (hq : q < k) : pres L k ≠ [] := fun e => by
 have : (q, b) ∈ pres L k := by
   unfold pres
   refine List.mem_filterMap.2 ⟨q, List.mem_range.2 hq, ?_⟩
   rw [h]
 rw [e] at this
 exact (List.not_mem_nil this).elim
structure Fo (w0 w w' : World) (p m n : Nat) (dv : Sl) (K : Nat → Kb) (T : St) (pool : Nat) (tp : Tp) (c : Nat) (ds po pc : Nat → Nat) (k : Nat) (B : TB) (L Dk : List (Option Nat)) (F : Nat → Lr) (lg tx : Nat) : Prop where
 tk : Tk w' k pool tp B L Dk (lkB L (List.replicate tp.l Lk.no) tx tp.l) (n - 292) lg
 l1 : 1 ≤ lg
 l2 : lg ≤ 281474976710657
 gs : Gs w0 w' p dv m n K T
 lv : Lvs w0 w' m K (lbX pool tp) F L
 ll : L.length = tp.l
 le : ∀ q, q < tp.l → L[q]? = some ((who po pc pool q c).map fun _ => (F q).b)
 de : ∀ q, q < tp.l → Dk[q]? = some ((who po pc pool q c).map fun i => (K (ds i)).d)
 ixe : ∀ q i, who po pc pool q c = some i → (F q).ix = ds i
 new : w.heap.size ≤ k ∧ ∀ q, q ∈ own B.lf.v ∨ q ∈ own B.dk.v ∨ q ∈ own B.lv.v ∨ q ∈ own B.kv.v → w.heap.size ≤ q
 kp : Keeps Non w w'
section
variable {w0 w w' : World} {p m n k pool sz lg : Nat} {tp : Tp} {B : TB} {dv : Sl} {K : Nat → Kb} {T : St} {L Dk : List (Option Nat)} {lk : List Lk} {X : Nat → Lb} {F : Nat → Lr}
set_option maxHeartbeats 4000000 in
theorem import_one {c : Nat} {ds po pc : Nat → Nat} {gd od cd : Nat} (h : Ip w0 w p m n dv K T pool tp c ds po pc gd od cd) (hd : Nat → Option UB)
   (hU : ∀ V q i lf tA tc, who po pc pool q c = some i → Gs w0 V p dv m n K T → Lq w0 V lf (K (ds i)).d (lbX pool tp q) tA tc → Calls Tryz.prog 55 #[.pointer (some ⟨lf, 0, none⟩)] V fun e w' => ∃ (mA : Option Addr) (mc : Nat) (M : List UB), e = .returned (.slice mA M.length mc) ∧ RowB w' (.slice mA M.length mc) M ∧ M.head? = hd q ∧ M.length ≤ 19 ∧ Keeps Non V w')
   (tx : Nat) (htx : tx ≤ 281474976710656) (hb : ∀ (L : List (Option Nat)) (f : Nat → Nat), L.length = tp.l → (∀ q, q < tp.l → L[q]? = some ((who po pc pool q c).map fun _ => f q)) → (bst hd L tp.l).txg = tx)
   (hall : ∀ q i, who po pc pool q c = some i → tx = 0 ∨ hd q ≠ none) :
   Calls Tryz.prog 12 #[.slice (some ⟨gd, od, none⟩) c cd] w fun e w' => ∃ k B L Dk F lg, e = .returned (.tuple #[.pointer (some ⟨k, 0, none⟩), .int .i64 0]) ∧ Fo w0 w w' p m n dv K T pool tp c ds po pc k B L Dk F lg tx := by
 have hl5 := h.l5
 have hw0 := h.gs.keep.size
 refine import_loop h _ fun V k mb mc lvs dks fb gb L Dk F hI => ?_
 obtain ⟨lA, ln, lc⟩ := lvs
 obtain ⟨dA, dn, dc⟩ := dks
 obtain rfl : ln = 1 := hI.lrn
 obtain rfl : dn = 1 := hI.drn
 have hG := h.gs.non hI.kp
 have h0 : L[pc 0]? = some (some (F (pc 0)).b) := by
   rw [hI.le (pc 0) (h.cl 0 h.c0), who_zero h.p0 c h.c0]; rfl
 have hP : pres L L.length ≠ [] := pres_mem h0 (by rw [hI.ll]; exact h.cl 0 h.c0)
 have hll := hI.ll
 refine (build_one (lvs := ⟨lA, 1, lc⟩) (lf := ⟨some ⟨fb, 0, none⟩, tp.l, tp.l⟩) hI.blk hI.md h.k2 rfl hI.lr hll.symm hI.lf hG hI.lv (by omega) (by omega) h.n3 hP).mono ?_
 rintro e w9 ⟨rfl, t, lv, kv, tA9, tc9, hB9, ht9, hM9, hlv9, hkv9, htn9, hK9⟩
 have sk : ∀ {α : Type} {e : TypeId} {kk : Nat} {enc : α → List Value} {v : Value} {xs : List α}, RowP V e kk enc v xs → e ≠ 99 → RowP w9 e kk enc v xs := fun hr he => hr.keep hK9 fun q hq e => by unfold Only at e; subst e; exact own_type hr hI.blk (Ne.symm he) hq
 have hnw := hI.new
 have hsV := hI.kp.size
 obtain ⟨cf, hf⟩ := row_blk (s := ⟨some ⟨fb, 0, none⟩, tp.l, tp.l⟩) hI.lf rfl
 have hfl := hf.lt
 have hT : Tk w9 k pool tp ⟨⟨some ⟨mb, 0, none⟩, 1, mc⟩, ⟨tA9, 1, tc9⟩, ⟨lA, 1, lc⟩, ⟨dA, 1, dc⟩, ⟨some ⟨fb, 0, none⟩, tp.l, tp.l⟩, ⟨some ⟨gb, 0, none⟩, tp.l, tp.l⟩, t, lv, kv⟩ L Dk (List.replicate L.length Lk.no) (n - 292) 1 :=
   ⟨hB9, sk hI.md (by decide), rfl, ht9, rfl, sk hI.lr (by decide), rfl, sk hI.dr (by decide), rfl, sk hI.lf (by decide), hll.symm, sk hI.dk (by decide), hI.dl.symm, hI.dl.trans hll.symm, hM9, fun q hq hq2 => by
     rw [show own (.slice (some ⟨fb, 0, none⟩) tp.l tp.l) = [fb] from own_slice _ _ _, List.mem_singleton] at hq
     subst hq
     have := hlv9 _ hq2
     omega⟩
 have hk9 : Keeps Non w w9 := hI.kp.then hK9 fun i hi e => by unfold Only at e; omega
 have hG9 := h.gs.non hk9
 have hL9 := hI.lv.far hI.blk (by decide) (by decide) hK9
 have hbx := hb L (fun q => (F q).b) hll hI.le
 have hwq : ∀ {q b : Nat}, L[q]? = some (some b) → ∃ i, who po pc pool q c = some i := fun {q b} hq => by
   have hql : q < tp.l := by
     rcases Nat.lt_or_ge q tp.l with h1 | h1
     · exact h1
     · rw [List.getElem?_eq_none (by rw [hll]; exact h1)] at hq; cases hq
   have h2 := hI.le q hql
   rw [hq] at h2
   cases e3 : who po pc pool q c with
   | none => rw [e3] at h2; cases h2
   | some i => exact ⟨i, rfl⟩
 refine ⟨rfl, (behind_tk (hd := hd) hT hG9 hL9 (by omega) h.n3 h.off (by omega) (fun q hq => by have := hkv9 q hq; omega) (Nat.le_refl 1) (by decide) (fun V2 j b hGV hLV hj => ?_) (fun j hj => ⟨Lk.no, by rw [List.getElem?_replicate, if_pos hj], rfl⟩) (fun j b hj => ?_) (by rw [hll, hbx]; exact htx)).mono ?_⟩
 · obtain ⟨i, hi⟩ := hwq hj
   obtain ⟨e1, e2, e3⟩ := hLV.lf j b hj
   rw [e1]
   have e4 := hI.ixe j i hi
   rw [e4] at e3
   exact hU V2 j i _ _ _ hi hGV e3
 · obtain ⟨i, hi⟩ := hwq hj
   rw [hll, hbx]
   exact hall j i hi
 · rintro e w' ⟨rfl, lg', hBh⟩
   have hbh := hBh
   rw [hll, hbx] at hbh
   refine ⟨rfl, k, _, L, Dk, F, lg', rfl, ⟨hbh.tk, hbh.l1, hbh.l2, hbh.gs, hbh.lv, hll, hI.le, hI.de, hI.ixe, ⟨hnw.1, fun q hq => ?_⟩, hk9.then hbh.kp fun i hi e => ?_⟩⟩
   · rcases hq with hq | hq | hq | hq
     · rw [show own (.slice (some ⟨fb, 0, none⟩) tp.l tp.l) = [fb] from own_slice _ _ _, List.mem_singleton] at hq
       omega
     · rw [show own (.slice (some ⟨gb, 0, none⟩) tp.l tp.l) = [gb] from own_slice _ _ _, List.mem_singleton] at hq
       omega
     · have := hlv9 q hq; omega
     · have := hkv9 q hq; omega
   · rcases e with e | e
     · omega
     · have := hkv9 i e; omega
end
end Go.Proofs.YtolknnmaadkgiaaGreatDoor
