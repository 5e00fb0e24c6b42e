/- A tank's one mirror made. Is a disk among those behind it?. A disk made a leaf: its label's row is its own. -/
import Derived.Test.YtolknnmaadkgiaaGreatDoorG27
import Derived.Stop.Asserts
import Derived.Test.YtolknnmaadkgiaaGreatDoorG19
set_option linter.unusedVariables false
set_option linter.unusedSimpArgs false
namespace Go.Proofs.YtolknnmaadkgiaaGreatDoor
set_option maxRecDepth 100000
open Go.RowKit Go.Uc Go.Shelf
theorem isTop (v : Value) (W : World) : (Instr.typeAssert (.iface 183 v) 20 101 true).run Tryz.prog W = .ok (.tuple #[.iface 183 v, .bool true]) W := run_typeAssert_hasB Tryz.underlying101 (by kernel_rfl) v 20 W
theorem info101 : (Tryz.prog.info? 101).map (fun i => (i.zero, i.size, i.bytes)) = some (some Value.nilIface, 1, 16) := by kernel_rfl
section
variable {w0 w w' : World} {p m n k pool sz lg : Nat} {tp : Tp} {B : TB} {dv : Sl} {K : Nat → Kb} {T : St} {L Dk : List (Option Nat)} {lk : List Lk} {X : Nat → Lb} {F : Nat → Lr}
set_option maxHeartbeats 8000000 in
theorem build_one {mb mc : Nat} {dks : Value} {lvs lf : Sl} (hB : Blk w k 99 #[.int .u64 (pool : Int), .slice (some ⟨mb, 0, none⟩) 1 mc, .slice none 0 0, .slice lvs.A 1 lvs.c, dks, .int .u64 (lg : Int)]) (hmd : RowT w (.slice (some ⟨mb, 0, none⟩) 1 mc) [tp]) (hk2 : tp.k = 2)
   (hln : lvs.n = 1) (hlv : RowP w 91 1 encS lvs.v [lf]) (hlfn : lf.n = L.length) (hlf : RowP w 93 1 encO lf.v L) (hG : Gs w0 w p dv m n K T) (hL : Lvs w0 w m K X F L) (h0L : 0 < L.length) (h5 : L.length ≤ 5) (hn : 324 ≤ n) (hP : pres L L.length ≠ []) :
   Calls Tryz.prog 43 #[.pointer (some ⟨k, 0, none⟩)] w fun e w' => e = .returned (.int .i64 0) ∧ ∃ (t : Nat) (lv kv : Sl) (tA : Option Addr) (tc : Nat), Blk w' k 99 #[.int .u64 (pool : Int), .slice (some ⟨mb, 0, none⟩) 1 mc, .slice tA 1 tc, .slice lvs.A 1 lvs.c, dks, .int .u64 (lg : Int)] ∧ RowP w' 101 1 encI (.slice tA 1 tc) [t] ∧ Mt w' t lv kv L (List.replicate L.length Lk.no) ((n - 292 : Nat) : Int) ∧ (∀ q ∈ own lv.v, w.heap.size ≤ q) ∧ (∀ q ∈ own kv.v, w.heap.size ≤ q) ∧ w.heap.size ≤ t ∧ Keeps (Only k) w w' := by
 obtain ⟨lA, ln, lc⟩ := lvs
 obtain ⟨fA, fn, fc⟩ := lf
 obtain rfl : ln = 1 := hln
 obtain rfl : fn = L.length := hlfn
 obtain ⟨lb, hlb⟩ := row_headAt encS_len hlv (by simp)
 obtain rfl : lA = some ⟨lb, 0, none⟩ := hlb
 have hcl : w.cell? ⟨lb, 0, none⟩ = some (.slice fA L.length fc) := row_cellAt encS_len hlv rfl (i := 0) rfl
 obtain ⟨g', cap, em, -, -, hmc2, -, -⟩ := hmd.at_ encT_len (i := 0) (by simp)
 injection em with em emn emc
 injection em with em
 injection em with em
 subst em
 clear emn emc
 have m0 : w.cell? ⟨mb, 0, none⟩ = some (.int .i64 (tp.k : Int)) := hmc2 0 (by decide)
 have m1 : w.cell? ⟨mb, 1, none⟩ = some (.int .i64 (tp.l : Int)) := hmc2 1 (by decide)
 have m2 : w.cell? ⟨mb, 2, none⟩ = some (.int .i64 (tp.s : Int)) := hmc2 2 (by decide)
 rw [hk2, show ((2 : Nat) : Int) = 2 from rfl] at m0
 have c1 := hB.cell 1
 have HN := Lib.hid (fun V (hV : Keeps Non w V) => new_mt (hlf.non hV) (hG.non hV) (hL.non hV) h0L h5 hn hP)
 have HB := Lib.hid (show _ ∧ _ from ⟨hB, hcl⟩)
 have HW := Lib.hid (fun t n V => wrap_any t n V)
 have hta := isTop
 clear hmc2 hB hcl hlv hlf hG hL hP hmd
 go_enter Tryz.func43, Tryz.ntmps43
 go_upto_region 2 with fail
 go_loopw [14] (fun i wr => ∃ j : Nat, j ≤ 1 ∧ i = .int .i64 (j : Int) ∧ (j = 0 → wr = w) ∧ (j = 1 → ∃ (t : Nat) (lv kv : Sl) (tA : Option Addr) (tc : Nat), Blk wr k 99 #[.int .u64 (pool : Int), .slice (some ⟨mb, 0, none⟩) 1 mc, .slice tA 1 tc, .slice (some ⟨lb, 0, none⟩) 1 lc, dks, .int .u64 (lg : Int)] ∧ RowP wr 101 1 encI (.slice tA 1 tc) [t] ∧ Mt wr t lv kv L (List.replicate L.length Lk.no) ((n - 292 : Nat) : Int) ∧ (∀ q ∈ own lv.v, w.heap.size ≤ q) ∧ (∀ q ∈ own kv.v, w.heap.size ≤ q) ∧ w.heap.size ≤ t ∧ Keeps (Only k) w wr)) (fun i _ => 1 - (intOf i).toNat)
 case atStart => exact ⟨0, by omega, rfl, fun _ => rfl, fun e => by omega⟩
 case round =>
   obtain ⟨j, hj, rfl, h0', h1'⟩ := hrel
   by_cases hj0 : j = 0
   · obtain rfl := h0' hj0
     subst hj0
     rw [show ((0 : Nat) : Int) = 0 from rfl]
     clear h0' h1'
     obtain ⟨wz, rfl⟩ : ∃ V : World, V = wr := ⟨_, rfl⟩
     have hT := Blk.new wz 31 #[.int .i64 2, .int .i64 (tp.l : Int), .int .i64 (tp.s : Int)]
     have ka := (Keeps.refl Non wz).alloc (.cells #[.int .i64 2, .int .i64 (tp.l : Int), .int .i64 (tp.s : Int)] 31)
     go_upto_region 4 with fail
     obtain ⟨w1, hw1⟩ : ∃ V : World, V = wz.alloc (.cells #[.int .i64 2, .int .i64 (tp.l : Int), .int .i64 (tp.s : Int)] 31) := ⟨_, rfl⟩
     rw [← hw1] at hT ka ⊢
     clear hw1
     obtain ⟨q, hq⟩ : ∃ z, z = wz.heap.size := ⟨_, rfl⟩
     rw [← hq] at hT ⊢
     have HQ := Lib.hid hq
     clear hq
     have x0 : w1.cell? ⟨q, 0, none⟩ = some (.int .i64 2) := hT.cell 0
     have c3 : w1.cell? ⟨k, 3, none⟩ = some (.slice (some ⟨lb, 0, none⟩) 1 lc) := (HB.out.1.non ka).cell 3
     have cl := ka.cell HB.out.2 id
     have HN1 := Lib.hid (HN.out w1 ka)
     clear m0 m1 m2 c1 hT
     go_upto_region 11 with (first
       | (go_at_call 82; go_must (refine HN1.out.mono ?_); rintro e w4 ⟨t, lv, kv, rfl, hM, ht, hlv, hkv, hK4⟩)
       | (go_at_call 81; go_must (refine (HW.out _ 0 _).mono ?_); rintro e w5 ⟨rfl, hw5⟩; subst w5))
     have hB4 := HB.out.1.non (ka.non hK4)
     have k5 : Keeps Non w4 (w4.alloc (.cells #[.iface 183 (.pointer (some ⟨t, 0, none⟩))] 101)) := (Keeps.refl Non w4).alloc _
     have HB5 := Lib.hid (hB4.non k5)
     have x2 : w4.cell? ⟨k, 2, none⟩ = some (.slice none 0 0) := hB4.cell 2
     have HAt := Lib.hid (Ats.lit w4 #[.iface 183 (.pointer (some ⟨t, 0, none⟩))] 101 (([t] : List Nat).flatMap encI) rfl)
     have HBb : Hid (([] : List Nat).length + ([t] : List Nat).length ≤ maxLen ∧ (([] : List Nat).length + ([t] : List Nat).length) * 16 ≤ 140737488355328) := Lib.hid ⟨by simp [maxLen], by simp⟩
     have HM := Lib.hid (show _ ∧ _ ∧ _ ∧ _ ∧ _ ∧ _ from ⟨hM, ht, hlv, hkv, hK4, k5⟩)
     clear hB4 hM ht hlv hkv hK4 k5 x0 c3 cl HN1
     go_upto_region 12 with (at_builtin; go_must (refine wpList_append_row rfl (.tmp 64) (.tmp 66) 95 rfl 101 1 encI Value.nilIface 16 Tryz.underlying95 info101 rfl (by decide) encI_len encI_one (.slice none 0 0) [] rfl (RowP.nil _ _ _ _) (some ⟨w4.heap.size, 0, none⟩) 1 1 [t] rfl rfl HAt.out HBb.out.1 HBb.out.2 ?_); intro v8 w8 hO8 hK8 hat; obtain ⟨⟨A8, n8, c8⟩, rfl, h8⟩ := RowP.sl hO8; have hK8n : Keeps Non _ w8 := hK8.mono fun k e => (List.not_mem_nil e).elim; have z8 := (HB5.out.non hK8n).cell 2; have f8 := (HB5.out.non hK8n).frozen 2)
     obtain ⟨hM, ht, hlv, hkv, hK4, k5⟩ := HM.out
     obtain rfl : n8 = 1 := h8
     have hB8 := HB5.out.non hK8n
     have k9 : Keeps (Only k) w8 (w8.setCell ⟨k, 2, none⟩ (.slice A8 1 c8)) := (Keeps.refl (Only k) w8).set (p := ⟨k, 2, none⟩) rfl _
     have hkk : Keeps Non wz w8 := (ka.non hK4).non (k5.trans hK8n)
     have hM8 := (hM.non (k5.trans hK8n)).far hB8 (by decide) (by decide) (by decide) k9
     have hsz := ka.size
     refine ⟨⟨1, by omega, rfl, fun e => by omega, fun _ => ⟨t, lv, kv, A8, c8, hB8.set 2 (.slice A8 1 c8), hO8.keep k9 (fun q hq e => by unfold Only at e; subst e; exact own_type hO8 hB8 (by decide) hq), hM8, fun q hq => by have := hlv q hq; omega, fun q hq => by have := hkv q hq; omega, by omega, hkk.of_non.trans k9⟩⟩, by simp [intOf]⟩
   · obtain rfl : j = 1 := by omega
     have g1 := h1' rfl
     clear h0' h1'
     go_wp2_with fail
     go_ret
     exact ⟨rfl, g1⟩
end
end Go.Proofs.YtolknnmaadkgiaaGreatDoor
namespace Go.Proofs.YtolknnmaadkgiaaGreatDoor
set_option maxRecDepth 100000
open Go.RowKit Go.Uc Go.Shelf
section
variable {w0 w w' : World} {p m n k pool sz lg : Nat} {tp : Tp} {B : TB} {dv : Sl} {K : Nat → Kb} {T : St} {L Dk : List (Option Nat)} {lk : List Lk} {X : Nat → Lb} {F : Nat → Lr}
set_option maxHeartbeats 2000000 in
theorem index59_at (A : Option Addr) (nd c d : Nat) (hdk : ∃ cs, Blk w d 110 cs) (hC : ∀ j, j < nd → ∃ g o b, A = some ⟨g, o, none⟩ ∧ w.cell? ⟨g, o + j, none⟩ = some (.pointer (some ⟨b, 0, none⟩)) ∧ b ≠ d ∧ ∃ cs, Blk w b 110 cs) (hl : nd ≤ 100) : Calls Tryz.prog 59 #[.slice A nd c, .pointer (some ⟨d, 0, none⟩)] w fun e w' => e = .returned (.int .i64 (-1)) ∧ w' = w := by
 have HC := Lib.hid hC
 have HDK := Lib.hid hdk
 clear hC hdk
 go_enter Tryz.func59, Tryz.ntmps59
 go_upto_region 2 with fail
 go_loopw [8] (fun i wr => ∃ j : Nat, j ≤ nd ∧ i = .int .i64 (j : Int) ∧ wr = w) (fun i _ => nd - (intOf i).toNat)
 case atStart => exact ⟨0, Nat.zero_le _, rfl, rfl⟩
 case round =>
   obtain ⟨j, hj, rfl, rfl⟩ := hrel
   by_cases hlt : j < nd
   · have hji : (j : Int) < (nd : Int) := by omega
     obtain ⟨g, o, b, rfl, y0, hbd, cb, hcb⟩ := HC.out j hlt
     obtain ⟨ca, hca⟩ := HDK.out
     have hnq := eql35_other (Ne.symm hbd) hca hcb
     clear hbd hca hcb
     go_wp2_with fail
     go_roundw
     case rel => exact ⟨j + 1, by omega, by go_num, by trivial⟩
     case measure => simp [intOf]; omega
   · obtain rfl : j = nd := by omega
     go_wp2_with fail
     go_ret
     exact ⟨rfl, rfl⟩
set_option maxHeartbeats 1000000 in
theorem contains48_no (A : Option Addr) (nd c d : Nat) (hdk : ∃ cs, Blk w d 110 cs) (hC : ∀ j, j < nd → ∃ g o b, A = some ⟨g, o, none⟩ ∧ w.cell? ⟨g, o + j, none⟩ = some (.pointer (some ⟨b, 0, none⟩)) ∧ b ≠ d ∧ ∃ cs, Blk w b 110 cs) (hl : nd ≤ 100) : Calls Tryz.prog 48 #[.slice A nd c, .pointer (some ⟨d, 0, none⟩)] w fun e w' => e = .returned (.bool false) ∧ w' = w := by
 have HI := Lib.hid (index59_at A nd c d hdk hC hl)
 clear hdk hC
 go_enter Tryz.func48, Tryz.ntmps48
 go_wp2_with (go_at_call 59; go_must (refine HI.out.mono ?_); rintro e w3 ⟨rfl, hw3⟩; subst w3)
 go_ret
 exact ⟨rfl, rfl⟩
end
end Go.Proofs.YtolknnmaadkgiaaGreatDoor
namespace Go.Proofs.YtolknnmaadkgiaaGreatDoor
set_option maxRecDepth 100000
open Go.RowKit Go.Uc
set_option maxHeartbeats 8000000 in
theorem format26_own {w0 w : World} {K : Kb} {s : Dsk} {wv : Sl} (h : Dm w0 w K s wv) (ho : s.off = false) (hl1 : s.left = -1) (hn : 324 ≤ s.n) (hW : s.waits.length ≤ 100000) (x : Lb) (hx : x.ok) (hs : ∀ hh : x.top < x.ts.length, (x.ts[x.top]).s = s.n) (A : Option Addr) (c : Nat) (hR : RowT w (.slice A x.ts.length c) x.ts) :
   Calls Tryz.prog 50 #[.pointer (some ⟨K.d, 0, none⟩), .agg #[.int .u64 (x.pool : Int), .slice A x.ts.length c, .int .i64 (x.top : Int), .int .i64 (x.place : Int)]] w fun e w' => ∃ lf tA tc, e = .returned (.tuple #[.pointer (some ⟨lf, 0, none⟩), .int .i64 0]) ∧ w.heap.size ≤ lf ∧ (∀ q ∈ own (.slice tA x.ts.length tc), w.heap.size ≤ q) ∧ Did w0 w lf K wv x tA tc (s.fst (labelB x) 7) w' := by
 have h4 : x.ts.length ≤ 4 := hx.2.2.1
 have hlb := labelB_len x h4
 have HEn := Lib.hid (fun V (hV : Keeps Non w V) => encodeLabel57_any x hx A c V (hR.non hV))
 obtain ⟨X, hX⟩ : ∃ X, X = labelB x := ⟨_, rfl⟩
 rw [← hX] at hlb HEn ⊢
 clear hX
 obtain ⟨htop, -⟩ := hx.2.2.2.1
 have hs' := hs htop
 have h1x := hx.2.1
 obtain ⟨pool, ts, top, place⟩ := x
 simp only at HEn hR h4 htop hs' h1x ⊢
 clear hx hs
 obtain ⟨hB2, hB3, hk⟩ := two_new w #[.pointer (some ⟨K.d, 0, none⟩)] #[.int .u64 (pool : Int), .slice A ts.length c, .int .i64 (top : Int), .int .i64 (place : Int)] 49 114
 go_enter Tryz.func50, Tryz.ntmps50
 go_upto_region 1 with fail
 obtain ⟨w1, hw1⟩ : ∃ V : World, V = (w.alloc (.cells #[.pointer (some ⟨K.d, 0, none⟩)] 49)).alloc (.cells #[.int .u64 (pool : Int), .slice A ts.length c, .int .i64 (top : Int), .int .i64 (place : Int)] 114) := ⟨_, rfl⟩
 rw [← hw1] at hB2 hB3 hk ⊢
 clear hw1
 obtain ⟨p2, hp2⟩ : ∃ z, z = w.heap.size := ⟨_, rfl⟩
 rw [← hp2] at hB2 hB3 ⊢
 obtain ⟨p3, hp3⟩ : ∃ z, z = p2 + 1 := ⟨_, rfl⟩
 rw [← hp3] at hB3 ⊢
 have hp3w : w.heap.size ≤ p3 := by omega
 clear hp2 hp3
 have x0 : w1.cell? ⟨p3, 0, none⟩ = some (.int .u64 (pool : Int)) := hB3.cell 0
 have x1 : w1.cell? ⟨p3, 1, none⟩ = some (.slice A ts.length c) := hB3.cell 1
 have x2 : w1.cell? ⟨p3, 2, none⟩ = some (.int .i64 (top : Int)) := hB3.cell 2
 have x3 : w1.cell? ⟨p3, 3, none⟩ = some (.int .i64 (place : Int)) := hB3.cell 3
 have HE1 := Lib.hid (HEn.out w1 hk)
 go_upto_region 4 with (go_at_call 86; go_must (refine HE1.out.mono ?_); rintro e w2 ⟨lbk, rfl, hL2, hln, hK2⟩)
 have hS := Blk.new w2 22 #[.slice (some ⟨lbk, 0, none⟩) 128 128]
 have hks := (Keeps.refl Non w2).alloc (.cells #[.slice (some ⟨lbk, 0, none⟩) 128 128] 22)
 obtain ⟨w3, hw3⟩ : ∃ V : World, V = w2.alloc (.cells #[.slice (some ⟨lbk, 0, none⟩) 128 128] 22) := ⟨_, rfl⟩
 rw [← hw3] at hS hks ⊢
 clear hw3
 obtain ⟨p6, hp6⟩ : ∃ z, z = w2.heap.size := ⟨_, rfl⟩
 rw [← hp6] at hS ⊢
 clear hp6
 have hK13 := hK2.non hks
 have hK3 := hk.non hK13
 have hL3 := hL2.non hks
 have hlbw : w.heap.size ≤ lbk := by have := hk.size; omega
 have hB23 := hB2.non hK13
 have hB33 := hB3.non hK13
 have hR3 := hR.non hK3
 have h3 := h.non hK3
 clear hB2 hB3 hL2 hK2 hks HEn HE1 x0 x1 x2 x3 hR
 obtain ⟨g, cap, e1, hle, -, hc, -, -⟩ := hR3.at_ encT_len htop
 injection e1 with e1 _ e2
 subst e1 e2
 have y0 : w3.cell? ⟨p2, 0, none⟩ = some (.pointer (some ⟨K.d, 0, none⟩)) := one_cell hB23
 have y1 : w3.cell? ⟨p3, 1, none⟩ = some (.slice (some ⟨g, 0, none⟩) ts.length c) := hB33.cell 1
 have y2 : w3.cell? ⟨p3, 2, none⟩ = some (.int .i64 (top : Int)) := hB33.cell 2
 have y3 : w3.cell? ⟨g, top * 3 + 2, none⟩ = some (.int .i64 (s.n : Int)) := by rw [← hs']; exact hc 2 (by decide)
 have HSc := Lib.hid (fun q => sectors52_any (h3.non ((Keeps.refl Non w3).drewN q)))
 clear hc hs'
 have hnn : ((s.n : Int) != (s.n : Int)) = false := by simp
 generalize hsn : s.n = n at y3 HSc hnn
 have HSN := Lib.hid hsn
 clear hsn
 go_quiet ((go_at_call 49; exact Calls.quiet_of_same (HSc.out _)))
 obtain ⟨w4, hw4⟩ : ∃ V : World, V = w3.drewN nq := ⟨_, rfl⟩
 have hk4 : Keeps Non w3 w4 := by rw [hw4]; exact (Keeps.refl _ _).drewN _
 rw [← hw4]
 clear hw4 y0 y1 y2 y3
 have hB24 := hB23.non hk4
 have hB34 := hB33.non hk4
 have hS4 := hS.non hk4
 have hL4 := hL3.non hk4
 have hR4 := hR3.non hk4
 have h4' := h3.non hk4
 have hK4 := hK3.non hk4
 clear hB23 hB33 hS hL3 hR3 h3 hK3 HSc
 have y0 : w4.cell? ⟨p2, 0, none⟩ = some (.pointer (some ⟨K.d, 0, none⟩)) := one_cell hB24
 go_upto_region 7 with fail
 have hSt : RowP (w4.alloc (.cells #[.func (.func 87) #[] #[.pointer (some ⟨p2, 0, none⟩)], .func (.func 88) #[] #[.pointer (some ⟨p2, 0, none⟩)]] 43)) 43 1 encF (.slice (some ⟨w4.heap.size, 0, none⟩) 2 2) (steps2 p2) := RowP.lit encF_len w4 43 (steps2 p2) _ rfl (by show 2 ≤ maxLen; decide)
 have hk5 := (Keeps.refl Non w4).alloc (.cells #[.func (.func 87) #[] #[.pointer (some ⟨p2, 0, none⟩)], .func (.func 88) #[] #[.pointer (some ⟨p2, 0, none⟩)]] 43)
 obtain ⟨w5, hw5⟩ : ∃ V : World, V = w4.alloc (.cells #[.func (.func 87) #[] #[.pointer (some ⟨p2, 0, none⟩)], .func (.func 88) #[] #[.pointer (some ⟨p2, 0, none⟩)]] 43) := ⟨_, rfl⟩
 rw [← hw5] at hSt hk5 ⊢
 clear hw5
 obtain ⟨rb, hrb⟩ : ∃ z, z = w4.heap.size := ⟨_, rfl⟩
 rw [← hrb] at hSt ⊢
 have hrbw : w.heap.size ≤ rb := by have := hK4.size; omega
 have hrb4 : w4.heap.size ≤ rb := by omega
 clear hrb
 have hPl := Lib.hid (places29_any (h4'.non hk5) hn)
 rw [HSN.out] at hPl
 have y5 : w5.cell? ⟨p2, 0, none⟩ = some (.pointer (some ⟨K.d, 0, none⟩)) := one_cell (hB24.non hk5)
 go_upto_region 8 with (go_at_call 76; go_must (refine hPl.out.mono ?_); rintro e w6 ⟨rfl, hk6⟩)
 have hk46 := hk5.non hk6
 have hB26 := hB24.non hk46
 have hB36 := hB34.non hk46
 have hS6 := hS4.non hk46
 have hL6 := hL4.non hk46
 have hR6 := hR4.non hk46
 have h6 := h4'.non hk46
 have hK6 := hK4.non hk46
 have hSt6 := hSt.non hk6
 have hrb6 : rb < w6.heap.size := RowP.lt hSt6 _ (by rw [own_slice]; simp)
 clear hB24 hB34 hS4 hL4 hR4 h4' hK4 hSt hPl y0 y5 hk5 hk6
 have hpa := Lib.hid (fun j hj => placesAgg n j hj)
 go_loopw [8, 37] (fun l i wr => ∃ (axs : List Nat) (lA : Option Addr) (lc : Nat), axs.length ≤ 4 ∧ i = .int .i64 (axs.length : Int) ∧ l = .slice lA (2 + axs.length) lc ∧ RowP wr 43 1 encF (.slice lA (2 + axs.length) lc) (steps2 p2 ++ axs.map (f60 p2 p6)) ∧ (∀ j (hj : j < axs.length), Blk wr axs[j] 3 #[.int .i64 (plc n j : Int)]) ∧ (∀ q ∈ own (.slice lA (2 + axs.length) lc), q = rb ∨ w6.heap.size ≤ q) ∧ Keeps (Only rb) w6 wr) (fun _ i _ => 4 - (intOf i).toNat)
 case atStart => exact ⟨[], some ⟨rb, 0, none⟩, 2, by simp, rfl, rfl, by simpa using hSt6, fun j hj => absurd hj (by simp), fun q hq => by rw [own_slice, List.mem_singleton] at hq; exact .inl hq, Keeps.refl _ _⟩
 case round =>
   obtain ⟨axs, lA, lc, hj, rfl, rfl, hRow, hAx, hOwn, hK⟩ := hrel
   obtain ⟨wx, rfl⟩ : ∃ V : World, V = wr := ⟨_, rfl⟩
   by_cases hlt : axs.length < 4
   · have hji : (axs.length : Int) < 4 := by omega
     have hpj := hpa.out axs.length hlt
     have hix := fun V => index86 n axs.length hlt V
     have hAb := Blk.new wx 3 #[.int .i64 (plc n axs.length : Int)]
     have hka := (Keeps.refl Non wx).alloc (.cells #[.int .i64 (plc n axs.length : Int)] 3)
     go_upto_region 10 with fail
     obtain ⟨wy, hwy⟩ : ∃ V : World, V = wx.alloc (.cells #[.int .i64 (plc n axs.length : Int)] 3) := ⟨_, rfl⟩
     rw [← hwy] at hAb hka ⊢
     clear hwy
     obtain ⟨ax, hax⟩ : ∃ z, z = wx.heap.size := ⟨_, rfl⟩
     rw [← hax] at hAb ⊢
     have haxw : wx.heap.size ≤ ax := by omega
     clear hax
     have hRy := hRow.non hka
     have hkb := (Keeps.refl Non wy).alloc (.cells #[.func (.func 89) #[] #[.pointer (some ⟨p2, 0, none⟩), .pointer (some ⟨ax, 0, none⟩), .pointer (some ⟨p6, 0, none⟩)]] 43)
     have hRz := hRy.non hkb
     have hAt : Ats (wy.alloc (.cells #[.func (.func 89) #[] #[.pointer (some ⟨p2, 0, none⟩), .pointer (some ⟨ax, 0, none⟩), .pointer (some ⟨p6, 0, none⟩)]] 43)) (some ⟨wy.heap.size, 0, none⟩) ([f60 p2 p6 ax].flatMap encF) := Ats.lit wy _ 43 _ rfl
     have hml : (steps2 p2 ++ axs.map (f60 p2 p6)).length = 2 + axs.length := by simp [steps2]; omega
     have HB : Hid ((steps2 p2 ++ axs.map (f60 p2 p6)).length + [f60 p2 p6 ax].length ≤ maxLen ∧ ((steps2 p2 ++ axs.map (f60 p2 p6)).length + [f60 p2 p6 ax].length) * 8 ≤ 140737488355328) := Lib.hid (by rw [hml, List.length_singleton]; unfold maxLen; omega)
     have Hml := Lib.hid hml
     have Hrow := Lib.hid hRz
     clear hml hRz hRy
     go_wp2_with (at_builtin; go_must (refine wpList_append_row (o := ⟨some 43, _, _, _, _, _⟩) rfl (.tmp 40) (.tmp 42) 190 rfl 43 1 encF .nilFunc 8 Tryz.underlying190 info48 rfl (by decide) encF_len encF_one (.slice lA (2 + axs.length) lc) (steps2 p2 ++ axs.map (f60 p2 p6)) (by kernel_rfl) Hrow.out (some ⟨wy.heap.size, 0, none⟩) 1 1 [f60 p2 p6 ax] (by kernel_rfl) rfl hAt HB.out.1 HB.out.2 ?_); intro u8 w8 hO8 hK8 hat; obtain ⟨⟨A8, n8, c8⟩, rfl, h8⟩ := RowP.sl hO8; have hn8 : n8 = 2 + (axs.length + 1) := (by rw [show n8 = (steps2 p2 ++ axs.map (f60 p2 p6) ++ [f60 p2 p6 ax]).length from h8, List.length_append, Hml.out]; rfl); clear h8; subst hn8)
     go_roundw
     case rel =>
       have hkab := hka.non hkb
       refine ⟨axs ++ [ax], A8, c8, ?_, ?_, ?_, ?_, ?_, ?_, ?_⟩
       · rw [List.length_append, List.length_singleton]; omega
       · rw [List.length_append, List.length_singleton]; go_num
       · rw [List.length_append, List.length_singleton]
       · rw [List.length_append, List.length_singleton, List.map_append]
         simpa using hO8
       · intro j hj'
         rw [List.length_append, List.length_singleton] at hj'
         by_cases hjl : j < axs.length
         · rw [List.getElem_append_left hjl]
           have hb1 := (hAx j hjl).non hkab
           exact hb1.keep hK8 (own_type Hrow.out hb1 (by decide))
         · obtain rfl : j = axs.length := by omega
           have hb1 := hAb.non hkb
           simpa using hb1.keep hK8 (own_type Hrow.out hb1 (by decide))
       · intro q hq
         rw [List.length_append, List.length_singleton, mem_own] at hq
         rcases hat with e | e
         · exact hOwn q (mem_own.2 (e.symm.trans hq))
         · have e2 := e.symm.trans hq
           injection e2 with e2
           right
           have := hK.size
           have := hka.size
           rw [← e2]
           simp
           omega
       · exact (hK.non hkab).then hK8 fun i hi e => by
           rcases hOwn i e with e' | e'
           · exact e'
           · omega
     case measure => simp [intOf]; omega
   · have hj4 : axs.length = 4 := by omega
     obtain ⟨a0, a1, a2, a3, rfl⟩ : ∃ a0 a1 a2 a3, axs = [a0, a1, a2, a3] := by
       match axs, hj4 with
       | [a0, a1, a2, a3], _ => exact ⟨a0, a1, a2, a3, rfl⟩
     have hA0 : Blk wx a0 3 #[.int .i64 0] := hAx 0 (by simp)
     have hA1 : Blk wx a1 3 #[.int .i64 9] := hAx 1 (by simp)
     have hA2 : Blk wx a2 3 #[.int .i64 ((n - 18 : Nat) : Int)] := hAx 2 (by simp)
     have hA3 : Blk wx a3 3 #[.int .i64 ((n - 9 : Nat) : Int)] := hAx 3 (by simp)
     have hRow6 : RowP wx 43 1 encF (.slice lA 6 lc) [(.func 87, #[], #[.pointer (some ⟨p2, 0, none⟩)]), (.func 88, #[], #[.pointer (some ⟨p2, 0, none⟩)]), f60 p2 p6 a0, f60 p2 p6 a1, f60 p2 p6 a2, f60 p2 p6 a3] := hRow
     have hrbt : ∀ b t (cs : Array Value), Blk w6 b t cs → t ≠ 43 → b ≠ rb := fun b t cs hb ht e => by
       rcases hSt6.form with ⟨e1, -⟩ | ⟨g', cap', cur', e1, hb', -⟩
       · cases e1
       · injection e1 with e1
         injection e1 with e1
         injection e1 with e1
         subst e1
         exact (hb.ne hb' ht) e
     have hB2x := hB26.one hK (hrbt _ _ _ hB26 (by decide))
     have hB3x := hB36.one hK (hrbt _ _ _ hB36 (by decide))
     have hSx := hS6.one hK (hrbt _ _ _ hS6 (by decide))
     have hLx := hL6.one hK (hrbt _ _ _ hL6 (by decide))
     have hRx : RowT wx (.slice (some ⟨g, 0, none⟩) ts.length c) ts := hR6.keep hK fun q hq e => by
       rcases hR6.form with ⟨e1, -⟩ | ⟨g', cap', cur', e1, hb', -⟩
       · cases e1
       · injection e1 with e1
         injection e1 with e1
         injection e1 with e1
         subst e1
         rw [own_slice, List.mem_singleton] at hq
         subst hq
         exact hrbt _ _ _ hb' (by decide) e
     have hDx : Dm w0 wx K s wv := by
       have hKr : Keeps (Only rb) w6 wx := hK
       obtain ⟨z, hp6'⟩ := h6.pw
       have hnrb : w0.heap.size ≤ rb := by have := h.keep.size; omega
       refine ⟨h6.ok, ⟨z, hp6'.one hK (hrbt _ _ _ hp6' (by decide))⟩, h6.dk.one hK (hrbt _ _ _ h6.dk (by decide)), h6.pl.one hK (hrbt _ _ _ h6.pl (by decide)), h6.nw.one hK (hrbt _ _ _ h6.nw (by decide)), h6.hd, fun y hy => (h6.od y hy).imp fun _ i => i.one hK (hrbt _ _ _ i (by decide)), h6.wt.keep hK fun q hq e => ?_, h6.wn, h6.ne, h6.new, h6.keep.then hK fun i hi e => by unfold Only at e; omega⟩
       rcases h6.wt.form with ⟨e1, -⟩ | ⟨g', cap', cur', e1, hb', -⟩
       · rw [e1] at hq; exact (List.not_mem_nil hq).elim
       · rw [e1, own_slice, List.mem_singleton] at hq
         subst hq
         exact hrbt _ _ _ hb' (by decide) e
     have hKx : Keeps Non w wx := hK6.then hK fun i hi e => by unfold Only at e; omega
     have hKn : ∀ q ∈ own (.slice lA 6 lc), w.heap.size ≤ q := fun q hq => by
       rcases hOwn q hq with e | e
       · omega
       · have := hK6.size; omega
     clear hAx hRow hB26 hB36 hS6 hL6 hR6 h6 hSt6 hOwn
     have z0 : wx.cell? ⟨p2, 0, none⟩ = some (.pointer (some ⟨K.d, 0, none⟩)) := one_cell hB2x
     have hkb := (Keeps.refl Non wx).alloc (.cells #[.func (.func 90) #[.pointer (some ⟨K.d, 0, none⟩)] #[]] 43)
     have Hrow := Lib.hid (hRow6.non hkb)
     have hAt : Ats (wx.alloc (.cells #[.func (.func 90) #[.pointer (some ⟨K.d, 0, none⟩)] #[]] 43)) (some ⟨wx.heap.size, 0, none⟩) ([((.func 90, #[.pointer (some ⟨K.d, 0, none⟩)], #[]) : Fn × Array Value × Array Value)].flatMap encF) := Ats.lit wx _ 43 _ rfl
     have HB : Hid ((6 : Nat) + 1 ≤ maxLen ∧ (6 + 1) * 8 ≤ 140737488355328) := Lib.hid (by unfold maxLen; decide)
     go_upto_region 13 with (at_builtin; go_must (refine wpList_append_row (o := ⟨some 49, _, _, _, _, _⟩) rfl (.tmp 45) (.tmp 48) 190 rfl 43 1 encF .nilFunc 8 Tryz.underlying190 info48 rfl (by decide) encF_len encF_one (.slice lA 6 lc) [(.func 87, #[], #[.pointer (some ⟨p2, 0, none⟩)]), (.func 88, #[], #[.pointer (some ⟨p2, 0, none⟩)]), f60 p2 p6 a0, f60 p2 p6 a1, f60 p2 p6 a2, f60 p2 p6 a3] (by kernel_rfl) Hrow.out (some ⟨wx.heap.size, 0, none⟩) 1 1 [(.func 90, #[.pointer (some ⟨K.d, 0, none⟩)], #[])] (by kernel_rfl) rfl hAt HB.out.1 HB.out.2 ?_); intro u8 w8 hO8 hK8 hat; obtain ⟨lA8, lc8, hue, -⟩ := hO8.val; subst hue)
     have hk8 : ∀ b t (cs : Array Value), Blk wx b t cs → t ≠ 43 → Blk w8 b t cs := fun b t cs hb ht => by
       have hb1 := hb.non hkb
       exact hb1.keep hK8 (own_type Hrow.out hb1 ht)
     have hK8w : Keeps Non w w8 := (hKx.non hkb).then hK8 fun i hi e => by have := hKn i e; omega
     have hB28 := hk8 _ _ _ hB2x (by decide)
     have hB38 := hk8 _ _ _ hB3x (by decide)
     have hS8 := hk8 _ _ _ hSx (by decide)
     have hL8 := hk8 _ _ _ hLx (by decide)
     have hA08 := hk8 _ _ _ hA0 (by decide)
     have hA18 := hk8 _ _ _ hA1 (by decide)
     have hA28 := hk8 _ _ _ hA2 (by decide)
     have hA38 := hk8 _ _ _ hA3 (by decide)
     have hR8 : RowT w8 (.slice (some ⟨g, 0, none⟩) ts.length c) ts := RowP.carry hRx fun b cs hb => hk8 b 31 cs hb (by decide)
     have hD8 := hDx.carry 43 (by decide) (by decide) (by decide) (by decide) (by decide) hk8 (h.keep.non hK8w)
     have hlbf : ¬ Fr K wv lbk := (h.old hlbw).1
     have hlb8 := hL8.lt
     have hRow7 : RowP w8 43 1 encF (.slice lA8 7 lc8) [(.func 87, #[], #[.pointer (some ⟨p2, 0, none⟩)]), (.func 88, #[], #[.pointer (some ⟨p2, 0, none⟩)]), f60 p2 p6 a0, f60 p2 p6 a1, f60 p2 p6 a2, f60 p2 p6 a3, (.func 90, #[.pointer (some ⟨K.d, 0, none⟩)], #[])] := hO8
     clear hB2x hB3x hSx hLx hA0 hA1 hA2 hA3 hRx hDx hRow6 Hrow hAt hKx hkb hO8 hk8 z0 hat hK8
     obtain ⟨g0, g1, g2, g3, g4, g5, g6⟩ := Dsk.fst_on s X hl1 ho
     go_upto_region 14 with fail
     go_loopw [52] (fun i wr => ∃ (j : Nat) (wx : Sl), j ≤ 7 ∧ i = .int .i64 (j : Int) ∧ Dm w0 wr K (s.fst X j) wx ∧ Keeps (Fr K wv) w8 wr ∧ (∀ q ∈ own wx.v, q ∈ own wv.v ∨ w8.heap.size ≤ q)) (fun i _ => 7 - (intOf i).toNat)
     case atStart => exact ⟨0, wv, Nat.zero_le _, rfl, hD8, Keeps.refl _ _, fun q hq => .inl hq⟩
     case round =>
       obtain ⟨j, wx', hj, rfl, hDj, hkr, hoj⟩ := hrel
       obtain ⟨wr', rfl⟩ : ∃ V : World, V = wr := ⟨_, rfl⟩
       have b2 := hB28.keep hkr (hD8.free hB28 (by decide) (by decide) (by decide))
       have b3 := hB38.keep hkr (hD8.free hB38 (by decide) (by decide) (by decide))
       have b6 := hS8.keep hkr (hD8.free hS8 (by decide) (by decide) (by decide))
       have e0 := hA08.keep hkr (hD8.free hA08 (by decide) (by decide) (by decide))
       have e1 := hA18.keep hkr (hD8.free hA18 (by decide) (by decide) (by decide))
       have e2 := hA28.keep hkr (hD8.free hA28 (by decide) (by decide) (by decide))
       have e3 := hA38.keep hkr (hD8.free hA38 (by decide) (by decide) (by decide))
       have bl := hL8.keep hkr hlbf
       have fl : ¬ Fr K wx' lbk := fun e => hlbf (e.back hoj hlb8)
       have hrow := hRow7.keep hkr (hD8.freeRow (v := ⟨lA8, 7, lc8⟩) hRow7 (by decide) (by decide) (by decide))
       by_cases hlt : j < 7
       · obtain ⟨sg, cap, hse, -, -, hc, -, -⟩ := hrow.at_ encF_len (i := j) (by simpa using hlt)
         injection hse with hse _ hse2
         subst hse hse2
         have hcj := hc 0 (by decide)
         clear hc hrow
         rcases (by omega : j = 0 ∨ j = 1 ∨ j = 2 ∨ j = 3 ∨ j = 4 ∨ j = 5 ∨ j = 6) with rfl | rfl | rfl | rfl | rfl | rfl | rfl
         · have HJ := step58_any hDj g0.2.2.1 g0.1 (by rw [g0.2.1]; exact hn) (by have := g0.2.2.2; omega) p2 b2
           rw [← fst1] at HJ
           have HJh := Lib.hid HJ
           have hcell : wr'.cell? ⟨sg, 0, none⟩ = some (.func (.func 87) #[] #[.pointer (some ⟨p2, 0, none⟩)]) := hcj
           clear HJ hcj
           go_wp2_with (go_at_call 87; go_must (refine HJh.out.mono ?_); rintro e w9 ⟨rfl, hW9⟩)
           go_roundw
           case rel =>
             obtain ⟨wn, hd9, hk9, ho9⟩ := hW9
             exact ⟨1, wn, by omega, by go_num, hd9, hkr.then hk9 fun i hi e => e.back hoj hi, fun q hq => by rcases ho9 q hq with e | e; exact hoj q e; right; have := hkr.size; omega⟩
           case measure => simp [intOf]
         · have HJ := step59_any hDj g1.2.2.1 g1.1 (by rw [g1.2.1]; exact hn) (by have := g1.2.2.2; omega) p2 b2
           rw [g1.2.1] at HJ
           rw [← fst2] at HJ
           have HJh := Lib.hid HJ
           have hcell : wr'.cell? ⟨sg, 1, none⟩ = some (.func (.func 88) #[] #[.pointer (some ⟨p2, 0, none⟩)]) := hcj
           clear HJ hcj
           go_wp2_with (go_at_call 88; go_must (refine HJh.out.mono ?_); rintro e w9 ⟨rfl, hW9⟩)
           go_roundw
           case rel =>
             obtain ⟨wn, hd9, hk9, ho9⟩ := hW9
             exact ⟨2, wn, by omega, by go_num, hd9, hkr.then hk9 fun i hi e => e.back hoj hi, fun q hq => by rcases ho9 q hq with e | e; exact hoj q e; right; have := hkr.size; omega⟩
           case measure => simp [intOf]
         · have HJ := step60_any hDj g2.2.2.1 g2.1 (by have := g2.2.2.2; omega) p2 a0 p6 lbk 0 X hlb (by rw [g2.2.1, HSN.out]; have := HSN.out; omega) b2 e0 b6 bl fl
           rw [← fst3] at HJ
           have HJh := Lib.hid HJ
           have hcell : wr'.cell? ⟨sg, 2, none⟩ = some (.func (.func 89) #[] #[.pointer (some ⟨p2, 0, none⟩), .pointer (some ⟨a0, 0, none⟩), .pointer (some ⟨p6, 0, none⟩)]) := hcj
           clear HJ hcj
           go_wp2_with (go_at_call 89; go_must (refine HJh.out.mono ?_); rintro e w9 ⟨rfl, hW9⟩)
           go_roundw
           case rel =>
             obtain ⟨wn, hd9, hk9, ho9⟩ := hW9
             exact ⟨3, wn, by omega, by go_num, hd9, hkr.then hk9 fun i hi e => e.back hoj hi, fun q hq => by rcases ho9 q hq with e | e; exact hoj q e; right; have := hkr.size; omega⟩
           case measure => simp [intOf]
         · have HJ := step60_any hDj g3.2.2.1 g3.1 (by have := g3.2.2.2; omega) p2 a1 p6 lbk 9 X hlb (by rw [g3.2.1, HSN.out]; have := HSN.out; omega) b2 e1 b6 bl fl
           rw [← fst4] at HJ
           have HJh := Lib.hid HJ
           have hcell : wr'.cell? ⟨sg, 3, none⟩ = some (.func (.func 89) #[] #[.pointer (some ⟨p2, 0, none⟩), .pointer (some ⟨a1, 0, none⟩), .pointer (some ⟨p6, 0, none⟩)]) := hcj
           clear HJ hcj
           go_wp2_with (go_at_call 89; go_must (refine HJh.out.mono ?_); rintro e w9 ⟨rfl, hW9⟩)
           go_roundw
           case rel =>
             obtain ⟨wn, hd9, hk9, ho9⟩ := hW9
             exact ⟨4, wn, by omega, by go_num, hd9, hkr.then hk9 fun i hi e => e.back hoj hi, fun q hq => by rcases ho9 q hq with e | e; exact hoj q e; right; have := hkr.size; omega⟩
           case measure => simp [intOf]
         · have HJ := step60_any hDj g4.2.2.1 g4.1 (by have := g4.2.2.2; omega) p2 a2 p6 lbk (n - 18) X hlb (by rw [g4.2.1, HSN.out]; have := HSN.out; omega) b2 e2 b6 bl fl
           rw [← HSN.out] at HJ
           rw [← fst5] at HJ
           have HJh := Lib.hid HJ
           have hcell : wr'.cell? ⟨sg, 4, none⟩ = some (.func (.func 89) #[] #[.pointer (some ⟨p2, 0, none⟩), .pointer (some ⟨a2, 0, none⟩), .pointer (some ⟨p6, 0, none⟩)]) := hcj
           clear HJ hcj
           go_wp2_with (go_at_call 89; go_must (refine HJh.out.mono ?_); rintro e w9 ⟨rfl, hW9⟩)
           go_roundw
           case rel =>
             obtain ⟨wn, hd9, hk9, ho9⟩ := hW9
             exact ⟨5, wn, by omega, by go_num, hd9, hkr.then hk9 fun i hi e => e.back hoj hi, fun q hq => by rcases ho9 q hq with e | e; exact hoj q e; right; have := hkr.size; omega⟩
           case measure => simp [intOf]
         · have HJ := step60_any hDj g5.2.2.1 g5.1 (by have := g5.2.2.2; omega) p2 a3 p6 lbk (n - 9) X hlb (by rw [g5.2.1, HSN.out]; have := HSN.out; omega) b2 e3 b6 bl fl
           rw [← HSN.out] at HJ
           rw [← fst6] at HJ
           have HJh := Lib.hid HJ
           have hcell : wr'.cell? ⟨sg, 5, none⟩ = some (.func (.func 89) #[] #[.pointer (some ⟨p2, 0, none⟩), .pointer (some ⟨a3, 0, none⟩), .pointer (some ⟨p6, 0, none⟩)]) := hcj
           clear HJ hcj
           go_wp2_with (go_at_call 89; go_must (refine HJh.out.mono ?_); rintro e w9 ⟨rfl, hW9⟩)
           go_roundw
           case rel =>
             obtain ⟨wn, hd9, hk9, ho9⟩ := hW9
             exact ⟨6, wn, by omega, by go_num, hd9, hkr.then hk9 fun i hi e => e.back hoj hi, fun q hq => by rcases ho9 q hq with e | e; exact hoj q e; right; have := hkr.size; omega⟩
           case measure => simp [intOf]
         · have HJ := flush33_wrote hDj g6.2.2.1 (by have := g6.2.2.2; omega)
           rw [← fst7] at HJ
           have HJh := Lib.hid HJ
           have hcell : wr'.cell? ⟨sg, 6, none⟩ = some (.func (.func 90) #[.pointer (some ⟨K.d, 0, none⟩)] #[]) := hcj
           clear HJ hcj
           go_wp2_with (go_at_call 90; go_must (refine HJh.out.mono ?_); rintro e w9 ⟨rfl, hW9⟩)
           go_roundw
           case rel =>
             obtain ⟨wn, hd9, hk9, ho9⟩ := hW9
             exact ⟨7, wn, by omega, by go_num, hd9, hkr.then hk9 fun i hi e => e.back hoj hi, fun q hq => by rcases ho9 q hq with e | e; exact hoj q e; right; have := hkr.size; omega⟩
           case measure => simp [intOf]
       · have hj7 : j = 7 := by omega
         subst hj7
         clear hrow
         have y1 : wr'.cell? ⟨p3, 1, none⟩ = some (.slice (some ⟨g, 0, none⟩) ts.length c) := b3.cell 1
         have hRr : RowT wr' (.slice (some ⟨g, 0, none⟩) ts.length c) ts := hR8.keep hkr (hD8.freeRow (v := ⟨some ⟨g, 0, none⟩, ts.length, c⟩) hR8 (by decide) (by decide) (by decide))
         have HCl := Lib.hid (clone54_any ts (some ⟨g, 0, none⟩) c wr' hRr (by omega) (by omega))
         go_upto_region 21 with (go_at_call 45; go_must (refine HCl.out.mono ?_); rintro e wc ⟨tA, tc, rfl, hTc, hNc, hKc⟩; have b3c := b3.non hKc; have z1 := b3c.cell 1; have f1 := b3c.frozen 1)
         have b3d := b3c.set 1 (.slice tA ts.length tc)
         have hkd : Keeps (Only p3) wc (wc.setCell ⟨p3, 1, none⟩ (.slice tA ts.length tc)) := (Keeps.refl (Only p3) _).set (p := ⟨p3, 1, none⟩) rfl _
         obtain ⟨wd, hwd⟩ : ∃ V : World, V = wc.setCell ⟨p3, 1, none⟩ (.slice tA ts.length tc) := ⟨_, rfl⟩
         rw [← hwd] at b3d hkd ⊢
         clear hwd z1 f1 y1
         have hp23 : p2 ≠ p3 := b2.ne b3 (by decide)
         have b2d := (b2.non hKc).one hkd hp23
         have y0 : wd.cell? ⟨p2, 0, none⟩ = some (.pointer (some ⟨K.d, 0, none⟩)) := one_cell b2d
         have u0 : wd.cell? ⟨p3, 0, none⟩ = some (.int .u64 (pool : Int)) := b3d.cell 0
         have u1 : wd.cell? ⟨p3, 1, none⟩ = some (.slice tA ts.length tc) := b3d.cell 1
         have u2 : wd.cell? ⟨p3, 2, none⟩ = some (.int .i64 (top : Int)) := b3d.cell 2
         have u3 : wd.cell? ⟨p3, 3, none⟩ = some (.int .i64 (place : Int)) := b3d.cell 3
         have hDd : Dm w0 wd K (s.fst X 7) wx' := by
           have hz := h.keep.size
           have hkk : Keeps Non w0 wd := (hDj.keep.non hKc).then hkd fun i hi e => by unfold Only at e; omega
           exact (hDj.non hKc).carry 114 (by decide) (by decide) (by decide) (by decide) (by decide) (fun b t cs hb ht => hb.one hkd (hb.ne b3c ht)) hkk
         go_wp2_with fail
         go_ret2
         have hBl := Blk.new wd 171 #[.pointer (some ⟨K.d, 0, none⟩), .int .u64 (pool : Int), .slice tA ts.length tc, .int .i64 (top : Int), .int .i64 (place : Int), .int .i64 0, .int .i64 0, .int .i64 0]
         have hke := (Keeps.refl Non wd).alloc (.cells #[.pointer (some ⟨K.d, 0, none⟩), .int .u64 (pool : Int), .slice tA ts.length tc, .int .i64 (top : Int), .int .i64 (place : Int), .int .i64 0, .int .i64 0, .int .i64 0] 171)
         have hk1 : Keeps (Fr K wv) w wr' := (hK8w.of_non).trans hkr
         have hk2 : Keeps (Fr K wv) w wd := (hk1.non hKc).then hkd fun i hi e => by unfold Only at e; omega
         have hTd : RowT wd (.slice tA ts.length tc) ts := hTc.keep hkd fun q hq e => by unfold Only at e; exact own_type hTc b3c (by decide) (e ▸ hq)
         have hz := h.keep.size
         have hz2 := hk2.size
         have hz3 := hk1.size
         refine ⟨wd.heap.size, tA, tc, rfl, hz2, (fun q hq => by have := hNc q hq; omega), wx', ⟨hDd.non hke, hBl, hTd.non hke, by omega, fun q hq => by have := hNc q hq; omega⟩, hk2.non hke, fun q hq => ?_⟩
         rcases hoj q hq with e | e
         · exact .inl e
         · right; have := hK8w.size; omega
section
variable {w0 w : World} {p m n i : Nat} {dv : Sl} {K : Nat → Kb} {T : St} {x : Lb}
theorem gs_format_own (h : Gs w0 w p dv m n K T) (hi : i < m) (hn : 324 ≤ n) (ho : T.P.on) (hw : T.P.waits.length ≤ 100000) (hx : x.ok) (hs : ∀ hh : x.top < x.ts.length, (x.ts[x.top]).s = n) (A : Option Addr) (c : Nat) (hR : RowT w (.slice A x.ts.length c) x.ts) :
   Calls Tryz.prog 50 #[.pointer (some ⟨(K i).d, 0, none⟩), .agg #[.int .u64 (x.pool : Int), .slice A x.ts.length c, .int .i64 (x.top : Int), .int .i64 (x.place : Int)]] w fun e w' => ∃ lf tA tc, e = .returned (.tuple #[.pointer (some ⟨lf, 0, none⟩), .int .i64 0]) ∧ w.heap.size ≤ lf ∧ (∀ q ∈ own (.slice tA x.ts.length tc), w.heap.size ≤ q) ∧ Lq w0 w' lf (K i).d x tA tc ∧ Gs w0 w' p dv m n K (T.fmt i (K i).d n (labelB x)) ∧ Keeps (Fg w p m K) w w' := by
 obtain ⟨wv, s, hL, hS, hP, hd, -, hT⟩ := h.dm hi
 have ho' : s.off = false := by have := ho.2; rw [← hP] at this; exact this
 have hl1 : s.left = -1 := by have := ho.1; rw [← hP] at this; exact this
 have hwl : s.waits.length ≤ 100000 := by rw [← hP] at hw; exact hw
 have hn2 := h.n2 hi
 have h4 : x.ts.length ≤ 4 := hx.2.2.1
 obtain ⟨g1, g2, g3, g4, g5, g6⟩ := fst_sh s n (labelB x) hn hn2.2 (labelB_len x h4) _ _ hS hl1 ho'
 refine (format26_own hL ho' hl1 (by rw [hS.hn]; exact hn) hwl x hx (by rw [hS.hn]; exact hs) A c hR).mono ?_
 rintro e w' ⟨lf, tA, tc, rfl, h0, hts, wv', h1, h2, h3⟩
 obtain ⟨j1, j2⟩ := hT w' _ wv' _ _ h1.dm h2 g1 (fun y hy => .inl (by rw [g4] at hy; exact kept_mem hy))
 refine ⟨lf, tA, tc, rfl, h0, hts, ⟨h1.blk, h1.ts, h1.new⟩, ?_, j2⟩
 have e : (s.fst (labelB x) 7).pow = ⟨kept (K i).d T.P.waits, T.P.left, T.P.off⟩ := by
   show (⟨_, _, _⟩ : Pow) = _
   rw [g2, g3, g4, ← hP, hd]
   show (⟨_, _, _⟩ : Pow) = ⟨kept (K i).d s.waits, s.left, s.off⟩
   rw [hl1, ho']
 rw [e] at j1
 exact j1
end
end Go.Proofs.YtolknnmaadkgiaaGreatDoor
