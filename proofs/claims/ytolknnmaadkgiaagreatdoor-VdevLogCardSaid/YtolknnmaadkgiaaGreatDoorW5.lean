/- awake. -/
import Derived.Test.YtolknnmaadkgiaaGreatDoorG39
import Derived.BigQuiet
import Derived.StillTailTactics
import Derived.Lib.SmallJoins
set_option linter.unusedVariables false
set_option linter.unusedSimpArgs false
namespace Go.Proofs.YtolknnmaadkgiaaGreatDoor
set_option maxRecDepth 100000
open Go.RowKit Go.Uc Go.Shelf
def tp2 : Tp := ⟨2, 2, 324⟩
theorem tp2_ok : tp2.ok := ⟨.inr (.inl ⟨rfl, by decide, by decide⟩), by decide, by decide⟩
theorem lit_far {w0 w : World} {p m n : Nat} {dv : Sl} {K : Nat → Kb} {T : St} (h : Gs w0 w p dv m n K T) (C : Array Value) (fr : Nat × Nat) : Far (w.alloc (.cells C 5 fr)) p m K (some ⟨w.heap.size, 0, none⟩) := fun ad e => by
 injection e with e
 subst e
 refine ⟨by simp, ?_⟩
 rintro (e | ⟨cs, hb⟩)
 · exact h.new (Nat.le_refl _) e
 · unfold Blk at hb
   rw [heap_alloc_new] at hb
   injection hb with hb
   injection hb with _ hb _
   cases hb
def tw : List UInt8 := [116, 119, 101, 110, 116, 121, 32, 98, 121, 116, 101, 115, 32, 111, 102, 32, 97, 32, 108, 111, 103]
theorem pt3_ok (s : S4) (h : s.ok) : (⟨0, 5, 3, 2, 1, s⟩ : Pt).may := ⟨show 0 ≤ 3 by decide, show 5 ≤ 40959 by decide, show 1 ≤ 3 by decide, show 3 ≤ 1024 by decide, show 1 ≤ 2 by decide, show 2 ≤ 281474976710656 by decide, .inl rfl, h⟩
set_option maxHeartbeats 16000000 in
theorem awake6_any (w : World) : Calls Tryz.prog 6 #[] w fun e w' => e = .returned (.bool true) ∧ Keeps Non w w' := by
 have r1 := RowP.lit encT_len w 31 [tp2] #[.int .i64 2, .int .i64 2, .int .i64 324] rfl (by decide)
 have k1 := (Keeps.refl Non w).alloc (.cells #[.int .i64 2, .int .i64 2, .int .i64 324] 31)
 obtain ⟨w1, hw1⟩ : ∃ V : World, V = w.alloc (.cells #[.int .i64 2, .int .i64 2, .int .i64 324] 31) := ⟨_, rfl⟩
 have z1 : w1.heap.size = w.heap.size + 1 := by rw [hw1]; simp
 have r2 := RowP.lit encZ_len w1 3 [(324 : Int), 324] #[.int .i64 324, .int .i64 324] rfl (by decide)
 have k2 := (Keeps.refl Non w1).alloc (.cells #[.int .i64 324, .int .i64 324] 3)
 obtain ⟨w2, hw2⟩ : ∃ V : World, V = w1.alloc (.cells #[.int .i64 324, .int .i64 324] 3) := ⟨_, rfl⟩
 have z2 : w2.heap.size = w.heap.size + 1 + 1 := by rw [hw2]; simp [z1]
 have r3 := RowP.lit encZ_len w2 3 [(0 : Int), 1] #[.int .i64 0, .int .i64 1] rfl (by decide)
 have k3 := (Keeps.refl Non w2).alloc (.cells #[.int .i64 0, .int .i64 1] 3)
 rw [← hw1] at r1 k1
 rw [← hw2] at r2 k2
 rw [z1] at r2
 rw [z2] at r3
 have HB := Lib.hid (begun_one (tp := tp2) (pool := 7) (tb := w.heap.size) (tc := 1) (sa := w.heap.size + 1) (sc := 2) (na := w.heap.size + 1 + 1) (nc := 2) (r1.non (k2.non k3)) tp2_ok rfl rfl (by decide) (r2.non k3) r3)
 have HK := Lib.hid ((k1.non k2).non k3)
 rw [hw2, hw1] at HB HK
 clear r1 r2 r3 k1 k2 k3 z1 z2 hw1 hw2
 go_enter Tryz.func6, Tryz.ntmps6
 go_upto_region 2 with (go_at_call 7; go_must (refine HB.out.mono ?_); rintro e w4 ⟨x, p, gd, gc, dv, K, k, B, L, Dk, F, Tj, q, u, rfl, hG⟩)
 have HRu := Lib.hid (hG.ru (show 2 ≤ (2 : Nat) ∧ (2 : Nat) ≤ 5 by decide))
 have HA0 := Lib.hid (Aw.fmt (l := 2) (pool := 7) (tp := tp2) (f := Tj.f) fun i hi => (hG.ff i hi).1)
 have HP := Lib.hid hG.P
 have HKb := Lib.hid hG.kp
 have HKw := Lib.hid (HK.out.non hG.kp)
 clear hG HB HKb
 obtain ⟨wb, hwb⟩ : ∃ V : World, V = ((w.alloc (.cells #[.int .i64 2, .int .i64 2, .int .i64 324] 31)).alloc (.cells #[.int .i64 324, .int .i64 324] 3)).alloc (.cells #[.int .i64 0, .int .i64 1] 3) := ⟨_, rfl⟩
 rw [← hwb] at HRu
 have HKb : Hid (Keeps Non w wb) := Lib.hid (by rw [hwb]; exact HK.out)
 clear hwb HK
 
 have x2 : w4.cell? ⟨x, 2, none⟩ = some (.pointer (some ⟨k, 0, none⟩)) := HRu.out.bx.cell 2
 have k5 := (Keeps.refl Non w4).alloc (.cells #[.int .u8 97, .int .u8 98, .int .u8 99] 5 (3, 4))
 have hD5 := At.lit w4 5 (3, 4) #[.int .u8 97, .int .u8 98, .int .u8 99] [97, 98, 99] rfl
 have HFar := Lib.hid (lit_far HRu.out.gs #[.int .u8 97, .int .u8 98, .int .u8 99] (3, 4))
 have hcv : (convert 22 22 (.slice (some ⟨w4.heap.size, 0, none⟩) 3 3)).run Tryz.prog (w4.alloc (.cells #[.int .u8 97, .int .u8 98, .int .u8 99] 5)) = .ok (.slice (some ⟨w4.heap.size, 0, none⟩) 3 3) (w4.alloc (.cells #[.int .u8 97, .int .u8 98, .int .u8 99] 5 (3, 4))) := Joins.run_convert_bytes_const_at w4 22 5 #[.int .u8 97, .int .u8 98, .int .u8 99] 3 3 w4.heap.size rfl Tryz.underlying22 Tryz.underlying5
 have HT : Hid (Tj.P.on ∧ Tj.P.waits = []) := Lib.hid (by rw [HP.out]; exact ⟨⟨rfl, rfl⟩, rfl⟩)
 have HW := Lib.hid (ru_write (HRu.out.non k5) HT.out.1 (by rw [HT.out.2]; exact Nat.zero_le _) 5 [97, 98, 99] (by decide) (by decide) (by decide) 1 (fl4 [97, 98, 99]) 2 (by decide) (by decide) (some ⟨w4.heap.size, 0, none⟩) 3 hD5 HFar.out (fl_of (by decide) (by decide)))
 have HK5 := Lib.hid (HKw.out.non k5)
 clear hD5 k5 HFar
 go_upto_region 5 with (go_at_call 16; go_must (refine HW.out.mono ?_); rintro e w6 ⟨W1, rfl, hR6, hW6, hO6, hK6⟩)
 have HI : Hid (∀ i, i < 2 → i ∈ ixs F 2) := Lib.hid HRu.out.ixs
 have HA1 := Lib.hid (HA0.out.write HI.out 5 (need ([97, 98, 99] : List UInt8).length) (by decide) (pad [97, 98, 99]) W1)
 have HOf : Hid (∀ {W : List Wt}, Of K (ixs F 2) W → ∀ y ∈ W, ∃ i, i < 2 ∧ y.d = (K i).d) := Lib.hid (fun h y hy => by
   obtain ⟨i, hi, e⟩ := h y hy
   obtain ⟨j, hj, e2⟩ := mem_ixs.1 hi
   exact ⟨i, by rw [← e2, HRu.out.ixe j hj]; exact hj, e⟩)
 have HT1 : Hid ((Tj.all (ixs F 2) (fun f => updN f (274 + 5) (need ([97, 98, 99] : List UInt8).length) (pad [97, 98, 99])) W1).P.on ∧ (Tj.all (ixs F 2) (fun f => updN f (274 + 5) (need ([97, 98, 99] : List UInt8).length) (pad [97, 98, 99])) W1).P.waits.length ≤ 40 ∧ ∀ y ∈ (Tj.all (ixs F 2) (fun f => updN f (274 + 5) (need ([97, 98, 99] : List UInt8).length) (pad [97, 98, 99])) W1).P.waits, ∃ i, i < 2 ∧ y.d = (K i).d) := Lib.hid (by
   refine ⟨HT.out.1, ?_, ?_⟩
   · show (Tj.P.waits ++ W1).length ≤ 40
     rw [HT.out.2]; exact hW6
   · intro y hy
     have hy' : y ∈ Tj.P.waits ++ W1 := hy
     rw [HT.out.2, List.nil_append] at hy'
     exact HOf.out hO6 y hy')
 obtain ⟨T1, hT1⟩ : ∃ z, z = Tj.all (ixs F 2) (fun f => updN f (274 + 5) (need ([97, 98, 99] : List UInt8).length) (pad [97, 98, 99])) W1 := ⟨_, rfl⟩
 rw [← hT1] at HA1 HT1
 have hR6' : Ru wb w6 7 tp2 x p gd gc dv K k B L Dk F q u T1 1 := by rw [hT1]; exact hR6
 clear hT1 hR6 hW6 hO6 HW hcv HT HP HA0
 obtain ⟨s3, hs3⟩ : ∃ z, z = fl4 [97, 98, 99] := ⟨_, rfl⟩
 have hso : s3.ok := by rw [hs3]; exact fl4_ok _
 rw [← hs3]
 have HS3 := Lib.hid hs3
 clear hs3
 have hB7 := Blk.new w6 58 #[.int .i64 0, .int .i64 5, .int .i64 3, .int .u64 2, .int .i64 1, .int .u64 (s3.a : Int), .int .u64 (s3.b : Int), .int .u64 (s3.c : Int), .int .u64 (s3.d : Int)]
 have k7 := (Keeps.refl Non w6).alloc (.cells #[.int .i64 0, .int .i64 5, .int .i64 3, .int .u64 2, .int .i64 1, .int .u64 (s3.a : Int), .int .u64 (s3.b : Int), .int .u64 (s3.c : Int), .int .u64 (s3.d : Int)] 58)
 obtain ⟨w7, hw7⟩ : ∃ V : World, V = w6.alloc (.cells #[.int .i64 0, .int .i64 5, .int .i64 3, .int .u64 2, .int .i64 1, .int .u64 (s3.a : Int), .int .u64 (s3.b : Int), .int .u64 (s3.c : Int), .int .u64 (s3.d : Int)] 58) := ⟨_, rfl⟩
 rw [← hw7] at hB7 k7 ⊢
 clear hw7
 obtain ⟨pb, hpb⟩ : ∃ z, z = w6.heap.size := ⟨_, rfl⟩
 rw [← hpb] at hB7 ⊢
 clear hpb
 have HR7 := Lib.hid (hR6'.non k7)
 go_upto_region 5 with fail
 have HS7 : Hid (∀ W, Keeps (Fg w7 p 2 K) w7 W → (fun w' : World => w'.cell? ⟨x, 2, none⟩ = some (.pointer (some ⟨k, 0, none⟩)) ∧ w'.cell? ⟨pb, 0, none⟩ = some (.int .i64 0) ∧ w'.cell? ⟨pb, 1, none⟩ = some (.int .i64 5) ∧ w'.cell? ⟨pb, 2, none⟩ = some (.int .i64 3) ∧ w'.cell? ⟨pb, 3, none⟩ = some (.int .u64 2) ∧ w'.cell? ⟨pb, 4, none⟩ = some (.int .i64 1) ∧ w'.cell? ⟨pb, 5, none⟩ = some (.int .u64 (s3.a : Int)) ∧ w'.cell? ⟨pb, 6, none⟩ = some (.int .u64 (s3.b : Int)) ∧ w'.cell? ⟨pb, 7, none⟩ = some (.int .u64 (s3.c : Int)) ∧ w'.cell? ⟨pb, 8, none⟩ = some (.int .u64 (s3.d : Int))) W) := Lib.hid (fun W hW => by
   have h1 := HR7.out.gs.stay hW HR7.out.bx (by decide) (by decide) (by decide)
   have h2 := HR7.out.gs.stay hW hB7 (by decide) (by decide) (by decide)
   exact ⟨h1.cell 2, h2.cell 0, h2.cell 1, h2.cell 2, h2.cell 3, h2.cell 4, h2.cell 5, h2.cell 6, h2.cell 7, h2.cell 8⟩)
 have HRd := Lib.hid (HR7.out.non (Keeps.refl Non w7).drew)
 have HM := Lib.hid (ru_mark HRd.out (by decide) HT1.out.1 (by have := HT1.out.2.1; omega) 3 0 ⟨0, 5, 3, 2, 1, s3⟩ (by decide) (by decide) (by decide) (.inr (pt3_ok s3 hso)) (show 2 ≤ 3 by decide))
 refine wp_region_held_drew (S := fun w' : World => w'.cell? ⟨x, 2, none⟩ = some (.pointer (some ⟨k, 0, none⟩)) ∧ w'.cell? ⟨pb, 0, none⟩ = some (.int .i64 0) ∧ w'.cell? ⟨pb, 1, none⟩ = some (.int .i64 5) ∧ w'.cell? ⟨pb, 2, none⟩ = some (.int .i64 3) ∧ w'.cell? ⟨pb, 3, none⟩ = some (.int .u64 2) ∧ w'.cell? ⟨pb, 4, none⟩ = some (.int .i64 1) ∧ w'.cell? ⟨pb, 5, none⟩ = some (.int .u64 (s3.a : Int)) ∧ w'.cell? ⟨pb, 6, none⟩ = some (.int .u64 (s3.b : Int)) ∧ w'.cell? ⟨pb, 7, none⟩ = some (.int .u64 (s3.c : Int)) ∧ w'.cell? ⟨pb, 8, none⟩ = some (.int .u64 (s3.d : Int))) (by kernel_rfl) (HS7.out _ (Keeps.refl Non w7).drew.of_non) (fun hH0 => ?_)
 refine wpAnyH_take (i := 0) (oi := ⟨some 44, _, _, _, _, _⟩) (v := .pointer (some ⟨x, 0, none⟩)) rfl (by kernel_rfl) (by kernel_rfl) (by kernel_rfl) (fun _ _ _ h => h) (Or.inl ⟨by kernel_rfl, by intro w' _hw'; go_simp⟩) (by assumption) ?_
 simp only [Act.put, List.setIfInBounds_toArray, List.set_cons_zero, List.set_cons_succ]
 refine wpAnyH_take (i := 1) (oi := ⟨some 45, _, _, _, _, _⟩) (v := .pointer (some ⟨x, 0, none⟩)) rfl (by kernel_rfl) (by kernel_rfl) (by kernel_rfl) (fun _ _ _ h => h) (Or.inl ⟨by kernel_rfl, by intro w' _hw'; go_simp⟩) (by assumption) ?_
 simp only [Act.put, List.setIfInBounds_toArray, List.set_cons_zero, List.set_cons_succ]
 refine wpAnyH_take (i := 2) (oi := ⟨some 46, _, _, _, _, _⟩) (v := .pointer (some ⟨x, 2, none⟩)) rfl (by kernel_rfl) (by kernel_rfl) (by kernel_rfl) (fun _ _ _ h => h) (Or.inl ⟨by kernel_rfl, by intro w' _hw'; go_simp⟩) (by assumption) ?_
 simp only [Act.put, List.setIfInBounds_toArray, List.set_cons_zero, List.set_cons_succ]
 refine wpAnyH_take (i := 3) (oi := ⟨some 47, _, _, _, _, _⟩) (v := .pointer (some ⟨k, 0, none⟩)) rfl (by kernel_rfl) (by kernel_rfl) (by kernel_rfl) (fun _ _ _ h => h) (Or.inl ⟨by kernel_rfl, by intro w' hw'; obtain ⟨s0, s1, s2, s3, s4, s5, s6, s7, s8, s9⟩ := hw'; go_simp⟩) (by assumption) ?_
 simp only [Act.put, List.setIfInBounds_toArray, List.set_cons_zero, List.set_cons_succ]
 refine wpAnyH_take (i := 4) (oi := ⟨some 48, _, _, _, _, _⟩) (v := .agg #[.int .i64 0, .int .i64 5, .int .i64 3, .int .u64 2, .int .i64 1, .int .u64 (s3.a : Int), .int .u64 (s3.b : Int), .int .u64 (s3.c : Int), .int .u64 (s3.d : Int)]) rfl (by kernel_rfl) (by kernel_rfl) (by kernel_rfl) (fun _ _ _ h => h) (Or.inl ⟨by kernel_rfl, by intro w' hw'; obtain ⟨s0, s1, s2, s3, s4, s5, s6, s7, s8, s9⟩ := hw'; go_simp⟩) (by assumption) ?_
 simp only [Act.put, List.setIfInBounds_toArray, List.set_cons_zero, List.set_cons_succ]
 refine wpAnyH_take (i := 5) (oi := ⟨some 49, _, _, _, _, _⟩) (v := .agg #[.int .u64 7, .int .u64 3, .int .u64 0, .int .i64 0, .int .i64 5, .int .i64 3, .int .u64 2, .int .i64 1, .int .u64 (s3.a : Int), .int .u64 (s3.b : Int), .int .u64 (s3.c : Int), .int .u64 (s3.d : Int)]) rfl (by kernel_rfl) (by kernel_rfl) (by kernel_rfl) (fun _ _ _ h => h) (Or.inl ⟨by kernel_rfl, by intro w' _hw'; go_simp⟩) (by assumption) ?_
 simp only [Act.put, List.setIfInBounds_toArray, List.set_cons_zero, List.set_cons_succ]
 refine wpAnyH_ready (rs := [6]) (by kernel_rfl) (by simp) ?_
 refine AllReadyH.cons (o := ⟨some 50, _, _, _, _, _⟩) rfl (fun K' hK' => ?_) AllReadyH.nil
 go_simp
 refine (HM.out).mono ?_
 rintro e w8 ⟨W2, rfl, hR8, hW8, hO8, hK8⟩
 have HK8 := Lib.hid (show Keeps (Fg w7 p 2 K) w7 w8 from fg_trans (fg_non (Keeps.refl Non w7).drew) hK8)
 refine hK'.out _ _ (HS7.out _ HK8.out) (fun hH => ?_)
 clear hK'
 clear K'
 try simp only [Act.put, List.setIfInBounds_toArray, List.set_cons_zero, List.set_cons_succ]
 refine wpAnyH_take (i := 7) (oi := ⟨some 6, _, _, _, _, _⟩) (v := .int .i64 0) rfl (by kernel_rfl) (by kernel_rfl) (by kernel_rfl) (fun _ _ _ h => h) (Or.inl ⟨by kernel_rfl, by intro w' _hw'; go_simp⟩) (by assumption) ?_
 simp only [Act.put, List.setIfInBounds_toArray, List.set_cons_zero, List.set_cons_succ]
 refine wpAnyH_done (by kernel_rfl) ?_ _
 have HA2 := Lib.hid (HA1.out.mark HI.out 3 0 ⟨0, 5, 3, 2, 1, s3⟩ (by decide) (by decide) (by decide) (.inr (pt3_ok s3 hso)) (show 2 ≤ 3 by decide) W2)
 have HT2 : Hid ((T1.all (ixs F 2) (fun f => updL f (marks 324 3) (uberB 7 3 0 ⟨0, 5, 3, 2, 1, s3⟩)) W2).P.on ∧ (T1.all (ixs F 2) (fun f => updL f (marks 324 3) (uberB 7 3 0 ⟨0, 5, 3, 2, 1, s3⟩)) W2).P.waits.length ≤ 60 ∧ ∀ y ∈ (T1.all (ixs F 2) (fun f => updL f (marks 324 3) (uberB 7 3 0 ⟨0, 5, 3, 2, 1, s3⟩)) W2).P.waits, ∃ i, i < 2 ∧ y.d = (K i).d) := Lib.hid (by
   refine ⟨HT1.out.1, ?_, ?_⟩
   · show (T1.P.waits ++ W2).length ≤ 60
     rw [List.length_append]
     have := HT1.out.2.1
     omega
   · intro y hy
     rcases List.mem_append.1 (show y ∈ T1.P.waits ++ W2 from hy) with hy | hy
     · exact HT1.out.2.2 y hy
     · exact HOf.out hO8 y hy)
 obtain ⟨T2, hT2⟩ : ∃ z, z = T1.all (ixs F 2) (fun f => updL f (marks 324 3) (uberB 7 3 0 ⟨0, 5, 3, 2, 1, s3⟩)) W2 := ⟨_, rfl⟩
 rw [← hT2] at HA2 HT2
 have HR8 : Hid (Ru wb w8 7 tp2 x p gd gc dv K k B L Dk F q u T2 1) := Lib.hid (by rw [hT2]; exact hR8)
 have HB8 := Lib.hid (HR7.out.gs.stay HK8.out hB7 (by decide) (by decide) (by decide))
 clear hT2 hR8 hW8 hO8 hK8 HM HRd HS7 hH hH0 hB7 k7 hR6' HT1 HA1
 have HLn : Hid ((logD T2 F (pres L L.length)).length = 22528) := Lib.hid (HA2.out.logLen (fun a _ => zeros_length 128) HR8.out.pres HR8.out.psl)
 
 have x2 : w8.cell? ⟨x, 2, none⟩ = some (.pointer (some ⟨k, 0, none⟩)) := HR8.out.bx.cell 2
 have k5 := (Keeps.refl Non w8).alloc (.cells #[.int .u8 116, .int .u8 119, .int .u8 101, .int .u8 110, .int .u8 116, .int .u8 121, .int .u8 32, .int .u8 98, .int .u8 121, .int .u8 116, .int .u8 101, .int .u8 115, .int .u8 32, .int .u8 111, .int .u8 102, .int .u8 32, .int .u8 97, .int .u8 32, .int .u8 108, .int .u8 111, .int .u8 103] 5 (21, 22))
 have hD5 := At.lit w8 5 (21, 22) #[.int .u8 116, .int .u8 119, .int .u8 101, .int .u8 110, .int .u8 116, .int .u8 121, .int .u8 32, .int .u8 98, .int .u8 121, .int .u8 116, .int .u8 101, .int .u8 115, .int .u8 32, .int .u8 111, .int .u8 102, .int .u8 32, .int .u8 97, .int .u8 32, .int .u8 108, .int .u8 111, .int .u8 103] tw rfl
 have HFar := Lib.hid (lit_far HR8.out.gs #[.int .u8 116, .int .u8 119, .int .u8 101, .int .u8 110, .int .u8 116, .int .u8 121, .int .u8 32, .int .u8 98, .int .u8 121, .int .u8 116, .int .u8 101, .int .u8 115, .int .u8 32, .int .u8 111, .int .u8 102, .int .u8 32, .int .u8 97, .int .u8 32, .int .u8 108, .int .u8 111, .int .u8 103] (21, 22))
 have hcv : (convert 22 22 (.slice (some ⟨w8.heap.size, 0, none⟩) 21 21)).run Tryz.prog (w8.alloc (.cells #[.int .u8 116, .int .u8 119, .int .u8 101, .int .u8 110, .int .u8 116, .int .u8 121, .int .u8 32, .int .u8 98, .int .u8 121, .int .u8 116, .int .u8 101, .int .u8 115, .int .u8 32, .int .u8 111, .int .u8 102, .int .u8 32, .int .u8 97, .int .u8 32, .int .u8 108, .int .u8 111, .int .u8 103] 5)) = .ok (.slice (some ⟨w8.heap.size, 0, none⟩) 21 21) (w8.alloc (.cells #[.int .u8 116, .int .u8 119, .int .u8 101, .int .u8 110, .int .u8 116, .int .u8 121, .int .u8 32, .int .u8 98, .int .u8 121, .int .u8 116, .int .u8 101, .int .u8 115, .int .u8 32, .int .u8 111, .int .u8 102, .int .u8 32, .int .u8 97, .int .u8 32, .int .u8 108, .int .u8 111, .int .u8 103] 5 (21, 22))) := Joins.run_convert_bytes_const_at w8 22 5 #[.int .u8 116, .int .u8 119, .int .u8 101, .int .u8 110, .int .u8 116, .int .u8 121, .int .u8 32, .int .u8 98, .int .u8 121, .int .u8 116, .int .u8 101, .int .u8 115, .int .u8 32, .int .u8 111, .int .u8 102, .int .u8 32, .int .u8 97, .int .u8 32, .int .u8 108, .int .u8 111, .int .u8 103] 21 21 w8.heap.size rfl Tryz.underlying22 Tryz.underlying5
 have hkl := HR8.out.tk.blk.lt
 have HW := Lib.hid (ru_logWrite (HR8.out.non k5) HT2.out.1 (by have := HT2.out.2.1; omega) (by decide) (by decide) 80 tw (by decide) (some ⟨w8.heap.size, 0, none⟩) 21 hD5 (by decide) HFar.out (fun ad e => by injection e with e; subst e; show w8.heap.size ≠ k; omega))
 have HB9 := Lib.hid (HB8.out.non k5)
 have HR9 := Lib.hid (HR8.out.non k5)
 clear hD5 k5 HFar hkl
 go_upto_region 7 with (go_at_call 8; go_must (refine HW.out.mono ?_); rintro e w9 ⟨v, W3, lg3, rfl, hR9, -, -, hLw, hWl, hLg, hK9⟩)
 have HB10 := Lib.hid (HB9.out.keep hK9 (fun e => by
   rcases e with e | e
   · exact HR9.out.gs.free HB9.out (by decide) (by decide) (by decide) e
   · exact HB9.out.ne HR9.out.tk.blk (by decide) e))
 have HA3 := Lib.hid (HA2.out.ov HI.out v hLw.rg W3)
 have HT3 : Hid ((T2.ov (ixs F 2) v W3).P.on ∧ (T2.ov (ixs F 2) v W3).P.waits.length ≤ 200 ∧ ∀ y ∈ (T2.ov (ixs F 2) v W3).P.waits, ∃ i, i < 2 ∧ y.d = (K i).d) := Lib.hid (by
   refine ⟨HT2.out.1, ?_, ?_⟩
   · show (T2.P.waits ++ W3).length ≤ 200
     rw [List.length_append]
     have := HT2.out.2.1
     have h21 : tw.length = 21 := rfl
     omega
   · intro y hy
     rcases List.mem_append.1 (show y ∈ T2.P.waits ++ W3 from hy) with hy | hy
     · exact HT2.out.2.2 y hy
     · obtain ⟨i, hi, e, -⟩ := hLw.wt y hy
       obtain ⟨j, hj, e2⟩ := mem_ixs.1 hi
       exact ⟨i, by rw [← e2, HR8.out.ixe j hj]; exact hj, e⟩)
 obtain ⟨lgf, hlgf⟩ : ∃ z, z = fun a => (v (18 + a)).getD (zeros 128) := ⟨_, rfl⟩
 obtain ⟨T3, hT3⟩ : ∃ z, z = T2.ov (ixs F 2) v W3 := ⟨_, rfl⟩
 rw [← hT3, ← hlgf] at HA3
 rw [← hT3] at HT3
 have HR10 : Hid (Ru wb w9 7 tp2 x p gd gc dv K k B L Dk F q u T3 lg3) := Lib.hid (by rw [hT3]; exact hR9)
 have HLg : Hid (logD T3 F (pres L L.length) = mid (logD T2 F (pres L L.length)) tw 80 21) := Lib.hid (by rw [hT3]; exact hLg)
 clear hlgf hT3 hR9 hLw hWl hLg hK9 HW hcv HB9 HR9 x2 HB8 HA2
 
 have x2 : w9.cell? ⟨x, 2, none⟩ = some (.pointer (some ⟨k, 0, none⟩)) := HR10.out.bx.cell 2
 have HFl := Lib.hid (ru_flush HR10.out HT3.out.1 (by have := HT3.out.2.1; omega) HT3.out.2.2)
 go_upto_region 8 with (go_at_call 9; go_must (refine HFl.out.mono ?_); rintro e w10 ⟨rfl, T4, hR4, hf4, hg4, hP4, hK10⟩)
 have HB11 := Lib.hid (HR10.out.gs.stay hK10 HB10.out (by decide) (by decide) (by decide))
 have HT4 := Lib.hid (show _ ∧ _ ∧ _ from ⟨hf4, hg4, hP4⟩)
 have HR11 := Lib.hid hR4
 clear hR4 hf4 hg4 hP4 hK10 HFl HB10 x2 HT2 HK8
 
 have x0 : w10.cell? ⟨x, 0, none⟩ = some (.pointer (some ⟨p, 0, none⟩)) := HR11.out.bx.cell 0
 have HU := Lib.hid (ru_up HR11.out (by rw [HT4.out.2.2]; exact Nat.zero_le _) [] none 0 (AtB.nil _ _) (fun ad e => by cases e) (by decide))
 go_upto_region 9 with (go_at_call 11; go_must (refine HU.out.mono ?_); rintro e w11 ⟨rfl, f5, hR5, hf5, hK11⟩)
 have HB12 := Lib.hid (HR11.out.gs.stay hK11 HB11.out (by decide) (by decide) (by decide))
 have HA5 := Lib.hid (HA3.out.fits (f' := f5) fun i q hi hq => by
   rcases hf5 i q hi hq with e | ⟨y, hy, -⟩
   · rw [e, HT4.out.2.1 i hi]
   · rw [HT4.out.2.2] at hy; exact (List.not_mem_nil hy).elim)
 have HR12 := Lib.hid hR5
 clear hR5 hf5 hK11 HU HB11 x0
 
 have x1 : w11.cell? ⟨x, 1, none⟩ = some (.slice (some ⟨gd, 0, none⟩) 2 gc) := HR12.out.bx.cell 1
 have g1 : w11.cell? ⟨gd, 1, none⟩ = some (.pointer (some ⟨(K 1).d, 0, none⟩)) := row_cellAt (s := ⟨some ⟨gd, 0, none⟩, 2, gc⟩) encP_len HR12.out.dr rfl (i := 1) (x := (K 1).d) rfl
 have k13 := (Keeps.refl Non w11).alloc (.cells #[.pointer (some ⟨(K 1).d, 0, none⟩)] 49)
 have hc13 := (Blk.new w11 49 #[.pointer (some ⟨(K 1).d, 0, none⟩)]).cell 0
 have HUo : Hid (Dec (fun j i => if i = 3 % 8 then some ⟨7, 3, 0, ⟨0, 5, 3, 2, 1, s3⟩⟩ else (fun _ _ => none) j i) (some ⟨7, 3, 0, ⟨0, 5, 3, 2, 1, s3⟩⟩)) := Lib.hid (.inr ⟨_, 3 % 8, by decide, rfl, rfl, show 1 ≤ 3 by decide, show 3 ≤ 281474976710656 by decide⟩)
 have HIm := Lib.hid (ru_import1 (HR12.out.non k13) rfl tp2_ok rfl rfl (by decide) HA5.out HUo.out 1 (by decide) (gb := w11.heap.size) (cd := 1) (by decide) hc13)
 have HR13 := Lib.hid (HR12.out.non k13)
 have HB13 := Lib.hid (HB12.out.non k13)
 have HDv : Hid (∀ q ∈ own dv.v, q < (w11.alloc (.cells #[.pointer (some ⟨(K 1).d, 0, none⟩)] 49)).heap.size) := Lib.hid (fun q hq => by
   obtain ⟨wv, S6, hG, -⟩ := HR13.out.gs
   exact RowP.lt hG.row q hq)
 have HSz : Hid (wb.heap.size ≤ (w11.alloc (.cells #[.pointer (some ⟨(K 1).d, 0, none⟩)] 49)).heap.size) := Lib.hid HR13.out.gs.keep.size
 clear k13 hc13 HR12 HB12
 go_upto_region 12 with (go_at_call 12; go_must (refine HIm.out.mono ?_); rintro e w12 ⟨k2, B2, L2, Dk2, F2, lg2, rfl, hFo⟩)
 obtain ⟨r, hr⟩ : ∃ r : Pt, r = ⟨0, 5, 3, 2, 1, s3⟩ := ⟨_, rfl⟩
 have HF := Lib.hid hFo
 obtain ⟨o1, o2, o3, o4, o5⟩ := hFo.one (show 1 < 2 by decide)
 have hL2 : L2.length = 2 := hFo.ll
 have hB2 : bst (fun q => if q = 1 then some ⟨7, 3, 0, ⟨0, 5, 3, 2, 1, s3⟩⟩ else none) L2 L2.length = ⟨7, 3, 0, ⟨0, 5, 3, 2, 1, s3⟩⟩ := by
   rw [hL2, bst_one (i := 1) (b := (F2 1).b) 2 (fun q hq => by
     by_cases e : q = 1
     · subst e; rw [if_pos rfl]; exact o1
     · rw [if_neg e]; exact o2 q hq e)]
   rfl
 have HBst := Lib.hid (best_tk (hd := fun q => if q = 1 then some ⟨7, 3, 0, ⟨0, 5, 3, 2, 1, s3⟩⟩ else none) hFo.tk (by rw [hL2]; decide) (fun V j b hV hj => by
   have hj1 : j = 1 := by
     rcases Nat.lt_or_ge j 2 with h | h
     · by_cases e : j = 1
       · exact e
       · rw [o2 j h e] at hj; injection hj with hj; cases hj
     · rw [List.getElem?_eq_none (by rw [hL2]; exact h)] at hj; cases hj
   subst hj1
   obtain ⟨e1, e2, e3⟩ := (hFo.lv.non hV).lf 1 b hj
   rw [e1]
   rw [o5] at e3
   rw [if_pos rfl]
   exact ubers_dec (hFo.gs.non hV) (show 1 < 2 by decide) e3 rfl (show 7 < 18446744073709551616 by decide) (HA5.out.rg 1 (by decide)) HUo.out))
 rw [hB2, show bestE ⟨7, 3, 0, ⟨0, 5, 3, 2, 1, s3⟩⟩ = .tuple #[.agg #[.int .u64 7, .int .u64 3, .int .u64 0, .int .i64 0, .int .i64 5, .int .i64 3, .int .u64 2, .int .i64 1, .int .u64 (s3.a : Int), .int .u64 (s3.b : Int), .int .u64 (s3.c : Int), .int .u64 (s3.d : Int)], .int .i64 0] from rfl] at HBst
 have HB14 := Lib.hid (HB13.out.non hFo.kp)
 have HR14 := Lib.hid (HR13.out.non hFo.kp)
 clear hFo o1 o2 o3 o4 o5 hL2 hB2 HIm HB13 HR13 x1 g1
 go_upto_region 12 with fail
 go_upto_region 13 with (go_at_call 18; go_must (refine HBst.out.mono ?_); rintro e w13 ⟨rfl, hK13⟩)
 have hB14 := Blk.new w13 63 #[.int .u64 7, .int .u64 3, .int .u64 0, .int .i64 0, .int .i64 5, .int .i64 3, .int .u64 2, .int .i64 1, .int .u64 (s3.a : Int), .int .u64 (s3.b : Int), .int .u64 (s3.c : Int), .int .u64 (s3.d : Int)]
 have k14 := (Keeps.refl Non w13).alloc (.cells #[.int .u64 7, .int .u64 3, .int .u64 0, .int .i64 0, .int .i64 5, .int .i64 3, .int .u64 2, .int .i64 1, .int .u64 (s3.a : Int), .int .u64 (s3.b : Int), .int .u64 (s3.c : Int), .int .u64 (s3.d : Int)] 63)
 obtain ⟨w14, hw14⟩ : ∃ V : World, V = w13.alloc (.cells #[.int .u64 7, .int .u64 3, .int .u64 0, .int .i64 0, .int .i64 5, .int .i64 3, .int .u64 2, .int .i64 1, .int .u64 (s3.a : Int), .int .u64 (s3.b : Int), .int .u64 (s3.c : Int), .int .u64 (s3.d : Int)] 63) := ⟨_, rfl⟩
 rw [← hw14] at hB14 k14 ⊢
 clear hw14
 obtain ⟨ub, hub⟩ : ∃ z, z = w13.heap.size := ⟨_, rfl⟩
 rw [← hub] at hB14 ⊢
 clear hub
 have HK14 := Lib.hid (hK13.non k14)
 have HU14 := Lib.hid hB14
 clear hK13 k14 hB14 HBst
 
 have HTk := Lib.hid (fun V (hV : Keeps Non w12 V) => show Tk V k2 7 tp2 B2 L2 Dk2 _ (324 - 292) lg2 from HF.out.tk.non hV)
 obtain ⟨hP1, hP2⟩ := HF.out.pres1 (show 1 < 2 by decide)
 obtain ⟨o1, o2, o3, o4, o5⟩ := HF.out.one (show 1 < 2 by decide)
 have hL2 : L2.length = 2 := HF.out.ll
 have HRt : Hid (Right 324 ⟨f5, f5, ⟨[], -1, false⟩⟩ L2 F2 5 3 1 s3 (pad [97, 98, 99])) := Lib.hid ⟨by decide, by decide, by decide, .inl rfl, fun j b hj => by
   have hj1 : j = 1 := by
     rcases Nat.lt_or_ge j 2 with h | h
     · by_cases e : j = 1
       · exact e
       · rw [o2 j h e] at hj; injection hj with hj; cases hj
     · rw [List.getElem?_eq_none (by rw [hL2]; exact h)] at hj; cases hj
   subst hj1
   rw [o5]
   exact cat_dt HA5.out (by decide) (show 1 < 2 by decide), fun V g hB => by rw [HS3.out]; exact fl_ck (b := [97, 98, 99]) (by decide) V g hB⟩
 have HRd := Lib.hid (fun V (hV : Keeps Non w12 V) => read_tk (HTk.out V hV) (HF.out.gs.non hV) (HF.out.lv.non hV) (by rw [hL2]; decide) hP1 (by decide) (by decide) rfl ⟨0, 5, 3, 2, 1, s3⟩ (pt3_ok s3 hso) rfl (pad [97, 98, 99]) HRt.out)
 have HSc := Lib.hid (fun V (hV : Keeps Non w12 V) => scrub_tk (HTk.out V hV) (HF.out.gs.non hV) (HF.out.lv.non hV) (by rw [hL2]; decide) hP1 (by decide) (by decide) rfl ⟨0, 5, 3, 2, 1, s3⟩ (pt3_ok s3 hso) rfl (pad [97, 98, 99]) HRt.out)
 have HLr := Lib.hid (fun V (hV : Keeps Non w12 V) => logRead_tk (HTk.out V hV) (HF.out.gs.non hV) (HF.out.lv.non hV) (by rw [hL2]; decide) (by decide) rfl 80 6 (by decide))
 have HLo : Hid (((logD ⟨f5, f5, ⟨[], -1, false⟩⟩ F2 (pres L2 L2.length)).drop 80).take 6 = [116, 119, 101, 110, 116, 121]) := Lib.hid (by
   rw [Aw.log (T := T3) (T' := ⟨f5, f5, ⟨[], -1, false⟩⟩) HA3.out HA5.out HR14.out.pres HR14.out.psl hP1 hP2, HLg.out]
   have := mid_at (D := logD T2 F (pres L L.length)) (b := tw) (a := 80) (m := 6) (by rw [HLn.out]; decide) (by decide)
   exact this)
 have HLk : Hid ((lkB L2 (List.replicate 2 Lk.no) 3 2)[0]? = some ⟨1, 3, true⟩) := Lib.hid (by
   rw [lkB, o1, lkB, o2 0 (by decide) (by decide)]
   rfl)
 rw [HLo.out] at HLr
 clear hP1 hP2 o1 o2 o3 o4 o5 hL2
 have b0 : w14.cell? ⟨pb, 0, none⟩ = some (.int .i64 0) := (HB14.out.non HK14.out).cell 0
 have b1 : w14.cell? ⟨pb, 1, none⟩ = some (.int .i64 5) := (HB14.out.non HK14.out).cell 1
 have b2 : w14.cell? ⟨pb, 2, none⟩ = some (.int .i64 3) := (HB14.out.non HK14.out).cell 2
 have b3 : w14.cell? ⟨pb, 3, none⟩ = some (.int .u64 2) := (HB14.out.non HK14.out).cell 3
 have b4 : w14.cell? ⟨pb, 4, none⟩ = some (.int .i64 1) := (HB14.out.non HK14.out).cell 4
 have b5 : w14.cell? ⟨pb, 5, none⟩ = some (.int .u64 (s3.a : Int)) := (HB14.out.non HK14.out).cell 5
 have b6 : w14.cell? ⟨pb, 6, none⟩ = some (.int .u64 (s3.b : Int)) := (HB14.out.non HK14.out).cell 6
 have b7 : w14.cell? ⟨pb, 7, none⟩ = some (.int .u64 (s3.c : Int)) := (HB14.out.non HK14.out).cell 7
 have b8 : w14.cell? ⟨pb, 8, none⟩ = some (.int .u64 (s3.d : Int)) := (HB14.out.non HK14.out).cell 8
 have HRd14 := Lib.hid (HRd.out w14 HK14.out)
 go_upto_region 14 with (go_at_call 19; go_must (refine HRd14.out.mono ?_); rintro e w15 ⟨gr, rfl, hg15, hgw15, hK15⟩)
 have HG15 := Lib.hid (show _ ∧ _ from ⟨hg15, hgw15⟩)
 have HK15 := Lib.hid hK15
 clear hg15 hgw15 hK15 b0 b1 b2 b3 b4 b5 b6 b7 b8 HRd14 HRd
 have HLr15 := Lib.hid (HLr.out w15 (HK14.out.non HK15.out))
 go_upto_region 15 with (go_at_call 10; go_must (refine HLr15.out.mono ?_); rintro e w16 ⟨v16, rfl, hO16, hK16⟩; obtain ⟨vA, vc, rfl, hvc, hvA, hvo⟩ := OwnB.open hO16)
 obtain ⟨gv, cur, hgv, hBv⟩ : ∃ gv cur, vA = some ⟨gv, 0, none⟩ ∧ Blk w16 gv 5 cur := by
   rcases hO16.form with ⟨e1, -⟩ | ⟨g, cap, cur, e1, -, hB, -⟩
   · injection e1 with e1 e2 e3
     simp at e2
   · injection e1 with e1 _ _
     exact ⟨g, cur, e1, hB⟩
 subst hgv
 have HV16 := Lib.hid (show _ ∧ _ ∧ _ from ⟨hBv, hvA, (hvo _ rfl).1⟩)
 have HK16 := Lib.hid (HK14.out.non (HK15.out.non hK16))
 have HK1516 := Lib.hid hK16
 clear hO16 hvc hvA hvo hBv hK16 HLr HLr15
 
 have hl0 : 0 < L2.length := by rw [show L2.length = 2 from HF.out.ll]; decide
 have HLa := Lib.hid (lacks_tk (HTk.out w16 HK16.out) 0 hl0 ⟨1, 3, true⟩ HLk.out)
 go_upto_region 16 with (go_at_call 23; go_must (refine HLa.out.mono ?_); rintro e w17 ⟨rfl, hK17⟩)
 have hB18 := Blk.new w17 74 #[.int .u64 1, .int .u64 3]
 have k18 := (Keeps.refl Non w17).alloc (.cells #[.int .u64 1, .int .u64 3] 74)
 obtain ⟨w18, hw18⟩ : ∃ V : World, V = w17.alloc (.cells #[.int .u64 1, .int .u64 3] 74) := ⟨_, rfl⟩
 have hw18' : w17.alloc (.cells #[.int .u64 ((1 : Nat) : Int), .int .u64 ((3 : Nat) : Int)] 74) = w18 := hw18.symm
 rw [← hw18] at hB18 k18
 try rw [hw18']
 try rw [← hw18]
 clear hw18 hw18'
 obtain ⟨lb, hlb⟩ : ∃ z, z = w17.heap.size := ⟨_, rfl⟩
 rw [← hlb] at hB18 ⊢
 clear hlb
 have HLb := Lib.hid hB18
 have HK1618 := Lib.hid (hK17.non k18)
 have HK18 := Lib.hid (HK16.out.non (hK17.non k18))
 clear hB18 k18 hK17 HLa
 
 have b0 : w18.cell? ⟨pb, 0, none⟩ = some (.int .i64 0) := (HB14.out.non HK18.out).cell 0
 have b1 : w18.cell? ⟨pb, 1, none⟩ = some (.int .i64 5) := (HB14.out.non HK18.out).cell 1
 have b2 : w18.cell? ⟨pb, 2, none⟩ = some (.int .i64 3) := (HB14.out.non HK18.out).cell 2
 have b3 : w18.cell? ⟨pb, 3, none⟩ = some (.int .u64 2) := (HB14.out.non HK18.out).cell 3
 have b4 : w18.cell? ⟨pb, 4, none⟩ = some (.int .i64 1) := (HB14.out.non HK18.out).cell 4
 have b5 : w18.cell? ⟨pb, 5, none⟩ = some (.int .u64 (s3.a : Int)) := (HB14.out.non HK18.out).cell 5
 have b6 : w18.cell? ⟨pb, 6, none⟩ = some (.int .u64 (s3.b : Int)) := (HB14.out.non HK18.out).cell 6
 have b7 : w18.cell? ⟨pb, 7, none⟩ = some (.int .u64 (s3.c : Int)) := (HB14.out.non HK18.out).cell 7
 have b8 : w18.cell? ⟨pb, 8, none⟩ = some (.int .u64 (s3.d : Int)) := (HB14.out.non HK18.out).cell 8
 have HSc18 := Lib.hid (HSc.out w18 HK18.out)
 go_upto_region 17 with (go_at_call 24; go_must (refine HSc18.out.mono ?_); rintro e w19 ⟨rfl, hK19⟩)
 have HK19 := Lib.hid (HK18.out.non hK19)
 have HK1819 := Lib.hid hK19
 clear hK19 HSc HSc18 b0 b1 b2 b3 b4 b5 b6 b7 b8
 
 have x1 : w19.cell? ⟨x, 1, none⟩ = some (.slice (some ⟨gd, 0, none⟩) 2 gc) := (HR14.out.bx.non HK19.out).cell 1
 have g0 : w19.cell? ⟨gd, 0, none⟩ = some (.pointer (some ⟨(K 0).d, 0, none⟩)) := row_cellAt (s := ⟨some ⟨gd, 0, none⟩, 2, gc⟩) encP_len (HR14.out.dr.non HK19.out) rfl (i := 0) (x := (K 0).d) rfl
 have HRp := Lib.hid (by
   have hF := HF.out
   obtain ⟨o1, o2, o3, o4, o5⟩ := hF.one (show 1 < 2 by decide)
   have hdl : Dk2.length = 2 := hF.tk.dkl.trans hF.ll
   exact replace_own (HTk.out w19 HK19.out) (hF.gs.non HK19.out) (hF.lv.non HK19.out) (by decide) tp2_ok rfl (Nat.le_of_eq hF.ll) rfl ⟨rfl, rfl⟩ (Nat.zero_le _) 0 hl0 0 (by decide) (fun b hb => by
     obtain ⟨j, hj, e⟩ := List.getElem_of_mem hb
     have hj2 : j < 2 := by rw [← hdl]; exact hj
     have e' := List.getElem?_eq_getElem hj
     rw [e] at e'
     by_cases c : j = 1
     · subst c
       rw [o3] at e'
       injection e' with e'
       injection e' with e'
       subst e'
       refine ⟨(hF.gs.non HK19.out).dne (show 1 < 2 by decide) (show 0 < 2 by decide) (by decide), ?_⟩
       exact (hF.gs.non HK19.out).dk (show 1 < 2 by decide)
     · rw [o4 j hj2 c] at e'
       injection e' with e'
       cases e') ⟨_, HLk.out⟩ (fun q hq e => by
     have h1 := hF.new.2 q (.inr (.inl hq))
     have h2 := HDv.out q e
     omega) (fun q hq => by
     have h1 := hF.new.2 q (by rcases hq with hq | hq; exact .inl hq; exact .inr (.inl hq))
     have h2 := HSz.out
     omega) (fun q hq => by
     have h1 := hF.new.2 q (by rcases hq with hq | hq; exact .inr (.inr (.inl hq)); exact .inr (.inr (.inr hq)))
     have h2 := HSz.out
     omega) 3 (by decide) (by decide))
 go_upto_region 18 with (go_at_call 25; go_must (refine HRp.out.mono ?_); rintro e w20 ⟨lf, rfl, hT20, hK20, hN20⟩)
 have HT20 := Lib.hid hT20
 have HWh := Lib.hid (whole_tk hT20 0 (by rw [List.length_set]; exact hl0))
 have hF := HF.out
 have hTg : ∀ {g t : Nat} {cs : Array Value}, Blk w19 g t cs → ¬ Fg w19 p 2 K g → t ≠ 93 → t ≠ 49 → t ≠ 350 → ¬ Tg w19 p 2 K B2 g := fun hb a b c d e => by
   have hT := HTk.out w19 HK19.out
   rcases e with e | e | e | e | e
   · exact a e
   · exact own_type hT.lf hb b e
   · exact own_type hT.dk hb c e
   · exact own_type hT.mt.lr hb b e
   · exact own_type hT.mt.kr hb d e
 have hGs := hF.gs.non HK19.out
 have hU20 := (HU14.out.non (HK15.out.non (HK1516.out.non (HK1618.out.non HK1819.out)))).keep hK20 (by
   have hb := HU14.out.non (HK15.out.non (HK1516.out.non (HK1618.out.non HK1819.out)))
   exact hTg hb (hGs.free hb (by decide) (by decide) (by decide)) (by decide) (by decide) (by decide))
 have hL20 := (HLb.out.non HK1819.out).keep hK20 (by
   have hb := HLb.out.non HK1819.out
   exact hTg hb (hGs.free hb (by decide) (by decide) (by decide)) (by decide) (by decide) (by decide))
 have hg19 := HG15.out.1.non (HK1516.out.non (HK1618.out.non HK1819.out))
 have hgF : ¬ Fg w19 p 2 K gr := hGs.freeB hg19 ((hF.gs.non HK14.out).new HG15.out.2)
 have hg20 := hg19.keep hK20 (hTg hg19 hgF (by decide) (by decide) (by decide))
 have hv19 := HV16.out.1.non (HK1618.out.non HK1819.out)
 have hvF : ¬ Fg w19 p 2 K gv := hGs.freeB hv19 ((hF.gs.non (HK14.out.non HK15.out)).new HV16.out.2.2)
 have hv20 : At w20 (some ⟨gv, 0, none⟩) [116, 119, 101, 110, 116, 121] := (HV16.out.2.1.non (HK1618.out.non HK1819.out)).keep hK20 (fun ad e => by
   injection e with e
   subst e
   exact hTg hv19 hvF (by decide) (by decide) (by decide))
 have hvB20 := hv19.keep hK20 (hTg hv19 hvF (by decide) (by decide) (by decide))
 have H20 := Lib.hid (show _ ∧ _ ∧ _ ∧ _ ∧ _ from ⟨hU20, hL20, hg20, hv20, hvB20⟩)
 have HN20 := Lib.hid hN20
 clear hF hTg hGs hU20 hL20 hg19 hgF hg20 hv19 hvF hv20 hvB20 hK20 hT20 hN20 HRp x1 g0
 go_upto_region 19 with (go_at_call 26; go_must (refine HWh.out.mono ?_); rintro e w21 ⟨rfl, hT21, hK21⟩)
 have hkv : ∀ {g t : Nat} {cs : Array Value}, Blk w20 g t cs → t ≠ 350 → ¬ g ∈ own B2.kv.v := fun hb c e => own_type HT20.out.mt.kr hb c e
 obtain ⟨hU20, hL20, hg20, hv20, hvB20⟩ := H20.out
 have u1 : w21.cell? ⟨ub, 1, none⟩ = some (.int .u64 3) := (hU20.keep hK21 (hkv hU20 (by decide))).cell 1
 have l0 : w21.cell? ⟨lb, 0, none⟩ = some (.int .u64 1) := (hL20.keep hK21 (hkv hL20 (by decide))).cell 0
 have l1 : w21.cell? ⟨lb, 1, none⟩ = some (.int .u64 3) := (hL20.keep hK21 (hkv hL20 (by decide))).cell 1
 have hA1 : At w21 (some ⟨gr, 0, none⟩) [97, 98, 99] := at_pre (xs := [97, 98, 99]) (At.blk (hg20.keep hK21 (hkv hg20 (by decide))))
 have hA2 : At w21 (some ⟨gv, 0, none⟩) [116, 119, 101, 110, 116, 121] := hv20.keep hK21 (fun ad e => by
   injection e with e
   subst e
   exact hkv hvB20 (by decide))
 have c1 : (convert 22 9 (.slice (some ⟨gr, 0, none⟩) 3 3)).run Tryz.prog w21 = .ok (.string ⟨#[97, 98, 99]⟩) w21 := run_convert_at 22 9 5 Tryz.underlying22 Tryz.underlying5 Tryz.underlying9 _ [97, 98, 99] hA1 3 3 rfl
 have c2 : (convert 22 9 (.slice (some ⟨gv, 0, none⟩) 6 vc)).run Tryz.prog w21 = .ok (.string ⟨#[116, 119, 101, 110, 116, 121]⟩) w21 := run_convert_at 22 9 5 Tryz.underlying22 Tryz.underlying5 Tryz.underlying9 _ [116, 119, 101, 110, 116, 121] hA2 6 vc rfl
 have HPo := Lib.hid (pool_tk hT21)
 have HSi := Lib.hid (size_tk hT21)
 have HNe := Lib.hid (need_tk hT21 1024 (by decide) (by decide))
 have HKe : Hid (Keeps Non w w21) := Lib.hid (by
   have hk20 : Keeps Non w w20 := HKb.out.non HN20.out
   refine hk20.then hK21 fun i hi e => ?_
   have h1 := HF.out.new.2 i (.inr (.inr (.inr e)))
   have h2 := HSz.out
   have h3 := HKb.out.size
   omega)
 clear hkv hU20 hL20 hg20 hv20 hvB20 hA1 hA2 hT21 hK21
 go_wp2_with (first
   | (go_at_call 20; go_must (refine HPo.out.mono ?_); rintro e w22 ⟨rfl, hw22⟩; subst w22)
   | (go_at_call 27; go_must (refine HSi.out.mono ?_); rintro e w22 ⟨rfl, hw22⟩; subst w22)
   | (go_at_call 28; go_must (refine HNe.out.mono ?_); rintro e w22 ⟨rfl, hw22⟩; subst w22))
 go_ret
 exact ⟨rfl, HKe.out⟩
end Go.Proofs.YtolknnmaadkgiaaGreatDoor
