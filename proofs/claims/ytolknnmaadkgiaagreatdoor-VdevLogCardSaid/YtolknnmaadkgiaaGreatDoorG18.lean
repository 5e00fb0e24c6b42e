/- The uberblocks that stand on a leaf. The disks of a power as a whole: what their sectors say, what waits; leaves upon them. -/
import Derived.Test.YtolknnmaadkgiaaGreatDoorG17
import Derived.Test.YtolknnmaadkgiaaGreatDoorX2
set_option linter.unusedVariables false
set_option linter.unusedSimpArgs false
namespace Go.Proofs.YtolknnmaadkgiaaGreatDoor
set_option maxRecDepth 100000
open Go.RowKit Go.Uc
def Slot (pool : Nat) (c : List UInt8) (o : Option UB) : Prop :=
 match o with
 | some u => c = uberB pool u.txg u.note u.r ∧ u.pool = pool ∧ 1 ≤ u.txg ∧ u.txg ≤ 281474976710656 ∧ u.note < 18446744073709551616 ∧ u.r.ok ∧ u.r.bi ≤ u.txg
 | none => ¬ Opens [85, 67, 85, 66] c
def Found (dec : Nat → Nat → Option UB) (j i : Nat) (u : UB) : Prop := (∃ j' i', j' < j ∧ i' < 8 ∧ dec j' i' = some u) ∨ ∃ i', i' < i ∧ dec j i' = some u
theorem Found.zero (dec : Nat → Nat → Option UB) (u : UB) : ¬ Found dec 0 0 u := by
 rintro (⟨j', i', h, -⟩ | ⟨i', h, -⟩) <;> omega
theorem Found.next {dec : Nat → Nat → Option UB} {j i : Nat} {u : UB} : Found dec j (i + 1) u ↔ Found dec j i u ∨ dec j i = some u := by
 constructor
 · rintro (h | ⟨i', h1, h2⟩)
   · exact .inl (.inl h)
   · rcases Nat.lt_or_ge i' i with h3 | h3
     · exact .inl (.inr ⟨i', h3, h2⟩)
     · obtain rfl : i' = i := by omega
       exact .inr h2
 · rintro ((h | ⟨i', h1, h2⟩) | h)
   · exact .inl h
   · exact .inr ⟨i', by omega, h2⟩
   · exact .inr ⟨i, by omega, h⟩
theorem Found.row {dec : Nat → Nat → Option UB} {j : Nat} {u : UB} : Found dec (j + 1) 0 u ↔ Found dec j 8 u := by
 constructor
 · rintro (⟨j', i', h1, h2, h3⟩ | ⟨i', h1, -⟩)
   · rcases Nat.lt_or_ge j' j with h | h
     · exact .inl ⟨j', i', h, h2, h3⟩
     · obtain rfl : j' = j := by omega
       exact .inr ⟨i', h2, h3⟩
   · omega
 · rintro (⟨j', i', h1, h2, h3⟩ | ⟨i', h1, h2⟩)
   · exact .inl ⟨j', i', by omega, h2, h3⟩
   · exact .inl ⟨j, i', by omega, h1, h2⟩
theorem encB_fold (U : UB) : List.foldl (fun (cs : Array Value) (x : Value × Nat) => cs.setIfInBounds x.snd x.fst) #[.int .u64 0, .int .u64 0, .int .u64 0, .int .i64 0, .int .i64 0, .int .i64 0, .int .u64 0, .int .i64 0, .int .u64 0, .int .u64 0, .int .u64 0, .int .u64 0] (encB U).zipIdx = (encB U).toArray := by
 unfold encB
 simp only [List.zipIdx, List.foldl, List.setIfInBounds_toArray]
 rfl
set_option maxHeartbeats 16000000 in
theorem ubers12_any {w0 w : World} {lf : Nat} {K : Kb} {s : Dsk} {wv : Sl} {x : Lb} {tA : Option Addr} {tc : Nat} (h : Lm w0 w lf K s wv x tA tc) (ho : s.off = false) (hn : 324 ≤ s.n) (hpx : x.pool < 18446744073709551616) (dec : Nat → Nat → Option UB) (hdec : ∀ j i, j < 4 → i < 8 → Slot x.pool (secs s.now (plc s.n j + 1 + i) 1) (dec j i)) (B : List UB) (hB : B.length ≤ 19) (hdB : ∀ j i u, j < 4 → i < 8 → dec j i = some u → u ∈ B) :
   Calls Tryz.prog 55 #[.pointer (some ⟨lf, 0, none⟩)] w fun e w' => ∃ (mA : Option Addr) (mc : Nat) (M : List UB), e = .returned (.slice mA M.length mc) ∧ RowB w' (.slice mA M.length mc) M ∧ M.Nodup ∧ Ord M.length M ∧ (∀ u, u ∈ M ↔ ∃ j i, j < 4 ∧ i < 8 ∧ dec j i = some u) ∧ M.length ≤ 19 ∧ (∀ q ∈ own (.slice mA M.length mc), w.heap.size ≤ q) ∧ Keeps Non w w' := by
 have hn8 := h.dm.ok.n2
 have hPl := Lib.hid (places29_any h.dm hn)
 have HRd : Hid (∀ P V, P + 1 ≤ s.n → Keeps Non w V → Calls Tryz.prog 77 #[.pointer (some ⟨K.d, 0, none⟩), .int .i64 (P : Int), .int .i64 1] V fun e w' => ∃ b, e = .returned (.tuple #[.slice (some ⟨b, 0, none⟩) 128 128, .int .i64 0]) ∧ Blk w' b 5 (pc (secs s.now P 1)) ∧ V.heap.size ≤ b ∧ Keeps Non V w') := Lib.hid (fun P V hP hV => read35_ok (h.dm.non hV) ho P 1 (by omega) (by omega))
 have hsl := fun P (hP : P + 1 ≤ s.n) => secs_len h.dm.ok.nw (at_ := P) (m := 1) hP
 have HSl := Lib.hid hsl
 have HL := Lib.hid (fun V (hV : Keeps Non w V) => h.non hV)
 have d0 := h.d0
 obtain ⟨pool, hpo⟩ : ∃ p, p = x.pool := ⟨_, rfl⟩
 rw [← hpo] at hpx hdec
 have HPO := Lib.hid hpo
 have hnew := h.new
 clear h hpo hsl
 have HDec := Lib.hid hdec
 have HdB := Lib.hid hdB
 clear hdec hdB
 obtain ⟨now, hnow⟩ : ∃ z, z = s.now := ⟨_, rfl⟩
 rw [← hnow] at HRd HDec HSl
 clear hnow
 generalize hsn : s.n = n at *
 clear hsn
 go_enter Tryz.func55, Tryz.ntmps55
 go_upto_region 3 with (go_at_call 76; go_must (refine hPl.out.mono ?_); rintro e w1 ⟨rfl, hk1⟩)
 go_loopw [3, 16] (fun v l wr => ∃ (j : Nat) (mA : Option Addr) (mc : Nat) (M : List UB), j ≤ 4 ∧ l = .int .i64 (j : Int) ∧ v = .slice mA M.length mc ∧ RowB wr (.slice mA M.length mc) M ∧ M.Nodup ∧ (∀ u, u ∈ M ↔ Found dec j 0 u) ∧ (∀ q ∈ own (.slice mA M.length mc), w.heap.size ≤ q) ∧ Keeps Non w wr) (fun _ l _ => 4 - (intOf l).toNat)
 case atStart => exact ⟨0, none, 0, [], by omega, rfl, rfl, RowP.nil _ _ _ _, List.nodup_nil, fun u => ⟨fun hh => (List.not_mem_nil hh).elim, fun hh => (Found.zero dec u hh).elim⟩, fun q hq => (List.not_mem_nil hq).elim, hk1⟩
 case round =>
   obtain ⟨j, mA, mc, M, hj, rfl, rfl, hRM, hnd, hmem, hown, hK⟩ := hrel
   obtain ⟨wx, rfl⟩ : ∃ W : World, W = wr := ⟨_, rfl⟩
   have HMo := Lib.hid (And.intro hnd (And.intro hmem hown))
   clear hnd hmem hown
   by_cases hlt : j < 4
   · have hji : (j : Int) < 4 := by omega
     have hix := fun V => index86 n j hlt V
     have hpl9 := plc_lt n j hn
     obtain ⟨P, hP⟩ : ∃ P, P = plc n j := ⟨_, rfl⟩
     rw [← hP] at hix hpl9
     have HP := Lib.hid hP
     clear hP
     go_upto_region 6 with fail
     go_loopw [3, 19] (fun v l wr => ∃ (i : Nat) (mA : Option Addr) (mc : Nat) (M : List UB), i ≤ 8 ∧ l = .int .u64 (i : Int) ∧ v = .slice mA M.length mc ∧ RowB wr (.slice mA M.length mc) M ∧ M.Nodup ∧ (∀ u, u ∈ M ↔ Found dec j i u) ∧ (∀ q ∈ own (.slice mA M.length mc), w.heap.size ≤ q) ∧ Keeps Non w wr) (fun _ l _ => 8 - (intOf l).toNat)
     case atStart => exact ⟨0, mA, mc, M, by omega, rfl, rfl, hRM, HMo.out.1, HMo.out.2.1, HMo.out.2.2, hK⟩
     case round =>
       obtain ⟨i, mA, mc, M, hi, rfl, rfl, hRM, hnd, hmem, hown, hK⟩ := hrel
       obtain ⟨wy, rfl⟩ : ∃ W : World, W = wr := ⟨_, rfl⟩
       have HMi := Lib.hid (And.intro hnd (And.intro hmem hown))
       clear hnd hmem hown HMo
       by_cases hi8 : i < 8
       · have hii : (i : Int) < 8 := by omega
         have hkd : Keeps Non wy wy.drew := (Keeps.refl Non wy).drew
         have hKd := hK.non hkd
         have d1 := (HL.out _ hKd).d0
         have HS := Lib.hid (fun V => slot31_any P i (by omega) (by omega) V)
         obtain ⟨Q, hQ⟩ : ∃ Q, Q = P + 1 + i % 8 := ⟨_, rfl⟩
         rw [← hQ] at HS
         have hQi : Q = plc n j + 1 + i := by rw [hQ, HP.out, Nat.mod_eq_of_lt hi8]
         have hQn : Q + 1 ≤ n := by omega
         have HR := Lib.hid (HRd.out Q wy.drew hQn hKd)
         have hsl : Slot pool (secs now Q 1) (dec j i) := by rw [hQi]; exact HDec.out j i hlt hi8
         have hcl := HSl.out Q hQn
         have HSlot := Lib.hid hsl
         have HCl := Lib.hid hcl
         clear hQ hQi hsl hcl hQn
         go_upto_region 8 with fail
         go_cut [7, 8] from 22 to 32 (fun v7 v8 wc => ∃ b, v7 = .slice (some ⟨b, 0, none⟩) 128 128 ∧ v8 = .int .i64 0 ∧ Blk wc b 5 (pc (secs now Q 1)) ∧ Keeps Non w wc ∧ Keeps Non wy wc)
         case first =>
           go_region_law (first
             | (go_simp; go_at_call 97; refine (HS.out _).mono ?_; rintro e w7 ⟨rfl, hw7⟩; subst w7; go_must (skip))
             | (go_simp; go_at_call 77; refine HR.out.mono ?_; rintro e w8 ⟨b, rfl, hB8, hb8, hK8⟩; go_must (have HX8 := Lib.hid (And.intro hB8 (And.intro (hKd.non hK8) (hkd.non hK8))))))
           all_goals
             go_wp2_with fail
             go_meet
             case rel => exact ⟨b, rfl, rfl, HX8.out.1, HX8.out.2.1, HX8.out.2.2⟩
         case rest =>
           obtain ⟨b, rfl, rfl, hB2, hK2, hky2⟩ := hcut
           obtain ⟨w2, rfl⟩ : ∃ V : World, V = wc := ⟨_, rfl⟩
           clear d1 hkd hKd
           obtain ⟨o, hoe⟩ : ∃ o, o = dec j i := ⟨_, rfl⟩
           rw [← hoe] at HSlot
           have HOE := Lib.hid hoe
           clear hoe
           cases o with
           | none =>
             have HDn := Lib.hid (decodeUber36_not (secs now Q 1) (by rw [HCl.out]) b w2 hB2 HSlot.out)
             go_upto_region 12 with (go_at_call 98; go_must (refine HDn.out.mono ?_); rintro e w3 ⟨rfl, hK3⟩)
             have hka := (Keeps.refl Non w3).alloc (.cells #[.int .u64 0, .int .u64 0, .int .u64 0, .int .i64 0, .int .i64 0, .int .i64 0, .int .u64 0, .int .i64 0, .int .u64 0, .int .u64 0, .int .u64 0, .int .u64 0] 63)
             obtain ⟨w4, hw4⟩ : ∃ V : World, V = w3.alloc (.cells #[.int .u64 0, .int .u64 0, .int .u64 0, .int .i64 0, .int .i64 0, .int .i64 0, .int .u64 0, .int .i64 0, .int .u64 0, .int .u64 0, .int .u64 0, .int .u64 0] 63) := ⟨_, rfl⟩
             rw [← hw4] at hka ⊢
             clear hw4
             go_quiet (fail)
             obtain ⟨w5, hw5⟩ : ∃ V : World, V = w4.drewN nq := ⟨_, rfl⟩
             have hk5 : Keeps Non w4 w5 := by rw [hw5]; exact (Keeps.refl _ _).drewN _
             rw [← hw5]
             clear hw5
             go_wp2_with fail
             go_roundw
             case rel =>
               refine ⟨i + 1, mA, mc, M, by omega, by go_num, rfl, (((hRM.non hky2).non hK3).non hka).non hk5, HMi.out.1, fun u => ?_, HMi.out.2.2, ((hK2.non hK3).non hka).non hk5⟩
               rw [Found.next, ← HOE.out, HMi.out.2.1 u]
               simp
             case measure => simp [intOf]; omega
           | some U =>
             obtain ⟨hU1, hU2, hU3, hU4, hU5, hU6, hU7⟩ := HSlot.out
             have HDy := Lib.hid (decodeUber36_any b w2 pool U.txg U.note U.r (by rw [← hU1]; exact hB2) hpx hU3 hU4 hU5 hU6 hU7)
             have HU := Lib.hid (show encB U = [.int .u64 (pool : Int), .int .u64 (U.txg : Int), .int .u64 (U.note : Int), .int .i64 (U.r.t : Int), .int .i64 (U.r.at_ : Int), .int .i64 (U.r.n : Int), .int .u64 (U.r.bi : Int), .int .i64 (U.r.k : Int), .int .u64 (U.r.s.a : Int), .int .u64 (U.r.s.b : Int), .int .u64 (U.r.s.c : Int), .int .u64 (U.r.s.d : Int)] by unfold encB; rw [hU2])
             clear hU1 hU2 hU3 hU4 hU5 hU6 hU7
             have HDz : Hid (Calls Tryz.prog 98 #[.slice (some ⟨b, 0, none⟩) 128 128] w2 fun e w' => e = .returned (.tuple #[.agg (encB U).toArray, .int .i64 0]) ∧ Keeps Non w2 w') := Lib.hid (by rw [HU.out]; exact HDy.out)
             clear HDy
             have hol : (encB U).toArray.size = 12 := rfl
             have hM19 : M.length ≤ 19 := Nat.le_trans (nodup_len M B HMi.out.1 (fun u hu => by
               rcases (HMi.out.2.1 u).1 hu with ⟨j', i', h1, h2, h3⟩ | ⟨i', h1, h2⟩
               · exact HdB.out j' i' u (by omega) h2 h3
               · exact HdB.out j i' u hlt (by omega) h2)) hB
             go_upto_region 11 with fail
             go_upto_region 12 with (first
               | (go_at_call 98; go_must (refine HDz.out.mono ?_); rintro e w3 ⟨rfl, hK3⟩; have hZ9 := Blk.new w3 63 #[.int .u64 0, .int .u64 0, .int .u64 0, .int .i64 0, .int .i64 0, .int .i64 0, .int .u64 0, .int .i64 0, .int .u64 0, .int .u64 0, .int .u64 0, .int .u64 0]; have hka := (Keeps.refl Non w3).alloc (.cells #[.int .u64 0, .int .u64 0, .int .u64 0, .int .i64 0, .int .i64 0, .int .i64 0, .int .u64 0, .int .i64 0, .int .u64 0, .int .u64 0, .int .u64 0, .int .u64 0] 63))
               | ((with_reducible show wpList _ _ _ ({ dst := none, op := Op.store 63 _ _, type := _, pos := _, after := _, guard := _ } :: _) _ _); go_must (refine wpList_store_blk rfl 63 (.tmp 9) (.tmp 38) rfl w3.heap.size (encB U).toArray (by kernel_rfl) (by kernel_rfl) 63 _ hZ9 (by kernel_rfl) rfl (by kernel_rfl) ?_); intro w4 hB4 hKs))
             have hk4 : Keeps Non w3 w4 := hka.then hKs fun i hi e => by unfold Only at e; omega
             obtain ⟨p9, hp9⟩ : ∃ z, z = w3.heap.size := ⟨_, rfl⟩
             rw [← hp9] at hB4 hKs ⊢
             clear hp9 hKs hZ9 hka
             have hK4 : Keeps Non w w4 := (hK2.non hK3).non hk4
             have hky4 : Keeps Non wy w4 := (hky2.non hK3).non hk4
             have hR4 := hRM.non hky4
             have hk4d : Keeps Non w4 w4.drew := (Keeps.refl Non w4).drew
             have HSN : Hid (∀ V, Keeps Non w4 V → V.rangeAt p9 0 (encB U) ∧ V.cell? ⟨lf, 1, none⟩ = some (.int .u64 (pool : Int)) ∧ V.cell? ⟨p9, 0, none⟩ = some (.int .u64 (pool : Int))) := Lib.hid (fun V hV => by
               refine ⟨fun jj v hj => ?_, ?_, ?_⟩
               · rw [show (0 + jj) = jj by omega, (hB4.non hV).cell]
                 simpa using hj
               · rw [HPO.out]; exact (HL.out V (hK4.non hV)).blk.cell 1
               · rw [(hB4.non hV).cell, HU.out]; rfl)
             have HSd := Lib.hid (HSN.out w4.drew hk4d)
             have HCd := Lib.hid (contains37_any M U mA mc w4.drew (hR4.non hk4d) (by omega))
             obtain ⟨rb, hrb⟩ : ∃ rb, rb = decide (U ∈ M) := ⟨_, rfl⟩
             rw [← hrb] at HCd
             have HRB := Lib.hid hrb
             have hpp : ((pool : Int) == (pool : Int)) = true := by simp
             clear hrb hol
             try simp only [Act.put]
             refine wp_region_held_drew (S := fun w' : World => w'.rangeAt p9 0 (encB U) ∧ w'.cell? ⟨lf, 1, none⟩ = some (.int .u64 (pool : Int)) ∧ w'.cell? ⟨p9, 0, none⟩ = some (.int .u64 (pool : Int))) (by kernel_rfl) HSd.out (fun hH0 => ?_)
             refine wpAnyH_take (i := 0) (oi := ⟨some 40, _, _, _, _, _⟩) (v := .int .i64 0) rfl (by kernel_rfl) (by kernel_rfl) (by kernel_rfl) (fun _ _ _ h => h) (Or.inl ⟨by kernel_rfl, by intro w' hw'; obtain ⟨hs0, hs1, hs2⟩ := hw'; go_simp⟩) (by assumption) ?_
             simp only [Act.put, List.setIfInBounds_toArray, List.set_cons_zero, List.set_cons_succ]
             refine wpAnyH_take (i := 1) (oi := ⟨some 41, _, _, _, _, _⟩) (v := .bool true) rfl (by kernel_rfl) (by kernel_rfl) (by kernel_rfl) (fun _ _ _ h => h) (Or.inl ⟨by kernel_rfl, by intro w' hw'; obtain ⟨hs0, hs1, hs2⟩ := hw'; go_simp⟩) (by assumption) ?_
             simp only [Act.put, List.setIfInBounds_toArray, List.set_cons_zero, List.set_cons_succ]
             refine wpAnyH_take (i := 2) (oi := ⟨some 42, _, _, _, _, _⟩) (v := .bool true) rfl (by kernel_rfl) (by kernel_rfl) (by kernel_rfl) (fun _ _ _ h => h) (Or.inl ⟨by kernel_rfl, by intro w' hw'; obtain ⟨hs0, hs1, hs2⟩ := hw'; go_simp⟩) (by assumption) ?_
             simp only [Act.put, List.setIfInBounds_toArray, List.set_cons_zero, List.set_cons_succ]
             refine wpAnyH_take (i := 3) (oi := ⟨some 43, _, _, _, _, _⟩) (v := .pointer (some ⟨p9, 0, none⟩)) rfl (by kernel_rfl) (by kernel_rfl) (by kernel_rfl) (fun _ _ _ h => h) (Or.inl ⟨by kernel_rfl, by intro w' hw'; obtain ⟨hs0, hs1, hs2⟩ := hw'; go_simp⟩) (by assumption) ?_
             simp only [Act.put, List.setIfInBounds_toArray, List.set_cons_zero, List.set_cons_succ]
             refine wpAnyH_take (i := 4) (oi := ⟨some 44, _, _, _, _, _⟩) (v := .int .u64 (pool : Int)) rfl (by kernel_rfl) (by kernel_rfl) (by kernel_rfl) (fun _ _ _ h => h) (Or.inl ⟨by kernel_rfl, by intro w' hw'; obtain ⟨hs0, hs1, hs2⟩ := hw'; go_simp⟩) (by assumption) ?_
             simp only [Act.put, List.setIfInBounds_toArray, List.set_cons_zero, List.set_cons_succ]
             refine wpAnyH_take (i := 5) (oi := ⟨some 45, _, _, _, _, _⟩) (v := .pointer (some ⟨lf, 0, none⟩)) rfl (by kernel_rfl) (by kernel_rfl) (by kernel_rfl) (fun _ _ _ h => h) (Or.inl ⟨by kernel_rfl, by intro w' hw'; obtain ⟨hs0, hs1, hs2⟩ := hw'; go_simp⟩) (by assumption) ?_
             simp only [Act.put, List.setIfInBounds_toArray, List.set_cons_zero, List.set_cons_succ]
             refine wpAnyH_take (i := 6) (oi := ⟨some 46, _, _, _, _, _⟩) (v := .pointer (some ⟨lf, 0, none⟩)) rfl (by kernel_rfl) (by kernel_rfl) (by kernel_rfl) (fun _ _ _ h => h) (Or.inl ⟨by kernel_rfl, by intro w' hw'; obtain ⟨hs0, hs1, hs2⟩ := hw'; go_simp⟩) (by assumption) ?_
             simp only [Act.put, List.setIfInBounds_toArray, List.set_cons_zero, List.set_cons_succ]
             refine wpAnyH_take (i := 7) (oi := ⟨some 47, _, _, _, _, _⟩) (v := .pointer (some ⟨lf, 1, none⟩)) rfl (by kernel_rfl) (by kernel_rfl) (by kernel_rfl) (fun _ _ _ h => h) (Or.inl ⟨by kernel_rfl, by intro w' hw'; obtain ⟨hs0, hs1, hs2⟩ := hw'; go_simp⟩) (by assumption) ?_
             simp only [Act.put, List.setIfInBounds_toArray, List.set_cons_zero, List.set_cons_succ]
             refine wpAnyH_take (i := 8) (oi := ⟨some 48, _, _, _, _, _⟩) (v := .pointer (some ⟨lf, 1, none⟩)) rfl (by kernel_rfl) (by kernel_rfl) (by kernel_rfl) (fun _ _ _ h => h) (Or.inl ⟨by kernel_rfl, by intro w' hw'; obtain ⟨hs0, hs1, hs2⟩ := hw'; go_simp⟩) (by assumption) ?_
             simp only [Act.put, List.setIfInBounds_toArray, List.set_cons_zero, List.set_cons_succ]
             refine wpAnyH_take (i := 9) (oi := ⟨some 49, _, _, _, _, _⟩) (v := .int .u64 (pool : Int)) rfl (by kernel_rfl) (by kernel_rfl) (by kernel_rfl) (fun _ _ _ h => h) (Or.inl ⟨by kernel_rfl, by intro w' hw'; obtain ⟨hs0, hs1, hs2⟩ := hw'; go_simp⟩) (by assumption) ?_
             simp only [Act.put, List.setIfInBounds_toArray, List.set_cons_zero, List.set_cons_succ]
             refine wpAnyH_take (i := 10) (oi := ⟨some 50, _, _, _, _, _⟩) (v := .bool true) rfl (by kernel_rfl) (by kernel_rfl) (by kernel_rfl) (fun _ _ _ h => h) (Or.inl ⟨by kernel_rfl, by intro w' hw'; obtain ⟨hs0, hs1, hs2⟩ := hw'; go_simp⟩) (by assumption) ?_
             simp only [Act.put, List.setIfInBounds_toArray, List.set_cons_zero, List.set_cons_succ]
             refine wpAnyH_take (i := 11) (oi := ⟨some 51, _, _, _, _, _⟩) (v := .bool true) rfl (by kernel_rfl) (by kernel_rfl) (by kernel_rfl) (fun _ _ _ h => h) (Or.inl ⟨by kernel_rfl, by intro w' hw'; obtain ⟨hs0, hs1, hs2⟩ := hw'; go_simp⟩) (by assumption) ?_
             simp only [Act.put, List.setIfInBounds_toArray, List.set_cons_zero, List.set_cons_succ]
             refine wpAnyH_take (i := 12) (oi := ⟨some 52, _, _, _, _, _⟩) (v := .bool true) rfl (by kernel_rfl) (by kernel_rfl) (by kernel_rfl) (fun _ _ _ h => h) (Or.inl ⟨by kernel_rfl, by intro w' hw'; obtain ⟨hs0, hs1, hs2⟩ := hw'; go_simp⟩) (by assumption) ?_
             simp only [Act.put, List.setIfInBounds_toArray, List.set_cons_zero, List.set_cons_succ]
             refine wpAnyH_take (i := 13) (oi := ⟨some 53, _, _, _, _, _⟩) (v := .slice mA M.length mc) rfl (by kernel_rfl) (by kernel_rfl) (by kernel_rfl) (fun _ _ _ h => h) (Or.inl ⟨by kernel_rfl, by intro w' hw'; obtain ⟨hs0, hs1, hs2⟩ := hw'; go_simp⟩) (by assumption) ?_
             simp only [Act.put, List.setIfInBounds_toArray, List.set_cons_zero, List.set_cons_succ]
             refine wpAnyH_take (i := 14) (oi := ⟨some 54, _, _, _, _, _⟩) (v := .agg (encB U).toArray) rfl (by kernel_rfl) (by kernel_rfl) (by kernel_rfl) (fun _ _ _ h => h) (yieldsIf_load_mid (by kernel_rfl) 63 (.tmp 9) rfl p9 0 (by kernel_rfl) (encB U) _ (fun _ h => h.1) Tryz.underlying63 rfl (by kernel_rfl)) (by assumption) ?_
             simp only [Act.put, List.setIfInBounds_toArray, List.set_cons_zero, List.set_cons_succ]
             refine wpAnyH_ready (rs := [15]) (by kernel_rfl) (by simp) ?_
             refine AllReadyH.cons (o := ⟨some 55, _, _, _, _, _⟩) rfl (fun K' hK' => ?_) AllReadyH.nil
             go_simp
             refine HCd.out.mono ?_
             rintro e w5 ⟨rfl, hK5⟩
             have hk45 := hk4d.non hK5
             have HS5 := Lib.hid (HSN.out w5 hk45)
             refine hK'.out _ _ (HS5.out) (fun hH => ?_)
             clear hK'
             clear K'
             try simp only [Act.put, List.setIfInBounds_toArray, List.set_cons_zero, List.set_cons_succ]
             cases rb
             · skip
               refine wpAnyH_ready (rs := [16]) (by kernel_rfl) (by simp) ?_
               refine AllReadyH.cons (o := ⟨some 56, _, _, _, _, _⟩) rfl (fun K' hK' => ?_) AllReadyH.nil
               go_simp
               refine hK'.out _ _ (HS5.out) (fun hH => ?_)
               clear hK'
               clear K'
               try simp only [Act.put, List.setIfInBounds_toArray, List.set_cons_zero, List.set_cons_succ]
               refine wpAnyH_ready (rs := [17]) (by kernel_rfl) (by simp) ?_
               refine AllReadyH.cons (o := ⟨some 57, _, _, _, _, _⟩) rfl (fun K' hK' => ?_) AllReadyH.nil
               go_simp
               refine hK'.out _ _ (HS5.out) (fun hH => ?_)
               clear hK'
               clear K'
               try simp only [Act.put, List.setIfInBounds_toArray, List.set_cons_zero, List.set_cons_succ]
               refine wpAnyH_done (by kernel_rfl) ?_ _
               have hB5 := hB4.non hk45
               have hR5 := hR4.non hk45
               have hK5' := hK4.non hk45
               have hkb := (Keeps.refl Non w5).alloc (.cells (encB U).toArray 63)
               have Hrow := Lib.hid (hR5.non hkb)
               have hAt : Ats (w5.alloc (.cells (encB U).toArray 63)) (some ⟨w5.heap.size, 0, none⟩) ([U].flatMap encB) := Ats.lit w5 _ 63 _ (by simp)
               have HBb : Hid (M.length + [U].length ≤ maxLen ∧ (M.length + [U].length) * 96 ≤ 140737488355328) := Lib.hid (by rw [List.length_singleton]; unfold maxLen; omega)
               clear hM19 hH
               go_upto_region 13 with fail
               have hol : (encB U).length = 12 := rfl
               have hol2 : (encB U).toArray.size = 12 := rfl
               go_upto_region 14 with (first
                 | ((with_reducible show wpList _ _ _ ({ dst := _, op := Op.load 63 _, type := _, pos := _, after := _, guard := _ } :: _) _ _); go_must (refine wpList_load_row rfl 63 (.tmp 9) rfl p9 (by kernel_rfl) 63 (encB U).toArray (0, 0) _ hB5 Tryz.underlying63 rfl (by kernel_rfl) ?_))
                 | (at_builtin; rw [encB_fold U]; go_must (refine wpList_append_row (o := ⟨some 61, _, _, _, _, _⟩) rfl (.tmp 58) (.tmp 60) 126 rfl 63 12 encB (.agg #[.int .u64 0, .int .u64 0, .int .u64 0, .int .i64 0, .int .i64 0, .int .i64 0, .int .u64 0, .int .i64 0, .int .u64 0, .int .u64 0, .int .u64 0, .int .u64 0]) 96 Tryz.underlying126 info47 rfl (by decide) encB_len encB_one (.slice mA M.length mc) M (by kernel_rfl) Hrow.out (some ⟨w5.heap.size, 0, none⟩) 1 1 [U] (by kernel_rfl) rfl hAt HBb.out.1 HBb.out.2 ?_); intro u8 w8 hO8 hK8 hat; obtain ⟨⟨A8, n8, c8⟩, rfl, h8⟩ := RowP.sl hO8; have hn8' : n8 = (M ++ [U]).length := h8; clear h8; subst hn8'))
               have hUM : U ∉ M := of_decide_eq_false HRB.out.symm
               have hKa : Keeps Non w (w5.alloc (.cells (encB U).toArray 63)) := hK5'.non hkb
               have HRl := Lib.hid (And.intro hO8 hat)
               clear hO8 hat hol hol2
               go_wp2_with fail
               go_roundw
               case rel =>
                 refine ⟨i + 1, A8, c8, M ++ [U], by omega, by go_num, (by show Value.slice _ _ _ = Value.slice _ _ _; rw [List.length_append, List.length_singleton]), HRl.out.1, ?_, fun u => ?_, fun q hq => ?_, ?_⟩
                 · rw [List.nodup_append]
                   exact ⟨HMi.out.1, List.nodup_cons.2 ⟨List.not_mem_nil, List.nodup_nil⟩, fun a ha b' hb e => by rw [List.mem_singleton] at hb; subst hb; subst e; exact hUM ha⟩
                 · rw [Found.next, ← HOE.out, List.mem_append, HMi.out.2.1 u, List.mem_singleton]
                   constructor
                   · rintro (hh | rfl)
                     · exact .inl hh
                     · exact .inr rfl
                   · rintro (hh | hh)
                     · exact .inl hh
                     · injection hh with hh
                       exact .inr hh.symm
                 · rw [mem_own] at hq
                   rcases HRl.out.2 with h9 | h9
                   · exact HMi.out.2.2 q (mem_own.2 (h9.symm.trans hq))
                   · have h10 := h9.symm.trans hq
                     injection h10 with h10
                     rw [← h10]; exact hKa.size
                 · exact hKa.then hK8 fun i hi e => by have := HMi.out.2.2 i e; omega
               case measure => simp [intOf]; omega
             · skip
               refine wpAnyH_ready (rs := [16]) (by kernel_rfl) (by simp) ?_
               refine AllReadyH.cons (o := ⟨some 56, _, _, _, _, _⟩) rfl (fun K' hK' => ?_) AllReadyH.nil
               go_simp
               refine hK'.out _ _ (HS5.out) (fun hH => ?_)
               clear hK'
               clear K'
               try simp only [Act.put, List.setIfInBounds_toArray, List.set_cons_zero, List.set_cons_succ]
               refine wpAnyH_ready (rs := [17]) (by kernel_rfl) (by simp) ?_
               refine AllReadyH.cons (o := ⟨some 57, _, _, _, _, _⟩) rfl (fun K' hK' => ?_) AllReadyH.nil
               go_simp
               refine hK'.out _ _ (HS5.out) (fun hH => ?_)
               clear hK'
               clear K'
               try simp only [Act.put, List.setIfInBounds_toArray, List.set_cons_zero, List.set_cons_succ]
               refine wpAnyH_done (by kernel_rfl) ?_ _
               go_wp2_with fail
               go_roundw
               case rel =>
                 refine ⟨i + 1, mA, mc, M, by omega, by go_num, rfl, hR4.non hk45, HMi.out.1, fun u => ?_, HMi.out.2.2, hK4.non hk45⟩
                 rw [Found.next, ← HOE.out, HMi.out.2.1 u]
                 constructor
                 · intro hh; exact .inl hh
                 · rintro (hh | hh)
                   · exact hh
                   · injection hh with hh
                     subst hh
                     exact (HMi.out.2.1 _).1 (of_decide_eq_true HRB.out.symm)
               case measure => simp [intOf]; omega
       · obtain rfl : i = 8 := by omega
         go_wp2_with fail
         go_roundw
         case rel => exact ⟨j + 1, mA, mc, M, by omega, by go_num, rfl, hRM, HMi.out.1, fun u => by rw [HMi.out.2.1 u, Found.row], HMi.out.2.2, hK⟩
         case measure => simp [intOf]; omega
   · obtain rfl : j = 4 := by omega
     have hM19 : M.length ≤ 19 := Nat.le_trans (nodup_len M B HMo.out.1 (fun u hu => by
       rcases (HMo.out.2.1 u).1 hu with ⟨j', i', h1, h2, h3⟩ | ⟨i', h1, h2⟩
       · exact HdB.out j' i' u h1 h2 h3
       · omega)) hB
     have HSo := Lib.hid (sort38_any M mA mc wx hRM hM19)
     have HM19 := Lib.hid hM19
     clear hM19
     go_upto_region 17 with (go_at_call 100; go_must (refine HSo.out.mono ?_); rintro e w6 ⟨rfl, N, hN, hOr, hRN, hK6⟩)
     have HN := Lib.hid (And.intro hN.length_eq (And.intro (fun u => hN.mem_iff (a := u)) hN.nodup_iff))
     clear hN
     go_wp2_with fail
     go_ret
     refine ⟨mA, mc, N, (by rw [HN.out.1]; rfl), by rw [HN.out.1]; exact hRN, HN.out.2.2.2 HMo.out.1, hOr, fun u => ?_, by rw [HN.out.1]; exact HM19.out, by rw [HN.out.1]; exact HMo.out.2.2, hK.then hK6 fun i hi e => by have := HMo.out.2.2 i e; omega⟩
     rw [HN.out.2.1 u, HMo.out.2.1 u]
     constructor
     · rintro (⟨j, i, h1, h2, h3⟩ | ⟨i, h, -⟩)
       · exact ⟨j, i, h1, h2, h3⟩
       · omega
     · rintro ⟨j, i, h1, h2, h3⟩
       exact .inl ⟨j, i, h1, h2, h3⟩
end Go.Proofs.YtolknnmaadkgiaaGreatDoor
namespace Go.Proofs.YtolknnmaadkgiaaGreatDoor
set_option maxRecDepth 100000
open Go.RowKit Go.Uc
structure St where
 f : Nat → Nat → List UInt8
 g : Nat → Nat → List UInt8
 P : Pow
def Gs (w0 w : World) (p : Nat) (dv : Sl) (m n : Nat) (K : Nat → Kb) (T : St) : Prop := ∃ (wv : Sl) (S : Nat → Dsk), Gm w0 w p dv wv T.P m K S ∧ ∀ i, i < m → Sh (S i) n (T.f i) (T.g i)
def Fg (w : World) (p m : Nat) (K : Nat → Kb) (g : Nat) : Prop := Fu p m K g ∨ ∃ cs, Blk w g 107 cs
section
variable {w0 w w' w'' : World} {p m n : Nat} {dv : Sl} {K : Nat → Kb} {T : St}
theorem Gs.non (h : Gs w0 w p dv m n K T) (hk : Keeps Non w w') : Gs w0 w' p dv m n K T := by
 obtain ⟨wv, S, h1, h2⟩ := h
 exact ⟨wv, S, h1.non hk, h2⟩
theorem Gs.fits {T' : St} (h : Gs w0 w p dv m n K T) (hf : ∀ i q, i < m → q < n → T.f i q = T'.f i q) (hg : ∀ i q, i < m → q < n → T.g i q = T'.g i q) (hP : T.P = T'.P) : Gs w0 w p dv m n K T' := by
 obtain ⟨wv, S, h1, h2⟩ := h
 exact ⟨wv, S, hP ▸ h1, fun i hi => (h2 i hi).fits (fun q hq => hf i q hi hq) (fun q hq => hg i q hi hq)⟩
theorem fg_trans (h : Keeps (Fg w p m K) w w') (k : Keeps (Fg w' p m K) w' w'') : Keeps (Fg w p m K) w w'' := by
 refine h.then k fun i hi e => ?_
 rcases e with e | ⟨cs, e⟩
 · exact .inl e
 · by_cases c : Fg w p m K i
   · exact c
   · right
     have := h.block i hi c
     exact ⟨cs, by unfold Blk at e ⊢; rw [← this]; exact e⟩
theorem fg_non (hk : Keeps Non w w') : Keeps (Fg w p m K) w w' := hk.of_non
theorem Gs.pw (h : Gs w0 w p dv m n K T) : ∃ (wv : Sl) (z : Int), Blk w p 104 #[wv.v, .int .i64 T.P.left, .bool T.P.off, .int .i64 z, dv.v] := by
 obtain ⟨wv, S, h1, -⟩ := h
 obtain ⟨z, hz⟩ := h1.pb
 exact ⟨wv, z, hz⟩
theorem Gs.plates (h : Gs w0 w p dv m n K T) {i : Nat} (hi : i < m) : (∃ cs, Blk w (K i).pl 5 cs) ∧ ∃ cs, Blk w (K i).nw 5 cs := by
 obtain ⟨wv, S, h1, -⟩ := h
 exact ⟨⟨_, (h1.dm i hi).pl⟩, _, (h1.dm i hi).nw⟩
theorem Gs.free (h : Gs w0 w p dv m n K T) {g t : Nat} {cs : Array Value} (hg : Blk w g t cs) (h1 : t ≠ 104) (h2 : t ≠ 5) (h3 : t ≠ 107) : ¬ Fg w p m K g := by
 obtain ⟨wv, z, hp⟩ := h.pw
 rintro ((e | ⟨i, hi, e | e⟩) | ⟨cs', e⟩)
 · exact hg.ne hp h1 e
 · obtain ⟨⟨c, hc⟩, -⟩ := h.plates hi
   exact hg.ne hc h2 e
 · obtain ⟨-, c, hc⟩ := h.plates hi
   exact hg.ne hc h2 e
 · exact hg.ne e h3 rfl
theorem Gs.freeB (_h : Gs w0 w p dv m n K T) {g : Nat} {cs : Array Value} (hg : Blk w g 5 cs) (hF : ¬ Fu p m K g) : ¬ Fg w p m K g := by
 rintro (e | ⟨cs', e⟩)
 · exact hF e
 · exact hg.ne e (by decide) rfl
theorem Gs.stay (h : Gs w0 w p dv m n K T) (hk : Keeps (Fg w p m K) w w') {g t : Nat} {cs : Array Value} (hg : Blk w g t cs) (h1 : t ≠ 104) (h2 : t ≠ 5) (h3 : t ≠ 107) : Blk w' g t cs := hg.keep hk (h.free hg h1 h2 h3)
theorem Gs.stayRow {α : Type} (h : Gs w0 w p dv m n K T) (hk : Keeps (Fg w p m K) w w') {e : TypeId} {k : Nat} {enc : α → List Value} {v : Value} {xs : List α} (hr : RowP w e k enc v xs) (h1 : e ≠ 104) (h2 : e ≠ 5) (h3 : e ≠ 107) : RowP w' e k enc v xs := by
 refine hr.keep hk fun q hq => ?_
 rcases hr.form with ⟨e1, -⟩ | ⟨g, cap, cur, e1, hB, -⟩
 · rw [e1] at hq; exact (List.not_mem_nil hq).elim
 · rw [e1, own_slice, List.mem_singleton] at hq
   subst hq
   exact h.free hB h1 h2 h3
theorem Gs.new (h : Gs w0 w p dv m n K T) {g : Nat} (hg : w.heap.size ≤ g) : ¬ Fu p m K g := by
 obtain ⟨wv, z, hp⟩ := h.pw
 rintro (e | ⟨i, hi, e | e⟩)
 · have := hp.lt; omega
 · obtain ⟨⟨c, hc⟩, -⟩ := h.plates hi
   have := hc.lt; omega
 · obtain ⟨-, c, hc⟩ := h.plates hi
   have := hc.lt; omega
theorem Gs.low (h : Gs w0 w p dv m n K T) {g : Nat} (hg : g < w0.heap.size) : ¬ Fu p m K g := by
 obtain ⟨wv, S, h1, -⟩ := h
 rintro (e | ⟨i, hi, e | e⟩)
 · have := h1.new.1; omega
 · have := (h1.dm i hi).new.2.2.1; omega
 · have := (h1.dm i hi).new.2.2.2.1; omega
theorem Gs.keep (h : Gs w0 w p dv m n K T) : Keeps Non w0 w := by
 obtain ⟨wv, S, h1, -⟩ := h
 exact h1.keep
theorem Gs.n2 (h : Gs w0 w p dv m n K T) {i : Nat} (hi : i < m) : 1 ≤ n ∧ n ≤ 8192 := by
 obtain ⟨wv, S, -, h2⟩ := h
 have a := (h2 i hi).ok
 have b := (h2 i hi).hn
 have := a.n1
 have := a.n2
 omega
structure Lq (w0 w : World) (lf d : Nat) (x : Lb) (tA : Option Addr) (tc : Nat) : Prop where
 blk : Blk w lf 171 #[.pointer (some ⟨d, 0, none⟩), .int .u64 (x.pool : Int), .slice tA x.ts.length tc, .int .i64 (x.top : Int), .int .i64 (x.place : Int), .int .i64 0, .int .i64 0, .int .i64 0]
 ts : RowT w (.slice tA x.ts.length tc) x.ts
 new : w0.heap.size ≤ lf ∧ ∀ q ∈ own (.slice tA x.ts.length tc), w0.heap.size ≤ q
theorem Lq.non {lf d : Nat} {x : Lb} {tA : Option Addr} {tc : Nat} (h : Lq w0 w lf d x tA tc) (hk : Keeps Non w w') : Lq w0 w' lf d x tA tc := ⟨h.blk.non hk, h.ts.non hk, h.new⟩
theorem Gs.stayL {lf d : Nat} {x : Lb} {tA : Option Addr} {tc : Nat} (h : Gs w0 w p dv m n K T) (hk : Keeps (Fg w p m K) w w') (hl : Lq w0 w lf d x tA tc) : Lq w0 w' lf d x tA tc :=
 ⟨h.stay hk hl.blk (by decide) (by decide) (by decide), h.stayRow hk hl.ts (by decide) (by decide) (by decide), hl.new⟩
theorem Gs.lm {lf i : Nat} {x : Lb} {tA : Option Addr} {tc : Nat} (h : Gs w0 w p dv m n K T) (hi : i < m) (hl : Lq w0 w lf (K i).d x tA tc) :
   ∃ (wv : Sl) (s : Dsk), Lm w0 w lf (K i) s wv x tA tc ∧ Sh s n (T.f i) (T.g i) ∧ s.pow = T.P ∧ s.d = (K i).d ∧ (∀ x ∈ s.waits, x.d = s.d → x.at_ < n) ∧
     ∀ (w' : World) (s' : Dsk) (wv' : Sl) (f' g' : Nat → List UInt8), Dm w0 w' (K i) s' wv' → Keeps (Fr (K i) wv) w w' → Sh s' n f' g' → (∀ y ∈ s'.waits, y ∈ s.waits ∨ (y.d = s.d ∧ y.at_ < n)) →
       Gs w0 w' p dv m n K ⟨fun j => if j = i then f' else T.f j, fun j => if j = i then g' else T.g j, s'.pow⟩ ∧ Keeps (Fg w p m K) w w' := by
 obtain ⟨wv, S, hG, hS⟩ := h
 have hdm := hG.dm i hi
 refine ⟨wv, S i, ⟨hdm, hl.blk, hl.ts, hl.new⟩, hS i hi, hG.po i hi, hdm.hd, fun x hx e => ?_, fun w' s' wv' f' g' hD hK hS' hW => ⟨⟨wv', _, hG.turn hi hD hK (fun y hy => ?_) (by rw [hS'.hn, (hS i hi).hn]), fun j hj => ?_⟩, hK.mono fun g e => ?_⟩⟩
 · have hx' : x ∈ T.P.waits := by rw [← hG.po i hi]; exact hx
   obtain ⟨j, hj, a, b⟩ := hG.at_ x hx'
   rw [(hS j hj).hn] at b
   exact b
 · rcases hW y hy with e | ⟨e1, e2⟩
   · exact .inl e
   · exact .inr ⟨e1.trans hdm.hd, by rw [(hS i hi).hn]; exact e2⟩
 · by_cases e : j = i
   · subst e
     simp only [if_true]
     exact hS'
   · simp only [if_neg e]
     have := hS j hj
     exact ⟨⟨this.ok.n1, this.ok.n2, this.ok.pl, this.ok.nw, hS'.ok.l1, hS'.ok.l2⟩, this.hn, this.now, this.plat⟩
 · rcases e with e | e | e | e
   · exact .inl (.inl (e.trans (hG.kp i hi).1))
   · exact .inl (.inr ⟨i, hi, .inl e⟩)
   · exact .inl (.inr ⟨i, hi, .inr e⟩)
   · right
     rcases hG.wt.form with ⟨e1, -⟩ | ⟨g', cap, cur, e1, hB, -⟩
     · rw [e1] at e; exact (List.not_mem_nil e).elim
     · rw [e1, own_slice, List.mem_singleton] at e
       subst e
       exact ⟨_, hB⟩
end
end Go.Proofs.YtolknnmaadkgiaaGreatDoor
