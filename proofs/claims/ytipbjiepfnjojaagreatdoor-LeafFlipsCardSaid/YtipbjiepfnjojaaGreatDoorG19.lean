/- The uberblocks that stand on a leaf. The document's power, and a disk upon it, made. A disk of the document's, made. -/
import Derived.Test.YtipbjiepfnjojaaGreatDoorG18
namespace Go.Proofs.YtipbjiepfnjojaaGreatDoor
set_option maxRecDepth 100000
open Go.RowKit Go.Uc

/-- What stands in a slot: an uberblock of the pool, or none. -/
def Slot (pool : Nat) (c : List UInt8) (o : Option UB) : Prop :=
  match o with
  | some u => c = uberB pool u.txg u.note ∧ u.pool = pool ∧ 1 ≤ u.txg ∧ u.txg ≤ 281474976710656 ∧ u.note < 18446744073709551616
  | none => ¬ Opens [85, 67, 85, 66] c
/-- Those of the first j rings, and of the first i slots of the next one. -/
def Found (dec : Nat → Nat → Option UB) (j i : Nat) (u : UB) : Prop := (∃ j' i', j' < j ∧ i' < 8 ∧ dec j' i' = some u) ∨ ∃ i', i' < i ∧ dec j i' = some u
theorem Found.zero (dec : Nat → Nat → Option UB) (u : UB) : ¬ Found dec 0 0 u := by
  rintro (⟨j', i', h, -⟩ | ⟨i', h, -⟩) <;> omega
theorem Found.next {dec : Nat → Nat → Option UB} {j i : Nat} {u : UB} : Found dec j (i + 1) u ↔ Found dec j i u ∨ dec j i = some u := by
  constructor
  · rintro (h | ⟨i', h1, h2⟩)
    · exact .inl (.inl h)
    · rcases Nat.lt_or_ge i' i with h3 | h3
      · exact .inl (.inr ⟨i', h3, h2⟩)
      · obtain rfl : i' = i := by omega
        exact .inr h2
  · rintro ((h | ⟨i', h1, h2⟩) | h)
    · exact .inl h
    · exact .inr ⟨i', by omega, h2⟩
    · exact .inr ⟨i, by omega, h⟩
theorem Found.row {dec : Nat → Nat → Option UB} {j : Nat} {u : UB} : Found dec (j + 1) 0 u ↔ Found dec j 8 u := by
  constructor
  · rintro (⟨j', i', h1, h2, h3⟩ | ⟨i', h1, -⟩)
    · rcases Nat.lt_or_ge j' j with h | h
      · exact .inl ⟨j', i', h, h2, h3⟩
      · obtain rfl : j' = j := by omega
        exact .inr ⟨i', h2, h3⟩
    · omega
  · rintro (⟨j', i', h1, h2, h3⟩ | ⟨i', h1, h2⟩)
    · exact .inl ⟨j', i', by omega, h2, h3⟩
    · exact .inl ⟨j, i', by omega, h1, h2⟩
theorem encB_fold (U : UB) : List.foldl (fun (cs : Array Value) (x : Value × Nat) => cs.setIfInBounds x.snd x.fst) #[.int .u64 0, .int .u64 0, .int .u64 0, .int .i64 0, .int .i64 0, .int .i64 0, .int .u64 0, .int .i64 0, .int .u64 0, .int .u64 0, .int .u64 0, .int .u64 0] (encB U).zipIdx = (encB U).toArray := by
  unfold encB
  simp only [List.zipIdx, List.foldl, List.setIfInBounds_toArray]
  rfl
set_option maxHeartbeats 16000000 in
theorem ubers12_any {w0 w : World} {lf : Nat} {K : Kb} {s : Dsk} {wv : Sl} {x : Lb} {tA : Option Addr} {tc : Nat} (h : Lm w0 w lf K s wv x tA tc) (ho : s.off = false) (hn : 324 ≤ s.n) (hpx : x.pool < 18446744073709551616) (dec : Nat → Nat → Option UB) (hdec : ∀ j i, j < 4 → i < 8 → Slot x.pool (secs s.now (plc s.n j + 1 + i) 1) (dec j i)) (B : List UB) (hB : B.length ≤ 19) (hdB : ∀ j i u, j < 4 → i < 8 → dec j i = some u → u ∈ B) :
    Calls Tryz.prog 12 #[.pointer (some ⟨lf, 0, none⟩)] w fun e w' => ∃ (mA : Option Addr) (mc : Nat) (M : List UB), e = .returned (.slice mA M.length mc) ∧ RowB w' (.slice mA M.length mc) M ∧ M.Nodup ∧ Ord M.length M ∧ (∀ u, u ∈ M ↔ ∃ j i, j < 4 ∧ i < 8 ∧ dec j i = some u) ∧ M.length ≤ 19 ∧ (∀ q ∈ own (.slice mA M.length mc), w.heap.size ≤ q) ∧ Keeps Non w w' := by
  have hn8 := h.dm.ok.n2
  have hPl := Lib.hid (places29_any h.dm hn)
  have HRd : Hid (∀ P V, P + 1 ≤ s.n → Keeps Non w V → Calls Tryz.prog 35 #[.pointer (some ⟨K.d, 0, none⟩), .int .i64 (P : Int), .int .i64 1] V fun e w' => ∃ b, e = .returned (.tuple #[.slice (some ⟨b, 0, none⟩) 128 128, .int .i64 0]) ∧ Blk w' b 5 (pc (secs s.now P 1)) ∧ V.heap.size ≤ b ∧ Keeps Non V w') := Lib.hid (fun P V hP hV => read35_ok (h.dm.non hV) ho P 1 (by omega) (by omega))
  have hsl := fun P (hP : P + 1 ≤ s.n) => secs_len h.dm.ok.nw (at_ := P) (m := 1) hP
  have HSl := Lib.hid hsl
  have HL := Lib.hid (fun V (hV : Keeps Non w V) => h.non hV)
  have d0 := h.d0
  obtain ⟨pool, hpo⟩ : ∃ p, p = x.pool := ⟨_, rfl⟩
  rw [← hpo] at hpx hdec
  have HPO := Lib.hid hpo
  have hnew := h.new
  clear h hpo hsl
  have HDec := Lib.hid hdec
  have HdB := Lib.hid hdB
  clear hdec hdB
  obtain ⟨now, hnow⟩ : ∃ z, z = s.now := ⟨_, rfl⟩
  rw [← hnow] at HRd HDec HSl
  clear hnow
  generalize hsn : s.n = n at *
  clear hsn
  go_enter Tryz.func12, Tryz.ntmps12
  go_upto_region 3 with (go_at_call 29; go_must (refine hPl.out.mono ?_); rintro e w1 ⟨rfl, hk1⟩)
  go_loopw [3, 16] (fun v l wr => ∃ (j : Nat) (mA : Option Addr) (mc : Nat) (M : List UB), j ≤ 4 ∧ l = .int .i64 (j : Int) ∧ v = .slice mA M.length mc ∧ RowB wr (.slice mA M.length mc) M ∧ M.Nodup ∧ (∀ u, u ∈ M ↔ Found dec j 0 u) ∧ (∀ q ∈ own (.slice mA M.length mc), w.heap.size ≤ q) ∧ Keeps Non w wr) (fun _ l _ => 4 - (intOf l).toNat)
  case atStart => exact ⟨0, none, 0, [], by omega, rfl, rfl, RowP.nil _ _ _ _, List.nodup_nil, fun u => ⟨fun hh => (List.not_mem_nil hh).elim, fun hh => (Found.zero dec u hh).elim⟩, fun q hq => (List.not_mem_nil hq).elim, hk1⟩
  case round =>
    obtain ⟨j, mA, mc, M, hj, rfl, rfl, hRM, hnd, hmem, hown, hK⟩ := hrel
    obtain ⟨wx, rfl⟩ : ∃ W : World, W = wr := ⟨_, rfl⟩
    have HMo := Lib.hid (And.intro hnd (And.intro hmem hown))
    clear hnd hmem hown
    by_cases hlt : j < 4
    · have hji : (j : Int) < 4 := by omega
      have hix := fun V => index86 n j hlt V
      have hpl9 := plc_lt n j hn
      obtain ⟨P, hP⟩ : ∃ P, P = plc n j := ⟨_, rfl⟩
      rw [← hP] at hix hpl9
      have HP := Lib.hid hP
      clear hP
      go_upto_region 6 with fail
      go_loopw [3, 19] (fun v l wr => ∃ (i : Nat) (mA : Option Addr) (mc : Nat) (M : List UB), i ≤ 8 ∧ l = .int .u64 (i : Int) ∧ v = .slice mA M.length mc ∧ RowB wr (.slice mA M.length mc) M ∧ M.Nodup ∧ (∀ u, u ∈ M ↔ Found dec j i u) ∧ (∀ q ∈ own (.slice mA M.length mc), w.heap.size ≤ q) ∧ Keeps Non w wr) (fun _ l _ => 8 - (intOf l).toNat)
      case atStart => exact ⟨0, mA, mc, M, by omega, rfl, rfl, hRM, HMo.out.1, HMo.out.2.1, HMo.out.2.2, hK⟩
      case round =>
        obtain ⟨i, mA, mc, M, hi, rfl, rfl, hRM, hnd, hmem, hown, hK⟩ := hrel
        obtain ⟨wy, rfl⟩ : ∃ W : World, W = wr := ⟨_, rfl⟩
        have HMi := Lib.hid (And.intro hnd (And.intro hmem hown))
        clear hnd hmem hown HMo
        by_cases hi8 : i < 8
        · have hii : (i : Int) < 8 := by omega
          have hkd : Keeps Non wy wy.drew := (Keeps.refl Non wy).drew
          have hKd := hK.non hkd
          have d1 := (HL.out _ hKd).d0
          have HS := Lib.hid (fun V => slot31_any P i (by omega) (by omega) V)
          obtain ⟨Q, hQ⟩ : ∃ Q, Q = P + 1 + i % 8 := ⟨_, rfl⟩
          rw [← hQ] at HS
          have hQi : Q = plc n j + 1 + i := by rw [hQ, HP.out, Nat.mod_eq_of_lt hi8]
          have hQn : Q + 1 ≤ n := by omega
          have HR := Lib.hid (HRd.out Q wy.drew hQn hKd)
          have hsl : Slot pool (secs now Q 1) (dec j i) := by rw [hQi]; exact HDec.out j i hlt hi8
          have hcl := HSl.out Q hQn
          have HSlot := Lib.hid hsl
          have HCl := Lib.hid hcl
          clear hQ hQi hsl hcl hQn
          go_upto_region 8 with fail
          go_cut [7, 8] from 22 to 32 (fun v7 v8 wc => ∃ b, v7 = .slice (some ⟨b, 0, none⟩) 128 128 ∧ v8 = .int .i64 0 ∧ Blk wc b 5 (pc (secs now Q 1)) ∧ Keeps Non w wc ∧ Keeps Non wy wc)
          case first =>
            go_region_law (first
              | (go_simp; go_at_call 31; refine (HS.out _).mono ?_; rintro e w7 ⟨rfl, hw7⟩; subst w7; go_must (skip))
              | (go_simp; go_at_call 35; refine HR.out.mono ?_; rintro e w8 ⟨b, rfl, hB8, hb8, hK8⟩; go_must (have HX8 := Lib.hid (And.intro hB8 (And.intro (hKd.non hK8) (hkd.non hK8))))))
            all_goals
              go_wp2_with fail
              go_meet
              case rel => exact ⟨b, rfl, rfl, HX8.out.1, HX8.out.2.1, HX8.out.2.2⟩
          case rest =>
            obtain ⟨b, rfl, rfl, hB2, hK2, hky2⟩ := hcut
            obtain ⟨w2, rfl⟩ : ∃ V : World, V = wc := ⟨_, rfl⟩
            clear d1 hkd hKd
            obtain ⟨o, hoe⟩ : ∃ o, o = dec j i := ⟨_, rfl⟩
            rw [← hoe] at HSlot
            have HOE := Lib.hid hoe
            clear hoe
            cases o with
            | none =>
              have HDn := Lib.hid (decodeUber36_not (secs now Q 1) (by rw [HCl.out]) b w2 hB2 HSlot.out)
              go_upto_region 12 with (go_at_call 36; go_must (refine HDn.out.mono ?_); rintro e w3 ⟨rfl, hK3⟩)
              have hka := (Keeps.refl Non w3).alloc (.cells #[.int .u64 0, .int .u64 0, .int .u64 0, .int .i64 0, .int .i64 0, .int .i64 0, .int .u64 0, .int .i64 0, .int .u64 0, .int .u64 0, .int .u64 0, .int .u64 0] 47)
              obtain ⟨w4, hw4⟩ : ∃ V : World, V = w3.alloc (.cells #[.int .u64 0, .int .u64 0, .int .u64 0, .int .i64 0, .int .i64 0, .int .i64 0, .int .u64 0, .int .i64 0, .int .u64 0, .int .u64 0, .int .u64 0, .int .u64 0] 47) := ⟨_, rfl⟩
              rw [← hw4] at hka ⊢
              clear hw4
              go_quiet (fail)
              obtain ⟨w5, hw5⟩ : ∃ V : World, V = w4.drewN nq := ⟨_, rfl⟩
              have hk5 : Keeps Non w4 w5 := by rw [hw5]; exact (Keeps.refl _ _).drewN _
              rw [← hw5]
              clear hw5
              go_wp2_with fail
              go_roundw
              case rel =>
                refine ⟨i + 1, mA, mc, M, by omega, by go_num, rfl, (((hRM.non hky2).non hK3).non hka).non hk5, HMi.out.1, fun u => ?_, HMi.out.2.2, ((hK2.non hK3).non hka).non hk5⟩
                rw [Found.next, ← HOE.out, HMi.out.2.1 u]
                simp
              case measure => simp [intOf]; omega
            | some U =>
              obtain ⟨hU1, hU2, hU3, hU4, hU5⟩ := HSlot.out
              have HDy := Lib.hid (decodeUber36_any b w2 pool U.txg U.note (by rw [← hU1]; exact hB2) hpx hU3 hU4 hU5)
              have HU := Lib.hid (show encB U = [.int .u64 (pool : Int), .int .u64 (U.txg : Int), .int .u64 (U.note : Int), .int .i64 0, .int .i64 0, .int .i64 0, .int .u64 0, .int .i64 0, .int .u64 0, .int .u64 0, .int .u64 0, .int .u64 0] by unfold encB; rw [hU2])
              clear hU1 hU2 hU3 hU4 hU5
              have HDz : Hid (Calls Tryz.prog 36 #[.slice (some ⟨b, 0, none⟩) 128 128] w2 fun e w' => e = .returned (.tuple #[.agg (encB U).toArray, .int .i64 0]) ∧ Keeps Non w2 w') := Lib.hid (by rw [HU.out]; exact HDy.out)
              clear HDy
              have hol : (encB U).toArray.size = 12 := rfl
              have hM19 : M.length ≤ 19 := Nat.le_trans (nodup_len M B HMi.out.1 (fun u hu => by
                rcases (HMi.out.2.1 u).1 hu with ⟨j', i', h1, h2, h3⟩ | ⟨i', h1, h2⟩
                · exact HdB.out j' i' u (by omega) h2 h3
                · exact HdB.out j i' u hlt (by omega) h2)) hB
              go_upto_region 11 with fail
              go_upto_region 12 with (first
                | (go_at_call 36; go_must (refine HDz.out.mono ?_); rintro e w3 ⟨rfl, hK3⟩; have hZ9 := Blk.new w3 47 #[.int .u64 0, .int .u64 0, .int .u64 0, .int .i64 0, .int .i64 0, .int .i64 0, .int .u64 0, .int .i64 0, .int .u64 0, .int .u64 0, .int .u64 0, .int .u64 0]; have hka := (Keeps.refl Non w3).alloc (.cells #[.int .u64 0, .int .u64 0, .int .u64 0, .int .i64 0, .int .i64 0, .int .i64 0, .int .u64 0, .int .i64 0, .int .u64 0, .int .u64 0, .int .u64 0, .int .u64 0] 47))
                | ((with_reducible show wpList _ _ _ ({ dst := none, op := Op.store 47 _ _, type := _, pos := _, after := _, guard := _ } :: _) _ _); go_must (refine wpList_store_blk rfl 47 (.tmp 9) (.tmp 38) rfl w3.heap.size (encB U).toArray (by kernel_rfl) (by kernel_rfl) 47 _ hZ9 (by kernel_rfl) rfl (by kernel_rfl) ?_); intro w4 hB4 hKs))
              have hk4 : Keeps Non w3 w4 := hka.then hKs fun i hi e => by unfold Only at e; omega
              obtain ⟨p9, hp9⟩ : ∃ z, z = w3.heap.size := ⟨_, rfl⟩
              rw [← hp9] at hB4 hKs ⊢
              clear hp9 hKs hZ9 hka
              have hK4 : Keeps Non w w4 := (hK2.non hK3).non hk4
              have hky4 : Keeps Non wy w4 := (hky2.non hK3).non hk4
              have hR4 := hRM.non hky4
              have hk4d : Keeps Non w4 w4.drew := (Keeps.refl Non w4).drew
              have HSN : Hid (∀ V, Keeps Non w4 V → V.rangeAt p9 0 (encB U) ∧ V.cell? ⟨lf, 1, none⟩ = some (.int .u64 (pool : Int)) ∧ V.cell? ⟨p9, 0, none⟩ = some (.int .u64 (pool : Int))) := Lib.hid (fun V hV => by
                refine ⟨fun jj v hj => ?_, ?_, ?_⟩
                · rw [show (0 + jj) = jj by omega, (hB4.non hV).cell]
                  simpa using hj
                · rw [HPO.out]; exact (HL.out V (hK4.non hV)).blk.cell 1
                · rw [(hB4.non hV).cell, HU.out]; rfl)
              have HSd := Lib.hid (HSN.out w4.drew hk4d)
              have HCd := Lib.hid (contains37_any M U mA mc w4.drew (hR4.non hk4d) (by omega))
              obtain ⟨rb, hrb⟩ : ∃ rb, rb = decide (U ∈ M) := ⟨_, rfl⟩
              rw [← hrb] at HCd
              have HRB := Lib.hid hrb
              have hpp : ((pool : Int) == (pool : Int)) = true := by simp
              clear hrb hol
              try simp only [Act.put]
              refine wp_region_held_drew (S := fun w' : World => w'.rangeAt p9 0 (encB U) ∧ w'.cell? ⟨lf, 1, none⟩ = some (.int .u64 (pool : Int)) ∧ w'.cell? ⟨p9, 0, none⟩ = some (.int .u64 (pool : Int))) (by kernel_rfl) HSd.out (fun hH0 => ?_)
              refine wpAnyH_take (i := 0) (oi := ⟨some 40, _, _, _, _, _⟩) (v := .int .i64 0) rfl (by kernel_rfl) (by kernel_rfl) (by kernel_rfl) (fun _ _ _ h => h) (Or.inl ⟨by kernel_rfl, by intro w' hw'; obtain ⟨hs0, hs1, hs2⟩ := hw'; go_simp⟩) (by assumption) ?_
              simp only [Act.put, List.setIfInBounds_toArray, List.set_cons_zero, List.set_cons_succ]
              refine wpAnyH_take (i := 1) (oi := ⟨some 41, _, _, _, _, _⟩) (v := .bool true) rfl (by kernel_rfl) (by kernel_rfl) (by kernel_rfl) (fun _ _ _ h => h) (Or.inl ⟨by kernel_rfl, by intro w' hw'; obtain ⟨hs0, hs1, hs2⟩ := hw'; go_simp⟩) (by assumption) ?_
              simp only [Act.put, List.setIfInBounds_toArray, List.set_cons_zero, List.set_cons_succ]
              refine wpAnyH_take (i := 2) (oi := ⟨some 42, _, _, _, _, _⟩) (v := .bool true) rfl (by kernel_rfl) (by kernel_rfl) (by kernel_rfl) (fun _ _ _ h => h) (Or.inl ⟨by kernel_rfl, by intro w' hw'; obtain ⟨hs0, hs1, hs2⟩ := hw'; go_simp⟩) (by assumption) ?_
              simp only [Act.put, List.setIfInBounds_toArray, List.set_cons_zero, List.set_cons_succ]
              refine wpAnyH_take (i := 3) (oi := ⟨some 43, _, _, _, _, _⟩) (v := .pointer (some ⟨p9, 0, none⟩)) rfl (by kernel_rfl) (by kernel_rfl) (by kernel_rfl) (fun _ _ _ h => h) (Or.inl ⟨by kernel_rfl, by intro w' hw'; obtain ⟨hs0, hs1, hs2⟩ := hw'; go_simp⟩) (by assumption) ?_
              simp only [Act.put, List.setIfInBounds_toArray, List.set_cons_zero, List.set_cons_succ]
              refine wpAnyH_take (i := 4) (oi := ⟨some 44, _, _, _, _, _⟩) (v := .int .u64 (pool : Int)) rfl (by kernel_rfl) (by kernel_rfl) (by kernel_rfl) (fun _ _ _ h => h) (Or.inl ⟨by kernel_rfl, by intro w' hw'; obtain ⟨hs0, hs1, hs2⟩ := hw'; go_simp⟩) (by assumption) ?_
              simp only [Act.put, List.setIfInBounds_toArray, List.set_cons_zero, List.set_cons_succ]
              refine wpAnyH_take (i := 5) (oi := ⟨some 45, _, _, _, _, _⟩) (v := .pointer (some ⟨lf, 0, none⟩)) rfl (by kernel_rfl) (by kernel_rfl) (by kernel_rfl) (fun _ _ _ h => h) (Or.inl ⟨by kernel_rfl, by intro w' hw'; obtain ⟨hs0, hs1, hs2⟩ := hw'; go_simp⟩) (by assumption) ?_
              simp only [Act.put, List.setIfInBounds_toArray, List.set_cons_zero, List.set_cons_succ]
              refine wpAnyH_take (i := 6) (oi := ⟨some 46, _, _, _, _, _⟩) (v := .pointer (some ⟨lf, 0, none⟩)) rfl (by kernel_rfl) (by kernel_rfl) (by kernel_rfl) (fun _ _ _ h => h) (Or.inl ⟨by kernel_rfl, by intro w' hw'; obtain ⟨hs0, hs1, hs2⟩ := hw'; go_simp⟩) (by assumption) ?_
              simp only [Act.put, List.setIfInBounds_toArray, List.set_cons_zero, List.set_cons_succ]
              refine wpAnyH_take (i := 7) (oi := ⟨some 47, _, _, _, _, _⟩) (v := .pointer (some ⟨lf, 1, none⟩)) rfl (by kernel_rfl) (by kernel_rfl) (by kernel_rfl) (fun _ _ _ h => h) (Or.inl ⟨by kernel_rfl, by intro w' hw'; obtain ⟨hs0, hs1, hs2⟩ := hw'; go_simp⟩) (by assumption) ?_
              simp only [Act.put, List.setIfInBounds_toArray, List.set_cons_zero, List.set_cons_succ]
              refine wpAnyH_take (i := 8) (oi := ⟨some 48, _, _, _, _, _⟩) (v := .pointer (some ⟨lf, 1, none⟩)) rfl (by kernel_rfl) (by kernel_rfl) (by kernel_rfl) (fun _ _ _ h => h) (Or.inl ⟨by kernel_rfl, by intro w' hw'; obtain ⟨hs0, hs1, hs2⟩ := hw'; go_simp⟩) (by assumption) ?_
              simp only [Act.put, List.setIfInBounds_toArray, List.set_cons_zero, List.set_cons_succ]
              refine wpAnyH_take (i := 9) (oi := ⟨some 49, _, _, _, _, _⟩) (v := .int .u64 (pool : Int)) rfl (by kernel_rfl) (by kernel_rfl) (by kernel_rfl) (fun _ _ _ h => h) (Or.inl ⟨by kernel_rfl, by intro w' hw'; obtain ⟨hs0, hs1, hs2⟩ := hw'; go_simp⟩) (by assumption) ?_
              simp only [Act.put, List.setIfInBounds_toArray, List.set_cons_zero, List.set_cons_succ]
              refine wpAnyH_take (i := 10) (oi := ⟨some 50, _, _, _, _, _⟩) (v := .bool true) rfl (by kernel_rfl) (by kernel_rfl) (by kernel_rfl) (fun _ _ _ h => h) (Or.inl ⟨by kernel_rfl, by intro w' hw'; obtain ⟨hs0, hs1, hs2⟩ := hw'; go_simp⟩) (by assumption) ?_
              simp only [Act.put, List.setIfInBounds_toArray, List.set_cons_zero, List.set_cons_succ]
              refine wpAnyH_take (i := 11) (oi := ⟨some 51, _, _, _, _, _⟩) (v := .bool true) rfl (by kernel_rfl) (by kernel_rfl) (by kernel_rfl) (fun _ _ _ h => h) (Or.inl ⟨by kernel_rfl, by intro w' hw'; obtain ⟨hs0, hs1, hs2⟩ := hw'; go_simp⟩) (by assumption) ?_
              simp only [Act.put, List.setIfInBounds_toArray, List.set_cons_zero, List.set_cons_succ]
              refine wpAnyH_take (i := 12) (oi := ⟨some 52, _, _, _, _, _⟩) (v := .bool true) rfl (by kernel_rfl) (by kernel_rfl) (by kernel_rfl) (fun _ _ _ h => h) (Or.inl ⟨by kernel_rfl, by intro w' hw'; obtain ⟨hs0, hs1, hs2⟩ := hw'; go_simp⟩) (by assumption) ?_
              simp only [Act.put, List.setIfInBounds_toArray, List.set_cons_zero, List.set_cons_succ]
              refine wpAnyH_take (i := 13) (oi := ⟨some 53, _, _, _, _, _⟩) (v := .slice mA M.length mc) rfl (by kernel_rfl) (by kernel_rfl) (by kernel_rfl) (fun _ _ _ h => h) (Or.inl ⟨by kernel_rfl, by intro w' hw'; obtain ⟨hs0, hs1, hs2⟩ := hw'; go_simp⟩) (by assumption) ?_
              simp only [Act.put, List.setIfInBounds_toArray, List.set_cons_zero, List.set_cons_succ]
              refine wpAnyH_take (i := 14) (oi := ⟨some 54, _, _, _, _, _⟩) (v := .agg (encB U).toArray) rfl (by kernel_rfl) (by kernel_rfl) (by kernel_rfl) (fun _ _ _ h => h) (yieldsIf_load_mid (by kernel_rfl) 47 (.tmp 9) rfl p9 0 (by kernel_rfl) (encB U) _ (fun _ h => h.1) Tryz.underlying47 rfl (by kernel_rfl)) (by assumption) ?_
              simp only [Act.put, List.setIfInBounds_toArray, List.set_cons_zero, List.set_cons_succ]
              refine wpAnyH_ready (rs := [15]) (by kernel_rfl) (by simp) ?_
              refine AllReadyH.cons (o := ⟨some 55, _, _, _, _, _⟩) rfl (fun K' hK' => ?_) AllReadyH.nil
              go_simp
              refine HCd.out.mono ?_
              rintro e w5 ⟨rfl, hK5⟩
              have hk45 := hk4d.non hK5
              have HS5 := Lib.hid (HSN.out w5 hk45)
              refine hK'.out _ _ (HS5.out) (fun hH => ?_)
              clear hK'
              clear K'
              try simp only [Act.put, List.setIfInBounds_toArray, List.set_cons_zero, List.set_cons_succ]
              cases rb
              · skip
                refine wpAnyH_ready (rs := [16]) (by kernel_rfl) (by simp) ?_
                refine AllReadyH.cons (o := ⟨some 56, _, _, _, _, _⟩) rfl (fun K' hK' => ?_) AllReadyH.nil
                go_simp
                refine hK'.out _ _ (HS5.out) (fun hH => ?_)
                clear hK'
                clear K'
                try simp only [Act.put, List.setIfInBounds_toArray, List.set_cons_zero, List.set_cons_succ]
                refine wpAnyH_ready (rs := [17]) (by kernel_rfl) (by simp) ?_
                refine AllReadyH.cons (o := ⟨some 57, _, _, _, _, _⟩) rfl (fun K' hK' => ?_) AllReadyH.nil
                go_simp
                refine hK'.out _ _ (HS5.out) (fun hH => ?_)
                clear hK'
                clear K'
                try simp only [Act.put, List.setIfInBounds_toArray, List.set_cons_zero, List.set_cons_succ]
                refine wpAnyH_done (by kernel_rfl) ?_ _
                have hB5 := hB4.non hk45
                have hR5 := hR4.non hk45
                have hK5' := hK4.non hk45
                have hkb := (Keeps.refl Non w5).alloc (.cells (encB U).toArray 47)
                have Hrow := Lib.hid (hR5.non hkb)
                have hAt : Ats (w5.alloc (.cells (encB U).toArray 47)) (some ⟨w5.heap.size, 0, none⟩) ([U].flatMap encB) := Ats.lit w5 _ 47 _ (by simp)
                have HBb : Hid (M.length + [U].length ≤ maxLen ∧ (M.length + [U].length) * 96 ≤ 140737488355328) := Lib.hid (by rw [List.length_singleton]; unfold maxLen; omega)
                clear hM19 hH
                go_upto_region 13 with fail
                have hol : (encB U).length = 12 := rfl
                have hol2 : (encB U).toArray.size = 12 := rfl
                go_upto_region 14 with (first
                  | ((with_reducible show wpList _ _ _ ({ dst := _, op := Op.load 47 _, type := _, pos := _, after := _, guard := _ } :: _) _ _); go_must (refine wpList_load_row rfl 47 (.tmp 9) rfl p9 (by kernel_rfl) 47 (encB U).toArray (0, 0) _ hB5 Tryz.underlying47 rfl (by kernel_rfl) ?_))
                  | (at_builtin; rw [encB_fold U]; go_must (refine wpList_append_row (o := ⟨some 61, _, _, _, _, _⟩) rfl (.tmp 58) (.tmp 60) 51 rfl 47 12 encB (.agg #[.int .u64 0, .int .u64 0, .int .u64 0, .int .i64 0, .int .i64 0, .int .i64 0, .int .u64 0, .int .i64 0, .int .u64 0, .int .u64 0, .int .u64 0, .int .u64 0]) 96 Tryz.underlying51 info47 rfl (by decide) encB_len encB_one (.slice mA M.length mc) M (by kernel_rfl) Hrow.out (some ⟨w5.heap.size, 0, none⟩) 1 1 [U] (by kernel_rfl) rfl hAt HBb.out.1 HBb.out.2 ?_); intro u8 w8 hO8 hK8 hat; obtain ⟨⟨A8, n8, c8⟩, rfl, h8⟩ := RowP.sl hO8; have hn8' : n8 = (M ++ [U]).length := h8; clear h8; subst hn8'))
                have hUM : U ∉ M := of_decide_eq_false HRB.out.symm
                have hKa : Keeps Non w (w5.alloc (.cells (encB U).toArray 47)) := hK5'.non hkb
                have HRl := Lib.hid (And.intro hO8 hat)
                clear hO8 hat hol hol2
                go_wp2_with fail
                go_roundw
                case rel =>
                  refine ⟨i + 1, A8, c8, M ++ [U], by omega, by go_num, (by show Value.slice _ _ _ = Value.slice _ _ _; rw [List.length_append, List.length_singleton]), HRl.out.1, ?_, fun u => ?_, fun q hq => ?_, ?_⟩
                  · rw [List.nodup_append]
                    exact ⟨HMi.out.1, List.nodup_cons.2 ⟨List.not_mem_nil, List.nodup_nil⟩, fun a ha b' hb e => by rw [List.mem_singleton] at hb; subst hb; subst e; exact hUM ha⟩
                  · rw [Found.next, ← HOE.out, List.mem_append, HMi.out.2.1 u, List.mem_singleton]
                    constructor
                    · rintro (hh | rfl)
                      · exact .inl hh
                      · exact .inr rfl
                    · rintro (hh | hh)
                      · exact .inl hh
                      · injection hh with hh
                        exact .inr hh.symm
                  · rw [mem_own] at hq
                    rcases HRl.out.2 with h9 | h9
                    · exact HMi.out.2.2 q (mem_own.2 (h9.symm.trans hq))
                    · have h10 := h9.symm.trans hq
                      injection h10 with h10
                      rw [← h10]; exact hKa.size
                  · exact hKa.then hK8 fun i hi e => by have := HMi.out.2.2 i e; omega
                case measure => simp [intOf]; omega
              · skip
                refine wpAnyH_ready (rs := [16]) (by kernel_rfl) (by simp) ?_
                refine AllReadyH.cons (o := ⟨some 56, _, _, _, _, _⟩) rfl (fun K' hK' => ?_) AllReadyH.nil
                go_simp
                refine hK'.out _ _ (HS5.out) (fun hH => ?_)
                clear hK'
                clear K'
                try simp only [Act.put, List.setIfInBounds_toArray, List.set_cons_zero, List.set_cons_succ]
                refine wpAnyH_ready (rs := [17]) (by kernel_rfl) (by simp) ?_
                refine AllReadyH.cons (o := ⟨some 57, _, _, _, _, _⟩) rfl (fun K' hK' => ?_) AllReadyH.nil
                go_simp
                refine hK'.out _ _ (HS5.out) (fun hH => ?_)
                clear hK'
                clear K'
                try simp only [Act.put, List.setIfInBounds_toArray, List.set_cons_zero, List.set_cons_succ]
                refine wpAnyH_done (by kernel_rfl) ?_ _
                go_wp2_with fail
                go_roundw
                case rel =>
                  refine ⟨i + 1, mA, mc, M, by omega, by go_num, rfl, hR4.non hk45, HMi.out.1, fun u => ?_, HMi.out.2.2, hK4.non hk45⟩
                  rw [Found.next, ← HOE.out, HMi.out.2.1 u]
                  constructor
                  · intro hh; exact .inl hh
                  · rintro (hh | hh)
                    · exact hh
                    · injection hh with hh
                      subst hh
                      exact (HMi.out.2.1 _).1 (of_decide_eq_true HRB.out.symm)
                case measure => simp [intOf]; omega
        · obtain rfl : i = 8 := by omega
          go_wp2_with fail
          go_roundw
          case rel => exact ⟨j + 1, mA, mc, M, by omega, by go_num, rfl, hRM, HMi.out.1, fun u => by rw [HMi.out.2.1 u, Found.row], HMi.out.2.2, hK⟩
          case measure => simp [intOf]; omega
    · obtain rfl : j = 4 := by omega
      have hM19 : M.length ≤ 19 := Nat.le_trans (nodup_len M B HMo.out.1 (fun u hu => by
        rcases (HMo.out.2.1 u).1 hu with ⟨j', i', h1, h2, h3⟩ | ⟨i', h1, h2⟩
        · exact HdB.out j' i' u h1 h2 h3
        · omega)) hB
      have HSo := Lib.hid (sort38_any M mA mc wx hRM hM19)
      have HM19 := Lib.hid hM19
      clear hM19
      go_upto_region 17 with (go_at_call 38; go_must (refine HSo.out.mono ?_); rintro e w6 ⟨rfl, N, hN, hOr, hRN, hK6⟩)
      have HN := Lib.hid (And.intro hN.length_eq (And.intro (fun u => hN.mem_iff (a := u)) hN.nodup_iff))
      clear hN
      go_wp2_with fail
      go_ret
      refine ⟨mA, mc, N, (by rw [HN.out.1]; rfl), by rw [HN.out.1]; exact hRN, HN.out.2.2.2 HMo.out.1, hOr, fun u => ?_, by rw [HN.out.1]; exact HM19.out, by rw [HN.out.1]; exact HMo.out.2.2, hK.then hK6 fun i hi e => by have := HMo.out.2.2 i e; omega⟩
      rw [HN.out.2.1 u, HMo.out.2.1 u]
      constructor
      · rintro (⟨j, i, h1, h2, h3⟩ | ⟨i, h, -⟩)
        · exact ⟨j, i, h1, h2, h3⟩
        · omega
      · rintro ⟨j, i, h1, h2, h3⟩
        exact .inl ⟨j, i, h1, h2, h3⟩
end Go.Proofs.YtipbjiepfnjojaaGreatDoor
namespace Go.Proofs.YtipbjiepfnjojaaGreatDoor
set_option maxRecDepth 100000
open Go.RowKit Go.Uc

def encS (x : Sl) : List Value := [x.v]
theorem encS_len (x : Sl) : (encS x).length = 1 := rfl
theorem encS_one (x : Sl) : ∀ u ∈ encS x, u.oneCell' = true := by intro u hu; simp [encS] at hu; subst hu; rfl
/-- A write of the document that waits. -/
structure Ww where
  at_ : Nat
  b : Sl
def encM (x : Ww) : List Value := [.int .i64 0, .int .i64 (x.at_ : Int), x.b.v]
theorem encM_len (x : Ww) : (encM x).length = 3 := rfl
theorem encM_one (x : Ww) : ∀ u ∈ encM x, u.oneCell' = true := by
  intro u hu
  simp only [encM, List.mem_cons, List.not_mem_nil, or_false] at hu
  rcases hu with rfl | rfl | rfl <;> rfl
theorem info55 : (Tryz.prog.info? 55).map (fun i => (i.zero, i.size, i.bytes)) = some (some (.slice none 0 0), 1, 24) := by kernel_rfl
theorem info130 : (Tryz.prog.info? 130).map (fun i => (i.zero, i.size, i.bytes)) = some (some (.pointer none), 1, 8) := by kernel_rfl
theorem info178 : (Tryz.prog.info? 178).map (fun i => (i.zero, i.size, i.bytes)) = some (some (.agg #[.int .i64 0, .int .i64 0, .slice none 0 0]), 3, 40) := by kernel_rfl
/-- Where the document lies. -/
structure Qb where
  q : Nat
  d : Nat
  db : Nat
  dc : Nat
/-- The document's power in memory: what it holds is left open, its shape is not. -/
structure Dd (w0 w : World) (Q : Qb) (n : Nat) (pv wv : Sl) : Prop where
  pw : ∃ z, Blk w Q.q 129 #[.slice (some ⟨Q.db, 0, none⟩) 1 Q.dc, wv.v, .int .i64 (-1), .bool false, .int .i64 z]
  ds : ∃ cs, Blk w Q.db 130 cs ∧ cs[0]? = some (.pointer (some ⟨Q.d, 0, none⟩)) ∧ 1 ≤ Q.dc
  dk : Blk w Q.d 133 #[pv.v, .bool false]
  pl : ∃ P : List Sl, RowP w 55 1 encS pv.v P ∧ pv.n = P.length ∧ P.length = n
  wt : ∃ M : List Ww, RowP w 178 3 encM wv.v M ∧ wv.n = M.length ∧ ∀ x ∈ M, x.at_ < n
  new : w0.heap.size ≤ Q.q ∧ w0.heap.size ≤ Q.d ∧ w0.heap.size ≤ Q.db ∧ (∀ g ∈ own pv.v, w0.heap.size ≤ g) ∧ ∀ g ∈ own wv.v, w0.heap.size ≤ g
  keep : Keeps Non w0 w
/-- What a call of it may turn. -/
def Fd (Q : Qb) (pv wv : Sl) (g : Nat) : Prop := g = Q.q ∨ g = Q.d ∨ g ∈ own pv.v ∨ g ∈ own wv.v
theorem Dd.non {w0 w w' : World} {Q : Qb} {n : Nat} {pv wv : Sl} (h : Dd w0 w Q n pv wv) (hk : Keeps Non w w') : Dd w0 w' Q n pv wv :=
  ⟨h.pw.imp fun _ i => i.non hk, h.ds.imp fun _ i => ⟨i.1.non hk, i.2⟩, h.dk.non hk, h.pl.imp fun _ i => ⟨i.1.non hk, i.2⟩, h.wt.imp fun _ i => ⟨i.1.non hk, i.2⟩, h.new, h.keep.non hk⟩
theorem Dd.free {w0 w : World} {Q : Qb} {n : Nat} {pv wv : Sl} (h : Dd w0 w Q n pv wv) {g t : Nat} {cs : Array Value} (hg : Blk w g t cs) (h1 : t ≠ 129) (h2 : t ≠ 133) (h3 : t ≠ 55) (h4 : t ≠ 178) : ¬ Fd Q pv wv g := by
  obtain ⟨z, hp⟩ := h.pw
  obtain ⟨P, hP, -⟩ := h.pl
  obtain ⟨M, hM, -⟩ := h.wt
  rintro (e | e | e | e)
  · exact hg.ne hp h1 e
  · exact hg.ne h.dk h2 e
  · exact own_type hP hg h3 e
  · exact own_type hM hg h4 e
theorem Dd.low {w0 w : World} {Q : Qb} {n : Nat} {pv wv : Sl} (h : Dd w0 w Q n pv wv) {g : Nat} (hg : g < w0.heap.size) : ¬ Fd Q pv wv g := by
  obtain ⟨n1, n2, n3, n4, n5⟩ := h.new
  rintro (e | e | e | e)
  · omega
  · omega
  · have := n4 _ e; omega
  · have := n5 _ e; omega
set_option maxHeartbeats 1000000 in
theorem noughts56_any (w : World) : Calls Tryz.prog 56 #[] w fun e w' => ∃ s : Sl, e = .returned s.v ∧ s.n = 128 ∧ Keeps Non w w' := by
  go_enter Tryz.func56, Tryz.ntmps56
  go_wp2_with (at_make; go_must (refine wpList_make_bytes rfl (.const (.int .i64 128)) (.const (.int .i64 128)) 55 rfl 5 Tryz.underlying55 info5 .i64 .i64 _ _ 128 rfl rfl (by omega) (by omega) (by omega) ?_); intro w1 hB1 hK1)
  go_ret
  exact ⟨⟨_, 128, 128⟩, rfl, rfl, hK1⟩
set_option maxHeartbeats 1000000 in
theorem newPower23_any (w : World) : Calls Tryz.prog 23 #[] w fun e w' => ∃ q, e = .returned (.pointer (some ⟨q, 0, none⟩)) ∧ Blk w' q 129 #[.slice none 0 0, .slice none 0 0, .int .i64 (-1), .bool false, .int .i64 0] ∧ w.heap.size ≤ q ∧ Keeps Non w w' := by
  go_enter Tryz.func23, Tryz.ntmps23
  go_wp2_with fail
  go_ret
  exact ⟨_, rfl, Blk.new _ _ _, Nat.le_refl _, (Keeps.refl Non w).alloc _⟩
end Go.Proofs.YtipbjiepfnjojaaGreatDoor
namespace Go.Proofs.YtipbjiepfnjojaaGreatDoor
set_option maxRecDepth 100000
open Go.RowKit Go.Uc

theorem own_grown {u v : Value} {B X : Nat} (hat : u.ownBlock = v.ownBlock ∨ u.ownBlock = some X) (hv : ∀ g ∈ own v, B ≤ g) (hX : B ≤ X) : ∀ g ∈ own u, B ≤ g := by
  intro g hg
  rw [mem_own] at hg
  rcases hat with e | e
  · exact hv g (mem_own.2 (e.symm.trans hg))
  · have := e.symm.trans hg
    injection this with this
    omega
set_option maxHeartbeats 4000000 in
theorem new25_any {w0 w : World} (q n : Nat) (h1 : 1 ≤ n) (h2 : n ≤ 8192) (hp : Blk w q 129 #[.slice none 0 0, .slice none 0 0, .int .i64 (-1), .bool false, .int .i64 0]) (hp0 : w0.heap.size ≤ q) (hk0 : Keeps Non w0 w) :
    Calls Tryz.prog 25 #[.pointer (some ⟨q, 0, none⟩), .int .i64 (n : Int)] w fun e w' => ∃ (Q : Qb) (pv : Sl), Q.q = q ∧ e = .returned (.tuple #[.int .i64 0, .int .i64 0]) ∧ Dd w0 w' Q n pv ⟨none, 0, 0⟩ ∧ w.heap.size ≤ Q.d ∧ Keeps (Only q) w w' := by
  have d1 : ¬ (n : Int) < 1 := by omega
  have d2 : ¬ (8192 : Int) < (n : Int) := by omega
  have HNo := Lib.hid noughts56_any
  have HBig : Hid (∀ m : Nat, m < n → m + 1 ≤ maxLen ∧ (m + 1) * 24 ≤ 140737488355328) := Lib.hid (fun m hm => ⟨by unfold maxLen; omega, by omega⟩)
  go_enter Tryz.func25, Tryz.ntmps25
  go_upto_region 5 with fail
  obtain ⟨d, hd⟩ : ∃ z, z = w.heap.size := ⟨_, rfl⟩
  have hB0 := Blk.new w 133 #[.slice none 0 0, .bool false]
  have hk1 := (Keeps.refl Non w).alloc (.cells #[.slice none 0 0, .bool false] 133)
  obtain ⟨w1, hw1⟩ : ∃ V : World, V = w.alloc (.cells #[.slice none 0 0, .bool false] 133) := ⟨_, rfl⟩
  rw [← hw1] at hB0 hk1 ⊢
  rw [← hd] at hB0 ⊢
  have HD := Lib.hid hd
  clear hw1 hd
  go_loopw [7] (fun i wr => ∃ (k : Nat) (pv : Sl) (P : List Sl), k ≤ n ∧ i = .int .i64 (k : Int) ∧ Blk wr d 133 #[pv.v, .bool false] ∧ RowP wr 55 1 encS pv.v P ∧ pv.n = P.length ∧ P.length = k ∧ (∀ g ∈ own pv.v, w.heap.size ≤ g) ∧ Keeps Non w wr) (fun i _ => n - (intOf i).toNat)
  case atStart => exact ⟨0, ⟨none, 0, 0⟩, [], Nat.zero_le _, rfl, hB0, RowP.nil _ _ _ _, rfl, rfl, fun g hg => (List.not_mem_nil hg).elim, hk1⟩
  case round =>
    obtain ⟨k, ⟨A, m, c⟩, P, hk, rfl, hB, hR, hm, hPk, hown, hK⟩ := hrel
    simp only at hm
    subst hm
    obtain ⟨wx, rfl⟩ : ∃ W : World, W = wr := ⟨_, rfl⟩
    have HOw := Lib.hid hown
    have HPk := Lib.hid hPk
    clear hown hPk
    by_cases hlt : k < n
    · have hki : (k : Int) < (n : Int) := by omega
      have HBg := Lib.hid (HBig.out P.length (by rw [HPk.out]; exact hlt))
      go_upto_region 8 with (go_at_call 56; go_must (refine (HNo.out _).mono ?_); rintro e w3 ⟨s, rfl, hs, hK3⟩)
      have hB3 := hB.non hK3
      have c0 : w3.cell? ⟨d, 0, none⟩ = some (.slice A P.length c) := hB3.cell 0
      have ka := (Keeps.refl Non w3).alloc (.cells #[s.v] 55)
      have hRa := Lib.hid ((hR.non hK3).non ka)
      have hBa := hB3.non ka
      have hAt : Ats (w3.alloc (.cells #[s.v] 55)) (some ⟨w3.heap.size, 0, none⟩) ([s].flatMap encS) := Ats.lit w3 _ 55 _ rfl
      go_wp2_with (at_builtin; go_must (refine wpList_append_row (o := ⟨some 30, _, _, _, _, _⟩) rfl (.tmp 27) (.tmp 29) 131 rfl 55 1 encS _ 24 Tryz.underlying131 info55 rfl (by decide) encS_len encS_one (.slice A P.length c) P (by kernel_rfl) hRa.out (some ⟨w3.heap.size, 0, none⟩) 1 1 [s] (by kernel_rfl) rfl hAt HBg.out.1 HBg.out.2 ?_); intro u8 w8 hO8 hK8 hat; obtain ⟨⟨A8, n8, c8⟩, rfl, h8⟩ := RowP.sl hO8; have hn8' : n8 = (P ++ [s]).length := h8; clear h8; subst hn8'; have hB8 := hBa.keep hK8 (fun e => own_type hRa.out hBa (by decide) e); have z8 := hB8.cell 0; have f8 := hB8.frozen 0)
      have HRl := Lib.hid (And.intro hO8 hat)
      have hdn : w.heap.size ≤ d := Nat.le_of_eq HD.out.symm
      have hk9 : Keeps (Only d) w8 (w8.setCell ⟨d, 0, none⟩ (.slice A8 (P ++ [s]).length c8)) := (Keeps.refl (Only d) _).set (p := ⟨d, 0, none⟩) rfl _
      have hB9 : Blk (w8.setCell ⟨d, 0, none⟩ (.slice A8 (P ++ [s]).length c8)) d 133 #[.slice A8 (P ++ [s]).length c8, .bool false] := hB8.set 0 _
      have hKa : Keeps Non w (w3.alloc (.cells #[s.v] 55)) := (hK.non hK3).non ka
      have hK8w : Keeps Non w w8 := hKa.then hK8 fun i hi e => by have := HOw.out i e; omega
      have hK9w : Keeps Non w (w8.setCell ⟨d, 0, none⟩ (.slice A8 (P ++ [s]).length c8)) := hK8w.then hk9 fun i hi e => by unfold Only at e; omega
      have hR9 : RowP (w8.setCell ⟨d, 0, none⟩ (.slice A8 (P ++ [s]).length c8)) 55 1 encS (.slice A8 (P ++ [s]).length c8) (P ++ [s]) := HRl.out.1.keep hk9 fun g hg e => own_type HRl.out.1 hB8 (by decide) (by unfold Only at e; rw [← e]; exact hg)
      go_roundw
      case rel =>
        rw [← (by simp : (P ++ [s]).length = P.length + 1)]
        exact ⟨k + 1, ⟨A8, (P ++ [s]).length, c8⟩, P ++ [s], by omega, by go_num, hB9, hR9, rfl, by rw [List.length_append, List.length_singleton, HPk.out], own_grown HRl.out.2 HOw.out hKa.size, hK9w⟩
      case measure => simp [intOf]; omega
    · obtain rfl : k = n := by omega
      have hpk := hp.non hK
      have q0 : wx.cell? ⟨q, 0, none⟩ = some (.slice none 0 0) := hpk.cell 0
      have ka := (Keeps.refl Non wx).alloc (.cells #[.pointer (some ⟨d, 0, none⟩)] 130)
      have hpa := hpk.non ka
      have hAt : Ats (wx.alloc (.cells #[.pointer (some ⟨d, 0, none⟩)] 130)) (some ⟨wx.heap.size, 0, none⟩) ([d].flatMap encP) := Ats.lit wx _ 130 _ rfl
      have HB1 : Hid (([] : List Nat).length + [d].length ≤ maxLen ∧ (([] : List Nat).length + [d].length) * 8 ≤ 140737488355328) := Lib.hid (by show 1 ≤ maxLen ∧ 1 * 8 ≤ _; decide)
      have hll : ¬ (k : Int) < (k : Int) := by omega
      go_wp2_with (at_builtin; go_must (refine wpList_append_row (o := ⟨some 40, _, _, _, _, _⟩) rfl (.tmp 37) (.tmp 39) 126 rfl 130 1 encP _ 8 Tryz.underlying126 info130 rfl (by decide) encP_len encP_one (.slice none 0 0) [] (by kernel_rfl) (RowP.nil _ _ _ _) (some ⟨wx.heap.size, 0, none⟩) 1 1 [d] (by kernel_rfl) rfl hAt HB1.out.1 HB1.out.2 ?_); intro u8 w8 hO8 hK8 hat; obtain ⟨db, dc, cur, hue, hBd, hl1, hl2, hsz, htk⟩ := row_form hO8 (by simp); subst hue; have hK8' : Keeps Non (wx.alloc (.cells #[.pointer (some ⟨d, 0, none⟩)] 130)) w8 := hK8.mono fun k e => (List.not_mem_nil e).elim; have hB8 := hpa.non hK8'; have z8 := hB8.cell 0; have f8 := hB8.frozen 0)
      go_ret2
      have hk9 : Keeps (Only q) w8 (w8.setCell ⟨q, 0, none⟩ (.slice (some ⟨db, 0, none⟩) 1 dc)) := (Keeps.refl (Only q) _).set (p := ⟨q, 0, none⟩) rfl _
      have hka : Keeps Non w w8 := (hK.non ka).non hK8'
      have hkx : Keeps Non wx w8 := ka.non hK8'
      have hdw : w.heap.size ≤ d := Nat.le_of_eq HD.out.symm
      have hqd : q < w.heap.size := hp.lt
      have hkz : Keeps (Only q) w (w8.setCell ⟨q, 0, none⟩ (.slice (some ⟨db, 0, none⟩) 1 dc)) := (hka.of_non).trans hk9
      have hdbw : w.heap.size ≤ db := by
        rcases hat with e | e
        · cases e
        · have e' : some db = some (wx.alloc (.cells #[.pointer (some ⟨d, 0, none⟩)] 130)).heap.size := e
          injection e' with e'
          have := (hK.non ka).size
          omega
      have hc0 : cur[0]? = some (.pointer (some ⟨d, 0, none⟩)) := by
        have := congrArg (fun l => l[0]?) htk.2
        simpa [encP] using this
      have hz := hk0.size
      refine ⟨⟨q, d, db, dc⟩, rfl, rfl, ⟨⟨A, P.length, c⟩, ⟨⟨0, hB8.set 0 _⟩, ⟨cur, hl1.one hk9 (by omega), hc0, hl2⟩, (hB.non hkx).one hk9 (by show d ≠ q; omega), ⟨P, (hR.non hkx).keep hk9 fun g hg e => by have := HOw.out g hg; unfold Only at e; omega, rfl, HPk.out⟩, ⟨[], RowP.nil _ _ _ _, rfl, fun x hx => (List.not_mem_nil hx).elim⟩, ⟨hp0, by show w0.heap.size ≤ d; omega, by show w0.heap.size ≤ db; omega, fun g hg => by have := HOw.out g hg; omega, fun g hg => (List.not_mem_nil hg).elim⟩, hk0.then hkz fun i hi e => by unfold Only at e; omega⟩⟩, hdw, hkz⟩
end Go.Proofs.YtipbjiepfnjojaaGreatDoor
