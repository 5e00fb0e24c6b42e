/- Uberblocks sorted: the walk. Uberblocks sorted (SortStableFunc, of few). -/
import Derived.Test.YtolknnmaadkgiaaGreatDoorG16
set_option linter.unusedVariables false
set_option linter.unusedSimpArgs false
namespace Go.Proofs.YtolknnmaadkgiaaGreatDoor
set_option maxRecDepth 100000
open Go.RowKit Go.Uc
theorem two_cells {g : Nat} {w w1 : World} (a b : List Value) (i j : Nat) (h : Keeps (Only g) w w1) : Keeps (Only g) w ((w1.setCells g i a).setCells g j b) :=
 Keeps.cellsAt (S := Only g) rfl b j _ (Keeps.cellsAt (S := Only g) rfl a i _ h)
set_option maxHeartbeats 16000000 in
theorem insertion114_any (L : List UB) (g c : Nat) (w : World) (hR : RowB w (.slice (some ⟨g, 0, none⟩) L.length c) L) (hl : L.length ≤ 1000) :
   Calls Tryz.prog 172 #[.slice (some ⟨g, 0, none⟩) L.length c, .int .i64 0, .int .i64 (L.length : Int), .func (.func 101) #[] #[]] w fun e w' => e = .returned (.tuple #[]) ∧ ∃ M : List UB, M.Perm L ∧ Ord M.length M ∧ RowB w' (.slice (some ⟨g, 0, none⟩) M.length c) M ∧ Keeps (Only g) w w' := by
 obtain ⟨n, hn⟩ : ∃ n, n = L.length := ⟨_, rfl⟩
 rw [← hn] at hR hl ⊢
 have HN := Lib.hid hn
 clear hn
 go_enter Tryz.func172, Tryz.ntmps172
 go_upto_region 1 with fail
 go_loopw [8] (fun l wr => ∃ (i : Nat) (M : List UB), 1 ≤ i ∧ (i ≤ n ∨ i = 1) ∧ l = .int .i64 (i : Int) ∧ M.Perm L ∧ RowB wr (.slice (some ⟨g, 0, none⟩) n c) M ∧ Ord i M ∧ Keeps (Only g) w wr) (fun l _ => n + 1 - (intOf l).toNat)
 case atStart => exact ⟨1, L, by omega, .inr rfl, rfl, List.Perm.refl _, hR, fun p q hp hq h1 h2 => by omega, Keeps.refl _ _⟩
 case round =>
   obtain ⟨i, M, hi1, hin, rfl, hM, hRM, hO, hK⟩ := hrel
   obtain ⟨wx, rfl⟩ : ∃ W : World, W = wr := ⟨_, rfl⟩
   have HM := Lib.hid hM
   have HO := Lib.hid hO
   have hMl : Hid (M.length = n) := Lib.hid (by rw [hM.length_eq, HN.out])
   clear hM hO hR
   by_cases hlt : i < n
   · have hii : (i : Int) < (n : Int) := by omega
     go_upto_region 4 with fail
     go_loopw [9] (fun l wr => ∃ (j : Nat) (M' : List UB), j ≤ i ∧ l = .int .i64 (j : Int) ∧ M'.Perm L ∧ RowB wr (.slice (some ⟨g, 0, none⟩) n c) M' ∧ Inv1 i j M' ∧ Keeps (Only g) w wr) (fun l _ => (intOf l).toNat)
     case atStart => exact ⟨i, M, Nat.le_refl _, rfl, HM.out, hRM, Inv1.start HO.out, hK⟩
     case round =>
       obtain ⟨j, M', hji, rfl, hM', hRM', hI, hK'⟩ := hrel
       obtain ⟨wy, rfl⟩ : ∃ W : World, W = wr := ⟨_, rfl⟩
       have HM' := Lib.hid hM'
       have HI := Lib.hid hI
       have hMl' : Hid (M'.length = n) := Lib.hid (by rw [hM'.length_eq, HN.out])
       clear hM' hI
       by_cases hj0 : j = 0
       · subst hj0
         have hj0d : decide ((0 : Int) < (0 : Int)) = false := by decide
         have HO' : Hid (Ord (i + 1) M') := Lib.hid (Inv1.stop HI.out (by omega) (.inl rfl))
         go_upto_region 4 with fail
         go_quiet (fail)
         go_wp2_with fail
         go_roundw
         case rel => exact ⟨i + 1, M', by omega, .inl (by omega), by go_num, HM'.out, hRM'.non ((Keeps.refl Non wy).drewN _), HO'.out, hK'.drewN _⟩
         case measure => simp [intOf]; omega
       · obtain ⟨J, hJ⟩ : ∃ J, J = j - 1 := ⟨_, rfl⟩
         have hjM : j < M'.length := by rw [hMl'.out]; omega
         have hJM : J < M'.length := by rw [hMl'.out]; omega
         obtain ⟨U, hU⟩ : ∃ U, U = M'[j] := ⟨_, rfl⟩
         obtain ⟨V, hV⟩ : ∃ V, V = M'[J] := ⟨_, rfl⟩
         have HUV := Lib.hid (And.intro hU (And.intro hV hJ))
         have HJM := Lib.hid (And.intro hjM hJM)
         have HSN : Hid (∀ W, Keeps Non wy W → W.rangeAt g (j * 12) (encB U) ∧ W.rangeAt g (J * 12) (encB V)) := Lib.hid (fun W hW => by
           have hRW := hRM'.non hW
           rw [← hMl'.out] at hRW
           refine ⟨?_, ?_⟩
           · obtain ⟨g', cap, e1, -, h3⟩ := RowP.range encB_len hRW hjM
             injection e1 with e1 _ _
             injection e1 with e1
             injection e1 with e1
             subst e1
             rw [hU]; exact h3
           · obtain ⟨g', cap, e1, -, h3⟩ := RowP.range encB_len hRW hJM
             injection e1 with e1 _ _
             injection e1 with e1
             injection e1 with e1
             subst e1
             rw [hV]; exact h3)
         have hjJ : j = J + 1 := by omega
         have hkd : Keeps Non wy wy.drew := (Keeps.refl Non wy).drew
         have HS1 := Lib.hid (HSN.out wy.drew hkd)
         have HLs := Lib.hid (fun W => less39_any U V W)
         have hjp : decide ((0 : Int) < (j : Int)) = true := decide_eq_true (by omega)
         have hjn : (j : Int) < (n : Int) := by omega
         have hJn : (J : Int) < (n : Int) := by omega
         have hwJ : IntKind.i64.wrap ((j : Int) - 1) = (J : Int) := by rw [IntKind.wrap_i64]; omega
         have HjJ := Lib.hid hjJ
         clear hU hV hJ hjJ
         go_upto_region 4 with fail
         refine wp_region_held_drew (S := fun w' : World => w'.rangeAt g (j * 12) (encB U) ∧ w'.rangeAt g (J * 12) (encB V)) (by kernel_rfl) HS1.out (fun hH0 => ?_)
         refine wpAnyH_take (i := 0) (oi := ⟨some 18, _, _, _, _, _⟩) (v := .int .i64 (j : Int)) rfl (by kernel_rfl) (by kernel_rfl) (by kernel_rfl) (fun _ _ _ h => h) (Or.inl ⟨by kernel_rfl, by intro w' hw'; go_simp⟩) (by assumption) ?_
         simp only [Act.put, List.setIfInBounds_toArray, List.set_cons_zero, List.set_cons_succ]
         refine wpAnyH_take (i := 1) (oi := ⟨some 19, _, _, _, _, _⟩) (v := .int .i64 0) rfl (by kernel_rfl) (by kernel_rfl) (by kernel_rfl) (fun _ _ _ h => h) (Or.inl ⟨by kernel_rfl, by intro w' hw'; go_simp⟩) (by assumption) ?_
         simp only [Act.put, List.setIfInBounds_toArray, List.set_cons_zero, List.set_cons_succ]
         refine wpAnyH_take (i := 2) (oi := ⟨some 20, _, _, _, _, _⟩) (v := .bool true) rfl (by kernel_rfl) (by kernel_rfl) (by kernel_rfl) (fun _ _ _ h => h) (Or.inl ⟨by kernel_rfl, by intro w' hw'; go_simp; omega⟩) (by assumption) ?_
         simp only [Act.put, List.setIfInBounds_toArray, List.set_cons_zero, List.set_cons_succ]
         refine wpAnyH_take (i := 3) (oi := ⟨some 21, _, _, _, _, _⟩) (v := .bool true) rfl (by kernel_rfl) (by kernel_rfl) (by kernel_rfl) (fun _ _ _ h => h) (Or.inl ⟨by kernel_rfl, by intro w' hw'; go_simp⟩) (by assumption) ?_
         simp only [Act.put, List.setIfInBounds_toArray, List.set_cons_zero, List.set_cons_succ]
         refine wpAnyH_take (i := 4) (oi := ⟨some 22, _, _, _, _, _⟩) (v := .func (.func 101) #[] #[]) rfl (by kernel_rfl) (by kernel_rfl) (by kernel_rfl) (fun _ _ _ h => h) (Or.inl ⟨by kernel_rfl, by intro w' hw'; go_simp⟩) (by assumption) ?_
         simp only [Act.put, List.setIfInBounds_toArray, List.set_cons_zero, List.set_cons_succ]
         refine wpAnyH_take (i := 5) (oi := ⟨some 23, _, _, _, _, _⟩) (v := .slice (some ⟨g, 0, none⟩) n c) rfl (by kernel_rfl) (by kernel_rfl) (by kernel_rfl) (fun _ _ _ h => h) (Or.inl ⟨by kernel_rfl, by intro w' hw'; go_simp⟩) (by assumption) ?_
         simp only [Act.put, List.setIfInBounds_toArray, List.set_cons_zero, List.set_cons_succ]
         refine wpAnyH_take (i := 6) (oi := ⟨some 24, _, _, _, _, _⟩) (v := .int .i64 (j : Int)) rfl (by kernel_rfl) (by kernel_rfl) (by kernel_rfl) (fun _ _ _ h => h) (Or.inl ⟨by kernel_rfl, by intro w' hw'; go_simp⟩) (by assumption) ?_
         simp only [Act.put, List.setIfInBounds_toArray, List.set_cons_zero, List.set_cons_succ]
         refine wpAnyH_take (i := 7) (oi := ⟨some 25, _, _, _, _, _⟩) (v := .pointer (some ⟨g, j * 12, none⟩)) rfl (by kernel_rfl) (by kernel_rfl) (by kernel_rfl) (fun _ _ _ h => h) (Or.inl ⟨by kernel_rfl, by intro w' hw'; go_simp⟩) (by assumption) ?_
         simp only [Act.put, List.setIfInBounds_toArray, List.set_cons_zero, List.set_cons_succ]
         refine wpAnyH_take (i := 8) (oi := ⟨some 26, _, _, _, _, _⟩) (v := .agg (encB U).toArray) rfl (by kernel_rfl) (by kernel_rfl) (by kernel_rfl) (fun _ _ _ h => h) (yieldsIf_load_mid (by kernel_rfl) 63 (.tmp 25) rfl g (j * 12) (by kernel_rfl) (encB U) _ (fun _ h => h.1) Tryz.underlying63 rfl (by kernel_rfl)) (by assumption) ?_
         simp only [Act.put, List.setIfInBounds_toArray, List.set_cons_zero, List.set_cons_succ]
         refine wpAnyH_take (i := 9) (oi := ⟨some 27, _, _, _, _, _⟩) (v := .slice (some ⟨g, 0, none⟩) n c) rfl (by kernel_rfl) (by kernel_rfl) (by kernel_rfl) (fun _ _ _ h => h) (Or.inl ⟨by kernel_rfl, by intro w' hw'; go_simp⟩) (by assumption) ?_
         simp only [Act.put, List.setIfInBounds_toArray, List.set_cons_zero, List.set_cons_succ]
         refine wpAnyH_take (i := 10) (oi := ⟨some 28, _, _, _, _, _⟩) (v := .int .i64 (j : Int)) rfl (by kernel_rfl) (by kernel_rfl) (by kernel_rfl) (fun _ _ _ h => h) (Or.inl ⟨by kernel_rfl, by intro w' hw'; go_simp⟩) (by assumption) ?_
         simp only [Act.put, List.setIfInBounds_toArray, List.set_cons_zero, List.set_cons_succ]
         refine wpAnyH_take (i := 11) (oi := ⟨some 29, _, _, _, _, _⟩) (v := .int .i64 (J : Int)) rfl (by kernel_rfl) (by kernel_rfl) (by kernel_rfl) (fun _ _ _ h => h) (Or.inl ⟨by kernel_rfl, by intro w' hw'; go_simp⟩) (by assumption) ?_
         simp only [Act.put, List.setIfInBounds_toArray, List.set_cons_zero, List.set_cons_succ]
         refine wpAnyH_take (i := 12) (oi := ⟨some 30, _, _, _, _, _⟩) (v := .pointer (some ⟨g, J * 12, none⟩)) rfl (by kernel_rfl) (by kernel_rfl) (by kernel_rfl) (fun _ _ _ h => h) (Or.inl ⟨by kernel_rfl, by intro w' hw'; go_simp⟩) (by assumption) ?_
         simp only [Act.put, List.setIfInBounds_toArray, List.set_cons_zero, List.set_cons_succ]
         refine wpAnyH_take (i := 13) (oi := ⟨some 31, _, _, _, _, _⟩) (v := .agg (encB V).toArray) rfl (by kernel_rfl) (by kernel_rfl) (by kernel_rfl) (fun _ _ _ h => h) (yieldsIf_load_mid (by kernel_rfl) 63 (.tmp 30) rfl g (J * 12) (by kernel_rfl) (encB V) _ (fun _ h => h.2) Tryz.underlying63 rfl (by kernel_rfl)) (by assumption) ?_
         simp only [Act.put, List.setIfInBounds_toArray, List.set_cons_zero, List.set_cons_succ]
         refine wpAnyH_ready (rs := [14]) (by kernel_rfl) (by simp) ?_
         refine AllReadyH.cons (o := ⟨some 32, _, _, _, _, _⟩) rfl (fun K' hK' => ?_) AllReadyH.nil
         go_simp
         refine (HLs.out _).mono ?_
         rintro e w5 ⟨⟨r, rfl, hr⟩, hK5⟩
         have hk5 := hkd.non hK5
         have HS5 := Lib.hid (HSN.out w5 hk5)
         refine hK'.out _ _ (HS5.out) (fun hH => ?_)
         clear hK'
         clear K'
         try simp only [Act.put, List.setIfInBounds_toArray, List.set_cons_zero, List.set_cons_succ]
         by_cases hlt2 : V.txg < U.txg
         · have hrd : decide (r < 0) = true := decide_eq_true (hr.2 hlt2)
           have hr0 : r < 0 := hr.2 hlt2
           clear hr
           refine wpAnyH_ready (rs := [15]) (by kernel_rfl) (by simp) ?_
           refine AllReadyH.cons (o := ⟨some 33, _, _, _, _, _⟩) rfl (fun K' hK' => ?_) AllReadyH.nil
           go_simp
           refine hK'.out _ _ (HS5.out) (fun hH => ?_)
           clear hK'
           clear K'
           try simp only [Act.put, List.setIfInBounds_toArray, List.set_cons_zero, List.set_cons_succ]
           refine wpAnyH_ready (rs := [16]) (by kernel_rfl) (by simp) ?_
           refine AllReadyH.cons (o := ⟨some 34, _, _, _, _, _⟩) rfl (fun K' hK' => ?_) AllReadyH.nil
           go_simp
           refine hK'.out _ _ (HS5.out) (fun hH => ?_)
           clear hK'
           clear K'
           try simp only [Act.put, List.setIfInBounds_toArray, List.set_cons_zero, List.set_cons_succ]
           refine wpAnyH_done (by kernel_rfl) ?_ _
           go_upto_region 6 with fail
           have hk5d : Keeps Non w5 w5.drew := (Keeps.refl Non w5).drew
           have hra6 := HSN.out w5.drew (hk5.non hk5d)
           have hR6 : RowB w5.drew (.slice (some ⟨g, 0, none⟩) n c) M' := (hRM'.non hk5).non hk5d
           have HR6 := Lib.hid hR6
           clear hR6
           have hRd : RowB w5.drew (.slice (some ⟨g, 0, none⟩) M'.length c) M' := (by rw [hMl'.out]; exact HR6.out)
           have hf6 : ∃ cur, Blk w5.drew g 63 cur ∧ n * 12 ≤ cur.size := (by
             rcases hRd.form with ⟨e1, -⟩ | ⟨g', cap', cur, e1, hB, h4', h5', h6', h7'⟩
             · cases e1
             · injection e1 with e1 _ e2
               injection e1 with e1
               injection e1 with e1
               subst e1 e2
               exact ⟨cur, hB, by have := hMl'.out; rw [h6']; have := Nat.mul_le_mul_right 12 h4'; omega⟩)
           obtain ⟨cur, hBc, hcs⟩ := hf6
           have hjn' : j < n := by omega
           have hJn' : J < n := by omega
           have hth1 : w5.drew.there g (j * 12) (encB V).toArray.size := Blk.there hBc (j * 12) 12 (by omega)
           obtain ⟨cur2, hBc2, hs2, -⟩ := Blk.cellsAt (encB V) (j * 12) w5.drew cur hBc
           have hth2 : (w5.drew.setCells g (j * 12) (encB V)).there g (J * 12) (encB U).toArray.size := Blk.there hBc2 (J * 12) 12 (by omega)
           have HRf : Hid (RowB ((w5.drew.setCells g (j * 12) (encB V)).setCells g (J * 12) (encB U)) (.slice (some ⟨g, 0, none⟩) n c) ((M'.set j V).set J U)) := Lib.hid (by
             have r1 := RowP.setAt encB_len hRd hjM V
             have hl1 : (M'.set j V).length = M'.length := by simp
             rw [← hl1] at r1
             have r2 := RowP.setAt encB_len r1 (i := J) (by rw [hl1]; exact hJM) U
             rw [hl1, hMl'.out] at r2
             exact r2)
           have HKf : Hid (Keeps (Only g) w ((w5.drew.setCells g (j * 12) (encB V)).setCells g (J * 12) (encB U))) := Lib.hid (two_cells _ _ _ _ ((hK'.non hk5).non hk5d))
           clear hcs hs2 hBc hBc2 hRd hjn' hJn'
           refine wp_region_held_drew (S := fun w' : World => True) (by kernel_rfl) trivial (fun hH0 => ?_)
           refine wpAnyH_take (i := 0) (oi := ⟨some 37, _, _, _, _, _⟩) (v := .slice (some ⟨g, 0, none⟩) n c) rfl (by kernel_rfl) (by kernel_rfl) (by kernel_rfl) (fun _ _ _ h => h) (Or.inl ⟨by kernel_rfl, by intro w' hw'; go_simp⟩) (by assumption) ?_
           simp only [Act.put, List.setIfInBounds_toArray, List.set_cons_zero, List.set_cons_succ]
           refine wpAnyH_take (i := 1) (oi := ⟨some 38, _, _, _, _, _⟩) (v := .int .i64 (j : Int)) rfl (by kernel_rfl) (by kernel_rfl) (by kernel_rfl) (fun _ _ _ h => h) (Or.inl ⟨by kernel_rfl, by intro w' hw'; go_simp⟩) (by assumption) ?_
           simp only [Act.put, List.setIfInBounds_toArray, List.set_cons_zero, List.set_cons_succ]
           refine wpAnyH_take (i := 2) (oi := ⟨some 39, _, _, _, _, _⟩) (v := .slice (some ⟨g, 0, none⟩) n c) rfl (by kernel_rfl) (by kernel_rfl) (by kernel_rfl) (fun _ _ _ h => h) (Or.inl ⟨by kernel_rfl, by intro w' hw'; go_simp⟩) (by assumption) ?_
           simp only [Act.put, List.setIfInBounds_toArray, List.set_cons_zero, List.set_cons_succ]
           refine wpAnyH_take (i := 3) (oi := ⟨some 40, _, _, _, _, _⟩) (v := .int .i64 (j : Int)) rfl (by kernel_rfl) (by kernel_rfl) (by kernel_rfl) (fun _ _ _ h => h) (Or.inl ⟨by kernel_rfl, by intro w' hw'; go_simp⟩) (by assumption) ?_
           simp only [Act.put, List.setIfInBounds_toArray, List.set_cons_zero, List.set_cons_succ]
           refine wpAnyH_take (i := 4) (oi := ⟨some 41, _, _, _, _, _⟩) (v := .int .i64 (J : Int)) rfl (by kernel_rfl) (by kernel_rfl) (by kernel_rfl) (fun _ _ _ h => h) (Or.inl ⟨by kernel_rfl, by intro w' hw'; go_simp⟩) (by assumption) ?_
           simp only [Act.put, List.setIfInBounds_toArray, List.set_cons_zero, List.set_cons_succ]
           refine wpAnyH_take (i := 5) (oi := ⟨some 42, _, _, _, _, _⟩) (v := .slice (some ⟨g, 0, none⟩) n c) rfl (by kernel_rfl) (by kernel_rfl) (by kernel_rfl) (fun _ _ _ h => h) (Or.inl ⟨by kernel_rfl, by intro w' hw'; go_simp⟩) (by assumption) ?_
           simp only [Act.put, List.setIfInBounds_toArray, List.set_cons_zero, List.set_cons_succ]
           refine wpAnyH_take (i := 6) (oi := ⟨some 43, _, _, _, _, _⟩) (v := .int .i64 (j : Int)) rfl (by kernel_rfl) (by kernel_rfl) (by kernel_rfl) (fun _ _ _ h => h) (Or.inl ⟨by kernel_rfl, by intro w' hw'; go_simp⟩) (by assumption) ?_
           simp only [Act.put, List.setIfInBounds_toArray, List.set_cons_zero, List.set_cons_succ]
           refine wpAnyH_take (i := 7) (oi := ⟨some 44, _, _, _, _, _⟩) (v := .int .i64 (J : Int)) rfl (by kernel_rfl) (by kernel_rfl) (by kernel_rfl) (fun _ _ _ h => h) (Or.inl ⟨by kernel_rfl, by intro w' hw'; go_simp⟩) (by assumption) ?_
           simp only [Act.put, List.setIfInBounds_toArray, List.set_cons_zero, List.set_cons_succ]
           refine wpAnyH_take (i := 8) (oi := ⟨some 45, _, _, _, _, _⟩) (v := .pointer (some ⟨g, J * 12, none⟩)) rfl (by kernel_rfl) (by kernel_rfl) (by kernel_rfl) (fun _ _ _ h => h) (Or.inl ⟨by kernel_rfl, by intro w' hw'; go_simp⟩) (by assumption) ?_
           simp only [Act.put, List.setIfInBounds_toArray, List.set_cons_zero, List.set_cons_succ]
           refine wpAnyH_take (i := 10) (oi := ⟨some 47, _, _, _, _, _⟩) (v := .slice (some ⟨g, 0, none⟩) n c) rfl (by kernel_rfl) (by kernel_rfl) (by kernel_rfl) (fun _ _ _ h => h) (Or.inl ⟨by kernel_rfl, by intro w' hw'; go_simp⟩) (by assumption) ?_
           simp only [Act.put, List.setIfInBounds_toArray, List.set_cons_zero, List.set_cons_succ]
           refine wpAnyH_take (i := 11) (oi := ⟨some 48, _, _, _, _, _⟩) (v := .int .i64 (j : Int)) rfl (by kernel_rfl) (by kernel_rfl) (by kernel_rfl) (fun _ _ _ h => h) (Or.inl ⟨by kernel_rfl, by intro w' hw'; go_simp⟩) (by assumption) ?_
           simp only [Act.put, List.setIfInBounds_toArray, List.set_cons_zero, List.set_cons_succ]
           refine wpAnyH_take (i := 12) (oi := ⟨some 49, _, _, _, _, _⟩) (v := .pointer (some ⟨g, j * 12, none⟩)) rfl (by kernel_rfl) (by kernel_rfl) (by kernel_rfl) (fun _ _ _ h => h) (Or.inl ⟨by kernel_rfl, by intro w' hw'; go_simp⟩) (by assumption) ?_
           simp only [Act.put, List.setIfInBounds_toArray, List.set_cons_zero, List.set_cons_succ]
           refine wpAnyH_ready (rs := [9, 13]) (by kernel_rfl) (by simp) ?_
           refine AllReadyH.cons (o := ⟨some 46, _, _, _, _, _⟩) rfl (fun K' hK' => ?_) (AllReadyH.cons (o := ⟨some 50, _, _, _, _, _⟩) rfl (fun K' hK' => ?_) AllReadyH.nil)
           case' refine_1 =>
             refine step_load_mid (o := ⟨some 46, _, _, _, _, _⟩) rfl 63 (.tmp 45) rfl g (J * 12) (by kernel_rfl) (encB V) _ hra6.2 Tryz.underlying63 rfl (by kernel_rfl) ?_
             refine hK'.out _ _ (trivial) (fun hH => ?_)
             clear hK'
             clear K'
             try simp only [Act.put, List.setIfInBounds_toArray, List.set_cons_zero, List.set_cons_succ]
             refine wpAnyH_ready (rs := [13]) (by kernel_rfl) (by simp) ?_
             refine AllReadyH.cons (o := ⟨some 50, _, _, _, _, _⟩) rfl (fun K' hK' => ?_) AllReadyH.nil
             refine step_load_mid (o := ⟨some 50, _, _, _, _, _⟩) rfl 63 (.tmp 49) rfl g (j * 12) (by kernel_rfl) (encB U) _ hra6.1 Tryz.underlying63 rfl (by kernel_rfl) ?_
             refine hK'.out _ _ (trivial) (fun hH => ?_)
             clear hK'
             clear K'
             try simp only [Act.put, List.setIfInBounds_toArray, List.set_cons_zero, List.set_cons_succ]
           case' refine_2 =>
             refine step_load_mid (o := ⟨some 50, _, _, _, _, _⟩) rfl 63 (.tmp 49) rfl g (j * 12) (by kernel_rfl) (encB U) _ hra6.1 Tryz.underlying63 rfl (by kernel_rfl) ?_
             refine hK'.out _ _ (trivial) (fun hH => ?_)
             clear hK'
             clear K'
             try simp only [Act.put, List.setIfInBounds_toArray, List.set_cons_zero, List.set_cons_succ]
             refine wpAnyH_ready (rs := [9]) (by kernel_rfl) (by simp) ?_
             refine AllReadyH.cons (o := ⟨some 46, _, _, _, _, _⟩) rfl (fun K' hK' => ?_) AllReadyH.nil
             refine step_load_mid (o := ⟨some 46, _, _, _, _, _⟩) rfl 63 (.tmp 45) rfl g (J * 12) (by kernel_rfl) (encB V) _ hra6.2 Tryz.underlying63 rfl (by kernel_rfl) ?_
             refine hK'.out _ _ (trivial) (fun hH => ?_)
             clear hK'
             clear K'
             try simp only [Act.put, List.setIfInBounds_toArray, List.set_cons_zero, List.set_cons_succ]
           all_goals
             refine wpAnyH_take (i := 14) (oi := ⟨some 51, _, _, _, _, _⟩) (v := .pointer (some ⟨g, j * 12, none⟩)) rfl (by kernel_rfl) (by kernel_rfl) (by kernel_rfl) (fun _ _ _ h => h) (Or.inl ⟨by kernel_rfl, by intro w' hw'; go_simp⟩) (by assumption) ?_
             simp only [Act.put, List.setIfInBounds_toArray, List.set_cons_zero, List.set_cons_succ]
             refine wpAnyH_ready (rs := [15]) (by kernel_rfl) (by simp) ?_
             refine AllReadyH.cons (o := ⟨none, _, _, _, _, _⟩) rfl (fun K' hK' => ?_) AllReadyH.nil
             refine step_store_mid (o := ⟨none, _, _, _, _, _⟩) rfl 63 (.tmp 51) (.tmp 46) rfl g (j * 12) (encB V).toArray (by kernel_rfl) (by kernel_rfl) hth1 (by kernel_rfl) (by kernel_rfl) ?_
             refine hK'.out _ _ (trivial) (fun hH => ?_)
             clear hK'
             clear K'
             try simp only [Act.put, List.setIfInBounds_toArray, List.set_cons_zero, List.set_cons_succ]
             generalize hW9 : w5.drew.setCells g (j * 12) (encB V) = W9 at hth2 HRf HKf ⊢
             clear hW9
             refine wpAnyH_take (i := 16) (oi := ⟨some 52, _, _, _, _, _⟩) (v := .pointer (some ⟨g, J * 12, none⟩)) rfl (by kernel_rfl) (by kernel_rfl) (by kernel_rfl) (fun _ _ _ h => h) (Or.inl ⟨by kernel_rfl, by intro w' hw'; go_simp⟩) (by assumption) ?_
             simp only [Act.put, List.setIfInBounds_toArray, List.set_cons_zero, List.set_cons_succ]
             refine wpAnyH_ready (rs := [17]) (by kernel_rfl) (by simp) ?_
             refine AllReadyH.cons (o := ⟨none, _, _, _, _, _⟩) rfl (fun K' hK' => ?_) AllReadyH.nil
             refine step_store_mid (o := ⟨none, _, _, _, _, _⟩) rfl 63 (.tmp 52) (.tmp 50) rfl g (J * 12) (encB U).toArray (by kernel_rfl) (by kernel_rfl) hth2 (by kernel_rfl) (by kernel_rfl) ?_
             refine hK'.out _ _ (trivial) (fun hH => ?_)
             clear hK'
             clear K'
             try simp only [Act.put, List.setIfInBounds_toArray, List.set_cons_zero, List.set_cons_succ]
             refine wpAnyH_done (by kernel_rfl) ?_ _
             go_wp2_with fail
             go_roundw
             case rel =>
               obtain ⟨q1, q2, q3⟩ := HUV.out
               obtain ⟨q4, q5⟩ := HJM.out
               refine ⟨J, (M'.set j V).set J U, by omega, by go_num, ?_, HRf.out, ?_, HKf.out⟩
               · subst q3
                 rw [q1, q2]
                 exact (List.set_set_perm q4 q5).trans HM'.out
               · subst q3
                 have := Inv1.swap HI.out hji (by omega) q4 (by rw [← q1, ← q2]; exact hlt2)
                 rw [← q1, ← q2] at this
                 exact this
             case measure => simp [intOf]; have := HjJ.out; omega
         · have hrd : decide (r < 0) = false := decide_eq_false (fun hh => hlt2 (hr.1 hh))
           have hr0 : ¬ r < 0 := fun hh => hlt2 (hr.1 hh)
           clear hr
           refine wpAnyH_ready (rs := [15]) (by kernel_rfl) (by simp) ?_
           refine AllReadyH.cons (o := ⟨some 33, _, _, _, _, _⟩) rfl (fun K' hK' => ?_) AllReadyH.nil
           go_simp
           refine hK'.out _ _ (HS5.out) (fun hH => ?_)
           clear hK'
           clear K'
           try simp only [Act.put, List.setIfInBounds_toArray, List.set_cons_zero, List.set_cons_succ]
           refine wpAnyH_ready (rs := [16]) (by kernel_rfl) (by simp) ?_
           refine AllReadyH.cons (o := ⟨some 34, _, _, _, _, _⟩) rfl (fun K' hK' => ?_) AllReadyH.nil
           go_simp
           refine hK'.out _ _ (HS5.out) (fun hH => ?_)
           clear hK'
           clear K'
           try simp only [Act.put, List.setIfInBounds_toArray, List.set_cons_zero, List.set_cons_succ]
           refine wpAnyH_done (by kernel_rfl) ?_ _
           have HO' : Hid (Ord (i + 1) M') := Lib.hid (by
             obtain ⟨h1, h2, h3⟩ := HUV.out
             refine Inv1.stop HI.out hji (.inr ⟨hjM, by omega, ?_⟩)
             subst h3
             rw [← h1, ← h2]
             omega)
           go_wp2_with fail
           go_roundw
           case rel => exact ⟨i + 1, M', by omega, .inl (by omega), by go_num, HM'.out, hRM'.non hk5, HO'.out, hK'.non hk5⟩
           case measure => simp [intOf]; omega
   · go_wp2_with fail
     go_end0
     have hMo := HO.out
     have hMl2 := hMl.out
     refine ⟨rfl, M, HM.out, ?_, by rw [hMl2]; exact hRM, hK⟩
     intro p q hp hq h1 h2
     exact hMo p q hp hq h1 (by omega)
end Go.Proofs.YtolknnmaadkgiaaGreatDoor
namespace Go.Proofs.YtolknnmaadkgiaaGreatDoor
set_option maxRecDepth 100000
open Go.RowKit Go.Uc
set_option maxHeartbeats 2000000 in
theorem insertion114_none (A : Option Addr) (c : Nat) (w : World) :
   Calls Tryz.prog 172 #[.slice A 0 c, .int .i64 0, .int .i64 0, .func (.func 101) #[] #[]] w fun e w' => e = .returned (.tuple #[]) ∧ w' = w := by
 go_enter Tryz.func172, Tryz.ntmps172
 go_upto_region 1 with fail
 go_loopw [8] (fun l wr => l = .int .i64 1 ∧ wr = w) (fun _ _ => 0)
 case atStart => exact ⟨rfl, rfl⟩
 case round =>
   obtain ⟨rfl, rfl⟩ := hrel
   go_wp2_with fail
   go_end0
   exact ⟨rfl, rfl⟩
def SortedB (w w' : World) (v : Value) (L : List UB) : Prop := ∃ M : List UB, M.Perm L ∧ Ord M.length M ∧ RowB w' v M ∧ Keeps (· ∈ own v) w w'
set_option maxHeartbeats 2000000 in
theorem sort78_any (L : List UB) (A : Option Addr) (c : Nat) (w : World) (hR : RowB w (.slice A L.length c) L) (hl : L.length ≤ 19) :
   Calls Tryz.prog 151 #[.slice A L.length c, .int .i64 (L.length : Int), .func (.func 101) #[] #[]] w fun e w' => e = .returned (.tuple #[]) ∧ SortedB w w' (.slice A L.length c) L := by
 have HI : Hid (Calls Tryz.prog 172 #[.slice A L.length c, .int .i64 0, .int .i64 (L.length : Int), .func (.func 101) #[] #[]] w fun e w' => e = .returned (.tuple #[]) ∧ SortedB w w' (.slice A L.length c) L) := Lib.hid (by
   by_cases h0 : L.length = 0
   · obtain rfl : L = [] := List.eq_nil_of_length_eq_zero h0
     refine (insertion114_none A c w).mono ?_
     rintro e w' ⟨rfl, hw⟩
     subst hw
     exact ⟨rfl, [], List.Perm.refl _, fun p q hp => absurd hp (by simp), hR, Keeps.refl _ _⟩
   · rcases hR.form with ⟨-, e⟩ | ⟨g, cap, cur, e1, -⟩
     · rw [e] at h0; exact (h0 rfl).elim
     · injection e1 with e1 _ e2
       subst e1 e2
       refine (insertion114_any L g c w hR (by omega)).mono ?_
       rintro e w' ⟨rfl, M, h1, h2, h3, h4⟩
       refine ⟨rfl, M, h1, h2, ?_, h4.mono fun k e => by unfold Only at e; rw [own_slice, List.mem_singleton]; exact e⟩
       rw [h1.length_eq] at h3
       exact h3)
 generalize SortedB w = SB at HI ⊢
 obtain ⟨n, hn⟩ : ∃ n, n = L.length := ⟨_, rfl⟩
 rw [← hn] at HI hl ⊢
 clear hn hR
 go_enter Tryz.func151, Tryz.ntmps151
 go_upto_region 2 with fail
 go_loopw [7, 8] (fun a b wr => a = .int .i64 0 ∧ b = .int .i64 20 ∧ wr = w) (fun _ _ _ => 0)
 case atStart => exact ⟨rfl, rfl, rfl⟩
 case round =>
   obtain ⟨rfl, rfl, rfl⟩ := hrel
   have hd : decide ((20 : Int) ≤ (n : Int)) = false := decide_eq_false (by omega)
   go_upto_region 7 with (go_at_call 172; go_must (refine HI.out.mono ?_); rintro e w2 ⟨rfl, hS⟩)
   go_loopw [6] (fun b wq => b = .int .i64 20 ∧ wq = w2) (fun _ _ => 0)
   case atStart => exact ⟨rfl, rfl⟩
   case round =>
     obtain ⟨rfl, rfl⟩ := hrel
     have hd2 : decide ((20 : Int) < (n : Int)) = false := decide_eq_false (by omega)
     go_wp2_with fail
     go_end0
     exact ⟨rfl, hS⟩
set_option maxHeartbeats 2000000 in
theorem sort38_any (L : List UB) (A : Option Addr) (c : Nat) (w : World) (hR : RowB w (.slice A L.length c) L) (hl : L.length ≤ 19) :
   Calls Tryz.prog 100 #[.slice A L.length c, .func (.func 101) #[] #[]] w fun e w' => e = .returned (.tuple #[]) ∧ SortedB w w' (.slice A L.length c) L := by
 have HI := Lib.hid (sort78_any L A c w hR hl)
 generalize SortedB w = SB at HI ⊢
 clear hR
 go_enter Tryz.func100, Tryz.ntmps100
 go_wp2_with (go_at_call 151; go_must (refine HI.out.mono ?_); rintro e w2 ⟨rfl, hS⟩)
 go_end0
 exact ⟨rfl, hS⟩
theorem nodup_len {α : Type} [DecidableEq α] : ∀ (M B : List α), M.Nodup → (∀ u ∈ M, u ∈ B) → M.length ≤ B.length
 | [], B, _, _ => Nat.zero_le _
 | u :: M, B, hn, hs => by
   rw [List.nodup_cons] at hn
   have hu : u ∈ B := hs u (List.mem_cons_self ..)
   have := nodup_len M (B.erase u) hn.2 (fun v hv => by
     have h1 := hs v (List.mem_cons_of_mem _ hv)
     exact (List.mem_erase_of_ne (show v ≠ u from fun e => hn.1 (e ▸ hv))).2 h1)
   rw [List.length_erase_of_mem hu] at this
   have := List.length_pos_of_mem hu
   rw [List.length_cons]
   omega
end Go.Proofs.YtolknnmaadkgiaaGreatDoor
