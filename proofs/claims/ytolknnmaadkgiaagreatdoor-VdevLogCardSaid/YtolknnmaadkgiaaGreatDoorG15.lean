/- A sector of the log read. -/
import Derived.Test.YtolknnmaadkgiaaGreatDoorG13
set_option linter.unusedVariables false
set_option linter.unusedSimpArgs false
namespace Go.Proofs.YtolknnmaadkgiaaGreatDoor
set_option maxRecDepth 100000
open Go.RowKit Go.Uc
def LogOk (c : List UInt8) : Prop := sumAt c 0 = fl (c.drop 32) ∧ 1 ≤ n8 c 32 ∧ n8 c 32 ≤ 281474976710656
section
variable {w0 w : World} {lf : Nat} {K : Kb} {s : Dsk} {wv : Sl} {x : Lb} {tA : Option Addr} {tc : Nat}
set_option maxHeartbeats 8000000 in
theorem logRead15_any (h : Lm w0 w lf K s wv x tA tc) (ho : s.off = false) (hn : 324 ≤ s.n) (at_ : Nat) (ha : at_ < 256) (c : List UInt8) (hc : secs s.now (18 + at_) 1 = c) :
   Calls Tryz.prog 66 #[.pointer (some ⟨lf, 0, none⟩), .int .i64 (at_ : Int)] w fun e w' => ((LogOk c ∧ ∃ b, e = .returned (.tuple #[.int .u64 (n8 c 32 : Int), .slice (some ⟨b, 0, none⟩) 88 88, .bool true]) ∧ Blk w' b 5 (pc ((c.drop 40).take 88)) ∧ w.heap.size ≤ b) ∨ (¬ LogOk c ∧ e = .returned (.tuple #[.int .u64 0, .slice none 0 0, .bool false]))) ∧ Keeps Non w w' := by
 have hp : ∀ (tmps : Array Value) (W : World), (results Tryz.f66 tmps).run Tryz.prog W = .ok (.tuple #[tmps.getD 4 undef, tmps.getD 5 undef, tmps.getD 6 undef]) W := fun tmps W => by simp [results, show Tryz.f66.results = #[.tmp 4, .tmp 5, .tmp 6] from rfl]
 have hcl : c.length = 128 := by rw [← hc, secs_len h.dm.ok.nw (by omega)]
 have hr8 := h.dm.ok.n2
 have HRd : Hid (Calls Tryz.prog 77 #[.pointer (some ⟨K.d, 0, none⟩), .int .i64 ((18 : Int) + (at_ : Int)), .int .i64 1] w fun e w' => ∃ b, e = .returned (.tuple #[.slice (some ⟨b, 0, none⟩) 128 128, .int .i64 0]) ∧ Blk w' b 5 (pc c) ∧ w.heap.size ≤ b ∧ Keeps Non w w') := Lib.hid (by
   have := read35_ok h.dm ho (18 + at_) 1 (by omega) (by omega)
   rw [hc, show ((18 + at_ : Nat) : Int) = (18 : Int) + (at_ : Int) by omega] at this
   exact this)
 have HNr : Hid (∀ (V : World) (b : Nat), Blk V b 5 (pc c) → Calls Tryz.prog 114 #[.slice (some ⟨b, 0, none⟩) 128 128] V fun e w' => ∃ g, e = .returned (.pointer (some ⟨g, 0, none⟩)) ∧ Rg V w' g c 0) := Lib.hid (fun V b hb => by
   have := newReader_any (some ⟨b, 0, none⟩) 128 c V (At.blk hb) (by omega)
   rw [hcl] at this
   exact this)
 have HNm : Hid (∀ (V0 V : World) (g k : Nat), Rg V0 V g c k → k + 8 ≤ 128 → Calls Tryz.prog 115 #[.pointer (some ⟨g, 0, none⟩), .int .i64 8] V fun e w' => e = .returned (.int .u64 (n8 c k : Int)) ∧ Rg V0 w' g c (k + 8) ∧ Keeps (Only g) V w') := Lib.hid (fun V0 V g k hV hk => rnum49_any hV 8 (by decide) (by decide) (by omega))
 have HBy := Lib.hid (fun (V0 V : World) (g : Nat) (hV : Rg V0 V g c 40) => rbytes50_any hV 88 (by decide) (by omega))
 have HCk : Hid (∀ (V : World) (b : Nat) (r : Bool), Blk V b 5 (pc c) → (r = true ↔ sumAt c 0 = fl (c.drop 32)) → Calls Tryz.prog 117 #[.int .i64 1, .agg #[.int .u64 (n8 c 0 : Int), .int .u64 (n8 c 8 : Int), .int .u64 (n8 c 16 : Int), .int .u64 (n8 c 24 : Int)], .slice (some ⟨b, 32, none⟩) 96 96] V fun e w' => e = .returned (.bool r) ∧ Keeps Non V w') := Lib.hid (fun V b r hb hr => by
   have hA : At V (some ⟨b, 0 + 32, none⟩) (c.drop 32) := (At.blk hb).drop 32
   rw [Nat.zero_add] at hA
   have := checkS (sumAt c 0) (sumAt_ok _ _) (some ⟨b, 32, none⟩) 96 (c.drop 32) V hA (by rw [List.length_drop]; omega) (by rw [List.length_drop]; omega) r hr
   rw [List.length_drop, hcl] at this
   exact this)
 have d0 := h.d0
 obtain ⟨r, hr⟩ : ∃ r : Bool, (r = true ↔ sumAt c 0 = fl (c.drop 32)) := by
   by_cases hh : sumAt c 0 = fl (c.drop 32)
   · exact ⟨true, by simp [hh]⟩
   · exact ⟨false, by simp [hh]⟩
 have HO : Hid (LogOk c ↔ r = true ∧ 1 ≤ n8 c 32 ∧ n8 c 32 ≤ 281474976710656) := Lib.hid (by unfold LogOk; rw [hr])
 have HCr := Lib.hid (fun V b hb => HCk.out V b r hb hr)
 have hn32 := n8_lt c 32
 clear HCk hr h hc hcl
 generalize LogOk c = O at HO ⊢
 generalize (c.drop 40).take 88 = Y at HBy ⊢
 go_enter Tryz.func66, Tryz.ntmps66
 go_upto_region 6 with (go_at_call 77; go_must (refine HRd.out.mono ?_); rintro e w2 ⟨b, rfl, hB2, hb2, hK2⟩)
 have HN2 := Lib.hid (HNr.out w2 b hB2)
 go_upto_region 7 with (go_at_call 114; go_must (refine HN2.out.mono ?_); rintro e w3 ⟨g, rfl, hR3⟩)
 obtain ⟨hg0, hgs, hgl, hk3⟩ := hR3.base
 have hB3 := hB2.non hk3
 have hbg : b ≠ g := by have := hB2.lt; omega
 go_wp2_with fail
 refine (HNm.out _ _ g 0 hR3 (by decide)).mono ?_
 rintro e w4 ⟨rfl, hR4, hK4⟩
 go_wp2_with fail
 refine (HNm.out _ _ g 8 hR4 (by decide)).mono ?_
 rintro e w5 ⟨rfl, hR5, hK5⟩
 go_wp2_with fail
 refine (HNm.out _ _ g 16 hR5 (by decide)).mono ?_
 rintro e w6 ⟨rfl, hR6, hK6⟩
 go_wp2_with fail
 refine (HNm.out _ _ g 24 hR6 (by decide)).mono ?_
 rintro e w7 ⟨rfl, hR7, hK7⟩
 have hK37 : Keeps (Only g) w3 w7 := ((hK4.trans hK5).trans hK6).trans hK7
 have hB7 := hB3.one hK37 hbg
 clear hK4 hK5 hK6 hK7 hR4 hR5 hR6 hB3
 generalize n8 c 0 = n0 at *
 generalize n8 c 8 = n1 at *
 generalize n8 c 16 = n2 at *
 generalize n8 c 24 = n3 at *
 have hS := Blk.new w7 56 #[.int .u64 (n0 : Int), .int .u64 (n1 : Int), .int .u64 (n2 : Int), .int .u64 (n3 : Int)]
 have hks := (Keeps.refl Non w7).alloc (.cells #[.int .u64 (n0 : Int), .int .u64 (n1 : Int), .int .u64 (n2 : Int), .int .u64 (n3 : Int)] 56)
 go_upto_region 8 with fail
 obtain ⟨w8, hw8⟩ : ∃ V : World, V = w7.alloc (.cells #[.int .u64 (n0 : Int), .int .u64 (n1 : Int), .int .u64 (n2 : Int), .int .u64 (n3 : Int)] 56) := ⟨_, rfl⟩
 rw [← hw8] at hS hks ⊢
 clear hw8
 obtain ⟨ps, hps⟩ : ∃ z, z = w7.heap.size := ⟨_, rfl⟩
 rw [← hps] at hS ⊢
 have hpsg : ps ≠ g := by have := hR7.base; omega
 clear hps
 have hR8 := hR7.non hks
 have hB8 := hB7.non hks
 have HN8 := Lib.hid (HNm.out _ _ g 32 hR8 (by decide))
 go_upto_region 9 with (go_at_call 115; go_must (refine HN8.out.mono ?_); rintro e w9 ⟨rfl, hR9, hK9⟩)
 have HB9 := Lib.hid (HBy.out _ _ g hR9)
 go_upto_region 10 with (go_at_call 116; go_must (refine HB9.out.mono ?_); rintro e wa ⟨bb, rfl, hRa, hBb, hbb, hKa⟩)
 have hSa := (hS.one hK9 hpsg).one hKa hpsg
 have hBa := (hB8.one hK9 hbg).one hKa hbg
 have hK3a : Keeps (Only g) w3 wa := ((hK37.non hks).trans hK9).trans hKa
 have hgw : w.heap.size ≤ g := by have := hK2.size; omega
 have hKw : Keeps Non w wa := (hK2.non hk3).then hK3a fun i hi e => by unfold Only at e; omega
 have hbbw : w.heap.size ≤ bb := by have := (hK37.non hks).trans hK9; have := this.size; have := (hK2.non hk3).size; omega
 clear hK37 hks hK9 hKa hK3a hR7 hR8 hR9 hRa hB7 hB8 hS
 have hkd : Keeps Non wa wa.drew := (Keeps.refl Non wa).drew
 have z0 : wa.drew.cell? ⟨ps, 0, none⟩ = some (.int .u64 (n0 : Int)) := (hSa.non hkd).cell 0
 have z1 : wa.drew.cell? ⟨ps, 1, none⟩ = some (.int .u64 (n1 : Int)) := (hSa.non hkd).cell 1
 have z2 : wa.drew.cell? ⟨ps, 2, none⟩ = some (.int .u64 (n2 : Int)) := (hSa.non hkd).cell 2
 have z3 : wa.drew.cell? ⟨ps, 3, none⟩ = some (.int .u64 (n3 : Int)) := (hSa.non hkd).cell 3
 have FS1 : Hid (wa.drew.cell? ⟨ps, 0, none⟩ = some (.int .u64 (n0 : Int)) ∧ wa.drew.cell? ⟨ps, 1, none⟩ = some (.int .u64 (n1 : Int)) ∧ wa.drew.cell? ⟨ps, 2, none⟩ = some (.int .u64 (n2 : Int)) ∧ wa.drew.cell? ⟨ps, 3, none⟩ = some (.int .u64 (n3 : Int))) := Lib.hid ⟨z0, z1, z2, z3⟩
 have HSn := Lib.hid (fun V (hV : Keeps Non wa V) => hSa.non hV)
 clear z0 z1 z2 z3
 have HCa := Lib.hid (HCr.out wa.drew b (hBa.non hkd))
 generalize hnoe : n8 c 32 = no at *
 have HNO := Lib.hid hnoe
 clear hnoe
 cases r
 · skip
   refine wp_region_held_drew (S := fun w' : World => w'.cell? ⟨ps, 0, none⟩ = some (.int .u64 (n0 : Int)) ∧ w'.cell? ⟨ps, 1, none⟩ = some (.int .u64 (n1 : Int)) ∧ w'.cell? ⟨ps, 2, none⟩ = some (.int .u64 (n2 : Int)) ∧ w'.cell? ⟨ps, 3, none⟩ = some (.int .u64 (n3 : Int))) (by kernel_rfl) FS1.out (fun hH0 => ?_)
   refine wpAnyH_take (i := 0) (oi := ⟨some 46, _, _, _, _, _⟩) (v := .agg #[.int .u64 (n0 : Int), .int .u64 (n1 : Int), .int .u64 (n2 : Int), .int .u64 (n3 : Int)]) rfl (by kernel_rfl) (by kernel_rfl) (by kernel_rfl) (fun _ _ _ h => h) (Or.inl ⟨by kernel_rfl, by intro w' hw'; obtain ⟨hs0, hs1, hs2, hs3⟩ := hw'; go_simp⟩) (by assumption) ?_
   simp only [Act.put, List.setIfInBounds_toArray, List.set_cons_zero, List.set_cons_succ]
   refine wpAnyH_take (i := 1) (oi := ⟨some 47, _, _, _, _, _⟩) (v := .slice (some ⟨b, 0, none⟩) 128 128) rfl (by kernel_rfl) (by kernel_rfl) (by kernel_rfl) (fun _ _ _ h => h) (Or.inl ⟨by kernel_rfl, by intro w' hw'; obtain ⟨hs0, hs1, hs2, hs3⟩ := hw'; go_simp⟩) (by assumption) ?_
   simp only [Act.put, List.setIfInBounds_toArray, List.set_cons_zero, List.set_cons_succ]
   refine wpAnyH_take (i := 2) (oi := ⟨some 48, _, _, _, _, _⟩) (v := .slice (some ⟨b, 32, none⟩) 96 96) rfl (by kernel_rfl) (by kernel_rfl) (by kernel_rfl) (fun _ _ _ h => h) (Or.inl ⟨by kernel_rfl, by intro w' hw'; obtain ⟨hs0, hs1, hs2, hs3⟩ := hw'; go_simp⟩) (by assumption) ?_
   simp only [Act.put, List.setIfInBounds_toArray, List.set_cons_zero, List.set_cons_succ]
   refine wpAnyH_ready (rs := [3]) (by kernel_rfl) (by simp) ?_
   refine AllReadyH.cons (o := ⟨some 49, _, _, _, _, _⟩) rfl (fun K' hK' => ?_) AllReadyH.nil
   go_simp
   refine HCa.out.mono ?_
   rintro e wb ⟨rfl, hKb⟩
   have hSb := HSn.out wb (hkd.non hKb)
   have FS2 : Hid (wb.cell? ⟨ps, 0, none⟩ = some (.int .u64 (n0 : Int)) ∧ wb.cell? ⟨ps, 1, none⟩ = some (.int .u64 (n1 : Int)) ∧ wb.cell? ⟨ps, 2, none⟩ = some (.int .u64 (n2 : Int)) ∧ wb.cell? ⟨ps, 3, none⟩ = some (.int .u64 (n3 : Int))) := Lib.hid ⟨hSb.cell 0, hSb.cell 1, hSb.cell 2, hSb.cell 3⟩
   have hKb' := (hKw.non hkd).non hKb
   have hBb' := (hBb.non hkd).non hKb
   clear hSb
   refine hK'.out _ _ FS2.out (fun hH => ?_)
   clear hK'
   clear K'
   try simp only [Act.put, List.setIfInBounds_toArray, List.set_cons_zero, List.set_cons_succ]
   refine wpAnyH_ready (rs := [4]) (by kernel_rfl) (by simp) ?_
   refine AllReadyH.cons (o := ⟨some 50, _, _, _, _, _⟩) rfl (fun K' hK' => ?_) AllReadyH.nil
   go_simp
   refine hK'.out _ _ FS2.out (fun hH => ?_)
   clear hK'
   clear K'
   try simp only [Act.put, List.setIfInBounds_toArray, List.set_cons_zero, List.set_cons_succ]
   refine wpAnyH_ready (rs := [5]) (by kernel_rfl) (by simp) ?_
   refine AllReadyH.cons (o := ⟨some 51, _, _, _, _, _⟩) rfl (fun K' hK' => ?_) AllReadyH.nil
   go_simp
   refine hK'.out _ _ FS2.out (fun hH => ?_)
   clear hK'
   clear K'
   try simp only [Act.put, List.setIfInBounds_toArray, List.set_cons_zero, List.set_cons_succ]
   refine wpAnyH_ready (rs := [6]) (by kernel_rfl) (by simp) ?_
   refine AllReadyH.cons (o := ⟨some 52, _, _, _, _, _⟩) rfl (fun K' hK' => ?_) AllReadyH.nil
   go_simp
   refine hK'.out _ _ FS2.out (fun hH => ?_)
   clear hK'
   clear K'
   try simp only [Act.put, List.setIfInBounds_toArray, List.set_cons_zero, List.set_cons_succ]
   refine wpAnyH_ready (rs := [7]) (by kernel_rfl) (by simp) ?_
   refine AllReadyH.cons (o := ⟨some 53, _, _, _, _, _⟩) rfl (fun K' hK' => ?_) AllReadyH.nil
   go_simp
   refine hK'.out _ _ FS2.out (fun hH => ?_)
   clear hK'
   clear K'
   try simp only [Act.put, List.setIfInBounds_toArray, List.set_cons_zero, List.set_cons_succ]
   refine wpAnyH_ready (rs := [8]) (by kernel_rfl) (by simp) ?_
   refine AllReadyH.cons (o := ⟨some 54, _, _, _, _, _⟩) rfl (fun K' hK' => ?_) AllReadyH.nil
   go_simp
   refine hK'.out _ _ FS2.out (fun hH => ?_)
   clear hK'
   clear K'
   try simp only [Act.put, List.setIfInBounds_toArray, List.set_cons_zero, List.set_cons_succ]
   refine wpAnyH_ready (rs := [9]) (by kernel_rfl) (by simp) ?_
   refine AllReadyH.cons (o := ⟨some 55, _, _, _, _, _⟩) rfl (fun K' hK' => ?_) AllReadyH.nil
   go_simp
   refine hK'.out _ _ FS2.out (fun hH => ?_)
   clear hK'
   clear K'
   try simp only [Act.put, List.setIfInBounds_toArray, List.set_cons_zero, List.set_cons_succ]
   refine wpAnyH_ready (rs := [10]) (by kernel_rfl) (by simp) ?_
   refine AllReadyH.cons (o := ⟨some 56, _, _, _, _, _⟩) rfl (fun K' hK' => ?_) AllReadyH.nil
   go_simp
   refine hK'.out _ _ FS2.out (fun hH => ?_)
   clear hK'
   clear K'
   try simp only [Act.put, List.setIfInBounds_toArray, List.set_cons_zero, List.set_cons_succ]
   refine wpAnyH_ready (rs := [11]) (by kernel_rfl) (by simp) ?_
   refine AllReadyH.cons (o := ⟨some 57, _, _, _, _, _⟩) rfl (fun K' hK' => ?_) AllReadyH.nil
   go_simp
   refine hK'.out _ _ FS2.out (fun hH => ?_)
   clear hK'
   clear K'
   try simp only [Act.put, List.setIfInBounds_toArray, List.set_cons_zero, List.set_cons_succ]
   refine wpAnyH_ready (rs := [12]) (by kernel_rfl) (by simp) ?_
   refine AllReadyH.cons (o := ⟨some 58, _, _, _, _, _⟩) rfl (fun K' hK' => ?_) AllReadyH.nil
   go_simp
   refine hK'.out _ _ FS2.out (fun hH => ?_)
   clear hK'
   clear K'
   try simp only [Act.put, List.setIfInBounds_toArray, List.set_cons_zero, List.set_cons_succ]
   refine wpAnyH_done (by kernel_rfl) ?_ _
   go_wp2_with fail
   exact bodyPost_ret (hp _ _) rfl ⟨.inr ⟨fun hh => absurd (HO.out.1 hh).1 (by simp), rfl⟩, hKb'⟩
 · by_cases hno : 1 ≤ no ∧ no ≤ 281474976710656
   · have HOy : Hid O := Lib.hid (HO.out.2 ⟨rfl, hno⟩)
     have e1 : decide ((no : Int) < 1) = false := decide_eq_false (by omega)
     have e2 : decide ((281474976710656 : Int) < (no : Int)) = false := decide_eq_false (by omega)
     refine wp_region_held_drew (S := fun w' : World => w'.cell? ⟨ps, 0, none⟩ = some (.int .u64 (n0 : Int)) ∧ w'.cell? ⟨ps, 1, none⟩ = some (.int .u64 (n1 : Int)) ∧ w'.cell? ⟨ps, 2, none⟩ = some (.int .u64 (n2 : Int)) ∧ w'.cell? ⟨ps, 3, none⟩ = some (.int .u64 (n3 : Int))) (by kernel_rfl) FS1.out (fun hH0 => ?_)
     refine wpAnyH_take (i := 0) (oi := ⟨some 46, _, _, _, _, _⟩) (v := .agg #[.int .u64 (n0 : Int), .int .u64 (n1 : Int), .int .u64 (n2 : Int), .int .u64 (n3 : Int)]) rfl (by kernel_rfl) (by kernel_rfl) (by kernel_rfl) (fun _ _ _ h => h) (Or.inl ⟨by kernel_rfl, by intro w' hw'; obtain ⟨hs0, hs1, hs2, hs3⟩ := hw'; go_simp⟩) (by assumption) ?_
     simp only [Act.put, List.setIfInBounds_toArray, List.set_cons_zero, List.set_cons_succ]
     refine wpAnyH_take (i := 1) (oi := ⟨some 47, _, _, _, _, _⟩) (v := .slice (some ⟨b, 0, none⟩) 128 128) rfl (by kernel_rfl) (by kernel_rfl) (by kernel_rfl) (fun _ _ _ h => h) (Or.inl ⟨by kernel_rfl, by intro w' hw'; obtain ⟨hs0, hs1, hs2, hs3⟩ := hw'; go_simp⟩) (by assumption) ?_
     simp only [Act.put, List.setIfInBounds_toArray, List.set_cons_zero, List.set_cons_succ]
     refine wpAnyH_take (i := 2) (oi := ⟨some 48, _, _, _, _, _⟩) (v := .slice (some ⟨b, 32, none⟩) 96 96) rfl (by kernel_rfl) (by kernel_rfl) (by kernel_rfl) (fun _ _ _ h => h) (Or.inl ⟨by kernel_rfl, by intro w' hw'; obtain ⟨hs0, hs1, hs2, hs3⟩ := hw'; go_simp⟩) (by assumption) ?_
     simp only [Act.put, List.setIfInBounds_toArray, List.set_cons_zero, List.set_cons_succ]
     refine wpAnyH_ready (rs := [3]) (by kernel_rfl) (by simp) ?_
     refine AllReadyH.cons (o := ⟨some 49, _, _, _, _, _⟩) rfl (fun K' hK' => ?_) AllReadyH.nil
     go_simp
     refine HCa.out.mono ?_
     rintro e wb ⟨rfl, hKb⟩
     have hSb := HSn.out wb (hkd.non hKb)
     have FS2 : Hid (wb.cell? ⟨ps, 0, none⟩ = some (.int .u64 (n0 : Int)) ∧ wb.cell? ⟨ps, 1, none⟩ = some (.int .u64 (n1 : Int)) ∧ wb.cell? ⟨ps, 2, none⟩ = some (.int .u64 (n2 : Int)) ∧ wb.cell? ⟨ps, 3, none⟩ = some (.int .u64 (n3 : Int))) := Lib.hid ⟨hSb.cell 0, hSb.cell 1, hSb.cell 2, hSb.cell 3⟩
     have hKb' := (hKw.non hkd).non hKb
     have hBb' := (hBb.non hkd).non hKb
     clear hSb
     refine hK'.out _ _ FS2.out (fun hH => ?_)
     clear hK'
     clear K'
     try simp only [Act.put, List.setIfInBounds_toArray, List.set_cons_zero, List.set_cons_succ]
     refine wpAnyH_ready (rs := [4]) (by kernel_rfl) (by simp) ?_
     refine AllReadyH.cons (o := ⟨some 50, _, _, _, _, _⟩) rfl (fun K' hK' => ?_) AllReadyH.nil
     go_simp
     refine hK'.out _ _ FS2.out (fun hH => ?_)
     clear hK'
     clear K'
     try simp only [Act.put, List.setIfInBounds_toArray, List.set_cons_zero, List.set_cons_succ]
     refine wpAnyH_ready (rs := [5]) (by kernel_rfl) (by simp) ?_
     refine AllReadyH.cons (o := ⟨some 51, _, _, _, _, _⟩) rfl (fun K' hK' => ?_) AllReadyH.nil
     go_simp
     refine hK'.out _ _ FS2.out (fun hH => ?_)
     clear hK'
     clear K'
     try simp only [Act.put, List.setIfInBounds_toArray, List.set_cons_zero, List.set_cons_succ]
     refine wpAnyH_ready (rs := [6]) (by kernel_rfl) (by simp) ?_
     refine AllReadyH.cons (o := ⟨some 52, _, _, _, _, _⟩) rfl (fun K' hK' => ?_) AllReadyH.nil
     go_simp
     refine hK'.out _ _ FS2.out (fun hH => ?_)
     clear hK'
     clear K'
     try simp only [Act.put, List.setIfInBounds_toArray, List.set_cons_zero, List.set_cons_succ]
     refine wpAnyH_ready (rs := [7]) (by kernel_rfl) (by simp) ?_
     refine AllReadyH.cons (o := ⟨some 53, _, _, _, _, _⟩) rfl (fun K' hK' => ?_) AllReadyH.nil
     go_simp
     refine hK'.out _ _ FS2.out (fun hH => ?_)
     clear hK'
     clear K'
     try simp only [Act.put, List.setIfInBounds_toArray, List.set_cons_zero, List.set_cons_succ]
     refine wpAnyH_ready (rs := [8]) (by kernel_rfl) (by simp) ?_
     refine AllReadyH.cons (o := ⟨some 54, _, _, _, _, _⟩) rfl (fun K' hK' => ?_) AllReadyH.nil
     go_simp
     refine hK'.out _ _ FS2.out (fun hH => ?_)
     clear hK'
     clear K'
     try simp only [Act.put, List.setIfInBounds_toArray, List.set_cons_zero, List.set_cons_succ]
     refine wpAnyH_ready (rs := [9]) (by kernel_rfl) (by simp) ?_
     refine AllReadyH.cons (o := ⟨some 55, _, _, _, _, _⟩) rfl (fun K' hK' => ?_) AllReadyH.nil
     go_simp
     refine hK'.out _ _ FS2.out (fun hH => ?_)
     clear hK'
     clear K'
     try simp only [Act.put, List.setIfInBounds_toArray, List.set_cons_zero, List.set_cons_succ]
     refine wpAnyH_ready (rs := [10]) (by kernel_rfl) (by simp) ?_
     refine AllReadyH.cons (o := ⟨some 56, _, _, _, _, _⟩) rfl (fun K' hK' => ?_) AllReadyH.nil
     go_simp
     refine hK'.out _ _ FS2.out (fun hH => ?_)
     clear hK'
     clear K'
     try simp only [Act.put, List.setIfInBounds_toArray, List.set_cons_zero, List.set_cons_succ]
     refine wpAnyH_ready (rs := [11]) (by kernel_rfl) (by simp) ?_
     refine AllReadyH.cons (o := ⟨some 57, _, _, _, _, _⟩) rfl (fun K' hK' => ?_) AllReadyH.nil
     go_simp
     refine hK'.out _ _ FS2.out (fun hH => ?_)
     clear hK'
     clear K'
     try simp only [Act.put, List.setIfInBounds_toArray, List.set_cons_zero, List.set_cons_succ]
     refine wpAnyH_ready (rs := [12]) (by kernel_rfl) (by simp) ?_
     refine AllReadyH.cons (o := ⟨some 58, _, _, _, _, _⟩) rfl (fun K' hK' => ?_) AllReadyH.nil
     go_simp
     refine hK'.out _ _ FS2.out (fun hH => ?_)
     clear hK'
     clear K'
     try simp only [Act.put, List.setIfInBounds_toArray, List.set_cons_zero, List.set_cons_succ]
     refine wpAnyH_done (by kernel_rfl) ?_ _
     go_wp2_with fail
     exact bodyPost_ret (hp _ _) rfl ⟨.inl ⟨HOy.out, bb, by rw [HNO.out]; rfl, hBb', hbbw⟩, hKb'⟩
   · have hO : Hid (¬ O) := Lib.hid (fun hh => hno (HO.out.1 hh).2)
     by_cases hno1 : no < 1
     · have e1 : decide ((no : Int) < 1) = true := decide_eq_true (by omega)
       refine wp_region_held_drew (S := fun w' : World => w'.cell? ⟨ps, 0, none⟩ = some (.int .u64 (n0 : Int)) ∧ w'.cell? ⟨ps, 1, none⟩ = some (.int .u64 (n1 : Int)) ∧ w'.cell? ⟨ps, 2, none⟩ = some (.int .u64 (n2 : Int)) ∧ w'.cell? ⟨ps, 3, none⟩ = some (.int .u64 (n3 : Int))) (by kernel_rfl) FS1.out (fun hH0 => ?_)
       refine wpAnyH_take (i := 0) (oi := ⟨some 46, _, _, _, _, _⟩) (v := .agg #[.int .u64 (n0 : Int), .int .u64 (n1 : Int), .int .u64 (n2 : Int), .int .u64 (n3 : Int)]) rfl (by kernel_rfl) (by kernel_rfl) (by kernel_rfl) (fun _ _ _ h => h) (Or.inl ⟨by kernel_rfl, by intro w' hw'; obtain ⟨hs0, hs1, hs2, hs3⟩ := hw'; go_simp⟩) (by assumption) ?_
       simp only [Act.put, List.setIfInBounds_toArray, List.set_cons_zero, List.set_cons_succ]
       refine wpAnyH_take (i := 1) (oi := ⟨some 47, _, _, _, _, _⟩) (v := .slice (some ⟨b, 0, none⟩) 128 128) rfl (by kernel_rfl) (by kernel_rfl) (by kernel_rfl) (fun _ _ _ h => h) (Or.inl ⟨by kernel_rfl, by intro w' hw'; obtain ⟨hs0, hs1, hs2, hs3⟩ := hw'; go_simp⟩) (by assumption) ?_
       simp only [Act.put, List.setIfInBounds_toArray, List.set_cons_zero, List.set_cons_succ]
       refine wpAnyH_take (i := 2) (oi := ⟨some 48, _, _, _, _, _⟩) (v := .slice (some ⟨b, 32, none⟩) 96 96) rfl (by kernel_rfl) (by kernel_rfl) (by kernel_rfl) (fun _ _ _ h => h) (Or.inl ⟨by kernel_rfl, by intro w' hw'; obtain ⟨hs0, hs1, hs2, hs3⟩ := hw'; go_simp⟩) (by assumption) ?_
       simp only [Act.put, List.setIfInBounds_toArray, List.set_cons_zero, List.set_cons_succ]
       refine wpAnyH_ready (rs := [3]) (by kernel_rfl) (by simp) ?_
       refine AllReadyH.cons (o := ⟨some 49, _, _, _, _, _⟩) rfl (fun K' hK' => ?_) AllReadyH.nil
       go_simp
       refine HCa.out.mono ?_
       rintro e wb ⟨rfl, hKb⟩
       have hSb := HSn.out wb (hkd.non hKb)
       have FS2 : Hid (wb.cell? ⟨ps, 0, none⟩ = some (.int .u64 (n0 : Int)) ∧ wb.cell? ⟨ps, 1, none⟩ = some (.int .u64 (n1 : Int)) ∧ wb.cell? ⟨ps, 2, none⟩ = some (.int .u64 (n2 : Int)) ∧ wb.cell? ⟨ps, 3, none⟩ = some (.int .u64 (n3 : Int))) := Lib.hid ⟨hSb.cell 0, hSb.cell 1, hSb.cell 2, hSb.cell 3⟩
       have hKb' := (hKw.non hkd).non hKb
       have hBb' := (hBb.non hkd).non hKb
       clear hSb
       refine hK'.out _ _ FS2.out (fun hH => ?_)
       clear hK'
       clear K'
       try simp only [Act.put, List.setIfInBounds_toArray, List.set_cons_zero, List.set_cons_succ]
       refine wpAnyH_ready (rs := [4]) (by kernel_rfl) (by simp) ?_
       refine AllReadyH.cons (o := ⟨some 50, _, _, _, _, _⟩) rfl (fun K' hK' => ?_) AllReadyH.nil
       go_simp
       refine hK'.out _ _ FS2.out (fun hH => ?_)
       clear hK'
       clear K'
       try simp only [Act.put, List.setIfInBounds_toArray, List.set_cons_zero, List.set_cons_succ]
       refine wpAnyH_ready (rs := [5]) (by kernel_rfl) (by simp) ?_
       refine AllReadyH.cons (o := ⟨some 51, _, _, _, _, _⟩) rfl (fun K' hK' => ?_) AllReadyH.nil
       go_simp
       refine hK'.out _ _ FS2.out (fun hH => ?_)
       clear hK'
       clear K'
       try simp only [Act.put, List.setIfInBounds_toArray, List.set_cons_zero, List.set_cons_succ]
       refine wpAnyH_ready (rs := [6]) (by kernel_rfl) (by simp) ?_
       refine AllReadyH.cons (o := ⟨some 52, _, _, _, _, _⟩) rfl (fun K' hK' => ?_) AllReadyH.nil
       go_simp
       refine hK'.out _ _ FS2.out (fun hH => ?_)
       clear hK'
       clear K'
       try simp only [Act.put, List.setIfInBounds_toArray, List.set_cons_zero, List.set_cons_succ]
       refine wpAnyH_ready (rs := [7]) (by kernel_rfl) (by simp) ?_
       refine AllReadyH.cons (o := ⟨some 53, _, _, _, _, _⟩) rfl (fun K' hK' => ?_) AllReadyH.nil
       go_simp
       refine hK'.out _ _ FS2.out (fun hH => ?_)
       clear hK'
       clear K'
       try simp only [Act.put, List.setIfInBounds_toArray, List.set_cons_zero, List.set_cons_succ]
       refine wpAnyH_ready (rs := [8]) (by kernel_rfl) (by simp) ?_
       refine AllReadyH.cons (o := ⟨some 54, _, _, _, _, _⟩) rfl (fun K' hK' => ?_) AllReadyH.nil
       go_simp
       refine hK'.out _ _ FS2.out (fun hH => ?_)
       clear hK'
       clear K'
       try simp only [Act.put, List.setIfInBounds_toArray, List.set_cons_zero, List.set_cons_succ]
       refine wpAnyH_ready (rs := [9]) (by kernel_rfl) (by simp) ?_
       refine AllReadyH.cons (o := ⟨some 55, _, _, _, _, _⟩) rfl (fun K' hK' => ?_) AllReadyH.nil
       go_simp
       refine hK'.out _ _ FS2.out (fun hH => ?_)
       clear hK'
       clear K'
       try simp only [Act.put, List.setIfInBounds_toArray, List.set_cons_zero, List.set_cons_succ]
       refine wpAnyH_ready (rs := [10]) (by kernel_rfl) (by simp) ?_
       refine AllReadyH.cons (o := ⟨some 56, _, _, _, _, _⟩) rfl (fun K' hK' => ?_) AllReadyH.nil
       go_simp
       refine hK'.out _ _ FS2.out (fun hH => ?_)
       clear hK'
       clear K'
       try simp only [Act.put, List.setIfInBounds_toArray, List.set_cons_zero, List.set_cons_succ]
       refine wpAnyH_ready (rs := [11]) (by kernel_rfl) (by simp) ?_
       refine AllReadyH.cons (o := ⟨some 57, _, _, _, _, _⟩) rfl (fun K' hK' => ?_) AllReadyH.nil
       go_simp
       refine hK'.out _ _ FS2.out (fun hH => ?_)
       clear hK'
       clear K'
       try simp only [Act.put, List.setIfInBounds_toArray, List.set_cons_zero, List.set_cons_succ]
       refine wpAnyH_ready (rs := [12]) (by kernel_rfl) (by simp) ?_
       refine AllReadyH.cons (o := ⟨some 58, _, _, _, _, _⟩) rfl (fun K' hK' => ?_) AllReadyH.nil
       go_simp
       refine hK'.out _ _ FS2.out (fun hH => ?_)
       clear hK'
       clear K'
       try simp only [Act.put, List.setIfInBounds_toArray, List.set_cons_zero, List.set_cons_succ]
       refine wpAnyH_done (by kernel_rfl) ?_ _
       go_wp2_with fail
       exact bodyPost_ret (hp _ _) rfl ⟨.inr ⟨hO.out, rfl⟩, hKb'⟩
     · have e1 : decide ((no : Int) < 1) = false := decide_eq_false (by omega)
       have e2 : decide ((281474976710656 : Int) < (no : Int)) = true := decide_eq_true (by omega)
       refine wp_region_held_drew (S := fun w' : World => w'.cell? ⟨ps, 0, none⟩ = some (.int .u64 (n0 : Int)) ∧ w'.cell? ⟨ps, 1, none⟩ = some (.int .u64 (n1 : Int)) ∧ w'.cell? ⟨ps, 2, none⟩ = some (.int .u64 (n2 : Int)) ∧ w'.cell? ⟨ps, 3, none⟩ = some (.int .u64 (n3 : Int))) (by kernel_rfl) FS1.out (fun hH0 => ?_)
       refine wpAnyH_take (i := 0) (oi := ⟨some 46, _, _, _, _, _⟩) (v := .agg #[.int .u64 (n0 : Int), .int .u64 (n1 : Int), .int .u64 (n2 : Int), .int .u64 (n3 : Int)]) rfl (by kernel_rfl) (by kernel_rfl) (by kernel_rfl) (fun _ _ _ h => h) (Or.inl ⟨by kernel_rfl, by intro w' hw'; obtain ⟨hs0, hs1, hs2, hs3⟩ := hw'; go_simp⟩) (by assumption) ?_
       simp only [Act.put, List.setIfInBounds_toArray, List.set_cons_zero, List.set_cons_succ]
       refine wpAnyH_take (i := 1) (oi := ⟨some 47, _, _, _, _, _⟩) (v := .slice (some ⟨b, 0, none⟩) 128 128) rfl (by kernel_rfl) (by kernel_rfl) (by kernel_rfl) (fun _ _ _ h => h) (Or.inl ⟨by kernel_rfl, by intro w' hw'; obtain ⟨hs0, hs1, hs2, hs3⟩ := hw'; go_simp⟩) (by assumption) ?_
       simp only [Act.put, List.setIfInBounds_toArray, List.set_cons_zero, List.set_cons_succ]
       refine wpAnyH_take (i := 2) (oi := ⟨some 48, _, _, _, _, _⟩) (v := .slice (some ⟨b, 32, none⟩) 96 96) rfl (by kernel_rfl) (by kernel_rfl) (by kernel_rfl) (fun _ _ _ h => h) (Or.inl ⟨by kernel_rfl, by intro w' hw'; obtain ⟨hs0, hs1, hs2, hs3⟩ := hw'; go_simp⟩) (by assumption) ?_
       simp only [Act.put, List.setIfInBounds_toArray, List.set_cons_zero, List.set_cons_succ]
       refine wpAnyH_ready (rs := [3]) (by kernel_rfl) (by simp) ?_
       refine AllReadyH.cons (o := ⟨some 49, _, _, _, _, _⟩) rfl (fun K' hK' => ?_) AllReadyH.nil
       go_simp
       refine HCa.out.mono ?_
       rintro e wb ⟨rfl, hKb⟩
       have hSb := HSn.out wb (hkd.non hKb)
       have FS2 : Hid (wb.cell? ⟨ps, 0, none⟩ = some (.int .u64 (n0 : Int)) ∧ wb.cell? ⟨ps, 1, none⟩ = some (.int .u64 (n1 : Int)) ∧ wb.cell? ⟨ps, 2, none⟩ = some (.int .u64 (n2 : Int)) ∧ wb.cell? ⟨ps, 3, none⟩ = some (.int .u64 (n3 : Int))) := Lib.hid ⟨hSb.cell 0, hSb.cell 1, hSb.cell 2, hSb.cell 3⟩
       have hKb' := (hKw.non hkd).non hKb
       have hBb' := (hBb.non hkd).non hKb
       clear hSb
       refine hK'.out _ _ FS2.out (fun hH => ?_)
       clear hK'
       clear K'
       try simp only [Act.put, List.setIfInBounds_toArray, List.set_cons_zero, List.set_cons_succ]
       refine wpAnyH_ready (rs := [4]) (by kernel_rfl) (by simp) ?_
       refine AllReadyH.cons (o := ⟨some 50, _, _, _, _, _⟩) rfl (fun K' hK' => ?_) AllReadyH.nil
       go_simp
       refine hK'.out _ _ FS2.out (fun hH => ?_)
       clear hK'
       clear K'
       try simp only [Act.put, List.setIfInBounds_toArray, List.set_cons_zero, List.set_cons_succ]
       refine wpAnyH_ready (rs := [5]) (by kernel_rfl) (by simp) ?_
       refine AllReadyH.cons (o := ⟨some 51, _, _, _, _, _⟩) rfl (fun K' hK' => ?_) AllReadyH.nil
       go_simp
       refine hK'.out _ _ FS2.out (fun hH => ?_)
       clear hK'
       clear K'
       try simp only [Act.put, List.setIfInBounds_toArray, List.set_cons_zero, List.set_cons_succ]
       refine wpAnyH_ready (rs := [6]) (by kernel_rfl) (by simp) ?_
       refine AllReadyH.cons (o := ⟨some 52, _, _, _, _, _⟩) rfl (fun K' hK' => ?_) AllReadyH.nil
       go_simp
       refine hK'.out _ _ FS2.out (fun hH => ?_)
       clear hK'
       clear K'
       try simp only [Act.put, List.setIfInBounds_toArray, List.set_cons_zero, List.set_cons_succ]
       refine wpAnyH_ready (rs := [7]) (by kernel_rfl) (by simp) ?_
       refine AllReadyH.cons (o := ⟨some 53, _, _, _, _, _⟩) rfl (fun K' hK' => ?_) AllReadyH.nil
       go_simp
       refine hK'.out _ _ FS2.out (fun hH => ?_)
       clear hK'
       clear K'
       try simp only [Act.put, List.setIfInBounds_toArray, List.set_cons_zero, List.set_cons_succ]
       refine wpAnyH_ready (rs := [8]) (by kernel_rfl) (by simp) ?_
       refine AllReadyH.cons (o := ⟨some 54, _, _, _, _, _⟩) rfl (fun K' hK' => ?_) AllReadyH.nil
       go_simp
       refine hK'.out _ _ FS2.out (fun hH => ?_)
       clear hK'
       clear K'
       try simp only [Act.put, List.setIfInBounds_toArray, List.set_cons_zero, List.set_cons_succ]
       refine wpAnyH_ready (rs := [9]) (by kernel_rfl) (by simp) ?_
       refine AllReadyH.cons (o := ⟨some 55, _, _, _, _, _⟩) rfl (fun K' hK' => ?_) AllReadyH.nil
       go_simp
       refine hK'.out _ _ FS2.out (fun hH => ?_)
       clear hK'
       clear K'
       try simp only [Act.put, List.setIfInBounds_toArray, List.set_cons_zero, List.set_cons_succ]
       refine wpAnyH_ready (rs := [10]) (by kernel_rfl) (by simp) ?_
       refine AllReadyH.cons (o := ⟨some 56, _, _, _, _, _⟩) rfl (fun K' hK' => ?_) AllReadyH.nil
       go_simp
       refine hK'.out _ _ FS2.out (fun hH => ?_)
       clear hK'
       clear K'
       try simp only [Act.put, List.setIfInBounds_toArray, List.set_cons_zero, List.set_cons_succ]
       refine wpAnyH_ready (rs := [11]) (by kernel_rfl) (by simp) ?_
       refine AllReadyH.cons (o := ⟨some 57, _, _, _, _, _⟩) rfl (fun K' hK' => ?_) AllReadyH.nil
       go_simp
       refine hK'.out _ _ FS2.out (fun hH => ?_)
       clear hK'
       clear K'
       try simp only [Act.put, List.setIfInBounds_toArray, List.set_cons_zero, List.set_cons_succ]
       refine wpAnyH_ready (rs := [12]) (by kernel_rfl) (by simp) ?_
       refine AllReadyH.cons (o := ⟨some 58, _, _, _, _, _⟩) rfl (fun K' hK' => ?_) AllReadyH.nil
       go_simp
       refine hK'.out _ _ FS2.out (fun hH => ?_)
       clear hK'
       clear K'
       try simp only [Act.put, List.setIfInBounds_toArray, List.set_cons_zero, List.set_cons_succ]
       refine wpAnyH_done (by kernel_rfl) ?_ _
       go_wp2_with fail
       exact bodyPost_ret (hp _ _) rfl ⟨.inr ⟨hO.out, rfl⟩, hKb'⟩
end
end Go.Proofs.YtolknnmaadkgiaaGreatDoor
namespace Go.Proofs.YtolknnmaadkgiaaGreatDoor
set_option maxRecDepth 100000
open Go.RowKit Go.Uc
structure UB where
 pool : Nat
 txg : Nat
 note : Nat
 r : Pt
deriving DecidableEq
set_option maxHeartbeats 2000000 in
theorem eqlB (p t n : Nat) (r : Pt) (p' t' n' : Nat) (r' : Pt) (V : World) : (binOp .eql 63 (.agg #[.int .u64 (p : Int), .int .u64 (t : Int), .int .u64 (n : Int), .int .i64 (r.t : Int), .int .i64 (r.at_ : Int), .int .i64 (r.n : Int), .int .u64 (r.bi : Int), .int .i64 (r.k : Int), .int .u64 (r.s.a : Int), .int .u64 (r.s.b : Int), .int .u64 (r.s.c : Int), .int .u64 (r.s.d : Int)]) (.agg #[.int .u64 (p' : Int), .int .u64 (t' : Int), .int .u64 (n' : Int), .int .i64 (r'.t : Int), .int .i64 (r'.at_ : Int), .int .i64 (r'.n : Int), .int .u64 (r'.bi : Int), .int .i64 (r'.k : Int), .int .u64 (r'.s.a : Int), .int .u64 (r'.s.b : Int), .int .u64 (r'.s.c : Int), .int .u64 (r'.s.d : Int)])).run Tryz.prog V = .ok (.bool (decide ((⟨p, t, n, r⟩ : UB) = ⟨p', t', n', r'⟩))) V := by
 obtain ⟨a1, a2, a3, a4, a5, b1, b2, b3, b4⟩ := r
 obtain ⟨c1, c2, c3, c4, c5, d1, d2, d3, d4⟩ := r'
 go_simp
 simp only [Int.natCast_inj]
 iterate 12 (split; case isFalse h => simp [h])
 simp_all
end Go.Proofs.YtolknnmaadkgiaaGreatDoor
