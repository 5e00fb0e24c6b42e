/- LeafFlips, walked. -/
import Derived.Test.YtipbjiepfnjojaaGreatDoorL71
namespace Go.Proofs.YtipbjiepfnjojaaGreatDoor
set_option maxRecDepth 100000
open Go.RowKit Go.Uc

theorem keeps_cells {w w' : World} {g : Nat} {L : List Value} {n : Nat} (hL : n ≤ L.length) (hk : Keeps Non w w') {i : Nat} (h : w.cell? ⟨g, i, none⟩ = L[i]?) (hi : i < n) : w'.cell? ⟨g, i, none⟩ = L[i]? := by
  rw [List.getElem?_eq_getElem (by omega)] at h ⊢
  exact hk.cell h id
theorem zeros_put (k : Nat) (x : UInt8) : (zeros (k + 1)).set k x = zeros k ++ [x] := by
  unfold zeros
  rw [List.replicate_succ', List.set_append_right _ _ (by simp)]
  simp
set_option maxHeartbeats 16000000 in
theorem leafFlips_any (w : World) (at_ by_ : Int) (mask : UInt8) (log : Int) (ha1 : -9223372036854775808 ≤ at_) (ha2 : at_ ≤ 9223372036854775807) (hb1 : -9223372036854775808 ≤ by_) (hb2 : by_ ≤ 9223372036854775807) (hl1 : -9223372036854775808 ≤ log) (hl2 : log ≤ 9223372036854775807) :
    Calls Tryz.prog 5 #[.int .i64 at_, .int .i64 by_, .int .u8 (mask.toNat : Int), .int .i64 log] w fun e w' => e = .returned (.bool true) ∧ Keeps Non w w' := by
  have HAw := Lib.hid (awake6_any w)
  go_enter Tryz.func5, Tryz.ntmps5
  go_upto_region 2 with (go_at_call 6; go_must (refine HAw.out.mono ?_); rintro e w1 ⟨rfl, hK1⟩)
  clear HAw
  go_upto_region 3 with fail
  obtain ⟨hT, hL, hk2⟩ := two_new w1 #[.int .i64 1, .int .i64 1, .int .i64 330] #[.int .u64 9, .slice (some ⟨w1.heap.size, 0, none⟩) 1 1, .int .i64 0, .int .i64 0] 29 32
  obtain ⟨w2, hw2⟩ : ∃ V : World, V = (w1.alloc (.cells #[.int .i64 1, .int .i64 1, .int .i64 330] 29)).alloc (.cells #[.int .u64 9, .slice (some ⟨w1.heap.size, 0, none⟩) 1 1, .int .i64 0, .int .i64 0] 32) := ⟨_, rfl⟩
  rw [← hw2] at hT hL hk2 ⊢
  clear hw2
  obtain ⟨tb, htb⟩ : ∃ z, z = w1.heap.size := ⟨_, rfl⟩
  rw [← htb] at hT hL ⊢
  clear htb
  have HK2 := Lib.hid (hK1.non hk2)
  clear hk2 hK1
  have HBg : Hid (Calls Tryz.prog 7 #[.int .i64 330, .agg #[.int .u64 9, .slice (some ⟨tb, 0, none⟩) 1 1, .int .i64 0, .int .i64 0]] w2 fun e w' => ∃ X : Xb, e = .returned (.tuple #[.pointer (some ⟨X.xb, 0, none⟩), .bool true, .bool true]) ∧ X.x = lb1 9 330 ∧ FlA w2 X (fmt 330 (labelB (lb1 9 330))) 0 w') := Lib.hid (by
    refine (begun7_any 9 330 tb (by decide) (by decide) (by decide) hT).mono ?_
    rintro e w' ⟨xb, rfl, hB⟩
    obtain ⟨X, rfl, hXx, hP⟩ := hB.ph
    exact ⟨X, rfl, hXx, _, _, hP, Sm.start 330 9 (by decide) (by decide)⟩)
  have x0 : w2.cell? ⟨tb + 1, 0, none⟩ = some (.int .u64 9) := hL.cell 0
  have x1 : w2.cell? ⟨tb + 1, 1, none⟩ = some (.slice (some ⟨tb, 0, none⟩) 1 1) := hL.cell 1
  have x2 : w2.cell? ⟨tb + 1, 2, none⟩ = some (.int .i64 0) := hL.cell 2
  have x3 : w2.cell? ⟨tb + 1, 3, none⟩ = some (.int .i64 0) := hL.cell 3
  go_upto_region 6 with (go_at_call 7; go_must (refine HBg.out.mono ?_); rintro e w3 ⟨X, rfl, hXx, hA3⟩)
  have HXx := Lib.hid hXx
  clear hXx HBg x0 x1 x2 x3
  by_cases hr : (0 ≤ at_ ∧ at_ < 330) ∧ (0 ≤ by_ ∧ by_ ≤ 127) ∧ mask ≠ 0 ∧ 0 ≤ log ∧ log ≤ 255
  · obtain ⟨⟨r1, r2⟩, ⟨r3, r4⟩, r5, r6, r7⟩ := hr
    obtain ⟨a, rfl⟩ : ∃ a : Nat, at_ = (a : Int) := ⟨at_.toNat, by omega⟩
    obtain ⟨k, rfl⟩ : ∃ k : Nat, by_ = (k : Int) := ⟨by_.toNat, by omega⟩
    obtain ⟨l, rfl⟩ : ∃ l : Nat, log = (l : Int) := ⟨log.toNat, by omega⟩
    have ha : a < 330 := by omega
    have hk : k < 128 := by omega
    have hl : l < 256 := by omega
    have hm0 : mask.toNat ≠ 0 := fun h => r5 (UInt8.toNat_inj.1 h)
    have hm1 := mask.toNat_lt
    have HX5 := Lib.hid r5
    clear r1 r2 r3 r4 r5 r6 r7 ha1 ha2 hb1 hb2 hl1 hl2
    have d1 : decide ((a : Int) < 0) = false := decide_eq_false (by omega)
    have d2 : decide ((330 : Int) ≤ (a : Int)) = false := decide_eq_false (by omega)
    have d3 : decide ((k : Int) < 0) = false := decide_eq_false (by omega)
    have d4 : decide ((127 : Int) < (k : Int)) = false := decide_eq_false (by omega)
    have d5 : ((mask.toNat : Int) == 0) = false := by rw [beq_eq_false_iff_ne]; omega
    have d6 : decide ((l : Int) < 0) = false := decide_eq_false (by omega)
    have d7 : decide ((255 : Int) < (l : Int)) = false := decide_eq_false (by omega)
    go_upto_region 9 with fail
    clear d1 d2 d3 d4 d5 d6 d7
    have hU := Blk.new w3 47 #[.int .u64 9, .int .u64 7, .int .u64 3, .int .i64 0, .int .i64 0, .int .i64 0, .int .u64 0, .int .i64 0, .int .u64 0, .int .u64 0, .int .u64 0, .int .u64 0]
    have hk4 := (Keeps.refl Non w3).alloc (.cells #[.int .u64 9, .int .u64 7, .int .u64 3, .int .i64 0, .int .i64 0, .int .i64 0, .int .u64 0, .int .i64 0, .int .u64 0, .int .u64 0, .int .u64 0, .int .u64 0] 47)
    obtain ⟨w4, hw4⟩ : ∃ V : World, V = w3.alloc (.cells #[.int .u64 9, .int .u64 7, .int .u64 3, .int .i64 0, .int .i64 0, .int .i64 0, .int .u64 0, .int .i64 0, .int .u64 0, .int .u64 0, .int .u64 0, .int .u64 0] 47) := ⟨_, rfl⟩
    rw [← hw4] at hU hk4 ⊢
    clear hw4
    obtain ⟨ub, hub⟩ : ∃ z, z = w3.heap.size := ⟨_, rfl⟩
    rw [← hub] at hU ⊢
    clear hub
    have hA4 : FlA w2 X (fmt 330 (labelB (lb1 9 330))) 0 w4 := by
      obtain ⟨s, g, hP, hS⟩ := hA3
      exact ⟨s, g, hP.non hk4, hS⟩
    clear hA3 hk4
    -- Mark
    have hx2 := hA4.cells
    have hx2d : w4.drew.cell? ⟨X.xb, 2, none⟩ = some (.pointer (some ⟨X.lf, 0, none⟩)) := hx2
    have HR : Hid (Calls Tryz.prog 8 #[.pointer (some ⟨X.lf, 0, none⟩), .agg #[.int .u64 9, .int .u64 7, .int .u64 3, .int .i64 0, .int .i64 0, .int .i64 0, .int .u64 0, .int .i64 0, .int .u64 0, .int .u64 0, .int .u64 0, .int .u64 0]] w4.drew fun e w' => e = .returned (.int .i64 0) ∧ FlA w2 X (updL (fmt 330 (labelB (lb1 9 330))) (marks 330 7) (uberB 9 7 3)) 4 w' ∧ Kp w4 w') := Lib.hid (by
      refine (fl_mark HXx.out (wr := w4.drew) (by obtain ⟨s, g, hP, hS⟩ := hA4; exact ⟨s, g, hP.non (Keeps.refl Non w4).drew, hS⟩)).mono ?_
      rintro e w' ⟨h1, h2, h3⟩
      exact ⟨h1, h2, (Kp.of (Keeps.refl Non w4).drew).trans h3⟩)
    have u0 : w4.cell? ⟨ub, 0, none⟩ = some (.int .u64 9) := hU.cell 0
    have u1 : w4.cell? ⟨ub, 1, none⟩ = some (.int .u64 7) := hU.cell 1
    have u2 : w4.cell? ⟨ub, 2, none⟩ = some (.int .u64 3) := hU.cell 2
    have u3 : w4.cell? ⟨ub, 3, none⟩ = some (.int .i64 0) := hU.cell 3
    have u4 : w4.cell? ⟨ub, 4, none⟩ = some (.int .i64 0) := hU.cell 4
    have u5 : w4.cell? ⟨ub, 5, none⟩ = some (.int .i64 0) := hU.cell 5
    have u6 : w4.cell? ⟨ub, 6, none⟩ = some (.int .u64 0) := hU.cell 6
    have u7 : w4.cell? ⟨ub, 7, none⟩ = some (.int .i64 0) := hU.cell 7
    have u8 : w4.cell? ⟨ub, 8, none⟩ = some (.int .u64 0) := hU.cell 8
    have u9 : w4.cell? ⟨ub, 9, none⟩ = some (.int .u64 0) := hU.cell 9
    have u10 : w4.cell? ⟨ub, 10, none⟩ = some (.int .u64 0) := hU.cell 10
    have u11 : w4.cell? ⟨ub, 11, none⟩ = some (.int .u64 0) := hU.cell 11
    have v0 : w4.drew.cell? ⟨ub, 0, none⟩ = some (.int .u64 9) := hU.cell 0
    have v1 : w4.drew.cell? ⟨ub, 1, none⟩ = some (.int .u64 7) := hU.cell 1
    have v2 : w4.drew.cell? ⟨ub, 2, none⟩ = some (.int .u64 3) := hU.cell 2
    have v3 : w4.drew.cell? ⟨ub, 3, none⟩ = some (.int .i64 0) := hU.cell 3
    have v4 : w4.drew.cell? ⟨ub, 4, none⟩ = some (.int .i64 0) := hU.cell 4
    have v5 : w4.drew.cell? ⟨ub, 5, none⟩ = some (.int .i64 0) := hU.cell 5
    have v6 : w4.drew.cell? ⟨ub, 6, none⟩ = some (.int .u64 0) := hU.cell 6
    have v7 : w4.drew.cell? ⟨ub, 7, none⟩ = some (.int .i64 0) := hU.cell 7
    have v8 : w4.drew.cell? ⟨ub, 8, none⟩ = some (.int .u64 0) := hU.cell 8
    have v9 : w4.drew.cell? ⟨ub, 9, none⟩ = some (.int .u64 0) := hU.cell 9
    have v10 : w4.drew.cell? ⟨ub, 10, none⟩ = some (.int .u64 0) := hU.cell 10
    have v11 : w4.drew.cell? ⟨ub, 11, none⟩ = some (.int .u64 0) := hU.cell 11
    clear hA4
    go_cut [15] from 70 to 75 (fun v wc => v = .int .i64 0 ∧ FlA w2 X (updL (fmt 330 (labelB (lb1 9 330))) (marks 330 7) (uberB 9 7 3)) 4 wc ∧ Kp w4 wc)
    case first =>
      go_region_law (first
        | (go_simp; go_at_call 8; refine HR.out.mono ?_; rintro e w5 ⟨rfl, hA5, hp5⟩; go_must (have HF := Lib.hid (And.intro hA5 hp5); clear hA5 hp5)))
      all_goals
        go_wp2_with fail
        go_meet
        case rel => exact ⟨rfl, HF.out.1, HF.out.2⟩
    obtain ⟨rfl, hA5, hp5⟩ := hcut
    obtain ⟨w5, rfl⟩ : ∃ W : World, W = wc := ⟨_, rfl⟩
    clear hx2 hx2d HR u0 u1 u2 u3 u4 u5 u6 u7 u8 u9 u10 u11 v0 v1 v2 v3 v4 v5 v6 v7 v8 v9 v10 v11
    have hU5 := hp5 _ _ _ hU (by decide) (by decide) (by decide)
    clear hp5 hU
    -- LogWrite
    have hx2 := hA5.cells
    have hx2d : w5.drew.cell? ⟨X.xb, 2, none⟩ = some (.pointer (some ⟨X.lf, 0, none⟩)) := hx2
    have hx2a : (w5.alloc (.cells (pc (zeros 88)) 5)).cell? ⟨X.xb, 2, none⟩ = some (.pointer (some ⟨X.lf, 0, none⟩)) := ((Keeps.refl Non w5).alloc _).cell hx2 id
    have hmk : ∀ W : World, (Instr.makeSlice 55 (.int .i64 88) (.int .i64 88)).run Tryz.prog W = .ok (.slice (some ⟨W.heap.size, 0, none⟩) 88 88) (W.alloc (.cells (pc (zeros 88)) 5)) := made_bytes 88 (by omega)
    have HR := Lib.hid (fl_log l hl hA5)
    clear hA5
    go_upto_region 10 with fail
    go_cut [16] from 76 to 82 (fun v wc => v = .int .i64 0 ∧ FlA w2 X (flF l) 5 wc ∧ Kp w5 wc)
    case first =>
      go_region_law (first
        | (go_simp; go_at_call 13; refine HR.out.mono ?_; rintro e w6 ⟨rfl, hA6, hp6⟩; go_must (have HF := Lib.hid (And.intro hA6 hp6); clear hA6 hp6)))
      all_goals
        go_wp2_with fail
        go_meet
        case rel => exact ⟨rfl, HF.out.1, fun g t cs hb a b c => HF.out.2 g t cs hb a b c⟩
    obtain ⟨rfl, hA6, hp6⟩ := hcut
    obtain ⟨w6, rfl⟩ : ∃ W : World, W = wc := ⟨_, rfl⟩
    clear hx2 hx2d hx2a hmk HR
    have hU6 := hp6 _ _ _ hU5 (by decide) (by decide) (by decide)
    clear hp6 hU5
    -- Flush
    have hx2 := hA6.cells
    have HR := Lib.hid (fl_flush hA6)
    go_upto_region 12 with (go_at_call 9; go_must (refine HR.out.mono ?_); rintro e w7 ⟨rfl, hB7, hp7⟩)
    have hU7 := hp7 _ _ _ hU6 (by decide) (by decide) (by decide)
    clear hp7 hU6 hx2 HR hA6
    -- the mask
    go_upto_region 13 with (at_make; go_must (refine wpList_make_bytes rfl (.tmp 89) (.tmp 89) 55 rfl 5 Tryz.underlying55 info5 .i64 .i64 _ _ (k + 1) rfl rfl (by omega) (by omega) (by omega) ?_); intro w8 hM8 hk8)
    have hm8 : w8.cell? ⟨w7.heap.size, k, none⟩ = some (bv ((zeros (k + 1))[k]'(by rw [zeros_length]; omega))) := hM8.byte (by rw [zeros_length]; omega)
    have hf8 := hM8.frozen k
    have hki : (k : Int) < (k : Int) + 1 := by omega
    go_upto_region 14 with fail
    have hM9 : Blk (w8.setCell ⟨w7.heap.size, k, none⟩ (.int .u8 (mask.toNat : Int))) w7.heap.size 5 (pc (zeros k ++ [mask])) := by
      have := hM8.set k (bv mask)
      rw [set_pc, zeros_put] at this
      exact this
    have hk9 : Keeps Non w7 (w8.setCell ⟨w7.heap.size, k, none⟩ (.int .u8 (mask.toNat : Int))) := hk8.setNew (p := ⟨w7.heap.size, k, none⟩) (Nat.le_refl _) _
    obtain ⟨w9, hw9⟩ : ∃ V : World, V = w8.setCell ⟨w7.heap.size, k, none⟩ (.int .u8 (mask.toNat : Int)) := ⟨_, rfl⟩
    rw [← hw9] at hM9 hk9 ⊢
    clear hw9 hm8 hf8 hki hM8 hk8
    -- Corrupt
    have hx1 := (hB7.non hk9).cells
    have HR := Lib.hid (fl_turn hB7 a k mask ha hk hk9 hM9)
    have hU9 := hU7.non hk9
    obtain ⟨mb, hmb⟩ : ∃ z, z = w7.heap.size := ⟨_, rfl⟩
    rw [← hmb] at HR ⊢
    clear hmb
    go_upto_region 15 with (go_at_call 19; go_must (refine HR.out.mono ?_); rintro e w10 ⟨rfl, hB10, hp10⟩)
    have hU10 := hp10 _ _ _ hU9 (by decide) (by decide) (by decide)
    clear hx1 HR hp10 hU9 hU7 hB7 hk9 hM9
    -- Open
    have hx1 := hB10.cells
    have HR := Lib.hid (fl_open HXx.out hl hk HX5.out hB10)
    go_upto_region 16 with (go_at_call 17; go_must (refine HR.out.mono ?_); rintro e w11 ⟨lf, rfl, hO11, hk11⟩)
    have hU11 := hU10.non hk11
    clear hx1 HR hU10 hB10 hk11
    go_upto_region 18 with fail
    -- the label again
    have hL11 := hL.non hO11.keeps
    have hT11 := hT.non hO11.keeps
    have x0 : w11.cell? ⟨tb + 1, 0, none⟩ = some (.int .u64 9) := hL11.cell 0
    have x1 : w11.cell? ⟨tb + 1, 1, none⟩ = some (.slice (some ⟨tb, 0, none⟩) 1 1) := hL11.cell 1
    have x2 : w11.cell? ⟨tb + 1, 2, none⟩ = some (.int .i64 0) := hL11.cell 2
    have x3 : w11.cell? ⟨tb + 1, 3, none⟩ = some (.int .i64 0) := hL11.cell 3
    have y0 : w11.drew.cell? ⟨tb + 1, 0, none⟩ = some (.int .u64 9) := x0
    have y1 : w11.drew.cell? ⟨tb + 1, 1, none⟩ = some (.slice (some ⟨tb, 0, none⟩) 1 1) := x1
    have y2 : w11.drew.cell? ⟨tb + 1, 2, none⟩ = some (.int .i64 0) := x2
    have y3 : w11.drew.cell? ⟨tb + 1, 3, none⟩ = some (.int .i64 0) := x3
    have HR := Lib.hid (fl_label (hO11.non (Keeps.refl Non w11).drew))
    have HS : Hid (∀ (V : World) A c, Keeps Non w11.drew V → RowT V (.slice A 1 c) [⟨1, 1, 330⟩] → Calls Tryz.prog 20 #[.agg #[.int .u64 9, .slice A 1 c, .int .i64 0, .int .i64 0], .agg #[.int .u64 9, .slice (some ⟨tb, 0, none⟩) 1 1, .int .i64 0, .int .i64 0]] V fun e w' => e = .returned (.bool true) ∧ Keeps Non w11 w') := Lib.hid (fun V A c hV hR => (same20_one 9 330 A (some ⟨tb, 0, none⟩) c 1 hR (lb1_row ((hT11.non (Keeps.refl Non w11).drew).non hV))).mono fun e w' ⟨h1, h2⟩ => ⟨h1, ((Keeps.refl Non w11).drew.non hV).non h2⟩)
    clear hL11 hT11
    go_cut [22] from 132 to 135 (fun v wc => v = .bool true ∧ Keeps Non w11 wc)
    case first =>
      go_region_law (first
        | (go_simp; go_at_call 18; refine HR.out.mono ?_; rintro e w12 ⟨A2, c2, rfl, hR2, hk2⟩; go_must (have HS2 := Lib.hid (HS.out w12 A2 c2 hk2 hR2); have v0 := hk2.cell y0 id; have v1 := hk2.cell y1 id; have v2 := hk2.cell y2 id; have v3 := hk2.cell y3 id; clear hR2 hk2))
        | (go_simp; go_at_call 20; refine HS2.out.mono ?_; rintro e w13 ⟨rfl, hk13⟩; go_must (have HF := Lib.hid hk13; clear hk13)))
      all_goals
        go_wp2_with fail
        go_meet
        case rel => exact ⟨rfl, HF.out⟩
    obtain ⟨rfl, hk14⟩ := hcut
    obtain ⟨w14, rfl⟩ : ∃ W : World, W = wc := ⟨_, rfl⟩
    have hO14 := hO11.non hk14
    have hU14 := hU11.non hk14
    clear HR HS x0 x1 x2 x3 y0 y1 y2 y3 hO11 hU11 hk14
    -- Ubers
    have HR := Lib.hid (fl_ubers hl hk HX5.out hO14)
    go_upto_region 20 with (go_at_call 12; go_must (refine HR.out.mono ?_); rintro e w15 ⟨g, mc, rfl, hc15, hk15⟩)
    have hO15 := hO14.non hk15
    have hU15 := hU14.non hk15
    clear HR hO14 hU14 hk15
    have HR := Lib.hid (fl_logr hl hk HX5.out hO15)
    by_cases hal : a = 18 + l
    · have HR' : Hid (Calls Tryz.prog 15 #[.pointer (some ⟨lf, 0, none⟩), .int .i64 (l : Int)] w15 fun e w' => e = .returned (.tuple #[.int .u64 0, .slice none 0 0, .bool false]) ∧ Keeps Non w15 w') := Lib.hid (HR.out.mono fun e w' ⟨h, hk⟩ => by
        rcases h with ⟨-, h⟩ | ⟨h, -⟩
        · exact ⟨h, hk⟩
        · exact absurd hal h)
      have b1 : ((a : Int) == 18 + (l : Int)) = true := by rw [beq_iff_eq]; omega
      have b2 : ((a : Int) == ((18 + l : Nat) : Int)) = true := by rw [beq_iff_eq]; omega
      have b3 : (a : Int) = 18 + (l : Int) := by omega
      have HAL := Lib.hid (And.intro hal b3)
      clear hal b3 HR
      go_upto_region 22 with (go_at_call 15; go_must (refine HR'.out.mono ?_); rintro e w16 ⟨rfl, hk16⟩)
      have hU16 := hU15.non hk16
      have hc16 : ∀ i, i < 12 → w16.cell? ⟨g, i, none⟩ = (encB ⟨9, 7, 3⟩)[i]? := fun i hi => keeps_cells (L := encB ⟨9, 7, 3⟩) (n := 12) (Nat.le_refl 12) hk16 (hc15 i hi) hi
      have HK := Lib.hid ((HK2.out.non hO15.keeps).non hk16)
      have FS : (w16.drew.cell? ⟨g, 0, none⟩ = some (.int .u64 9) ∧ w16.drew.cell? ⟨g, 1, none⟩ = some (.int .u64 7) ∧ w16.drew.cell? ⟨g, 2, none⟩ = some (.int .u64 3) ∧ w16.drew.cell? ⟨g, 3, none⟩ = some (.int .i64 0) ∧ w16.drew.cell? ⟨g, 4, none⟩ = some (.int .i64 0) ∧ w16.drew.cell? ⟨g, 5, none⟩ = some (.int .i64 0) ∧ w16.drew.cell? ⟨g, 6, none⟩ = some (.int .u64 0) ∧ w16.drew.cell? ⟨g, 7, none⟩ = some (.int .i64 0) ∧ w16.drew.cell? ⟨g, 8, none⟩ = some (.int .u64 0) ∧ w16.drew.cell? ⟨g, 9, none⟩ = some (.int .u64 0) ∧ w16.drew.cell? ⟨g, 10, none⟩ = some (.int .u64 0) ∧ w16.drew.cell? ⟨g, 11, none⟩ = some (.int .u64 0)) ∧ (w16.drew.cell? ⟨ub, 0, none⟩ = some (.int .u64 9) ∧ w16.drew.cell? ⟨ub, 1, none⟩ = some (.int .u64 7) ∧ w16.drew.cell? ⟨ub, 2, none⟩ = some (.int .u64 3) ∧ w16.drew.cell? ⟨ub, 3, none⟩ = some (.int .i64 0) ∧ w16.drew.cell? ⟨ub, 4, none⟩ = some (.int .i64 0) ∧ w16.drew.cell? ⟨ub, 5, none⟩ = some (.int .i64 0) ∧ w16.drew.cell? ⟨ub, 6, none⟩ = some (.int .u64 0) ∧ w16.drew.cell? ⟨ub, 7, none⟩ = some (.int .i64 0) ∧ w16.drew.cell? ⟨ub, 8, none⟩ = some (.int .u64 0) ∧ w16.drew.cell? ⟨ub, 9, none⟩ = some (.int .u64 0) ∧ w16.drew.cell? ⟨ub, 10, none⟩ = some (.int .u64 0) ∧ w16.drew.cell? ⟨ub, 11, none⟩ = some (.int .u64 0)) ∧ True := ⟨⟨hc16 0 (by decide), hc16 1 (by decide), hc16 2 (by decide), hc16 3 (by decide), hc16 4 (by decide), hc16 5 (by decide), hc16 6 (by decide), hc16 7 (by decide), hc16 8 (by decide), hc16 9 (by decide), hc16 10 (by decide), hc16 11 (by decide)⟩, ⟨hU16.cell 0, hU16.cell 1, hU16.cell 2, hU16.cell 3, hU16.cell 4, hU16.cell 5, hU16.cell 6, hU16.cell 7, hU16.cell 8, hU16.cell 9, hU16.cell 10, hU16.cell 11⟩, trivial⟩
      clear hc16 hU16 hc15 hU15 hO15 hk16 HR' b1 b2
      refine wp_region_held_drew (S := fun w' : World => (w'.cell? ⟨g, 0, none⟩ = some (.int .u64 9) ∧ w'.cell? ⟨g, 1, none⟩ = some (.int .u64 7) ∧ w'.cell? ⟨g, 2, none⟩ = some (.int .u64 3) ∧ w'.cell? ⟨g, 3, none⟩ = some (.int .i64 0) ∧ w'.cell? ⟨g, 4, none⟩ = some (.int .i64 0) ∧ w'.cell? ⟨g, 5, none⟩ = some (.int .i64 0) ∧ w'.cell? ⟨g, 6, none⟩ = some (.int .u64 0) ∧ w'.cell? ⟨g, 7, none⟩ = some (.int .i64 0) ∧ w'.cell? ⟨g, 8, none⟩ = some (.int .u64 0) ∧ w'.cell? ⟨g, 9, none⟩ = some (.int .u64 0) ∧ w'.cell? ⟨g, 10, none⟩ = some (.int .u64 0) ∧ w'.cell? ⟨g, 11, none⟩ = some (.int .u64 0)) ∧ (w'.cell? ⟨ub, 0, none⟩ = some (.int .u64 9) ∧ w'.cell? ⟨ub, 1, none⟩ = some (.int .u64 7) ∧ w'.cell? ⟨ub, 2, none⟩ = some (.int .u64 3) ∧ w'.cell? ⟨ub, 3, none⟩ = some (.int .i64 0) ∧ w'.cell? ⟨ub, 4, none⟩ = some (.int .i64 0) ∧ w'.cell? ⟨ub, 5, none⟩ = some (.int .i64 0) ∧ w'.cell? ⟨ub, 6, none⟩ = some (.int .u64 0) ∧ w'.cell? ⟨ub, 7, none⟩ = some (.int .i64 0) ∧ w'.cell? ⟨ub, 8, none⟩ = some (.int .u64 0) ∧ w'.cell? ⟨ub, 9, none⟩ = some (.int .u64 0) ∧ w'.cell? ⟨ub, 10, none⟩ = some (.int .u64 0) ∧ w'.cell? ⟨ub, 11, none⟩ = some (.int .u64 0)) ∧ True) (by kernel_rfl) FS (fun hH0 => ?_)
      refine wpAnyH_take (i := 0) (oi := ⟨some 149, _, _, _, _, _⟩) (v := .bool true) rfl (by kernel_rfl) (by kernel_rfl) (by kernel_rfl) (fun _ _ _ h => h) (Or.inl ⟨by kernel_rfl, by intro w' hw'; obtain ⟨hs1, hs2, hs3⟩ := hw'; go_simp⟩) (by assumption) ?_
      simp only [Act.put, List.setIfInBounds_toArray, List.set_cons_zero, List.set_cons_succ]
      refine wpAnyH_take (i := 1) (oi := ⟨some 150, _, _, _, _, _⟩) (v := .bool true) rfl (by kernel_rfl) (by kernel_rfl) (by kernel_rfl) (fun _ _ _ h => h) (Or.inl ⟨by kernel_rfl, by intro w' hw'; obtain ⟨hs1, hs2, hs3⟩ := hw'; go_simp⟩) (by assumption) ?_
      simp only [Act.put, List.setIfInBounds_toArray, List.set_cons_zero, List.set_cons_succ]
      refine wpAnyH_take (i := 2) (oi := ⟨some 151, _, _, _, _, _⟩) (v := .slice (some ⟨g, 0, none⟩) 1 mc) rfl (by kernel_rfl) (by kernel_rfl) (by kernel_rfl) (fun _ _ _ h => h) (Or.inl ⟨by kernel_rfl, by intro w' hw'; obtain ⟨hs1, hs2, hs3⟩ := hw'; go_simp⟩) (by assumption) ?_
      simp only [Act.put, List.setIfInBounds_toArray, List.set_cons_zero, List.set_cons_succ]
      refine wpAnyH_take (i := 3) (oi := ⟨some 152, _, _, _, _, _⟩) (v := .int .i64 1) rfl (by kernel_rfl) (by kernel_rfl) (by kernel_rfl) (fun _ _ _ h => h) (Or.inl ⟨by kernel_rfl, by intro w' hw'; obtain ⟨hs1, hs2, hs3⟩ := hw'; go_simp⟩) (by assumption) ?_
      simp only [Act.put, List.setIfInBounds_toArray, List.set_cons_zero, List.set_cons_succ]
      refine wpAnyH_take (i := 4) (oi := ⟨some 153, _, _, _, _, _⟩) (v := .bool true) rfl (by kernel_rfl) (by kernel_rfl) (by kernel_rfl) (fun _ _ _ h => h) (Or.inl ⟨by kernel_rfl, by intro w' hw'; obtain ⟨hs1, hs2, hs3⟩ := hw'; go_simp⟩) (by assumption) ?_
      simp only [Act.put, List.setIfInBounds_toArray, List.set_cons_zero, List.set_cons_succ]
      refine wpAnyH_take (i := 5) (oi := ⟨some 154, _, _, _, _, _⟩) (v := .bool true) rfl (by kernel_rfl) (by kernel_rfl) (by kernel_rfl) (fun _ _ _ h => h) (Or.inl ⟨by kernel_rfl, by intro w' hw'; obtain ⟨hs1, hs2, hs3⟩ := hw'; go_simp⟩) (by assumption) ?_
      simp only [Act.put, List.setIfInBounds_toArray, List.set_cons_zero, List.set_cons_succ]
      refine wpAnyH_take (i := 6) (oi := ⟨some 155, _, _, _, _, _⟩) (v := .bool true) rfl (by kernel_rfl) (by kernel_rfl) (by kernel_rfl) (fun _ _ _ h => h) (Or.inl ⟨by kernel_rfl, by intro w' hw'; obtain ⟨hs1, hs2, hs3⟩ := hw'; go_simp⟩) (by assumption) ?_
      simp only [Act.put, List.setIfInBounds_toArray, List.set_cons_zero, List.set_cons_succ]
      refine wpAnyH_take (i := 7) (oi := ⟨some 156, _, _, _, _, _⟩) (v := .slice (some ⟨g, 0, none⟩) 1 mc) rfl (by kernel_rfl) (by kernel_rfl) (by kernel_rfl) (fun _ _ _ h => h) (Or.inl ⟨by kernel_rfl, by intro w' hw'; obtain ⟨hs1, hs2, hs3⟩ := hw'; go_simp⟩) (by assumption) ?_
      simp only [Act.put, List.setIfInBounds_toArray, List.set_cons_zero, List.set_cons_succ]
      refine wpAnyH_take (i := 8) (oi := ⟨some 157, _, _, _, _, _⟩) (v := .pointer (some ⟨g, 0, none⟩)) rfl (by kernel_rfl) (by kernel_rfl) (by kernel_rfl) (fun _ _ _ h => h) (Or.inl ⟨by kernel_rfl, by intro w' hw'; obtain ⟨hs1, hs2, hs3⟩ := hw'; go_simp⟩) (by assumption) ?_
      simp only [Act.put, List.setIfInBounds_toArray, List.set_cons_zero, List.set_cons_succ]
      refine wpAnyH_take (i := 9) (oi := ⟨some 158, _, _, _, _, _⟩) (v := .agg #[.int .u64 9, .int .u64 7, .int .u64 3, .int .i64 0, .int .i64 0, .int .i64 0, .int .u64 0, .int .i64 0, .int .u64 0, .int .u64 0, .int .u64 0, .int .u64 0]) rfl (by kernel_rfl) (by kernel_rfl) (by kernel_rfl) (fun _ _ _ h => h) (Or.inl ⟨by kernel_rfl, by intro w' hw'; obtain ⟨⟨q0, q1, q2, q3, q4, q5, q6, q7, q8, q9, q10, q11⟩, hs2, hs3⟩ := hw'; go_simp⟩) (by assumption) ?_
      simp only [Act.put, List.setIfInBounds_toArray, List.set_cons_zero, List.set_cons_succ]
      refine wpAnyH_take (i := 10) (oi := ⟨some 159, _, _, _, _, _⟩) (v := .agg #[.int .u64 9, .int .u64 7, .int .u64 3, .int .i64 0, .int .i64 0, .int .i64 0, .int .u64 0, .int .i64 0, .int .u64 0, .int .u64 0, .int .u64 0, .int .u64 0]) rfl (by kernel_rfl) (by kernel_rfl) (by kernel_rfl) (fun _ _ _ h => h) (Or.inl ⟨by kernel_rfl, by intro w' hw'; obtain ⟨hs1, ⟨q0, q1, q2, q3, q4, q5, q6, q7, q8, q9, q10, q11⟩, hs3⟩ := hw'; go_simp⟩) (by assumption) ?_
      simp only [Act.put, List.setIfInBounds_toArray, List.set_cons_zero, List.set_cons_succ]
      refine wpAnyH_take (i := 11) (oi := ⟨some 160, _, _, _, _, _⟩) (v := .bool true) rfl (by kernel_rfl) (by kernel_rfl) (by kernel_rfl) (fun _ _ _ h => h) (Or.inl ⟨by kernel_rfl, by intro w' hw'; obtain ⟨hs1, hs2, hs3⟩ := hw'; go_simp⟩) (by assumption) ?_
      simp only [Act.put, List.setIfInBounds_toArray, List.set_cons_zero, List.set_cons_succ]
      refine wpAnyH_take (i := 12) (oi := ⟨some 161, _, _, _, _, _⟩) (v := .bool true) rfl (by kernel_rfl) (by kernel_rfl) (by kernel_rfl) (fun _ _ _ h => h) (Or.inl ⟨by kernel_rfl, by intro w' hw'; obtain ⟨hs1, hs2, hs3⟩ := hw'; go_simp⟩) (by assumption) ?_
      simp only [Act.put, List.setIfInBounds_toArray, List.set_cons_zero, List.set_cons_succ]
      refine wpAnyH_take (i := 13) (oi := ⟨some 162, _, _, _, _, _⟩) (v := .bool true) rfl (by kernel_rfl) (by kernel_rfl) (by kernel_rfl) (fun _ _ _ h => h) (Or.inl ⟨by kernel_rfl, by intro w' hw'; obtain ⟨hs1, hs2, hs3⟩ := hw'; go_simp⟩) (by assumption) ?_
      simp only [Act.put, List.setIfInBounds_toArray, List.set_cons_zero, List.set_cons_succ]
      refine wpAnyH_take (i := 14) (oi := ⟨some 163, _, _, _, _, _⟩) (v := .bool false) rfl (by kernel_rfl) (by kernel_rfl) (by kernel_rfl) (fun _ _ _ h => h) (Or.inl ⟨by kernel_rfl, by intro w' hw'; obtain ⟨hs1, hs2, hs3⟩ := hw'; go_simp⟩) (by assumption) ?_
      simp only [Act.put, List.setIfInBounds_toArray, List.set_cons_zero, List.set_cons_succ]
      refine wpAnyH_take (i := 15) (oi := ⟨some 164, _, _, _, _, _⟩) (v := .bool true) rfl (by kernel_rfl) (by kernel_rfl) (by kernel_rfl) (fun _ _ _ h => h) (Or.inl ⟨by kernel_rfl, by intro w' hw'; obtain ⟨hs1, hs2, hs3⟩ := hw'; go_simp⟩) (by assumption) ?_
      simp only [Act.put, List.setIfInBounds_toArray, List.set_cons_zero, List.set_cons_succ]
      refine wpAnyH_take (i := 16) (oi := ⟨some 165, _, _, _, _, _⟩) (v := .bool true) rfl (by kernel_rfl) (by kernel_rfl) (by kernel_rfl) (fun _ _ _ h => h) (Or.inl ⟨by kernel_rfl, by intro w' hw'; obtain ⟨hs1, hs2, hs3⟩ := hw'; go_simp⟩) (by assumption) ?_
      simp only [Act.put, List.setIfInBounds_toArray, List.set_cons_zero, List.set_cons_succ]
      refine wpAnyH_take (i := 17) (oi := ⟨some 166, _, _, _, _, _⟩) (v := .bool true) rfl (by kernel_rfl) (by kernel_rfl) (by kernel_rfl) (fun _ _ _ h => h) (Or.inl ⟨by kernel_rfl, by intro w' hw'; obtain ⟨hs1, hs2, hs3⟩ := hw'; go_simp⟩) (by assumption) ?_
      simp only [Act.put, List.setIfInBounds_toArray, List.set_cons_zero, List.set_cons_succ]
      refine wpAnyH_take (i := 18) (oi := ⟨some 167, _, _, _, _, _⟩) (v := .int .u64 0) rfl (by kernel_rfl) (by kernel_rfl) (by kernel_rfl) (fun _ _ _ h => h) (Or.inl ⟨by kernel_rfl, by intro w' hw'; obtain ⟨hs1, hs2, hs3⟩ := hw'; go_simp⟩) (by assumption) ?_
      simp only [Act.put, List.setIfInBounds_toArray, List.set_cons_zero, List.set_cons_succ]
      refine wpAnyH_take (i := 19) (oi := ⟨some 168, _, _, _, _, _⟩) (v := .bool true) rfl (by kernel_rfl) (by kernel_rfl) (by kernel_rfl) (fun _ _ _ h => h) (Or.inl ⟨by kernel_rfl, by intro w' hw'; obtain ⟨hs1, hs2, hs3⟩ := hw'; go_simp⟩) (by assumption) ?_
      simp only [Act.put, List.setIfInBounds_toArray, List.set_cons_zero, List.set_cons_succ]
      refine wpAnyH_take (i := 20) (oi := ⟨some 169, _, _, _, _, _⟩) (v := .bool true) rfl (by kernel_rfl) (by kernel_rfl) (by kernel_rfl) (fun _ _ _ h => h) (Or.inl ⟨by kernel_rfl, by intro w' hw'; obtain ⟨hs1, hs2, hs3⟩ := hw'; go_simp⟩) (by assumption) ?_
      simp only [Act.put, List.setIfInBounds_toArray, List.set_cons_zero, List.set_cons_succ]
      refine wpAnyH_take (i := 21) (oi := ⟨some 170, _, _, _, _, _⟩) (v := .bool true) rfl (by kernel_rfl) (by kernel_rfl) (by kernel_rfl) (fun _ _ _ h => h) (Or.inl ⟨by kernel_rfl, by intro w' hw'; obtain ⟨hs1, hs2, hs3⟩ := hw'; go_simp⟩) (by assumption) ?_
      simp only [Act.put, List.setIfInBounds_toArray, List.set_cons_zero, List.set_cons_succ]
      refine wpAnyH_take (i := 22) (oi := ⟨some 171, _, _, _, _, _⟩) (v := .slice none 0 0) rfl (by kernel_rfl) (by kernel_rfl) (by kernel_rfl) (fun _ _ _ h => h) (Or.inl ⟨by kernel_rfl, by intro w' hw'; obtain ⟨hs1, hs2, hs3⟩ := hw'; go_simp⟩) (by assumption) ?_
      simp only [Act.put, List.setIfInBounds_toArray, List.set_cons_zero, List.set_cons_succ]
      refine wpAnyH_take (i := 23) (oi := ⟨some 172, _, _, _, _, _⟩) (v := .int .i64 0) rfl (by kernel_rfl) (by kernel_rfl) (by kernel_rfl) (fun _ _ _ h => h) (Or.inl ⟨by kernel_rfl, by intro w' hw'; obtain ⟨hs1, hs2, hs3⟩ := hw'; go_simp⟩) (by assumption) ?_
      simp only [Act.put, List.setIfInBounds_toArray, List.set_cons_zero, List.set_cons_succ]
      refine wpAnyH_take (i := 24) (oi := ⟨some 173, _, _, _, _, _⟩) (v := .bool true) rfl (by kernel_rfl) (by kernel_rfl) (by kernel_rfl) (fun _ _ _ h => h) (Or.inl ⟨by kernel_rfl, by intro w' hw'; obtain ⟨hs1, hs2, hs3⟩ := hw'; go_simp⟩) (by assumption) ?_
      simp only [Act.put, List.setIfInBounds_toArray, List.set_cons_zero, List.set_cons_succ]
      refine wpAnyH_take (i := 25) (oi := ⟨some 174, _, _, _, _, _⟩) (v := .bool true) rfl (by kernel_rfl) (by kernel_rfl) (by kernel_rfl) (fun _ _ _ h => h) (Or.inl ⟨by kernel_rfl, by intro w' hw'; obtain ⟨hs1, hs2, hs3⟩ := hw'; go_simp⟩) (by assumption) ?_
      simp only [Act.put, List.setIfInBounds_toArray, List.set_cons_zero, List.set_cons_succ]
      refine wpAnyH_take (i := 26) (oi := ⟨some 8, _, _, _, _, _⟩) (v := .bool true) rfl (by kernel_rfl) (by kernel_rfl) (by kernel_rfl) (fun _ _ _ h => h) (Or.inl ⟨by kernel_rfl, by intro w' hw'; obtain ⟨hs1, hs2, hs3⟩ := hw'; go_simp⟩) (by assumption) ?_
      simp only [Act.put, List.setIfInBounds_toArray, List.set_cons_zero, List.set_cons_succ]
      refine wpAnyH_done (by kernel_rfl) ?_ _
      go_wp2_with fail
      go_ret
      exact ⟨rfl, HK.out.drew⟩
    · have HR' : Hid (Calls Tryz.prog 15 #[.pointer (some ⟨lf, 0, none⟩), .int .i64 (l : Int)] w15 fun e w' => ∃ b, e = .returned (.tuple #[.int .u64 4, .slice (some ⟨b, 0, none⟩) 88 88, .bool true]) ∧ Blk w' b 5 (pc (zeros 88)) ∧ Keeps Non w15 w') := Lib.hid (HR.out.mono fun e w' ⟨h, hk⟩ => by
        rcases h with ⟨h, -⟩ | ⟨-, b, h1, h2⟩
        · exact absurd h hal
        · exact ⟨b, h1, h2, hk⟩)
      have b1 : ((a : Int) == 18 + (l : Int)) = false := by rw [beq_eq_false_iff_ne]; omega
      have b3 : ¬ (a : Int) = 18 + (l : Int) := by omega
      clear hal HR
      go_upto_region 23 with (go_at_call 15; go_must (refine HR'.out.mono ?_); rintro e w16 ⟨lgb, rfl, hlb, hk16⟩)
      have hU16 := hU15.non hk16
      have hc16 : ∀ V, Keeps Non w16 V → ∀ i, i < 12 → V.cell? ⟨g, i, none⟩ = (encB ⟨9, 7, 3⟩)[i]? := fun V hV i hi => keeps_cells (L := encB ⟨9, 7, 3⟩) (n := 12) (Nat.le_refl 12) (hk16.non hV) (hc15 i hi) hi
      have HK := Lib.hid ((HK2.out.non hO15.keeps).non hk16)
      have HFS : ∀ V, Keeps Non w16 V → (V.cell? ⟨g, 0, none⟩ = some (.int .u64 9) ∧ V.cell? ⟨g, 1, none⟩ = some (.int .u64 7) ∧ V.cell? ⟨g, 2, none⟩ = some (.int .u64 3) ∧ V.cell? ⟨g, 3, none⟩ = some (.int .i64 0) ∧ V.cell? ⟨g, 4, none⟩ = some (.int .i64 0) ∧ V.cell? ⟨g, 5, none⟩ = some (.int .i64 0) ∧ V.cell? ⟨g, 6, none⟩ = some (.int .u64 0) ∧ V.cell? ⟨g, 7, none⟩ = some (.int .i64 0) ∧ V.cell? ⟨g, 8, none⟩ = some (.int .u64 0) ∧ V.cell? ⟨g, 9, none⟩ = some (.int .u64 0) ∧ V.cell? ⟨g, 10, none⟩ = some (.int .u64 0) ∧ V.cell? ⟨g, 11, none⟩ = some (.int .u64 0)) ∧ (V.cell? ⟨ub, 0, none⟩ = some (.int .u64 9) ∧ V.cell? ⟨ub, 1, none⟩ = some (.int .u64 7) ∧ V.cell? ⟨ub, 2, none⟩ = some (.int .u64 3) ∧ V.cell? ⟨ub, 3, none⟩ = some (.int .i64 0) ∧ V.cell? ⟨ub, 4, none⟩ = some (.int .i64 0) ∧ V.cell? ⟨ub, 5, none⟩ = some (.int .i64 0) ∧ V.cell? ⟨ub, 6, none⟩ = some (.int .u64 0) ∧ V.cell? ⟨ub, 7, none⟩ = some (.int .i64 0) ∧ V.cell? ⟨ub, 8, none⟩ = some (.int .u64 0) ∧ V.cell? ⟨ub, 9, none⟩ = some (.int .u64 0) ∧ V.cell? ⟨ub, 10, none⟩ = some (.int .u64 0) ∧ V.cell? ⟨ub, 11, none⟩ = some (.int .u64 0)) ∧ (convert 55 9 (.slice (some ⟨lgb, 0, none⟩) 88 88)).run Tryz.prog V = .ok (.string (str (zeros 88))) V := fun V hV => ⟨⟨hc16 V hV 0 (by decide), hc16 V hV 1 (by decide), hc16 V hV 2 (by decide), hc16 V hV 3 (by decide), hc16 V hV 4 (by decide), hc16 V hV 5 (by decide), hc16 V hV 6 (by decide), hc16 V hV 7 (by decide), hc16 V hV 8 (by decide), hc16 V hV 9 (by decide), hc16 V hV 10 (by decide), hc16 V hV 11 (by decide)⟩, ⟨(hU16.non hV).cell 0, (hU16.non hV).cell 1, (hU16.non hV).cell 2, (hU16.non hV).cell 3, (hU16.non hV).cell 4, (hU16.non hV).cell 5, (hU16.non hV).cell 6, (hU16.non hV).cell 7, (hU16.non hV).cell 8, (hU16.non hV).cell 9, (hU16.non hV).cell 10, (hU16.non hV).cell 11⟩, run_convert_at 55 9 5 Tryz.underlying55 Tryz.underlying5 Tryz.underlying9 _ (zeros 88) (At.blk (hlb.non hV)) 88 88 (zeros_length _).symm⟩
      have FS := HFS w16.drew (Keeps.refl Non w16).drew
      have hka : Keeps Non w16 (w16.drew.alloc (.cells (pc (zeros 88)) 5)) := (Keeps.refl Non w16).drew.alloc _
      have FS4 := HFS _ hka
      have HK4 := Lib.hid (HK.out.non hka)
      have hmk : ∀ W : World, (Instr.makeSlice 55 (.int .i64 88) (.int .i64 88)).run Tryz.prog W = .ok (.slice (some ⟨W.heap.size, 0, none⟩) 88 88) (W.alloc (.cells (pc (zeros 88)) 5)) := made_bytes 88 (by omega)
      have c6 : (convert 55 9 (.slice (some ⟨w16.drew.heap.size, 0, none⟩) 88 88)).run Tryz.prog (w16.drew.alloc (.cells (pc (zeros 88)) 5)) = .ok (.string (str (zeros 88))) (w16.drew.alloc (.cells (pc (zeros 88)) 5)) := run_convert_at 55 9 5 Tryz.underlying55 Tryz.underlying5 Tryz.underlying9 _ (zeros 88) (At.blk (Blk.new w16.drew 5 _)) 88 88 (zeros_length _).symm
      have HFS4 := Lib.hid FS4
      clear hc16 hU16 hc15 hU15 hO15 hk16 HR' b1 HFS FS4 hka hlb HK
      refine wp_region_held_drew (S := fun w' : World => (w'.cell? ⟨g, 0, none⟩ = some (.int .u64 9) ∧ w'.cell? ⟨g, 1, none⟩ = some (.int .u64 7) ∧ w'.cell? ⟨g, 2, none⟩ = some (.int .u64 3) ∧ w'.cell? ⟨g, 3, none⟩ = some (.int .i64 0) ∧ w'.cell? ⟨g, 4, none⟩ = some (.int .i64 0) ∧ w'.cell? ⟨g, 5, none⟩ = some (.int .i64 0) ∧ w'.cell? ⟨g, 6, none⟩ = some (.int .u64 0) ∧ w'.cell? ⟨g, 7, none⟩ = some (.int .i64 0) ∧ w'.cell? ⟨g, 8, none⟩ = some (.int .u64 0) ∧ w'.cell? ⟨g, 9, none⟩ = some (.int .u64 0) ∧ w'.cell? ⟨g, 10, none⟩ = some (.int .u64 0) ∧ w'.cell? ⟨g, 11, none⟩ = some (.int .u64 0)) ∧ (w'.cell? ⟨ub, 0, none⟩ = some (.int .u64 9) ∧ w'.cell? ⟨ub, 1, none⟩ = some (.int .u64 7) ∧ w'.cell? ⟨ub, 2, none⟩ = some (.int .u64 3) ∧ w'.cell? ⟨ub, 3, none⟩ = some (.int .i64 0) ∧ w'.cell? ⟨ub, 4, none⟩ = some (.int .i64 0) ∧ w'.cell? ⟨ub, 5, none⟩ = some (.int .i64 0) ∧ w'.cell? ⟨ub, 6, none⟩ = some (.int .u64 0) ∧ w'.cell? ⟨ub, 7, none⟩ = some (.int .i64 0) ∧ w'.cell? ⟨ub, 8, none⟩ = some (.int .u64 0) ∧ w'.cell? ⟨ub, 9, none⟩ = some (.int .u64 0) ∧ w'.cell? ⟨ub, 10, none⟩ = some (.int .u64 0) ∧ w'.cell? ⟨ub, 11, none⟩ = some (.int .u64 0)) ∧ (convert 55 9 (.slice (some ⟨lgb, 0, none⟩) 88 88)).run Tryz.prog w' = .ok (.string (str (zeros 88))) w') (by kernel_rfl) FS (fun hH0 => ?_)
      generalize w16.drew = wd at *
      refine wpAnyH_take (i := 0) (oi := ⟨some 175, _, _, _, _, _⟩) (v := .bool true) rfl (by kernel_rfl) (by kernel_rfl) (by kernel_rfl) (fun _ _ _ h => h) (Or.inl ⟨by kernel_rfl, by intro w' hw'; obtain ⟨hs1, hs2, hs3⟩ := hw'; go_simp⟩) (by assumption) ?_
      simp only [Act.put, List.setIfInBounds_toArray, List.set_cons_zero, List.set_cons_succ]
      refine wpAnyH_take (i := 1) (oi := ⟨some 176, _, _, _, _, _⟩) (v := .bool true) rfl (by kernel_rfl) (by kernel_rfl) (by kernel_rfl) (fun _ _ _ h => h) (Or.inl ⟨by kernel_rfl, by intro w' hw'; obtain ⟨hs1, hs2, hs3⟩ := hw'; go_simp⟩) (by assumption) ?_
      simp only [Act.put, List.setIfInBounds_toArray, List.set_cons_zero, List.set_cons_succ]
      refine wpAnyH_take (i := 2) (oi := ⟨some 177, _, _, _, _, _⟩) (v := .slice (some ⟨g, 0, none⟩) 1 mc) rfl (by kernel_rfl) (by kernel_rfl) (by kernel_rfl) (fun _ _ _ h => h) (Or.inl ⟨by kernel_rfl, by intro w' hw'; obtain ⟨hs1, hs2, hs3⟩ := hw'; go_simp⟩) (by assumption) ?_
      simp only [Act.put, List.setIfInBounds_toArray, List.set_cons_zero, List.set_cons_succ]
      refine wpAnyH_take (i := 3) (oi := ⟨some 178, _, _, _, _, _⟩) (v := .int .i64 1) rfl (by kernel_rfl) (by kernel_rfl) (by kernel_rfl) (fun _ _ _ h => h) (Or.inl ⟨by kernel_rfl, by intro w' hw'; obtain ⟨hs1, hs2, hs3⟩ := hw'; go_simp⟩) (by assumption) ?_
      simp only [Act.put, List.setIfInBounds_toArray, List.set_cons_zero, List.set_cons_succ]
      refine wpAnyH_take (i := 4) (oi := ⟨some 179, _, _, _, _, _⟩) (v := .bool true) rfl (by kernel_rfl) (by kernel_rfl) (by kernel_rfl) (fun _ _ _ h => h) (Or.inl ⟨by kernel_rfl, by intro w' hw'; obtain ⟨hs1, hs2, hs3⟩ := hw'; go_simp⟩) (by assumption) ?_
      simp only [Act.put, List.setIfInBounds_toArray, List.set_cons_zero, List.set_cons_succ]
      refine wpAnyH_take (i := 5) (oi := ⟨some 180, _, _, _, _, _⟩) (v := .bool true) rfl (by kernel_rfl) (by kernel_rfl) (by kernel_rfl) (fun _ _ _ h => h) (Or.inl ⟨by kernel_rfl, by intro w' hw'; obtain ⟨hs1, hs2, hs3⟩ := hw'; go_simp⟩) (by assumption) ?_
      simp only [Act.put, List.setIfInBounds_toArray, List.set_cons_zero, List.set_cons_succ]
      refine wpAnyH_take (i := 6) (oi := ⟨some 181, _, _, _, _, _⟩) (v := .bool true) rfl (by kernel_rfl) (by kernel_rfl) (by kernel_rfl) (fun _ _ _ h => h) (Or.inl ⟨by kernel_rfl, by intro w' hw'; obtain ⟨hs1, hs2, hs3⟩ := hw'; go_simp⟩) (by assumption) ?_
      simp only [Act.put, List.setIfInBounds_toArray, List.set_cons_zero, List.set_cons_succ]
      refine wpAnyH_take (i := 7) (oi := ⟨some 182, _, _, _, _, _⟩) (v := .slice (some ⟨g, 0, none⟩) 1 mc) rfl (by kernel_rfl) (by kernel_rfl) (by kernel_rfl) (fun _ _ _ h => h) (Or.inl ⟨by kernel_rfl, by intro w' hw'; obtain ⟨hs1, hs2, hs3⟩ := hw'; go_simp⟩) (by assumption) ?_
      simp only [Act.put, List.setIfInBounds_toArray, List.set_cons_zero, List.set_cons_succ]
      refine wpAnyH_take (i := 8) (oi := ⟨some 183, _, _, _, _, _⟩) (v := .pointer (some ⟨g, 0, none⟩)) rfl (by kernel_rfl) (by kernel_rfl) (by kernel_rfl) (fun _ _ _ h => h) (Or.inl ⟨by kernel_rfl, by intro w' hw'; obtain ⟨hs1, hs2, hs3⟩ := hw'; go_simp⟩) (by assumption) ?_
      simp only [Act.put, List.setIfInBounds_toArray, List.set_cons_zero, List.set_cons_succ]
      refine wpAnyH_take (i := 9) (oi := ⟨some 184, _, _, _, _, _⟩) (v := .agg #[.int .u64 9, .int .u64 7, .int .u64 3, .int .i64 0, .int .i64 0, .int .i64 0, .int .u64 0, .int .i64 0, .int .u64 0, .int .u64 0, .int .u64 0, .int .u64 0]) rfl (by kernel_rfl) (by kernel_rfl) (by kernel_rfl) (fun _ _ _ h => h) (Or.inl ⟨by kernel_rfl, by intro w' hw'; obtain ⟨⟨q0, q1, q2, q3, q4, q5, q6, q7, q8, q9, q10, q11⟩, hs2, hs3⟩ := hw'; go_simp⟩) (by assumption) ?_
      simp only [Act.put, List.setIfInBounds_toArray, List.set_cons_zero, List.set_cons_succ]
      refine wpAnyH_take (i := 10) (oi := ⟨some 185, _, _, _, _, _⟩) (v := .agg #[.int .u64 9, .int .u64 7, .int .u64 3, .int .i64 0, .int .i64 0, .int .i64 0, .int .u64 0, .int .i64 0, .int .u64 0, .int .u64 0, .int .u64 0, .int .u64 0]) rfl (by kernel_rfl) (by kernel_rfl) (by kernel_rfl) (fun _ _ _ h => h) (Or.inl ⟨by kernel_rfl, by intro w' hw'; obtain ⟨hs1, ⟨q0, q1, q2, q3, q4, q5, q6, q7, q8, q9, q10, q11⟩, hs3⟩ := hw'; go_simp⟩) (by assumption) ?_
      simp only [Act.put, List.setIfInBounds_toArray, List.set_cons_zero, List.set_cons_succ]
      refine wpAnyH_take (i := 11) (oi := ⟨some 186, _, _, _, _, _⟩) (v := .bool true) rfl (by kernel_rfl) (by kernel_rfl) (by kernel_rfl) (fun _ _ _ h => h) (Or.inl ⟨by kernel_rfl, by intro w' hw'; obtain ⟨hs1, hs2, hs3⟩ := hw'; go_simp⟩) (by assumption) ?_
      simp only [Act.put, List.setIfInBounds_toArray, List.set_cons_zero, List.set_cons_succ]
      refine wpAnyH_take (i := 12) (oi := ⟨some 187, _, _, _, _, _⟩) (v := .bool true) rfl (by kernel_rfl) (by kernel_rfl) (by kernel_rfl) (fun _ _ _ h => h) (Or.inl ⟨by kernel_rfl, by intro w' hw'; obtain ⟨hs1, hs2, hs3⟩ := hw'; go_simp⟩) (by assumption) ?_
      simp only [Act.put, List.setIfInBounds_toArray, List.set_cons_zero, List.set_cons_succ]
      refine wpAnyH_take (i := 13) (oi := ⟨some 188, _, _, _, _, _⟩) (v := .bool true) rfl (by kernel_rfl) (by kernel_rfl) (by kernel_rfl) (fun _ _ _ h => h) (Or.inl ⟨by kernel_rfl, by intro w' hw'; obtain ⟨hs1, hs2, hs3⟩ := hw'; go_simp⟩) (by assumption) ?_
      simp only [Act.put, List.setIfInBounds_toArray, List.set_cons_zero, List.set_cons_succ]
      refine wpAnyH_take (i := 14) (oi := ⟨some 189, _, _, _, _, _⟩) (v := .bool true) rfl (by kernel_rfl) (by kernel_rfl) (by kernel_rfl) (fun _ _ _ h => h) (Or.inl ⟨by kernel_rfl, by intro w' hw'; obtain ⟨hs1, hs2, hs3⟩ := hw'; go_simp⟩) (by assumption) ?_
      simp only [Act.put, List.setIfInBounds_toArray, List.set_cons_zero, List.set_cons_succ]
      refine wpAnyH_take (i := 15) (oi := ⟨some 190, _, _, _, _, _⟩) (v := .bool true) rfl (by kernel_rfl) (by kernel_rfl) (by kernel_rfl) (fun _ _ _ h => h) (Or.inl ⟨by kernel_rfl, by intro w' hw'; obtain ⟨hs1, hs2, hs3⟩ := hw'; go_simp⟩) (by assumption) ?_
      simp only [Act.put, List.setIfInBounds_toArray, List.set_cons_zero, List.set_cons_succ]
      refine wpAnyH_take (i := 16) (oi := ⟨some 191, _, _, _, _, _⟩) (v := .bool true) rfl (by kernel_rfl) (by kernel_rfl) (by kernel_rfl) (fun _ _ _ h => h) (Or.inl ⟨by kernel_rfl, by intro w' hw'; obtain ⟨hs1, hs2, hs3⟩ := hw'; go_simp⟩) (by assumption) ?_
      simp only [Act.put, List.setIfInBounds_toArray, List.set_cons_zero, List.set_cons_succ]
      refine wpAnyH_take (i := 17) (oi := ⟨some 192, _, _, _, _, _⟩) (v := .int .u64 4) rfl (by kernel_rfl) (by kernel_rfl) (by kernel_rfl) (fun _ _ _ h => h) (Or.inl ⟨by kernel_rfl, by intro w' hw'; obtain ⟨hs1, hs2, hs3⟩ := hw'; go_simp⟩) (by assumption) ?_
      simp only [Act.put, List.setIfInBounds_toArray, List.set_cons_zero, List.set_cons_succ]
      refine wpAnyH_take (i := 18) (oi := ⟨some 193, _, _, _, _, _⟩) (v := .bool true) rfl (by kernel_rfl) (by kernel_rfl) (by kernel_rfl) (fun _ _ _ h => h) (Or.inl ⟨by kernel_rfl, by intro w' hw'; obtain ⟨hs1, hs2, hs3⟩ := hw'; go_simp⟩) (by assumption) ?_
      simp only [Act.put, List.setIfInBounds_toArray, List.set_cons_zero, List.set_cons_succ]
      refine wpAnyH_take (i := 19) (oi := ⟨some 194, _, _, _, _, _⟩) (v := .bool true) rfl (by kernel_rfl) (by kernel_rfl) (by kernel_rfl) (fun _ _ _ h => h) (Or.inl ⟨by kernel_rfl, by intro w' hw'; obtain ⟨hs1, hs2, hs3⟩ := hw'; go_simp⟩) (by assumption) ?_
      simp only [Act.put, List.setIfInBounds_toArray, List.set_cons_zero, List.set_cons_succ]
      refine wpAnyH_take (i := 20) (oi := ⟨some 195, _, _, _, _, _⟩) (v := .bool true) rfl (by kernel_rfl) (by kernel_rfl) (by kernel_rfl) (fun _ _ _ h => h) (Or.inl ⟨by kernel_rfl, by intro w' hw'; obtain ⟨hs1, hs2, hs3⟩ := hw'; go_simp⟩) (by assumption) ?_
      simp only [Act.put, List.setIfInBounds_toArray, List.set_cons_zero, List.set_cons_succ]
      refine wpAnyH_take (i := 21) (oi := ⟨some 196, _, _, _, _, _⟩) (v := .slice (some ⟨lgb, 0, none⟩) 88 88) rfl (by kernel_rfl) (by kernel_rfl) (by kernel_rfl) (fun _ _ _ h => h) (Or.inl ⟨by kernel_rfl, by intro w' hw'; obtain ⟨hs1, hs2, hs3⟩ := hw'; go_simp⟩) (by assumption) ?_
      simp only [Act.put, List.setIfInBounds_toArray, List.set_cons_zero, List.set_cons_succ]
      refine wpAnyH_take (i := 22) (oi := ⟨some 197, _, _, _, _, _⟩) (v := .string (str (zeros 88))) rfl (by kernel_rfl) (by kernel_rfl) (by kernel_rfl) (fun _ _ _ h => h) (Or.inl ⟨by kernel_rfl, by intro w' hw'; obtain ⟨hs1, hs2, hs3⟩ := hw'; go_simp⟩) (by assumption) ?_
      simp only [Act.put, List.setIfInBounds_toArray, List.set_cons_zero, List.set_cons_succ]
      refine wpAnyH_ready (rs := [23]) (by kernel_rfl) (by simp) ?_
      refine AllReadyH.cons (o := ⟨some 198, _, _, _, _, _⟩) rfl (fun K' hK' => ?_) AllReadyH.nil
      go_simp
      refine hK'.out _ _ HFS4.out (fun hH => ?_)
      clear hK'
      clear K'
      try simp only [Act.put, List.setIfInBounds_toArray, List.set_cons_zero, List.set_cons_succ]
      refine wpAnyH_ready (rs := [24]) (by kernel_rfl) (by simp) ?_
      refine AllReadyH.cons (o := ⟨some 199, _, _, _, _, _⟩) rfl (fun K' hK' => ?_) AllReadyH.nil
      go_simp
      refine hK'.out _ _ HFS4.out (fun hH2 => ?_)
      clear hK'
      clear K'
      try simp only [Act.put, List.setIfInBounds_toArray, List.set_cons_zero, List.set_cons_succ]
      refine wpAnyH_take (i := 25) (oi := ⟨some 200, _, _, _, _, _⟩) (v := .bool true) rfl (by kernel_rfl) (by kernel_rfl) (by kernel_rfl) (fun _ _ _ h => h) (Or.inl ⟨by kernel_rfl, by intro w' hw'; obtain ⟨hs1, hs2, hs3⟩ := hw'; go_simp⟩) (by assumption) ?_
      simp only [Act.put, List.setIfInBounds_toArray, List.set_cons_zero, List.set_cons_succ]
      refine wpAnyH_take (i := 26) (oi := ⟨some 201, _, _, _, _, _⟩) (v := .bool true) rfl (by kernel_rfl) (by kernel_rfl) (by kernel_rfl) (fun _ _ _ h => h) (Or.inl ⟨by kernel_rfl, by intro w' hw'; obtain ⟨hs1, hs2, hs3⟩ := hw'; go_simp⟩) (by assumption) ?_
      simp only [Act.put, List.setIfInBounds_toArray, List.set_cons_zero, List.set_cons_succ]
      refine wpAnyH_take (i := 27) (oi := ⟨some 8, _, _, _, _, _⟩) (v := .bool true) rfl (by kernel_rfl) (by kernel_rfl) (by kernel_rfl) (fun _ _ _ h => h) (Or.inl ⟨by kernel_rfl, by intro w' hw'; obtain ⟨hs1, hs2, hs3⟩ := hw'; go_simp⟩) (by assumption) ?_
      simp only [Act.put, List.setIfInBounds_toArray, List.set_cons_zero, List.set_cons_succ]
      refine wpAnyH_done (by kernel_rfl) ?_ _
      go_wp2_with fail
      go_ret
      exact ⟨rfl, HK4.out⟩
  · have HK := Lib.hid (show Keeps Non w w3 by obtain ⟨s, g, hP, -⟩ := hA3; exact HK2.out.non hP.keeps)
    clear hA3 hT hL HK2
    by_cases c0 : at_ < 0
    · have d0 : decide (at_ < 0) = true := decide_eq_true c0
      clear hr
      go_wp2_with fail
      go_ret
      exact ⟨rfl, HK.out⟩
    have d0 : decide (at_ < 0) = false := decide_eq_false c0
    by_cases c1 : 330 ≤ at_
    · have d1 : decide (330 ≤ at_) = true := decide_eq_true c1
      clear hr
      go_wp2_with fail
      go_ret
      exact ⟨rfl, HK.out⟩
    have d1 : decide (330 ≤ at_) = false := decide_eq_false c1
    by_cases c2 : by_ < 0
    · have d2 : decide (by_ < 0) = true := decide_eq_true c2
      clear hr
      go_wp2_with fail
      go_ret
      exact ⟨rfl, HK.out⟩
    have d2 : decide (by_ < 0) = false := decide_eq_false c2
    by_cases c3 : 127 < by_
    · have d3 : decide (127 < by_) = true := decide_eq_true c3
      clear hr
      go_wp2_with fail
      go_ret
      exact ⟨rfl, HK.out⟩
    have d3 : decide (127 < by_) = false := decide_eq_false c3
    by_cases c4 : mask = 0
    · have d4 : ((mask.toNat : Int) == 0) = true := by rw [c4]; rfl
      clear hr
      go_wp2_with fail
      go_ret
      exact ⟨rfl, HK.out⟩
    have d4 : ((mask.toNat : Int) == 0) = false := by rw [beq_eq_false_iff_ne]; intro h; exact c4 (UInt8.toNat_inj.1 (show mask.toNat = 0 from (by omega)))
    by_cases c5 : log < 0
    · have d5 : decide (log < 0) = true := decide_eq_true c5
      clear hr
      go_wp2_with fail
      go_ret
      exact ⟨rfl, HK.out⟩
    have d5 : decide (log < 0) = false := decide_eq_false c5
    have c6 : 255 < log := by
      refine Classical.byContradiction fun h => ?_
      exact absurd ⟨⟨by omega, by omega⟩, ⟨by omega, by omega⟩, c4, by omega, by omega⟩ hr
    have d6 : decide (255 < log) = true := decide_eq_true c6
    clear hr
    go_wp2_with fail
    go_ret
    exact ⟨rfl, HK.out⟩
end Go.Proofs.YtipbjiepfnjojaaGreatDoor
