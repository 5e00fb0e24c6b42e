/- LeafApart, walked. -/
import Derived.Test.YtipbjiepfnjojaaGreatDoorG26
namespace Go.Proofs.YtipbjiepfnjojaaGreatDoor
set_option maxRecDepth 100000
open Go.RowKit Go.Uc

theorem field32 (a b : Value) (c d : Value) (W : World) : (Instr.field 32 (.agg #[a, b, c, d]) 0).run Tryz.prog W = .ok a W := by kernel_rfl
set_option maxHeartbeats 16000000 in
theorem leafApart_any (w : World) (ts : List Nat) (tA : Option Addr) (tc : Nat) (log at_ : Int) (b : List UInt8) (bA : Option Addr) (bc : Nat) (st : List Bool) (sA : Option Addr) (sc : Nat) (hT : AtU w tA ts) (htl : ts.length ≤ 2000000)
    (hl1 : -9223372036854775808 ≤ log) (hl2 : log ≤ 9223372036854775807) (ha1 : -9223372036854775808 ≤ at_) (ha2 : at_ ≤ 9223372036854775807) (hB : At w bA b) (hBl : ∀ ad, bA = some ad → ad.block < w.heap.size) (hbc : b.length ≤ bc) (hbl : b.length ≤ 140737488351232)
    (hS : AtB w sA st) (hSl : ∀ ad, sA = some ad → ad.block < w.heap.size) (hst : st.length ≤ 1099511627776000) :
    Calls Tryz.prog 4 #[.slice tA ts.length tc, .int .i64 log, .int .i64 at_, .slice bA b.length bc, .slice sA st.length sc] w fun e w' => e = .returned (.bool true) ∧ Keeps Non w w' := by
  have HAw := Lib.hid (awake6_any w)
  have HA := Lib.hid (And.intro hT (And.intro hB (And.intro hBl (And.intro hS hSl))))
  clear hT hB hBl hS hSl
  have HBg : Hid (∀ V, Keeps Non w V → Calls Tryz.prog 7 #[.int .i64 400, .agg #[.int .u64 9, .slice (some ⟨V.heap.size, 0, none⟩) 1 1, .int .i64 0, .int .i64 0]] (V.alloc (.cells #[.int .i64 1, .int .i64 1, .int .i64 400] 29)) fun e w' => ∃ X : Xb, e = .returned (.tuple #[.pointer (some ⟨X.xb, 0, none⟩), .bool true, .bool true]) ∧ X.x = lb1 9 400 ∧ ∃ V1, Keeps Non w V1 ∧ ApR V1 X ts 0 w') := Lib.hid (fun V hV => by
    refine (begun7_any 9 400 V.heap.size (by decide) (by decide) (by decide) (Blk.new V 29 _)).mono ?_
    rintro e w' ⟨xb, rfl, hB⟩
    obtain ⟨X, rfl, hXx, hP⟩ := hB.ph
    exact ⟨X, rfl, hXx, _, hV.alloc _, _, _, hP, ApD.start ts⟩)
  go_enter Tryz.func4, Tryz.ntmps4
  go_upto_region 5 with (first | (go_at_call 6; go_must (refine HAw.out.mono ?_); rintro e w1 ⟨rfl, hK1⟩; have HB1 := Lib.hid (HBg.out w1 hK1)) | (go_at_call 7; go_must (refine HB1.out.mono ?_); rintro e w2 ⟨X, rfl, hXx, V1, hV1, hR2⟩))
  have HXx := Lib.hid hXx
  clear hXx HAw HBg HB1 hK1
  go_upto_region 7 with fail
  go_loopw [15, 16, 17] (fun v i _ wr => ∃ k : Nat, k ≤ ts.length ∧ v = .int .u64 ((apK ts k).1 : Int) ∧ i = .int .i64 (k : Int) ∧ ApR V1 X ts k wr) (fun _ i _ _ => ts.length - (intOf i).toNat)
  case atStart => exact ⟨0, Nat.zero_le _, by rw [apK_zero]; rfl, rfl, hR2⟩
  case round =>
    obtain ⟨k, hk, rfl, rfl, s, f, hP, hD⟩ := hrel
    obtain ⟨wx, rfl⟩ : ∃ W : World, W = wr := ⟨_, rfl⟩
    clear hR2
    have hb48 := (apK_inv ts k).best
    by_cases hlt : k < ts.length
    · obtain ⟨tb, toff, rfl, hc0, ht64⟩ := (HA.out.1.non (hV1.non hP.keeps)) k hlt
      have hki : (k : Int) < (ts.length : Int) := by omega
      have HSk := Lib.hid (fun h => hD.skip hlt h)
      have HMk := Lib.hid (fun h => hD.mark hlt h)
      have HKs := Lib.hid (apK_succ ts k hlt)
      have HXp := Lib.hid (show X.x.pool = 9 by rw [HXx.out]; rfl)
      obtain ⟨t, ht⟩ : ∃ t, t = ts[k] := ⟨_, rfl⟩
      rw [← ht] at hc0 ht64 HSk HMk HKs
      obtain ⟨bb, hbb⟩ : ∃ bb, bb = (apK ts k).1 := ⟨_, rfl⟩
      rw [← hbb] at hb48 HSk HMk HKs ⊢
      have HBB := Lib.hid hbb
      have HP := Lib.hid (And.intro hP hD)
      clear ht hbb hD
      by_cases hap : apT bb t
      · obtain ⟨a1, a2, a3⟩ := id hap
        have HC : Hid (Calls Tryz.prog 8 #[.pointer (some ⟨X.lf, 0, none⟩), .agg #[.int .u64 9, .int .u64 (t : Int), .int .u64 ((t : Int) + 1), .int .i64 0, .int .i64 0, .int .i64 0, .int .u64 0, .int .i64 0, .int .u64 0, .int .u64 0, .int .u64 0, .int .u64 0]] wx fun e w' => e = .returned (.int .i64 0) ∧ ApR V1 X ts (k + 1) w') := Lib.hid (by
          obtain ⟨hP, hD⟩ := HP.out
          obtain ⟨m1, m2⟩ := HMk.out hap
          have := hP.mark hD.sm.off (by rw [hD.sm.sh.hn]; decide) (by have := hD.sm.wts; omega) t (t + 1) (by rw [HXp.out]; decide) a1 a2 (by omega)
          rw [HXp.out, hD.sm.sh.hn, m2] at this
          exact this.mono fun e w' ⟨h1, h2⟩ => ⟨h1, _, _, h2, m1⟩)
        have hn1 := (HKs.out).trans (if_pos hap)
        have HN : Hid ((apK ts (k + 1)).1 = t) := Lib.hid (by rw [hn1])
        clear hn1 HSk HMk HKs
        obtain ⟨-, -, x2⟩ := hP.cells
        have d1 : decide ((t : Int) < 1) = false := decide_eq_false (by omega)
        have d2 : decide ((281474976710656 : Int) < (t : Int)) = false := decide_eq_false (by omega)
        have d3 : decide (t ≤ bb) = false := decide_eq_false (by omega)
        have d4 : decide ((t : Int) ≤ (bb : Int)) = false := decide_eq_false (by omega)
        clear hP hap
        go_wp2_with (go_at_call 8; go_must (refine HC.out.mono ?_); rintro e w3 ⟨rfl, hR3⟩; have HR3 := Lib.hid hR3; clear hR3)
        go_roundw
        case rel => exact ⟨k + 1, by omega, by rw [HN.out], by go_num, HR3.out⟩
        case measure => simp [intOf]; omega
      · have hn1 := (HKs.out).trans (if_neg hap)
        have HN : Hid ((apK ts (k + 1)).1 = bb ∧ ApR V1 X ts (k + 1) wx) := Lib.hid ⟨by rw [hn1, HBB.out], s, f, HP.out.1, HSk.out hap⟩
        clear hn1 HSk HMk HKs hP
        by_cases h1 : t < 1
        · have d1 : decide ((t : Int) < 1) = true := decide_eq_true (by omega)
          clear hap h1
          go_wp2_with fail
          go_roundw
          case rel => exact ⟨k + 1, by omega, by rw [HN.out.1], by go_num, HN.out.2⟩
          case measure => simp [intOf]; omega
        · have d1 : decide ((t : Int) < 1) = false := decide_eq_false (by omega)
          by_cases h2 : 281474976710656 < t
          · have d2 : decide ((281474976710656 : Int) < (t : Int)) = true := decide_eq_true (by omega)
            clear hap h1 h2
            go_wp2_with fail
            go_roundw
            case rel => exact ⟨k + 1, by omega, by rw [HN.out.1], by go_num, HN.out.2⟩
            case measure => simp [intOf]; omega
          · have h3 : t ≤ bb := by
              rcases Nat.lt_or_ge bb t with h | h
              · exact absurd ⟨by omega, by omega, h⟩ hap
              · exact h
            have d2 : decide ((281474976710656 : Int) < (t : Int)) = false := decide_eq_false (by omega)
            have d3 : decide (t ≤ bb) = true := decide_eq_true h3
            have d4 : decide ((t : Int) ≤ (bb : Int)) = true := decide_eq_true (by omega)
            clear hap h1 h2 h3
            go_wp2_with fail
            go_roundw
            case rel => exact ⟨k + 1, by omega, by rw [HN.out.1], by go_num, HN.out.2⟩
            case measure => simp [intOf]; omega
    · obtain rfl : k = ts.length := by omega
      have hki : ¬ (ts.length : Int) < (ts.length : Int) := by omega
      obtain ⟨bb, hbb⟩ : ∃ bb, bb = (apK ts ts.length).1 := ⟨_, rfl⟩
      rw [← hbb] at hb48 ⊢
      have HBB := Lib.hid hbb
      clear hbb
      have HR := Lib.hid (ap_logw HXx.out log ⟨_, _, _, _, hP, hD.toF, by omega⟩)
      have HV1 := Lib.hid hV1
      obtain ⟨-, -, x2⟩ := hP.cells
      have x2d : wx.drew.cell? ⟨X.xb, 2, none⟩ = some (.pointer (some ⟨X.lf, 0, none⟩)) := x2
      have x2a : (wx.alloc (.cells (pc (zeros 88)) 5)).cell? ⟨X.xb, 2, none⟩ = some (.pointer (some ⟨X.lf, 0, none⟩)) := ((Keeps.refl Non wx).alloc _).cell x2 id
      have hmk : ∀ W : World, (Instr.makeSlice 55 (.int .i64 88) (.int .i64 88)).run Tryz.prog W = .ok (.slice (some ⟨W.heap.size, 0, none⟩) 88 88) (W.alloc (.cells (pc (zeros 88)) 5)) := made_bytes 88 (by omega)
      clear hP hD hV1
      go_upto_region 14 with fail
      go_cut [18] from 85 to 91 (fun v wc => ∃ ev lg, v = .int .i64 ev ∧ ApL log ev lg ∧ ApP V1 X (apK ts ts.length).2 lg none 400000001 wc)
      case first =>
        go_region_law (first
          | (go_simp; go_at_call 13; refine HR.out.mono ?_; rintro e w3 ⟨ev, lg, rfl, hL3, hP3⟩; go_must (have HF3 := Lib.hid (And.intro hL3 hP3); clear hL3 hP3)))
        all_goals
          go_wp2_with fail
          go_meet
          case rel => exact ⟨ev, lg, rfl, HF3.out.1, HF3.out.2⟩
      obtain ⟨ev, lg, rfl, hL, hP3⟩ := hcut
      obtain ⟨w3, rfl⟩ : ∃ W : World, W = wc := ⟨_, rfl⟩
      have HL := Lib.hid hL
      clear hL x2 x2d x2a HR
      -- Write
      have hC3 : w3.cell? ⟨X.xb, 2, none⟩ = some (.pointer (some ⟨X.lf, 0, none⟩)) := by obtain ⟨s, f, g, q, h, -⟩ := id hP3; exact h.cells.2.2
      have HR := Lib.hid (ap_write hP3 at_ ha1 ha2 b bA bc (HA.out.2.1.non HV1.out) (fun ad e => Nat.lt_of_lt_of_le (HA.out.2.2.1 ad e) HV1.out.size) hbc hbl)
      clear hP3
      go_upto_region 16 with (go_at_call 14; go_must (refine HR.out.mono ?_); rintro e w4 ⟨fv, dt, rfl, hW, hP4⟩)
      have HW := Lib.hid hW
      clear hW HR hC3
      -- Flush
      have hC4 : w4.cell? ⟨X.xb, 2, none⟩ = some (.pointer (some ⟨X.lf, 0, none⟩)) := by obtain ⟨s, f, g, q, h, -⟩ := id hP4; exact h.cells.2.2
      have HR := Lib.hid (ap_flush hP4)
      clear hP4
      go_upto_region 17 with (go_at_call 9; go_must (refine HR.out.mono ?_); rintro e w5 ⟨rfl, hP5⟩)
      clear HR hC4
      -- LogWrite again
      obtain ⟨z1, hz1⟩ : ∃ z1, z1 = IntKind.i64.wrap (log + 1) := ⟨_, rfl⟩
      obtain ⟨z2, hz2⟩ : ∃ z2, z2 = Int.tmod z1 256 := ⟨_, rfl⟩
      have HR := Lib.hid (ap_logw2 HL.out hl1 hl2 hP5 z2 (by rw [hz2, hz1]))
      have y1 : IntKind.i64.wrap (log + 1) = z1 := hz1.symm
      have y2 : Int.tmod z1 256 = z2 := hz2.symm
      clear hz1 hz2
      have x2 : w5.cell? ⟨X.xb, 2, none⟩ = some (.pointer (some ⟨X.lf, 0, none⟩)) := by obtain ⟨s, f, h, -⟩ := id hP5; exact h.cells.2.2
      have x2d : w5.drew.cell? ⟨X.xb, 2, none⟩ = some (.pointer (some ⟨X.lf, 0, none⟩)) := x2
      have x2a : (w5.alloc (.cells (pc (zeros 88)) 5)).cell? ⟨X.xb, 2, none⟩ = some (.pointer (some ⟨X.lf, 0, none⟩)) := ((Keeps.refl Non w5).alloc _).cell x2 id
      clear hP5
      go_cut [] from 104 to 112 (fun wc => ApC V1 X (apK ts ts.length).2 lg dt wc)
      case first =>
        go_region_law (first
          | (go_simp; go_at_call 13; refine HR.out.mono ?_; rintro e w6 ⟨⟨v6, rfl⟩, hP6⟩; go_must (have HF6 := Lib.hid hP6; clear hP6)))
        all_goals
          go_wp2_with fail
          go_meet
          case rel => exact HF6.out
      obtain ⟨w6, rfl⟩ : ∃ W : World, W = wc := ⟨_, rfl⟩
      clear x2 x2d x2a HR y1 y2 hmk
      -- Up
      have hC6 : w6.cell? ⟨X.xb, 0, none⟩ = some (.pointer (some ⟨X.K.p, 0, none⟩)) := by obtain ⟨s, s', f, h, -⟩ := id hcut; exact h.cells.1
      have HR := Lib.hid (ap_up hcut st sA sc (HA.out.2.2.2.1.keep HV1.out fun _ _ e => e) (fun ad e => Nat.lt_of_lt_of_le (HA.out.2.2.2.2 ad e) HV1.out.size) hst)
      clear hcut
      go_upto_region 19 with (go_at_call 11; go_must (refine HR.out.mono ?_); rintro e w7 ⟨rfl, hP7⟩)
      clear HR hC6
      -- Ubers
      have hC7 : w7.cell? ⟨X.xb, 2, none⟩ = some (.pointer (some ⟨X.lf, 0, none⟩)) := by obtain ⟨s, f, h, -⟩ := id hP7; exact h.cells.2.2
      have HR : Hid (Calls Tryz.prog 12 #[.pointer (some ⟨X.lf, 0, none⟩)] w7 fun e w' => ∃ mA mc M, e = .returned (.slice mA M.length mc) ∧ RowB w' (.slice mA M.length mc) M ∧ ((bb = 0 → M.length = 0) ∧ (0 < bb → ∃ h : 0 < M.length, M[0] = ⟨9, bb, bb + 1⟩)) ∧ M.length ≤ 19 ∧ Keeps Non w7 w') := Lib.hid (by rw [HBB.out]; exact ap_ubers HXx.out hP7)
      go_upto_region 20 with (go_at_call 12; go_must (refine HR.out.mono ?_); rintro e w8 ⟨mA, mc, M, rfl, hR8, hM8, hl8, hK8⟩)
      have hP8 := hP7.non hK8
      have HM8 := Lib.hid hM8
      clear HR hC7 hP7 hM8 hK8
      -- LogRead
      have hC8 : w8.cell? ⟨X.xb, 2, none⟩ = some (.pointer (some ⟨X.lf, 0, none⟩)) := by obtain ⟨s, f, h, -⟩ := id hP8; exact h.cells.2.2
      have HR := Lib.hid (ap_logr HL.out hP8)
      go_upto_region 21 with (go_at_call 15; go_must (refine HR.out.mono ?_); rintro e w9 ⟨nv, rA, rn, rc, tv, rfl, hG9, hK9⟩)
      have hP9 := hP8.non hK9
      have hR9 := hR8.non hK9
      have HG9 := Lib.hid hG9
      clear HR hC8 hP8 hR8 hG9 hK9
      go_cut [163] from 134 to 163 (fun v wc => v = .bool false ∧ wc = w9)
      case first =>
        by_cases hb0 : bb = 0
        · have hM0 := HM8.out.1 hb0
          have d1 : decide (0 < bb) = false := decide_eq_false (by omega)
          have d2 : decide ((0 : Int) < (bb : Int)) = false := decide_eq_false (by omega)
          have d3 : ((bb : Int) == 0) = true := by rw [hb0]; rfl
          have d4 : ((M.length : Int) != 0) = false := by rw [hM0]; rfl
          have HM0 := Lib.hid hM0
          have HB0 := Lib.hid hb0
          clear hM0 hb0
          go_wp2_with fail
          go_meet
          case rel => exact ⟨rfl, rfl⟩
        · obtain ⟨hpos, hM0⟩ := HM8.out.2 (by omega)
          obtain ⟨g, cap, e1, -, -, hc, -, -⟩ := hR9.at_ encB_len hpos
          injection e1 with e1 e2 e3
          clear e2
          subst e1 e3
          rw [hM0] at hc
          have z0 : w9.cell? ⟨g, 0, none⟩ = some (.int .u64 9) := hc 0 (by decide)
          have z1 : w9.cell? ⟨g, 1, none⟩ = some (.int .u64 (bb : Int)) := hc 1 (by decide)
          have z2 : w9.cell? ⟨g, 2, none⟩ = some (.int .u64 ((bb : Int) + 1)) := hc 2 (by decide)
          have z3 : w9.cell? ⟨g, 3, none⟩ = some (.int .i64 0) := hc 3 (by decide)
          have z4 : w9.cell? ⟨g, 4, none⟩ = some (.int .i64 0) := hc 4 (by decide)
          have z5 : w9.cell? ⟨g, 5, none⟩ = some (.int .i64 0) := hc 5 (by decide)
          have z6 : w9.cell? ⟨g, 6, none⟩ = some (.int .u64 0) := hc 6 (by decide)
          have z7 : w9.cell? ⟨g, 7, none⟩ = some (.int .i64 0) := hc 7 (by decide)
          have z8 : w9.cell? ⟨g, 8, none⟩ = some (.int .u64 0) := hc 8 (by decide)
          have z9 : w9.cell? ⟨g, 9, none⟩ = some (.int .u64 0) := hc 9 (by decide)
          have z10 : w9.cell? ⟨g, 10, none⟩ = some (.int .u64 0) := hc 10 (by decide)
          have z11 : w9.cell? ⟨g, 11, none⟩ = some (.int .u64 0) := hc 11 (by decide)
          clear hc
          have d1 : decide (0 < bb) = true := decide_eq_true (by omega)
          have d2 : decide ((0 : Int) < (bb : Int)) = true := decide_eq_true (by omega)
          have d3 : ((bb : Int) == 0) = false := by rw [beq_eq_false_iff_ne]; omega
          have d4 : ((M.length : Int) == 0) = false := by rw [beq_eq_false_iff_ne]; omega
          have d5 : ¬ M.length = 0 := by omega
          have d6 : ¬ bb = 0 := hb0
          have hp0 : (0 : Int) < (M.length : Int) := by omega
          have HM0 := Lib.hid hM0
          clear hM0 hR9
          go_wp2_with fail
          go_meet
          case rel => exact ⟨rfl, rfl⟩
      obtain ⟨w10, rfl⟩ : ∃ W : World, W = wc := ⟨_, rfl⟩
      obtain ⟨rfl, rfl⟩ := hcut
      clear hR9 HM8
      go_upto_region 23 with fail
      go_cut [180] from 164 to 180 (fun v wc => v = .bool false ∧ Keeps Non w10 wc)
      case first =>
        have hk0 : Keeps Non w10 w10.drew := (Keeps.refl Non w10).drew
        have hk1 : Keeps Non w10 (w10.alloc (.cells (pc (zeros 88)) 5)).drew := ((Keeps.refl Non w10).alloc _).drew
        rcases HL.out with ⟨l, hlog, hl, hev, hlg⟩ | ⟨hlog, hev, hlg⟩
        · obtain ⟨q1, q2, q3, q4⟩ := HG9.out l hlg
          subst hev q1 q2 q3
          have HLG := Lib.hid (And.intro hlog (And.intro hl hlg))
          clear hlog hl hlg
          have hmk : ∀ W : World, (Instr.makeSlice 55 (.int .i64 88) (.int .i64 88)).run Tryz.prog W = .ok (.slice (some ⟨W.heap.size, 0, none⟩) 88 88) (W.alloc (.cells (pc (zeros 88)) 5)) := made_bytes 88 (by omega)
          have cv : ∀ W : World, Keeps Non w10 W → (convert 55 9 (.slice rA 88 rc)).run Tryz.prog W = .ok (.string (str (zeros 88))) W := fun W hW => run_convert_at 55 9 5 Tryz.underlying55 Tryz.underlying5 Tryz.underlying9 rA (zeros 88) (q4.non hW) 88 rc (zeros_length _).symm
          have c2 := cv w10.drew hk0
          have c4 := cv (w10.drew.alloc (.cells (pc (zeros 88)) 5)) (hk0.non ((Keeps.refl Non w10.drew).alloc _))
          have c6 : (convert 55 9 (.slice (some ⟨w10.drew.heap.size, 0, none⟩) 88 88)).run Tryz.prog (w10.drew.alloc (.cells (pc (zeros 88)) 5)) = .ok (.string (str (zeros 88))) (w10.drew.alloc (.cells (pc (zeros 88)) 5)) := run_convert_at 55 9 5 Tryz.underlying55 Tryz.underlying5 Tryz.underlying9 _ (zeros 88) (At.blk (Blk.new w10.drew 5 _)) 88 88 (zeros_length _).symm
          have hk4 := hk0.non ((Keeps.refl Non w10.drew).alloc (.cells (pc (zeros 88)) 5))
          clear cv q4 hk1
          refine wp_region_held_drew (S := fun w' : World => (convert 55 9 (.slice rA 88 rc)).run Tryz.prog w' = .ok (.string (str (zeros 88))) w') (by kernel_rfl) c2 (fun hH0 => ?_)
          generalize w10.drew = wd at *
          refine wpAnyH_take (i := 0) (oi := ⟨some 164, _, _, _, _, _⟩) (v := .int .i64 0) rfl (by kernel_rfl) (by kernel_rfl) (by kernel_rfl) (fun _ _ _ h => h) (Or.inl ⟨by kernel_rfl, by intro w' hw'; go_simp⟩) (by assumption) ?_
          simp only [Act.put, List.setIfInBounds_toArray, List.set_cons_zero, List.set_cons_succ]
          refine wpAnyH_take (i := 1) (oi := ⟨some 165, _, _, _, _, _⟩) (v := .bool true) rfl (by kernel_rfl) (by kernel_rfl) (by kernel_rfl) (fun _ _ _ h => h) (Or.inl ⟨by kernel_rfl, by intro w' hw'; go_simp⟩) (by assumption) ?_
          simp only [Act.put, List.setIfInBounds_toArray, List.set_cons_zero, List.set_cons_succ]
          refine wpAnyH_take (i := 2) (oi := ⟨some 166, _, _, _, _, _⟩) (v := .bool true) rfl (by kernel_rfl) (by kernel_rfl) (by kernel_rfl) (fun _ _ _ h => h) (Or.inl ⟨by kernel_rfl, by intro w' hw'; go_simp⟩) (by assumption) ?_
          simp only [Act.put, List.setIfInBounds_toArray, List.set_cons_zero, List.set_cons_succ]
          refine wpAnyH_take (i := 3) (oi := ⟨some 167, _, _, _, _, _⟩) (v := .int .u64 5) rfl (by kernel_rfl) (by kernel_rfl) (by kernel_rfl) (fun _ _ _ h => h) (Or.inl ⟨by kernel_rfl, by intro w' hw'; go_simp⟩) (by assumption) ?_
          simp only [Act.put, List.setIfInBounds_toArray, List.set_cons_zero, List.set_cons_succ]
          refine wpAnyH_take (i := 4) (oi := ⟨some 168, _, _, _, _, _⟩) (v := .bool false) rfl (by kernel_rfl) (by kernel_rfl) (by kernel_rfl) (fun _ _ _ h => h) (Or.inl ⟨by kernel_rfl, by intro w' hw'; go_simp⟩) (by assumption) ?_
          simp only [Act.put, List.setIfInBounds_toArray, List.set_cons_zero, List.set_cons_succ]
          refine wpAnyH_take (i := 5) (oi := ⟨some 169, _, _, _, _, _⟩) (v := .bool false) rfl (by kernel_rfl) (by kernel_rfl) (by kernel_rfl) (fun _ _ _ h => h) (Or.inl ⟨by kernel_rfl, by intro w' hw'; go_simp⟩) (by assumption) ?_
          simp only [Act.put, List.setIfInBounds_toArray, List.set_cons_zero, List.set_cons_succ]
          refine wpAnyH_take (i := 6) (oi := ⟨some 170, _, _, _, _, _⟩) (v := .bool true) rfl (by kernel_rfl) (by kernel_rfl) (by kernel_rfl) (fun _ _ _ h => h) (Or.inl ⟨by kernel_rfl, by intro w' hw'; go_simp⟩) (by assumption) ?_
          simp only [Act.put, List.setIfInBounds_toArray, List.set_cons_zero, List.set_cons_succ]
          refine wpAnyH_take (i := 7) (oi := ⟨some 171, _, _, _, _, _⟩) (v := .bool false) rfl (by kernel_rfl) (by kernel_rfl) (by kernel_rfl) (fun _ _ _ h => h) (Or.inl ⟨by kernel_rfl, by intro w' hw'; go_simp⟩) (by assumption) ?_
          simp only [Act.put, List.setIfInBounds_toArray, List.set_cons_zero, List.set_cons_succ]
          refine wpAnyH_take (i := 8) (oi := ⟨some 172, _, _, _, _, _⟩) (v := .bool false) rfl (by kernel_rfl) (by kernel_rfl) (by kernel_rfl) (fun _ _ _ h => h) (Or.inl ⟨by kernel_rfl, by intro w' hw'; go_simp⟩) (by assumption) ?_
          simp only [Act.put, List.setIfInBounds_toArray, List.set_cons_zero, List.set_cons_succ]
          refine wpAnyH_take (i := 9) (oi := ⟨some 173, _, _, _, _, _⟩) (v := .bool false) rfl (by kernel_rfl) (by kernel_rfl) (by kernel_rfl) (fun _ _ _ h => h) (Or.inl ⟨by kernel_rfl, by intro w' hw'; go_simp⟩) (by assumption) ?_
          simp only [Act.put, List.setIfInBounds_toArray, List.set_cons_zero, List.set_cons_succ]
          refine wpAnyH_take (i := 10) (oi := ⟨some 174, _, _, _, _, _⟩) (v := .slice rA 88 rc) rfl (by kernel_rfl) (by kernel_rfl) (by kernel_rfl) (fun _ _ _ h => h) (Or.inl ⟨by kernel_rfl, by intro w' hw'; go_simp⟩) (by assumption) ?_
          simp only [Act.put, List.setIfInBounds_toArray, List.set_cons_zero, List.set_cons_succ]
          refine wpAnyH_take (i := 11) (oi := ⟨some 175, _, _, _, _, _⟩) (v := .string (str (zeros 88))) rfl (by kernel_rfl) (by kernel_rfl) (by kernel_rfl) (fun _ _ _ h => h) (Or.inl ⟨by kernel_rfl, by intro w' hw'; go_simp⟩) (by assumption) ?_
          simp only [Act.put, List.setIfInBounds_toArray, List.set_cons_zero, List.set_cons_succ]
          refine wpAnyH_ready (rs := [12]) (by kernel_rfl) (by simp) ?_
          refine AllReadyH.cons (o := ⟨some 176, _, _, _, _, _⟩) rfl (fun K' hK' => ?_) AllReadyH.nil
          go_simp
          refine hK'.out _ _ c4 (fun hH => ?_)
          clear hK'
          clear K'
          try simp only [Act.put, List.setIfInBounds_toArray, List.set_cons_zero, List.set_cons_succ]
          refine wpAnyH_ready (rs := [13]) (by kernel_rfl) (by simp) ?_
          refine AllReadyH.cons (o := ⟨some 177, _, _, _, _, _⟩) rfl (fun K' hK' => ?_) AllReadyH.nil
          go_simp
          refine hK'.out _ _ c4 (fun hH => ?_)
          clear hK'
          clear K'
          try simp only [Act.put, List.setIfInBounds_toArray, List.set_cons_zero, List.set_cons_succ]
          refine wpAnyH_take (i := 14) (oi := ⟨some 178, _, _, _, _, _⟩) (v := .bool false) rfl (by kernel_rfl) (by kernel_rfl) (by kernel_rfl) (fun _ _ _ h => h) (Or.inl ⟨by kernel_rfl, by intro w' hw'; go_simp⟩) (by assumption) ?_
          simp only [Act.put, List.setIfInBounds_toArray, List.set_cons_zero, List.set_cons_succ]
          refine wpAnyH_take (i := 15) (oi := ⟨some 179, _, _, _, _, _⟩) (v := .bool false) rfl (by kernel_rfl) (by kernel_rfl) (by kernel_rfl) (fun _ _ _ h => h) (Or.inl ⟨by kernel_rfl, by intro w' hw'; go_simp⟩) (by assumption) ?_
          simp only [Act.put, List.setIfInBounds_toArray, List.set_cons_zero, List.set_cons_succ]
          refine wpAnyH_take (i := 16) (oi := ⟨some 180, _, _, _, _, _⟩) (v := .bool false) rfl (by kernel_rfl) (by kernel_rfl) (by kernel_rfl) (fun _ _ _ h => h) (Or.inl ⟨by kernel_rfl, by intro w' hw'; go_simp⟩) (by assumption) ?_
          simp only [Act.put, List.setIfInBounds_toArray, List.set_cons_zero, List.set_cons_succ]
          refine wpAnyH_done (by kernel_rfl) ?_ _
          go_wp2_with fail
          go_meet
          case rel => exact ⟨rfl, hk4⟩
        · subst hev
          have HLG := Lib.hid (And.intro hlog hlg)
          clear hlog hlg hk1
          refine wp_region_held_drew (S := fun _ : World => True) (by kernel_rfl) trivial (fun hH0 => ?_)
          refine wpAnyH_take (i := 0) (oi := ⟨some 164, _, _, _, _, _⟩) (v := .int .i64 1) rfl (by kernel_rfl) (by kernel_rfl) (by kernel_rfl) (fun _ _ _ h => h) (Or.inl ⟨by kernel_rfl, by intro w' hw'; go_simp⟩) (by assumption) ?_
          simp only [Act.put, List.setIfInBounds_toArray, List.set_cons_zero, List.set_cons_succ]
          refine wpAnyH_take (i := 1) (oi := ⟨some 165, _, _, _, _, _⟩) (v := .bool false) rfl (by kernel_rfl) (by kernel_rfl) (by kernel_rfl) (fun _ _ _ h => h) (Or.inl ⟨by kernel_rfl, by intro w' hw'; go_simp⟩) (by assumption) ?_
          simp only [Act.put, List.setIfInBounds_toArray, List.set_cons_zero, List.set_cons_succ]
          refine wpAnyH_take (i := 2) (oi := ⟨some 166, _, _, _, _, _⟩) (v := .bool false) rfl (by kernel_rfl) (by kernel_rfl) (by kernel_rfl) (fun _ _ _ h => h) (Or.inl ⟨by kernel_rfl, by intro w' hw'; go_simp⟩) (by assumption) ?_
          simp only [Act.put, List.setIfInBounds_toArray, List.set_cons_zero, List.set_cons_succ]
          refine wpAnyH_take (i := 3) (oi := ⟨some 167, _, _, _, _, _⟩) (v := undef) rfl (by kernel_rfl) (by kernel_rfl) (by kernel_rfl) (fun _ _ _ h => h) (Or.inr ⟨by kernel_rfl, rfl⟩) (by assumption) ?_
          simp only [Act.put, List.setIfInBounds_toArray, List.set_cons_zero, List.set_cons_succ]
          refine wpAnyH_take (i := 4) (oi := ⟨some 168, _, _, _, _, _⟩) (v := undef) rfl (by kernel_rfl) (by kernel_rfl) (by kernel_rfl) (fun _ _ _ h => h) (Or.inr ⟨by kernel_rfl, rfl⟩) (by assumption) ?_
          simp only [Act.put, List.setIfInBounds_toArray, List.set_cons_zero, List.set_cons_succ]
          refine wpAnyH_take (i := 5) (oi := ⟨some 169, _, _, _, _, _⟩) (v := undef) rfl (by kernel_rfl) (by kernel_rfl) (by kernel_rfl) (fun _ _ _ h => h) (Or.inr ⟨by kernel_rfl, rfl⟩) (by assumption) ?_
          simp only [Act.put, List.setIfInBounds_toArray, List.set_cons_zero, List.set_cons_succ]
          refine wpAnyH_take (i := 6) (oi := ⟨some 170, _, _, _, _, _⟩) (v := undef) rfl (by kernel_rfl) (by kernel_rfl) (by kernel_rfl) (fun _ _ _ h => h) (Or.inr ⟨by kernel_rfl, rfl⟩) (by assumption) ?_
          simp only [Act.put, List.setIfInBounds_toArray, List.set_cons_zero, List.set_cons_succ]
          refine wpAnyH_take (i := 7) (oi := ⟨some 171, _, _, _, _, _⟩) (v := undef) rfl (by kernel_rfl) (by kernel_rfl) (by kernel_rfl) (fun _ _ _ h => h) (Or.inr ⟨by kernel_rfl, rfl⟩) (by assumption) ?_
          simp only [Act.put, List.setIfInBounds_toArray, List.set_cons_zero, List.set_cons_succ]
          refine wpAnyH_take (i := 8) (oi := ⟨some 172, _, _, _, _, _⟩) (v := undef) rfl (by kernel_rfl) (by kernel_rfl) (by kernel_rfl) (fun _ _ _ h => h) (Or.inr ⟨by kernel_rfl, rfl⟩) (by assumption) ?_
          simp only [Act.put, List.setIfInBounds_toArray, List.set_cons_zero, List.set_cons_succ]
          refine wpAnyH_take (i := 9) (oi := ⟨some 173, _, _, _, _, _⟩) (v := undef) rfl (by kernel_rfl) (by kernel_rfl) (by kernel_rfl) (fun _ _ _ h => h) (Or.inr ⟨by kernel_rfl, rfl⟩) (by assumption) ?_
          simp only [Act.put, List.setIfInBounds_toArray, List.set_cons_zero, List.set_cons_succ]
          refine wpAnyH_take (i := 10) (oi := ⟨some 174, _, _, _, _, _⟩) (v := undef) rfl (by kernel_rfl) (by kernel_rfl) (by kernel_rfl) (fun _ _ _ h => h) (Or.inr ⟨by kernel_rfl, rfl⟩) (by assumption) ?_
          simp only [Act.put, List.setIfInBounds_toArray, List.set_cons_zero, List.set_cons_succ]
          refine wpAnyH_take (i := 11) (oi := ⟨some 175, _, _, _, _, _⟩) (v := undef) rfl (by kernel_rfl) (by kernel_rfl) (by kernel_rfl) (fun _ _ _ h => h) (Or.inr ⟨by kernel_rfl, rfl⟩) (by assumption) ?_
          simp only [Act.put, List.setIfInBounds_toArray, List.set_cons_zero, List.set_cons_succ]
          refine wpAnyH_take (i := 12) (oi := ⟨some 176, _, _, _, _, _⟩) (v := undef) rfl (by kernel_rfl) (by kernel_rfl) (by kernel_rfl) (fun _ _ _ h => h) (Or.inr ⟨by kernel_rfl, rfl⟩) (by assumption) ?_
          simp only [Act.put, List.setIfInBounds_toArray, List.set_cons_zero, List.set_cons_succ]
          refine wpAnyH_take (i := 13) (oi := ⟨some 177, _, _, _, _, _⟩) (v := undef) rfl (by kernel_rfl) (by kernel_rfl) (by kernel_rfl) (fun _ _ _ h => h) (Or.inr ⟨by kernel_rfl, rfl⟩) (by assumption) ?_
          simp only [Act.put, List.setIfInBounds_toArray, List.set_cons_zero, List.set_cons_succ]
          refine wpAnyH_take (i := 14) (oi := ⟨some 178, _, _, _, _, _⟩) (v := undef) rfl (by kernel_rfl) (by kernel_rfl) (by kernel_rfl) (fun _ _ _ h => h) (Or.inr ⟨by kernel_rfl, rfl⟩) (by assumption) ?_
          simp only [Act.put, List.setIfInBounds_toArray, List.set_cons_zero, List.set_cons_succ]
          refine wpAnyH_take (i := 15) (oi := ⟨some 179, _, _, _, _, _⟩) (v := undef) rfl (by kernel_rfl) (by kernel_rfl) (by kernel_rfl) (fun _ _ _ h => h) (Or.inr ⟨by kernel_rfl, rfl⟩) (by assumption) ?_
          simp only [Act.put, List.setIfInBounds_toArray, List.set_cons_zero, List.set_cons_succ]
          refine wpAnyH_take (i := 16) (oi := ⟨some 180, _, _, _, _, _⟩) (v := .bool false) rfl (by kernel_rfl) (by kernel_rfl) (by kernel_rfl) (fun _ _ _ h => h) (Or.inl ⟨by kernel_rfl, by intro w' hw'; go_simp⟩) (by assumption) ?_
          simp only [Act.put, List.setIfInBounds_toArray, List.set_cons_zero, List.set_cons_succ]
          refine wpAnyH_done (by kernel_rfl) ?_ _
          go_wp2_with fail
          go_meet
          case rel => exact ⟨rfl, hk0⟩
      obtain ⟨w11, rfl⟩ : ∃ W : World, W = wc := ⟨_, rfl⟩
      obtain ⟨rfl, hk11⟩ := hcut
      have hP11 := hP9.non hk11
      clear hP9 hk11 HG9
      have HBat := Lib.hid (HA.out.2.1.non HV1.out)
      have hC11 : w11.cell? ⟨X.xb, 2, none⟩ = some (.pointer (some ⟨X.lf, 0, none⟩)) := by obtain ⟨s, f, h, -⟩ := id hP11; exact h.cells.2.2
      by_cases hf : fv = 0
      case' pos =>
        have HR := Lib.hid (ap_read HW.out hf hP11)
        have hq : Int.tdiv (b.length : Int) 128 = ((b.length / 128 : Nat) : Int) := by rw [Int.tdiv_eq_ediv_of_nonneg (by omega)]; omega
        subst hf
        obtain ⟨bq, hbq⟩ : ∃ bq, bq = b.length / 128 := ⟨_, rfl⟩
        rw [← hbq] at HR hq
        have hqb : bq ≤ 140737488351232 := by omega
        have hqw : wrap64 (bq : Int) = (bq : Int) := IntWalk.wrap64_in _ ⟨by omega, by omega⟩
        clear hbq
        go_upto_region 27 with (go_at_call 16; go_must (refine HR.out.mono ?_); rintro e w12 ⟨rB, rcB, rfl, hAB, hk12⟩)
        have hP12 := hP11.non hk12
        have c1 : (convert 55 9 (.slice rB b.length rcB)).run Tryz.prog w12 = .ok (.string (str b)) w12 := run_convert_at 55 9 5 Tryz.underlying55 Tryz.underlying5 Tryz.underlying9 rB b hAB b.length rcB rfl
        have c2 : (convert 55 9 (.slice bA b.length bc)).run Tryz.prog w12 = .ok (.string (str b)) w12 := run_convert_at 55 9 5 Tryz.underlying55 Tryz.underlying5 Tryz.underlying9 bA b (HBat.out.non (ap_keeps hP12)) b.length bc rfl
        clear hq hqw hqb HR hAB hk12 hC11 hP11
        go_upto_region 29 with fail
        clear c1 c2
        have HPz := Lib.hid hP12
        clear hP12
        obtain ⟨w13, hw13⟩ : ∃ W : World, W = w12 := ⟨_, rfl⟩
      case' neg =>
        have hf1 : fv = 1 := by
          rcases HW.out with ⟨a, m, -, -, -, h, -⟩ | ⟨h, -⟩
          · exact absurd h hf
          · exact h
        subst hf1
        clear hf
        go_upto_region 29 with fail
        have HPz := Lib.hid hP11
        clear hC11 hP11
        obtain ⟨w13, hw13⟩ : ∃ W : World, W = w11 := ⟨_, rfl⟩
      all_goals
        subst hw13
        have hx1 : w13.cell? ⟨X.xb, 1, none⟩ = some (.pointer (some ⟨X.K.d, 0, none⟩)) := by obtain ⟨s, f, h, -⟩ := HPz.out; exact h.cells.2.1
        have HR := Lib.hid (ap_open HXx.out HPz.out)
        go_upto_region 30 with (go_at_call 17; go_must (refine HR.out.mono ?_); rintro e w14 ⟨lf, rfl, hk14, hLb⟩)
        have HLb := Lib.hid (hLb w14 (Keeps.refl _ _))
        have HK := Lib.hid ((HV1.out.non (ap_keeps HPz.out)).non hk14)
        clear hx1 HR hk14 hLb
        go_wp2_with (go_at_call 18; go_must (refine HLb.out.mono ?_); rintro e w15 ⟨lA, lc, rfl, hk15⟩; have hfd := field32 (.int .u64 9) (.slice lA 1 lc) (.int .i64 0) (.int .i64 0) w15; have HK15 := Lib.hid (HK.out.non hk15); clear hk15)
        go_ret
        exact ⟨rfl, HK15.out⟩
end Go.Proofs.YtipbjiepfnjojaaGreatDoor
