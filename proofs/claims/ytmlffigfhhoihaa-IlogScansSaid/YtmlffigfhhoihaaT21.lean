/- The walk of IlogScans, the law, where the base may be one. -/
import Derived.Test.YtmlffigfhhoihaaT20
namespace Go.Proofs.Ytmlffigfhhoihaa
open Go.RowKit Go.Uc

set_option maxRecDepth 100000 in
set_option maxHeartbeats 8000000 in
theorem ilogScans_ok (base : Nat) (A1 A2 : Option Addr) (c1 c2 : Nat) (bs more : List UInt8) (w : World) (hA1 : At w A1 bs) (hA2 : At w A2 more) (hc1 : bs.length ≤ c1) (hc2 : more.length ≤ c2) (hl1 : bs.length ≤ 140737488351232) (hl2 : more.length ≤ 140737488351232) (hbase : base ≤ 281474976710656) :
    Calls Try.prog 5 #[.int .i64 base, .slice A1 bs.length c1, .slice A2 more.length c2] w fun e w' => e = .returned (.bool true) ∧ Keeps Non w w' := by
  have HA := Lib.hid hA1
  have HA2 := Lib.hid hA2
  clear hA1 hA2
  have hR := regB_length bs
  obtain ⟨R, hRR⟩ : ∃ R, R = regB bs := ⟨_, rfl⟩
  rw [← hRR] at hR
  have HRR := Lib.hid hRR
  have HRl := Lib.hid hR
  clear hRR hR
  go_enter Try.func5, Try.ntmps5
  go_wp2_with (go_at_call 7; go_must (refine (awake_any _).mono ?_); rintro e w1 ⟨rfl, hK1⟩)
  by_cases hlen : bs.length = 22528
  case' pos =>
    have HS1 := scanD_ok base c1 A1 bs w1 hlen (HA.out.non hK1) (by omega) hbase
    rw [← hlen] at HS1
    have hfa := (scanF_facts hlen base 300 0 1 (by omega))
    obtain ⟨S, hS⟩ : ∃ S, S = scanAll bs base := ⟨_, rfl⟩
    have hfa1 : ∀ b ∈ S.1, b.length ≤ 4096 := by rw [hS]; exact hfa.1
    have hfa2 : S.1.length ≤ 300 := by rw [hS]; exact hfa.2.1
    rw [← hS] at HS1
    have HFA := Lib.hid hfa1
    have HSS := Lib.hid hS
    have HLN := Lib.hid hlen
    clear hfa hfa1 hS hlen
    refine HS1.mono ?_
    rintro e w2 ⟨v2, rfl, hx2, hR2, hK2⟩
    obtain ⟨Ax, cx, hv2, hr2, -⟩ := hR2.own_recs HFA.out
    subst hv2
    have hk2 := hK1.trans hK2
    have HS2 := refScan_ok base c1 A1 bs w2 HLN.out (HA.out.non hk2) (by have := HLN.out; omega) hbase
    rw [← HLN.out, ← HSS.out] at HS2
    have HS2' := Lib.hid HS2
    clear HS2 HS1 hR2 hx2 hK1 hK2
    go_wp2_with fail
    refine HS2'.out.mono ?_
    rintro e w3 ⟨v3, rfl, -, hR3, hK3⟩
    obtain ⟨Ay, cy, hv3, hr3, -⟩ := hR3.own_recs' HFA.out
    subst hv3
    have hk3 := hk2.trans hK3
    have hr2' := recs_non hr2 hK3
    clear hr2 hR3 hK3 hk2
    go_wp2_with (first
      | (go_at_call 18; go_must (refine (same_any Ax Ay cx cy S.1 S.1 _ hr2' hr3 (by omega) (by omega) rfl).mono ?_); rintro e w4 ⟨rfl, hK4⟩; have hk4 := hk3.trans hK4; clear hr2' hr3 hK4 hk3)
      | (go_at_call 22; go_must (refine (region_any A1 c1 bs _ (HA.out.non hk4) hl1).mono ?_); rintro e w5 ⟨rfl, hB5, hK5⟩; rw [← HRR.out] at hB5; have hk5 := hk4.trans hK5))
    skip
  case' neg =>
    have hlen1 : bs.length ≠ 22528 := hlen
    have HLN := Lib.hid hlen1
    clear hlen hlen1
    refine (scan_len base A1 bs.length c1 _ hbase HLN.out).mono ?_
    rintro e w2 ⟨rfl, hK2⟩
    have hk2 := hK1.trans hK2
    clear hK1 hK2
    go_wp2_with (first
      | (go_at_call 21; go_must (refine (refScan_len base _ _ _ _ hbase HLN.out).mono ?_); rintro e w3 ⟨rfl, hK3⟩; have hk3 := hk2.trans hK3; clear hK3 hk2)
      | (go_at_call 18; go_must (refine (same_any none none 0 0 [] [] _ (fun i h => absurd h (by simp)) (fun i h => absurd h (by simp)) (by simp) (by simp) rfl).mono ?_); rintro e w4 ⟨rfl, hK4⟩; have hk4 := hk3.trans hK4; clear hK4 hk3)
      | (go_at_call 22; go_must (refine (region_any A1 c1 bs _ (HA.out.non hk4) hl1).mono ?_); rintro e w5 ⟨rfl, hB5, hK5⟩; rw [← HRR.out] at hB5; have hk5 := hk4.trans hK5))
    skip
  all_goals
    obtain ⟨gR, hgR⟩ : ∃ g, g = w4.heap.size := ⟨_, rfl⟩
    rw [← hgR] at hB5 ⊢
    have hgr : w.heap.size ≤ gR := by have := hk4.size; omega
    have hL := lent_any (some ⟨gR, 0, none⟩) 22528 R w5 (At.blk hB5) (by have := HRl.out; omega)
    rw [HRl.out] at hL
    refine hL.mono ?_
    rintro e w6 ⟨rfl, hB6, hK6⟩
    have hB5' := hB5.non hK6
    have hk6 := hk5.trans hK6
    obtain ⟨gO, hgO⟩ : ∃ g, g = w5.heap.size := ⟨_, rfl⟩
    rw [← hgO] at hB6 ⊢
    have hne : gR ≠ gO := by have := hB5.lt; omega
    have hgo : w.heap.size ≤ gO := by have := hk5.size; omega
    have hgo6 : gO < w6.heap.size := hB6.lt
    have hgr6 : gR < w6.heap.size := hB5'.lt
    clear hL hgR hgO hB5 hK6 hk5 hk4 hK5
    have hfa := scanF_facts HRl.out base 300 0 1 (by omega)
    obtain ⟨ls, at5, nx5, hT⟩ : ∃ ls at5 nx5, scanAll R base = (ls, at5, nx5) := ⟨_, _, _, rfl⟩
    have hT1 : scanF R base 300 0 1 = (ls, at5, nx5) := hT
    rw [hT1] at hfa
    simp only at hfa
    obtain ⟨f1, f2, f3, f4⟩ := hfa
    have F1 := Lib.hid f1
    have HS1 := scanD_ok base 22529 (some ⟨gO, 0, none⟩) R w6 HRl.out (At.own' hB6) (by omega) hbase
    rw [hT] at HS1
    have HT := Lib.hid hT
    have HS1' := Lib.hid HS1
    clear hT hT1 f1 HS1
    go_wp2_with fail
    refine HS1'.out.mono ?_
    rintro e w7 ⟨v7, rfl, hx7, hR7, hK7⟩
    obtain ⟨A7, c7, hv7, hr7, hc7⟩ := hR7.own_recs F1.out
    subst hv7
    have hx7' : LogB w7 w6.heap.size 53 base at5 nx5 := hx7
    obtain ⟨gx, hgx⟩ : ∃ g, g = w6.heap.size := ⟨_, rfl⟩
    rw [← hgx] at hx7' hR7 hgo6 hgr6 ⊢
    have hB5 := hB5'.non hK7
    have hB7 := hB6.non hK7
    have hgxw : w.heap.size ≤ gx := by omega
    have hk7 := hk6.trans hK7
    have hgx7 : gx < w7.heap.size := Blk.lt hx7'
    clear hx7 hB5' hB6 hK7 hk6 hgx hr7
    have cv1 : ∀ nq, (convert 31 9 (.slice (some ⟨gO, 0, none⟩) 22528 22529)).run Try.prog (w7.drewN nq) = .ok (.string (str R)) (w7.drewN nq) := fun nq =>
      run_convert_at 31 9 5 Try.underlying31 Try.underlying5 Try.underlying9 _ _ ((At.own' hB7).non ((Keeps.refl Non _).drewN nq)) _ _ HRl.out.symm
    have cv2 : ∀ nq, (convert 31 9 (.slice (some ⟨gR, 0, none⟩) 22528 22528)).run Try.prog (w7.drewN nq) = .ok (.string (str R)) (w7.drewN nq) := fun nq =>
      run_convert_at 31 9 5 Try.underlying31 Try.underlying5 Try.underlying9 _ _ ((At.blk hB5).non ((Keeps.refl Non _).drewN nq)) _ _ HRl.out.symm
    go_wp2_with fail
    go_quiet (fail)
    clear cv1 cv2
    have hnq : Keeps Non w7 (w7.drewN nq) := (Keeps.refl Non _).drewN nq
    obtain ⟨wq, hwq⟩ : ∃ wq, wq = w7.drewN nq := ⟨_, rfl⟩
    rw [← hwq] at hnq ⊢
    have hBq := hB7.non hnq
    have hB5q := hB5.non hnq
    have hxq := Blk.non hx7' hnq
    have hRq := hR7.all hnq (fun _ _ e => e)
    have hkq := hk7.trans hnq
    have hzq := hnq.size
    have hOw := (OwnB.blk (bs := R) (xs := [200]) hBq (Nat.zero_le _) (by have := HRl.out; simp [maxLen]; omega))
    rw [HRl.out] at hOw
    have hOw2 : wq.ownsRow 0 5 1 (.slice (some ⟨gO, 0, none⟩) 22528 22529) 22528 (R.map bv) := by have := hOw; unfold OwnB at this; rw [HRl.out] at this; exact this
    clear hwq hk7 hB7 hB5 hx7' hR7 hOw hnq
    go_wp2_with (go_at_call 12; go_must (refine (spoil_any (some ⟨gO, 0, none⟩) 22528 22529 0 (R.map bv) _ hOw2 (Nat.zero_le _) (by omega)).mono ?_); rintro e w8 ⟨rfl, hK8⟩)
    have hS8 : ∀ k, gx ≤ k → ¬ Owned (.slice (some ⟨gO, 0, none⟩) 22528 22529) k := fun k hk e => by rw [owned_one] at e; omega
    have hx8 := Blk.keep hxq hK8 (hS8 gx (Nat.le_refl _))
    have hR8 := hRq.all hK8 hS8
    have hB8 := hB5q.keep hK8 (fun e => by rw [owned_one] at e; exact hne e)
    have hk8 := hkq.then hK8 (fun j hj e => by rw [owned_one] at e; omega)
    have hz8 := hK8.size
    have HS2 := refScan_ok base 22528 (some ⟨gR, 0, none⟩) R w8 HRl.out (At.blk hB8) (by omega) hbase
    rw [HT.out] at HS2
    refine HS2.mono ?_
    rintro e w9 ⟨v9, rfl, hy9, hR9, hK9⟩
    obtain ⟨A9, c9, hv9, hr9, hc9⟩ := hR9.own_recs' F1.out
    subst hv9
    have hy9' : LogB w9 w8.heap.size 55 base at5 nx5 := hy9
    obtain ⟨gy, hgy⟩ : ∃ g, g = w8.heap.size := ⟨_, rfl⟩
    rw [← hgy] at hy9' ⊢
    have hgxy : gx < gy := by omega
    have hR9' := hR8.all hK9 (fun _ _ e => e)
    obtain ⟨A7', c7', e7, hr7, -⟩ := hR9'.own_recs F1.out
    injection e7 with e7 _ e7'
    subst e7 e7'
    have hx9 := Blk.non hx8 hK9
    have hk9 := hk8.trans hK9
    clear hgy hy9 hR9 hK9 HS2 hx8 hR8 hB8 hk8 hK8 hxq hRq hBq hB5q hkq hOw2
    go_wp2_with (go_at_call 18; go_must (refine (same_any A7 A9 c7 c9 ls ls _ hr7 hr9 (by omega) (by omega) rfl).mono ?_); rintro e w10 ⟨rfl, hK10⟩)
    have hx10 := Blk.non hx9 hK10
    have hy10 := Blk.non hy9' hK10
    have hk10 := hk9.trans hK10
    obtain ⟨vs, r1, r2, r3, r4⟩ := hR9'.all hK10 (fun _ _ e => e)
    have R2 := Lib.hid r2
    have R4 := Lib.hid r4
    clear hx9 hy9' hk9 hK10 hR9' hr7 hr9 r2 r4
    go_loopw [18] (fun i wr => ∃ k : Nat, k ≤ ls.length ∧ i = .int .i64 k ∧ (∀ j (h : j < ls.length) (h' : j < vs.length), k ≤ j → OwnB wr gx 5 vs[j] ls[j]) ∧ wr.ownsRow gx 31 1 (.slice A7 ls.length c7) ls.length vs ∧
      LogB wr gx 53 base at5 nx5 ∧ LogB wr gy 55 base at5 nx5 ∧ Keeps Non w wr) (fun i _ => ls.length - (intOf i).toNat)
    case atStart => exact ⟨0, Nat.zero_le _, rfl, (fun j a b _ => r3 j a b), r1, hx10, hy10, hk10⟩
    case round =>
      obtain ⟨k, hk, rfl, hown, hrow, hx, hy, hK⟩ := hrel
      clear r3 r1 hx10 hy10 hk10
      have HOWN := Lib.hid hown
      clear hown
      by_cases hlt : k < ls.length
      · have hkv : k < vs.length := by rw [R2.out]; exact hlt
        obtain ⟨g7, hA7, hcell⟩ := row_at hrow hlt hkv
        subst hA7
        have hO := HOWN.out k hlt hkv (Nat.le_refl _)
        obtain ⟨Ak, ck, hvk, hck, -, -⟩ := hO.open
        have hb4 := F1.out _ (List.getElem_mem hlt)
        obtain ⟨vk, hvk2⟩ : ∃ vk, vk = vs[k] := ⟨_, rfl⟩
        rw [← hvk2] at hO hvk hcell
        have HVK := Lib.hid hvk2
        clear hvk2
        subst hvk
        obtain ⟨bk, hbk⟩ : ∃ bk, bk = ls[k] := ⟨_, rfl⟩
        rw [← hbk] at hO hb4 hck hcell HVK
        clear hbk
        have hO2 : wr.ownsRow gx 5 1 (.slice Ak bk.length ck) bk.length (bk.map bv) := hO
        have hgxl : gx ≤ wr.heap.size := Nat.le_of_lt (Blk.lt hx)
        go_wp2_with (go_at_call 12; go_must (refine (spoil_any Ak bk.length ck gx (bk.map bv) _ hO2 hgxl (by omega)).mono ?_); rintro e w2 ⟨rfl, hK2⟩)
        go_roundw
        case rel =>
          refine ⟨k + 1, by omega, by go_num, fun j a b hkj => ?_, ?_, ?_, ?_, ?_⟩
          · exact (HOWN.out j a b (by omega)).keep hK2 fun g hg e => R4.out k j hkv b (by omega) g (by rw [← HVK.out]; exact e) hg
          · exact row_keep hrow hK2 fun g hg e => own_types hrow hO g e hg
          · exact Blk.keep hx hK2 (Blk.apart hx hO2 (by decide))
          · exact Blk.keep hy hK2 (Blk.apart hy hO2 (by decide))
          · exact hK.then hK2 fun i hi e => by have := hO.new i e; omega
        case measure => simp [intOf]; omega
      · obtain rfl : k = ls.length := by omega
        have hA2r := HA2.out.non hK
        have hgyw := Blk.lt hy
        clear hrow
        go_wp2_with (go_at_call 11; go_must (refine (append_all gx c2 base at5 nx5 more A2 _ hx f3 hA2r hc2 hl2 hbase (by omega)).mono ?_); rintro e w11 ⟨v11, rfl, hO11, hx11, hK11⟩)
        have hy11 := Blk.one hy hK11 (by omega)
        have hk11 := hK.then hK11 (fun i hi e => by unfold Only at e; omega)
        have hA11 := HA2.out.non hk11
        obtain ⟨RA, hRA⟩ : ∃ r, r = apOut base at5 nx5 more := ⟨_, rfl⟩
        have hAP := refAppend_all gy c2 base at5 nx5 more A2 w11 hy11 f3 hA11 hc2 hl2 hbase (by omega)
        rw [← hRA] at hO11 hAP
        clear hRA
        obtain ⟨Ap, cp, hvp, hcp, -, -⟩ := hO11.open
        subst hvp
        refine hAP.mono ?_
        rintro e w12 ⟨v12, rfl, hO12, hy12, hK12⟩
        obtain ⟨Aq, cq, hvq, hcq, hAq, -⟩ := hO12.open
        subst hvq
        have hO11' := hO11.keep hK12 (fun g hg e => by have := hO11.new g hg; unfold Only at e; omega)
        obtain ⟨Ap', cp', ep, -, hAp, -⟩ := hO11'.open
        injection ep with ep _ ep'
        subst ep ep'
        have hx12 := Blk.one hx11 hK12 (by omega)
        have hk12 := hk11.then hK12 (fun i hi e => by unfold Only at e; omega)
        have cv3 := run_convert_at (P := Try.prog) (w := w12) 31 9 5 Try.underlying31 Try.underlying5 Try.underlying9 _ _ hAp _ cp rfl
        have cv4 := run_convert_at (P := Try.prog) (w := w12) 31 9 5 Try.underlying31 Try.underlying5 Try.underlying9 _ _ hAq _ cq rfl
        have hend : apEnd at5 more ≤ 22528 := by
          unfold apEnd
          split
          · rename_i h1
            simp only [okB, Bool.and_eq_true, decide_eq_true_eq] at h1
            exact room_of h1.2
          · exact f3
        clear hAP hO11 hO12 hO11' hx11 hy11 hK11 hK12 hk11 hA11 hAp hAq hx hy hK hA2r
        go_wp2_with (go_at_call 14; go_must (refine (stands_any gx gy base (apEnd at5 more) (apNext at5 nx5 more) _ _ hx12 hy12 hend).mono ?_); rintro e w13 ⟨rfl, n13, rfl⟩)
        go_ret
        exact ⟨rfl, hk12.drewN _⟩
end Go.Proofs.Ytmlffigfhhoihaa
