/- Open. -/
import Derived.Test.YtmlffigfhhoihabV10
import Derived.Deep.RegionHeld3
namespace Go.Proofs.Ytmlffigfhhoihab
open Go.RowKit Go.Uc

/-- What Open gives: the volume that the cells tell of, or none. -/
def OpenR (cs : List Cel) (w : World) (e : Ending) (w' : World) : Prop := Keeps Non w w' ∧
  ((∃ X g gb, e = .returned (.tuple #[.pointer (some ⟨g, 0, none⟩), .int .i64 0]) ∧ AlikeV X cs ∧ VolB w' g gb 55 X ∧ w.heap.size ≤ gb ∧ w.heap.size ≤ g) ∨
   ((∀ X, ¬ AlikeV X cs) ∧ e = .returned (.tuple #[.pointer none, .int .i64 190])))
theorem OpenR.no {cs : List Cel} {w w' : World} (h : ∀ X, ¬ AlikeV X cs) (hk : Keeps Non w w') : OpenR cs w (.returned (.tuple #[.pointer none, .int .i64 190])) w' := ⟨hk, .inr ⟨h, rfl⟩⟩

set_option maxHeartbeats 2000000 in
theorem open_short (c : Nat) (A : Option Addr) (cs : List Cel) (w : World) (hA : Cels w A cs) (hn : cs.length ≤ 140737488351232)
    (h : ¬ MayP cs ∨ cs.length = 0 ∨ ∃ h0 : 0 < cs.length, cs[0].at_ ≠ -1 ∨ cs[0].data.length ≠ 4) :
    Calls Try.prog 14 #[.slice A cs.length c] w (OpenR cs w) := by
  have HA := Lib.hid hA
  by_cases hm : MayP cs
  · have hmb := mayB_yes hm
    have HMB := Lib.hid hmb
    clear hmb
    by_cases h0 : cs.length = 0
    · have hno : ∀ X, ¬ AlikeV X cs := fun X hx => by obtain ⟨a, _⟩ := hx.head; omega
      have HNO := Lib.hid hno
      obtain rfl : cs = [] := List.eq_nil_of_length_eq_zero h0
      have hMa := may_any A c [] w HA.out hn
      rw [HMB.out] at hMa
      simp only [List.length_nil] at hMa ⊢
      have HMa := Lib.hid hMa
      clear hno hA h hm hMa h0
      go_enter Try.func14, Try.ntmps14
      go_wp2_with (go_at_call 27; go_must (refine HMa.out.mono ?_); rintro e w1 ⟨rfl, hK1⟩)
      go_ret2
      exact OpenR.no HNO.out hK1
    · have h0' : 0 < cs.length := by omega
      have h0b : ((cs.length : Int) == 0) = false := by rw [beq_eq_false_iff_ne]; omega
      rcases h with h | h | ⟨_, h⟩
      · exact absurd hm h
      · exact absurd h h0
      obtain ⟨x, hx⟩ : ∃ x, x = cs[0] := ⟨_, rfl⟩
      rw [← hx] at h
      have HX := Lib.hid hx
      clear hx hA hm
      by_cases h1 : x.at_ = -1
      · have h2 : x.data.length ≠ 4 := by rcases h with h | h; exact absurd h1 h; exact h
        have h1b : (x.at_ != -1) = false := by rw [h1]; simp
        have h2b : ((x.data.length : Int) != 4) = true := by rw [bne_iff_ne]; omega
        have hno : ∀ X, ¬ AlikeV X cs := fun X hX => by
          obtain ⟨_, _, b, _⟩ := hX.head
          rw [← HX.out] at b
          exact h2 b
        have HNO := Lib.hid hno
        clear hno h h1 h2
        go_enter Try.func14, Try.ntmps14
        go_wp2_with (go_at_call 27; go_must (refine (may_any A c cs _ HA.out hn).mono ?_); rw [HMB.out]; rintro e w1 ⟨rfl, hK1⟩; obtain ⟨b, off, Ai, ci, rfl, a1, a2, a3, a4, a5, a6⟩ := (HA.out.non hK1) 0 h0'; rw [← HX.out] at a1 a2 a3 a4 a5 a6; simp only [Nat.zero_mul, Nat.add_zero] at a1 a2 a3 a4)
        go_ret2
        exact OpenR.no HNO.out hK1
      · have h1b : (x.at_ != -1) = true := by rw [bne_iff_ne]; exact h1
        have hno : ∀ X, ¬ AlikeV X cs := fun X hX => by
          obtain ⟨_, a, b, _⟩ := hX.head
          rw [← HX.out] at a
          exact h1 a
        have HNO := Lib.hid hno
        clear hno h h1
        go_enter Try.func14, Try.ntmps14
        go_wp2_with (go_at_call 27; go_must (refine (may_any A c cs _ HA.out hn).mono ?_); rw [HMB.out]; rintro e w1 ⟨rfl, hK1⟩; obtain ⟨b, off, Ai, ci, rfl, a1, a2, a3, a4, a5, a6⟩ := (HA.out.non hK1) 0 h0'; rw [← HX.out] at a1 a2 a3 a4 a5 a6; simp only [Nat.zero_mul, Nat.add_zero] at a1 a2 a3 a4)
        go_ret2
        exact OpenR.no HNO.out hK1
  · have hmb := mayB_no hm
    have HMB := Lib.hid hmb
    have HNO : Hid (∀ X, ¬ AlikeV X cs) := fun X hx => hm hx.may
    clear hmb hm h hA
    go_enter Try.func14, Try.ntmps14
    go_wp2_with (go_at_call 27; go_must (refine (may_any A c cs _ HA.out hn).mono ?_); rw [HMB.out]; rintro e w1 ⟨rfl, hK1⟩)
    go_ret2
    exact OpenR.no HNO.out hK1

set_option maxRecDepth 100000 in
set_option maxHeartbeats 4000000 in
theorem open_main (c : Nat) (A : Option Addr) (cs : List Cel) (w : World) (hA : Cels w A cs) (hn : cs.length ≤ c) (hm : MayP cs) (h0 : 0 < cs.length) (h1 : cs[0].at_ = -1) (h2 : cs[0].data.length = 4) :
    Calls Try.prog 14 #[.slice A cs.length c] w (OpenR cs w) := by
  have HA := Lib.hid hA
  have hmb := mayB_yes hm
  have HMB := Lib.hid hmb
  have hn240 := hm.2
  have HM := Lib.hid hm
  have h0b : ((cs.length : Int) == 0) = false := by rw [beq_eq_false_iff_ne]; omega
  obtain ⟨x, hx⟩ : ∃ x, x = cs[0] := ⟨_, rfl⟩
  rw [← hx] at h1 h2
  obtain ⟨x0, x1, x2, x3, hxd⟩ : ∃ x0 x1 x2 x3, x.data = [x0, x1, x2, x3] := by
    match hd : x.data, h2 with
    | [a, b, c, d], _ => exact ⟨a, b, c, d, rfl⟩
  obtain ⟨N, hN⟩ : ∃ N : Nat, N = leVal x.data := ⟨_, rfl⟩
  have HX := Lib.hid hx
  have HXD := Lib.hid hxd
  have HN := Lib.hid hN
  have H1 := Lib.hid h1
  have H2 := Lib.hid h2
  clear hA hmb hm hx hxd hN h1 h2
  have b0 := x0.toNat_lt
  have b1 := x1.toNat_lt
  have b2 := x2.toNat_lt
  have b3 := x3.toNat_lt
  go_enter Try.func14, Try.ntmps14
  go_wp2_with (go_at_call 27; go_must (refine (may_any A c cs _ HA.out (by omega)).mono ?_); rw [HMB.out]; rintro e w1 ⟨rfl, hK1⟩; obtain ⟨b, off, Ai, ci, rfl, a1, a2, a3, a4, a5, a6⟩ := (HA.out.non hK1) 0 h0; rw [← HX.out] at a1 a2 a3 a4 a5 a6; rw [H1.out] at a2; rw [H2.out] at a4 a6; rw [HXD.out] at a5; simp only [Nat.zero_mul, Nat.add_zero] at a1 a2 a3 a4; obtain ⟨bd, od, rfl, e0⟩ := a5.at_ (k := 0) (by simp); obtain ⟨bd1, od1, ed1, e1⟩ := a5.at_ (k := 1) (by simp); obtain ⟨bd2, od2, ed2, e2⟩ := a5.at_ (k := 2) (by simp); obtain ⟨bd3, od3, ed3, e3⟩ := a5.at_ (k := 3) (by simp); injection ed1 with ed1; injection ed1 with ed11 ed12; subst ed11 ed12; injection ed2 with ed2; injection ed2 with ed21 ed22; subst ed21 ed22; injection ed3 with ed3; injection ed3 with ed31 ed32; subst ed31 ed32; simp only [Nat.add_zero, bv, List.getElem_cons_zero, List.getElem_cons_succ] at e0 e1 e2 e3)
  have n1 : IntKind.i64.wrap (x0.toNat : Int) = x0.toNat := IntWalk.i64_in _ (by omega)
  have n2 : IntKind.i64.wrap (x1.toNat : Int) = x1.toNat := IntWalk.i64_in _ (by omega)
  have n3 : IntKind.i64.wrap (x2.toNat : Int) = x2.toNat := IntWalk.i64_in _ (by omega)
  have n4 : IntKind.i64.wrap (x3.toNat : Int) = x3.toNat := IntWalk.i64_in _ (by omega)
  have n5 : IntKind.i64.wrap ((x1.toNat : Int) * 256) = (x1.toNat : Int) * 256 := IntWalk.i64_in _ (by omega)
  have n6 : IntKind.i64.wrap ((x2.toNat : Int) * 65536) = (x2.toNat : Int) * 65536 := IntWalk.i64_in _ (by omega)
  have n7 : IntKind.i64.wrap ((x3.toNat : Int) * 16777216) = (x3.toNat : Int) * 16777216 := IntWalk.i64_in _ (by omega)
  clear b0 b1 b2 b3
  have hor := or4 x0 x1 x2 x3
  have hNx : leVal [x0, x1, x2, x3] = N := by rw [HN.out, HXD.out]
  rw [hNx] at hor
  have HOR := Lib.hid hor
  clear hor hNx
  cases hz : szB (N : Int) with
  | false =>
    have HZ := Lib.hid hz
    have HNO : Hid (∀ X, ¬ AlikeV X cs) := fun X hX => by
      obtain ⟨_, _, _, d⟩ := hX.head
      rw [← HX.out, ← HN.out] at d
      have := hX.1
      rw [← d, HZ.out] at this
      cases this
    clear hz
    go_region_held3 (fun w' => w'.cell? ⟨bd, od, none⟩ = some (.int .u8 x0.toNat) ∧ w'.cell? ⟨bd, od + 1, none⟩ = some (.int .u8 x1.toNat) ∧ w'.cell? ⟨bd, od + 2, none⟩ = some (.int .u8 x2.toNat) ∧ w'.cell? ⟨bd, od + 3, none⟩ = some (.int .u8 x3.toNat)) (go_keep)
      (first | (go_at_call 9; rw [HOR.out]; refine (new_no (N : Int) _ HZ.out).mono ?_; rintro e w2 ⟨rfl, rfl⟩))
    go_wp2_with fail
    go_ret2
    exact OpenR.no HNO.out hK1.drew
  | true =>
    have HZ := Lib.hid hz
    clear hz
    go_region_held3 (fun w' => w'.cell? ⟨bd, od, none⟩ = some (.int .u8 x0.toNat) ∧ w'.cell? ⟨bd, od + 1, none⟩ = some (.int .u8 x1.toNat) ∧ w'.cell? ⟨bd, od + 2, none⟩ = some (.int .u8 x2.toNat) ∧ w'.cell? ⟨bd, od + 3, none⟩ = some (.int .u8 x3.toNat))
      (first | go_keep | exact ⟨hK2.cell e0 id, hK2.cell e1 id, hK2.cell e2 id, hK2.cell e3 id⟩)
      (first | (go_at_call 9; rw [HOR.out]; refine (new_ok N _ HZ.out).mono ?_; rintro e w2 ⟨g, gb, rfl, hv2, hgb2, hg2, hK2⟩))
    have hzN := szB_of HZ.out
    have HND : Hid (∀ X, AlikeV X cs → X.length = N) := fun X hX => by
      obtain ⟨_, _, _, d⟩ := hX.head
      rw [← HX.out, ← HN.out] at d
      exact d.symm
    have hk2 : Keeps Non w w2 := hK1.trans (((Keeps.refl _ _).drew).trans hK2)
    have hgbw : w.heap.size ≤ gb := by have := hK1.size; simp at hgb2; omega
    have hgw : w.heap.size ≤ g := by have := hK1.size; simp at hg2; omega
    clear e0 e1 e2 e3 a1 a2 a3 a4 a5 n1 n2 n3 n4 n5 n6 n7
    go_wp2_with fail
    all_goals
      go_loopw [8, 68] (fun _ i wr => ∃ k : Nat, k ≤ cs.length - 1 ∧ i = .int .i64 k ∧ VolB wr g gb 55 (foldC (zeros N) (cs.tail.take k)) ∧ Hid ((foldC (zeros N) (cs.tail.take k)).length = N) ∧ Keeps Non w wr) (fun _ i _ => cs.length - 1 - (intOf i).toNat)
      case atStart => exact ⟨0, Nat.zero_le _, rfl, hv2, zeros_length N, hk2⟩
      case round =>
        obtain ⟨k, hk, rfl, hv, HYl, hK⟩ := hrel
        obtain ⟨Y, hY⟩ : ∃ Y, Y = foldC (zeros N) (cs.tail.take k) := ⟨_, rfl⟩
        rw [← hY] at hv HYl
        have HY := Lib.hid hY
        clear hY
        by_cases hlt : k < cs.length - 1
        · first
            | (exfalso; omega)
            | (have hk1 : k + 1 < cs.length := by omega
               obtain ⟨b', off', Bi, di, hA', q1, q2, q3, q4, q5, q6⟩ := (HA.out.non hK) (k + 1) hk1
               injection hA' with hA'
               injection hA' with e1 e2
               subst e1 e2
               have hoff : off + (k + 1) * 4 = off + 4 + k * 4 := by omega
               rw [hoff] at q1 q2 q3 q4
               have hmk := HM.out.1 (k + 1) hk1 hk1
               have hm0 := HM.out.1 k (by omega) (by omega)
               have hst : foldC (zeros N) (cs.tail.take (k + 1)) = layC Y cs[k + 1] := by
                 have e3 : cs.tail.take (k + 1) = cs.tail.take k ++ [cs[k + 1]] := by
                   rw [List.take_succ_eq_append_getElem (by simp; omega)]
                   simp
                 rw [e3, HY.out]
                 unfold foldC
                 rw [List.foldl_append]
                 rfl
               have hbad : (cs[k + 1].obj ≠ 1 ∨ cs[k + 1].data.length ≠ 256 ∨ (N : Int) < (cs[k + 1].at_ + 1) * 256) → ∀ X, ¬ AlikeV X cs := fun h X hX => by
                 obtain ⟨t1, t2, t3, t4⟩ := hX.tail (k + 1) hk1 (by omega)
                 rw [HND.out X hX] at t4
                 rcases h with h | h | h
                 · exact h t1
                 · exact h t2
                 · omega
               have hge : cs[k + 1].obj = 1 → 0 ≤ cs[k + 1].at_ := fun h => by
                 have := hmk.2 k (by omega) rfl
                 have ho := hm0.1
                 unfold okC at ho
                 unfold ltC at this
                 omega
               obtain ⟨y, hy⟩ : ∃ y, y = cs[k + 1] := ⟨_, rfl⟩
               rw [← hy] at q1 q2 q3 q4 q5 q6 hmk hst hbad hge
               have hyo := hmk.1
               unfold okC at hyo
               obtain ⟨o1, o2, o3, o4, o5, o6⟩ := hyo
               have HST := Lib.hid hst
               have HBAD := Lib.hid hbad
               clear hst hbad hmk hm0 hy hoff
               have hgl1 := hv.1.lt
               have hgl2 := hv.2.1.lt
               have n1 : IntKind.i64.wrap (y.at_ + 1) = y.at_ + 1 := IntWalk.i64_in _ (by omega)
               have n2 : IntKind.i64.wrap ((y.at_ + 1) * 256) = (y.at_ + 1) * 256 := IntWalk.i64_in _ (by omega)
               go_wp2_with fail
               obtain ⟨w5, hw5⟩ : ∃ w5, w5 = wr.alloc (.cells #[.int .i64 y.obj, .int .i64 y.at_, .int .i64 y.birth, .slice Bi y.data.length di] 60) := ⟨_, rfl⟩
               have hka : Keeps Non wr w5 := by rw [hw5]; exact (Keeps.refl _ _).alloc _
               have hB5 : Blk w5 wr.heap.size 60 #[.int .i64 y.obj, .int .i64 y.at_, .int .i64 y.birth, .slice Bi y.data.length di] := by rw [hw5]; exact Blk.new _ _ _
               rw [← hw5]
               obtain ⟨gO, hgO⟩ : ∃ g, g = wr.heap.size := ⟨_, rfl⟩
               rw [← hgO] at hB5 ⊢
               have hk5 := hK.trans hka
               have hv5 := hv.non hka
               have hA5 := q5.non hka
               have hgo : gO ≠ gb := by omega
               clear hw5 hgO hka hK hv q1 q2 q3 q4 q5
               have k0 : w5.cell? ⟨gO, 0, none⟩ = some (.int .i64 y.obj) := hB5.cell 0
               have k1 : w5.cell? ⟨gO, 1, none⟩ = some (.int .i64 y.at_) := hB5.cell 1
               have k3 : w5.cell? ⟨gO, 3, none⟩ = some (.slice Bi y.data.length di) := hB5.cell 3
               have c0 : w5.cell? ⟨g, 0, none⟩ = some (.slice (some ⟨gb, 0, none⟩) N N) := by have := hv5.1.cell 0; rw [HYl.out] at this; exact this
               by_cases hb1 : y.obj = 1
               · have b1 : (y.obj != 1) = false := by rw [hb1]; simp
                 by_cases hb2 : y.data.length = 256
                 · have b2 : ((y.data.length : Int) != 256) = false := by rw [hb2]; simp
                   by_cases hb3 : (N : Int) < (y.at_ + 1) * 256
                   · have hno := Lib.hid (HBAD.out (.inr (.inr hb3)))
                     have b3 : decide ((N : Int) < (y.at_ + 1) * 256) = true := by simpa using hb3
                     have H1' := Lib.hid hb1
                     have H2' := Lib.hid hb2
                     clear hb1 hb2 hb3
                     go_quiet (fail)
                     go_wp2_with fail
                     go_ret2
                     exact OpenR.no hno.out (hk5.drewN _)
                   · have b3 : decide ((N : Int) < (y.at_ + 1) * 256) = false := by simpa using hb3
                     obtain ⟨q, hq⟩ : ∃ q : Nat, y.at_ = q := ⟨y.at_.toNat, by have := hge hb1; omega⟩
                     have hqN : q * 256 + 256 ≤ N := by omega
                     have HQ := Lib.hid hq
                     have H1' := Lib.hid hb1
                     have H2' := Lib.hid hb2
                     clear hb1 hb2 hb3 hq
                     go_quiet (fail)
                     clear n1 n2 b3 k0 k1 k3 c0
                     obtain ⟨wq, hwq⟩ : ∃ wq, wq = w5.drewN nq := ⟨_, rfl⟩
                     have hkq : Keeps Non w5 wq := by rw [hwq]; exact (Keeps.refl _ _).drewN _
                     rw [← hwq]
                     have hvq := hv5.non hkq
                     have hAq := hA5.non hkq
                     have hBq := hB5.non hkq
                     have hkk := hk5.trans hkq
                     have k1 : wq.cell? ⟨gO, 1, none⟩ = some (.int .i64 q) := by have := hBq.cell 1; rw [HQ.out] at this; exact this
                     have k3 : wq.cell? ⟨gO, 3, none⟩ = some (.slice Bi 256 di) := by have := hBq.cell 3; rw [H2'.out] at this; exact this
                     have c0 : wq.cell? ⟨g, 0, none⟩ = some (.slice (some ⟨gb, 0, none⟩) N N) := by have := hvq.1.cell 0; rw [HYl.out] at this; exact this
                     have n3 : IntKind.i64.wrap ((q : Int) * 256) = (q : Int) * 256 := IntWalk.i64_in _ (by omega)
                     have n4 : ((q : Int) * 256).toNat = q * 256 := by omega
                     have n5 : 0 ≤ (q : Int) * 256 := by omega
                     have n6 : ¬ N = q * 256 := by omega
                     have n7 : q * 256 ≤ N := by omega
                     have n8 : (q : Int) * 256 ≤ (N : Int) := by omega
                     clear hwq hkq hk5 hv5 hA5 hB5 hBq
                     go_wp2_with fail
                     go_still_tail 10, (by kernel_rfl)
                     clear n3 n4 n5 n6 n7 n8 k1 k3 c0
                     have hvr := hvq.non ((Keeps.refl Non wq).drew)
                     have hAr := hAq.non ((Keeps.refl Non wq).drew)
                     have hkr : Keeps Non w wq.drew := hkk.drew
                     have hlay : layC Y y = lay Y (q * 256) y.data := by
                       unfold layC
                       rw [HQ.out, Int.toNat_natCast]
                     have HLAY := Lib.hid hlay
                     clear hlay hvq hAq hkk
                     go_wp2_with ((with_reducible show wpList _ _ _ ({ dst := some 103, op := _, type := _, pos := _, after := _, guard := _ } :: _) _ _); go_must (refine wpList_copy_bytes rfl (.tmp 100) (.tmp 102) 23 23 rfl 5 Try.underlying23 (by kernel_rfl) (some ⟨gb, q * 256, none⟩) _ (N - q * 256) (N - q * 256) _ _ rfl rfl gb (q * 256) Y 5 hvr.2.1 y.data (by have := H2'.out; show _ = min _ _; omega) (fun _ => rfl) hAr (by have := H2'.out; have := HYl.out; omega) ?_); intro w6 hB6 hK6)
                     go_roundw
                     case rel =>
                       have hl6 : (lay Y (q * 256) y.data).length = N := by rw [lay_length _ _ _ (by have := H2'.out; have := HYl.out; omega)]; exact HYl.out
                       refine ⟨k + 1, by omega, by go_num, ?_, ?_, ?_⟩
                       · rw [HST.out, HLAY.out]
                         refine ⟨?_, hB6, hvr.2.2⟩
                         have := hvr.1.one hK6 hvr.2.2
                         rw [HYl.out] at this
                         rw [hl6]
                         exact this
                       · show _ = _
                         rw [HST.out, HLAY.out]
                         exact hl6
                       · exact hkr.then hK6 fun i hi e => by unfold Only at e; omega
                     case measure => simp [intOf]; omega
                 · have hno := Lib.hid (HBAD.out (.inr (.inl hb2)))
                   have b2 : ((y.data.length : Int) != 256) = true := by rw [bne_iff_ne]; omega
                   have H1' := Lib.hid hb1
                   clear hb1 hb2
                   go_quiet (fail)
                   go_wp2_with fail
                   go_ret2
                   exact OpenR.no hno.out (hk5.drewN _)
               · have hno := Lib.hid (HBAD.out (.inl hb1))
                 have b1 : (y.obj != 1) = true := by rw [bne_iff_ne]; exact hb1
                 clear hb1
                 go_quiet (fail)
                 go_wp2_with fail
                 go_ret2
                 exact OpenR.no hno.out (hk5.drewN _))
        · obtain rfl : k = cs.length - 1 := by omega
          have hYt : Y = foldC (zeros N) cs.tail := by
            rw [HY.out, List.take_of_length_le (by simp)]
          have HYT := Lib.hid hYt
          have hC := cells_any g gb Y wr hv (by rw [HYl.out]; omega) (by rw [HYl.out]; omega)
          rw [HYl.out] at hC
          have hcl := cellsTo_length Y (N / 256)
          obtain ⟨xs, hxs⟩ : ∃ xs, xs = cellsTo Y (N / 256) := ⟨_, rfl⟩
          rw [← hxs] at hC hcl
          have HXS := Lib.hid hxs
          have HC := Lib.hid hC
          clear hC hxs hYt
          go_wp2_with fail
          refine HC.out.mono ?_
          rintro e w6 ⟨v6, rfl, hR6, hK6⟩
          obtain ⟨A6, c6, rfl, hC6, -, -⟩ := hR6.open
          have hk6 := hK.trans hK6
          have HEq := Lib.hid (fun c9 => equalFunc_any A6 (some ⟨b, off, none⟩) c6 c9 xs cs w6 hC6 (HA.out.non hk6) (by omega) (by omega))
          have hv6 := hv.non hK6
          clear HC hR6 hC6 hK6 hv hK
          go_wp2_with fail
          refine (HEq.out _).mono ?_
          rintro e w7 ⟨r, rfl, hr, hK7⟩
          have hk7 := hk6.trans hK7
          have hv7 := hv6.non hK7
          have HR := Lib.hid hr
          have hsz := hk2.size
          clear hr HEq hv6 hk6 hK7
          cases r with
          | true =>
            go_wp2_with fail
            go_ret2
            refine ⟨hk7, .inl ⟨Y, g, gb, rfl, ⟨by rw [HYl.out]; exact HZ.out, ?_⟩, hv7, ?_, ?_⟩⟩
            · rw [HYl.out, ← HXS.out]; exact HR.out.1 trivial
            · exact hgbw
            · exact hgw
          | false =>
            have hno : ∀ X, ¬ AlikeV X cs := fun X hX => by
              have hf := hX.fold
              rw [HND.out X hX, ← HYT.out] at hf
              have h2 := hX.2
              rw [← hf, HYl.out, ← HXS.out] at h2
              exact Bool.noConfusion (HR.out.2 h2)
            have HNO := Lib.hid hno
            clear hno
            go_wp2_with fail
            go_ret2
            exact OpenR.no HNO.out hk7
end Go.Proofs.Ytmlffigfhhoihab
