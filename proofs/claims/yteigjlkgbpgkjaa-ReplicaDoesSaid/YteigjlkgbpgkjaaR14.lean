/- What replies do, by the document: counts. -/
import Derived.Test.YteigjlkgbpgkjaaR13
namespace Go.Proofs.Yteigjlkgbpgkjaa
open Go.RowKit Go.Uc
section
variable {q : Nat} {j : Job} {x : St} {pv : Value}
set_option maxRecDepth 100000 in
set_option maxHeartbeats 16000000 in
theorem rcounts_0 (w0 : World) (p : Rp) (Al : Option Addr) (cl : Nat) (Ad : Option Addr) (cd : Nat) (w : World) (hB : Blk w q 64 (docC j x pv)) (hpv : PcA w0 pv x.piece) (hx : x.at_ = 0) (hL : AtS w Al p.list) (hpdat : At w0 Ad p.data) (hn : p.list.length ≤ 140737488355328) (hnd : p.data.length ≤ 140737488355328) :
    Calls Try.prog 16 #[.pointer (some ⟨q, 0, none⟩), .agg #[.int .i64 p.ses, .int .i64 p.id, .int .i64 p.err, .int .i64 p.num, .string p.text, (.slice Al p.list.length cl), (.slice Ad p.data.length cd)]] w fun en w' => en = .returned (.tuple #[]) ∧ ∃ pv', Blk w' q 64 (docC j (hearD x p) pv') ∧ PcA w0 pv' (hearD x p).piece ∧ Keeps (Only q) w w' := by
  obtain ⟨w1, hw1⟩ : ∃ w1, w1 = w.alloc (.cells #[.int .i64 p.ses, .int .i64 p.id, .int .i64 p.err, .int .i64 p.num, .string p.text, (.slice Al p.list.length cl), (.slice Ad p.data.length cd)] 37) := ⟨_, rfl⟩
  obtain ⟨b, hb⟩ : ∃ b, b = w.heap.size := ⟨_, rfl⟩
  have hk1 : Keeps Non w w1 := by rw [hw1]; exact (Keeps.refl _ _).alloc _
  have hX1 : Blk w1 b 37 #[.int .i64 p.ses, .int .i64 p.id, .int .i64 p.err, .int .i64 p.num, .string p.text, (.slice Al p.list.length cl), (.slice Ad p.data.length cd)] := by rw [hw1, hb]; exact Blk.new _ _ _
  have hB1 := hB.non hk1
  have hbq : b ≠ q := hX1.ne hB1 (by decide)
  have hqb : ¬ q = b := fun e => hbq e.symm
  obtain ⟨Ap, cp, rfl, -⟩ := id hpv
  have HL := Lib.hid (hL.non hk1)
  have HK1 := Lib.hid hk1
  have b2 : w1.cell? ⟨b, 2, none⟩ = some (.int .i64 p.err) := hX1.cell 2
  have b3 : w1.cell? ⟨b, 3, none⟩ = some (.int .i64 p.num) := hX1.cell 3
  have b5 : w1.cell? ⟨b, 5, none⟩ = some (.slice Al p.list.length cl) := hX1.cell 5
  have b6 : w1.cell? ⟨b, 6, none⟩ = some (.slice Ad p.data.length cd) := hX1.cell 6
  have B0 : w1.cell? ⟨b, 0, none⟩ = some (.int .i64 p.ses) := hX1.cell 0
  have B1 : w1.cell? ⟨b, 1, none⟩ = some (.int .i64 p.id) := hX1.cell 1
  have B4 : w1.cell? ⟨b, 4, none⟩ = some (.string p.text) := hX1.cell 4
  have c8 : w1.cell? ⟨q, 8, none⟩ = some (.int .i64 ((0 : Nat) : Int)) := by rw [← hx]; exact hB1.cell 8
  have f8 := hB1.frozen 8
  have c10 : w1.cell? ⟨q, 10, none⟩ = some (.int .i64 x.has) := hB1.cell 10
  have f10 := hB1.frozen 10
  have c11 : w1.cell? ⟨q, 11, none⟩ = some (.int .i64 x.tries) := hB1.cell 11
  have f11 := hB1.frozen 11
  have c12 : w1.cell? ⟨q, 12, none⟩ = some (.slice Ap x.piece.length cp) := hB1.cell 12
  have f12 := hB1.frozen 12
  have c13 : w1.cell? ⟨q, 13, none⟩ = some (.int .i64 x.how) := hB1.cell 13
  have f13 := hB1.frozen 13
  clear hB hX1 hk1 hL
  go_enter Try.func16, Try.ntmps16
  go_upto_region 1 with fail
  rw [← hw1, ← hb]
  clear hw1 hb
  have HX := Lib.hid hx
  have HB1 := Lib.hid hB1
  clear hx hB1
  go_cut [4] from 6 to 20 (fun s4 wc => s4 = .bool (wholeB p) ∧ wc = w1)
  case first =>
    by_cases hz : p.list.length = 0
    · have HZ : Hid (p.list = []) := List.eq_nil_of_length_eq_zero hz
      rw [hz] at b5
      have hwz : Hid (wholeB p = false) := by show _ = _; unfold wholeB; rw [HZ.out]; rfl
      clear hz
      go_wp2_with fail
      go_meet
      case rel => exact ⟨by rw [hwz.out], by first | rfl | trivial⟩
    · obtain ⟨m, hm⟩ : ∃ m, p.list.length = m + 1 := ⟨p.list.length - 1, by omega⟩
      obtain ⟨bb, off, rfl, hc⟩ := HL.out.at_ (k := m) (by omega)
      obtain ⟨la, hla⟩ : ∃ la, la = p.list[m] := ⟨_, rfl⟩
      rw [← hla] at hc
      have hlast : p.list.getLast? = some la := by rw [List.getLast?_eq_getElem?, hm, hla]; simp
      have HWB : Hid (wholeB p = (la.toList == [119, 104, 111, 108, 101])) := by show _ = _; unfold wholeB; rw [hlast]
      rw [hm] at b5 hn
      have hwr : IntKind.i64.wrap (((m + 1 : Nat) : Int) - 1) = (m : Int) := by
        rw [show ((m + 1 : Nat) : Int) - 1 = (m : Int) by omega]
        exact IntKind.wrap_i64 _ |>.trans (by omega)
      have hd1 : decide (0 < ((m + 1 : Nat) : Int)) = true := by rw [decide_eq_true_eq]; omega
      clear hla hlast hm hz
      cases hwb : (la.toList == [119, 104, 111, 108, 101])
      · rw [hwb] at HWB
        go_wp2_with fail
        go_meet
        case rel => exact ⟨by rw [HWB.out], by first | rfl | trivial⟩
      · rw [hwb] at HWB
        go_wp2_with fail
        go_meet
        case rel => exact ⟨by rw [HWB.out], by first | rfl | trivial⟩
  case rest =>
    obtain ⟨rfl, hwc⟩ := hcut
    rw [hwc]
    clear hwc
    have hx := HX.out
    have hB1 := HB1.out
    by_cases he : p.err = 0
    · have hb0 : (p.err == 0) = true := by rw [he]; rfl
      have hb172 : (p.err == 172) = false := by rw [he]; rfl
      have hb222 : (p.err == 222) = false := by rw [he]; rfl
      have hbn : (p.err != 0) = false := by rw [he]; rfl
      have hr : hearD x p = { x with at_ := 1 } := by simp [hearD, hearS, goesV, toldV, sentV, doneV, fedD, failV, hx, he]
      have FB : Hid (Blk (w1.setCell ⟨q, 8, none⟩ (.int .i64 1)) q 64 (docC j (hearD x p) (.slice Ap x.piece.length cp))) := by rw [hr]; exact (hB1).set 8 (.int .i64 1)
      have FK : Hid (Keeps (Only q) w (w1.setCell ⟨q, 8, none⟩ (.int .i64 1))) := HK1.out.of_non.trans ((Keeps.refl (Only q) w1).set (p := ⟨q, 8, none⟩) rfl (.int .i64 1))
      have FP : Hid (PcA w0 (.slice Ap x.piece.length cp) (hearD x p).piece) := by rw [hr]; exact hpv
      clear he
      clear hr hB1 hx
      go_wp2_with fail
      first | go_end0 | refine bodyPost_ret (results_none rfl _ _ _) rfl ?_
      exact ⟨rfl, _, FB.out, FP.out, FK.out⟩
    · have hn0 := he
      clear he
      by_cases he : p.err = 172
      · have hb0 : (p.err == 0) = false := by rw [he]; rfl
        have hb172 : (p.err == 172) = true := by rw [he]; rfl
        have hb222 : (p.err == 222) = false := by rw [he]; rfl
        have hbn : (p.err != 0) = true := by rw [he]; rfl
        have hr : hearD x p = failV x p.err := by simp [hearD, hearS, goesV, toldV, sentV, doneV, fedD, failV, hx, he]
        have HFA := Lib.hid (rfails_any (p.err) w1 hB1)
        have HR := Lib.hid hr
        clear he
        clear hr hB1 hx
        go_wp2_with (go_at_call 17; go_must (refine HFA.out.mono ?_); rintro en w5 ⟨rfl, h5, hK5⟩)
        first | go_end0 | refine bodyPost_ret (results_none rfl _ _ _) rfl ?_
        rw [HR.out]
        exact ⟨rfl, _, h5, hpv, HK1.out.of_non.trans hK5⟩
      · have hn172 := he
        clear he
        by_cases he : p.err = 222
        · have hb0 : (p.err == 0) = false := by rw [he]; rfl
          have hb172 : (p.err == 172) = false := by rw [he]; rfl
          have hb222 : (p.err == 222) = true := by rw [he]; rfl
          have hbn : (p.err != 0) = true := by rw [he]; rfl
          have hr : hearD x p = { x with at_ := 1 } := by simp [hearD, hearS, goesV, toldV, sentV, doneV, fedD, failV, hx, he]
          have FB : Hid (Blk (w1.setCell ⟨q, 8, none⟩ (.int .i64 1)) q 64 (docC j (hearD x p) (.slice Ap x.piece.length cp))) := by rw [hr]; exact (hB1).set 8 (.int .i64 1)
          have FK : Hid (Keeps (Only q) w (w1.setCell ⟨q, 8, none⟩ (.int .i64 1))) := HK1.out.of_non.trans ((Keeps.refl (Only q) w1).set (p := ⟨q, 8, none⟩) rfl (.int .i64 1))
          have FP : Hid (PcA w0 (.slice Ap x.piece.length cp) (hearD x p).piece) := by rw [hr]; exact hpv
          clear he
          clear hr hB1 hx
          go_wp2_with fail
          first | go_end0 | refine bodyPost_ret (results_none rfl _ _ _) rfl ?_
          exact ⟨rfl, _, FB.out, FP.out, FK.out⟩
        · have hn222 := he
          clear he
          have hb0 : (p.err == 0) = false := by rw [beq_eq_false_iff_ne]; exact hn0
          have hb172 : (p.err == 172) = false := by rw [beq_eq_false_iff_ne]; exact hn172
          have hb222 : (p.err == 222) = false := by rw [beq_eq_false_iff_ne]; exact hn222
          have hbn : (p.err != 0) = true := by rw [bne_iff_ne]; exact hn0
          have hr : hearD x p = failV x p.err := by simp [hearD, hearS, goesV, toldV, sentV, doneV, fedD, failV, hx, hn0, hn172, hn222, (Ne.symm hn172 : ¬ (172 : Int) = p.err), (Ne.symm hn222 : ¬ (222 : Int) = p.err)]
          have HFA := Lib.hid (rfails_any (p.err) w1 hB1)
          have HR := Lib.hid hr
          clear hr hB1 hx
          go_wp2_with (go_at_call 17; go_must (refine HFA.out.mono ?_); rintro en w5 ⟨rfl, h5, hK5⟩)
          first | go_end0 | refine bodyPost_ret (results_none rfl _ _ _) rfl ?_
          rw [HR.out]
          exact ⟨rfl, _, h5, hpv, HK1.out.of_non.trans hK5⟩
set_option maxRecDepth 100000 in
set_option maxHeartbeats 16000000 in
theorem rcounts_1 (w0 : World) (p : Rp) (Al : Option Addr) (cl : Nat) (Ad : Option Addr) (cd : Nat) (w : World) (hB : Blk w q 64 (docC j x pv)) (hpv : PcA w0 pv x.piece) (hx : x.at_ = 1) (hL : AtS w Al p.list) (hpdat : At w0 Ad p.data) (hn : p.list.length ≤ 140737488355328) (hnd : p.data.length ≤ 140737488355328) :
    Calls Try.prog 16 #[.pointer (some ⟨q, 0, none⟩), .agg #[.int .i64 p.ses, .int .i64 p.id, .int .i64 p.err, .int .i64 p.num, .string p.text, (.slice Al p.list.length cl), (.slice Ad p.data.length cd)]] w fun en w' => en = .returned (.tuple #[]) ∧ ∃ pv', Blk w' q 64 (docC j (hearD x p) pv') ∧ PcA w0 pv' (hearD x p).piece ∧ Keeps (Only q) w w' := by
  obtain ⟨w1, hw1⟩ : ∃ w1, w1 = w.alloc (.cells #[.int .i64 p.ses, .int .i64 p.id, .int .i64 p.err, .int .i64 p.num, .string p.text, (.slice Al p.list.length cl), (.slice Ad p.data.length cd)] 37) := ⟨_, rfl⟩
  obtain ⟨b, hb⟩ : ∃ b, b = w.heap.size := ⟨_, rfl⟩
  have hk1 : Keeps Non w w1 := by rw [hw1]; exact (Keeps.refl _ _).alloc _
  have hX1 : Blk w1 b 37 #[.int .i64 p.ses, .int .i64 p.id, .int .i64 p.err, .int .i64 p.num, .string p.text, (.slice Al p.list.length cl), (.slice Ad p.data.length cd)] := by rw [hw1, hb]; exact Blk.new _ _ _
  have hB1 := hB.non hk1
  have hbq : b ≠ q := hX1.ne hB1 (by decide)
  have hqb : ¬ q = b := fun e => hbq e.symm
  obtain ⟨Ap, cp, rfl, -⟩ := id hpv
  have HL := Lib.hid (hL.non hk1)
  have HK1 := Lib.hid hk1
  have b2 : w1.cell? ⟨b, 2, none⟩ = some (.int .i64 p.err) := hX1.cell 2
  have b3 : w1.cell? ⟨b, 3, none⟩ = some (.int .i64 p.num) := hX1.cell 3
  have b5 : w1.cell? ⟨b, 5, none⟩ = some (.slice Al p.list.length cl) := hX1.cell 5
  have b6 : w1.cell? ⟨b, 6, none⟩ = some (.slice Ad p.data.length cd) := hX1.cell 6
  have B0 : w1.cell? ⟨b, 0, none⟩ = some (.int .i64 p.ses) := hX1.cell 0
  have B1 : w1.cell? ⟨b, 1, none⟩ = some (.int .i64 p.id) := hX1.cell 1
  have B4 : w1.cell? ⟨b, 4, none⟩ = some (.string p.text) := hX1.cell 4
  have c8 : w1.cell? ⟨q, 8, none⟩ = some (.int .i64 ((1 : Nat) : Int)) := by rw [← hx]; exact hB1.cell 8
  have f8 := hB1.frozen 8
  have c10 : w1.cell? ⟨q, 10, none⟩ = some (.int .i64 x.has) := hB1.cell 10
  have f10 := hB1.frozen 10
  have c11 : w1.cell? ⟨q, 11, none⟩ = some (.int .i64 x.tries) := hB1.cell 11
  have f11 := hB1.frozen 11
  have c12 : w1.cell? ⟨q, 12, none⟩ = some (.slice Ap x.piece.length cp) := hB1.cell 12
  have f12 := hB1.frozen 12
  have c13 : w1.cell? ⟨q, 13, none⟩ = some (.int .i64 x.how) := hB1.cell 13
  have f13 := hB1.frozen 13
  clear hB hX1 hk1 hL
  go_enter Try.func16, Try.ntmps16
  go_upto_region 1 with fail
  rw [← hw1, ← hb]
  clear hw1 hb
  have HX := Lib.hid hx
  have HB1 := Lib.hid hB1
  clear hx hB1
  go_cut [4] from 6 to 20 (fun s4 wc => s4 = .bool (wholeB p) ∧ wc = w1)
  case first =>
    by_cases hz : p.list.length = 0
    · have HZ : Hid (p.list = []) := List.eq_nil_of_length_eq_zero hz
      rw [hz] at b5
      have hwz : Hid (wholeB p = false) := by show _ = _; unfold wholeB; rw [HZ.out]; rfl
      clear hz
      go_wp2_with fail
      go_meet
      case rel => exact ⟨by rw [hwz.out], by first | rfl | trivial⟩
    · obtain ⟨m, hm⟩ : ∃ m, p.list.length = m + 1 := ⟨p.list.length - 1, by omega⟩
      obtain ⟨bb, off, rfl, hc⟩ := HL.out.at_ (k := m) (by omega)
      obtain ⟨la, hla⟩ : ∃ la, la = p.list[m] := ⟨_, rfl⟩
      rw [← hla] at hc
      have hlast : p.list.getLast? = some la := by rw [List.getLast?_eq_getElem?, hm, hla]; simp
      have HWB : Hid (wholeB p = (la.toList == [119, 104, 111, 108, 101])) := by show _ = _; unfold wholeB; rw [hlast]
      rw [hm] at b5 hn
      have hwr : IntKind.i64.wrap (((m + 1 : Nat) : Int) - 1) = (m : Int) := by
        rw [show ((m + 1 : Nat) : Int) - 1 = (m : Int) by omega]
        exact IntKind.wrap_i64 _ |>.trans (by omega)
      have hd1 : decide (0 < ((m + 1 : Nat) : Int)) = true := by rw [decide_eq_true_eq]; omega
      clear hla hlast hm hz
      cases hwb : (la.toList == [119, 104, 111, 108, 101])
      · rw [hwb] at HWB
        go_wp2_with fail
        go_meet
        case rel => exact ⟨by rw [HWB.out], by first | rfl | trivial⟩
      · rw [hwb] at HWB
        go_wp2_with fail
        go_meet
        case rel => exact ⟨by rw [HWB.out], by first | rfl | trivial⟩
  case rest =>
    obtain ⟨rfl, hwc⟩ := hcut
    rw [hwc]
    clear hwc
    have hx := HX.out
    have hB1 := HB1.out
    by_cases he : p.err = 0
    · have hb0 : (p.err == 0) = true := by rw [he]; rfl
      have hb172 : (p.err == 172) = false := by rw [he]; rfl
      have hb222 : (p.err == 222) = false := by rw [he]; rfl
      have hbn : (p.err != 0) = false := by rw [he]; rfl
      have hr : hearD x p = { x with at_ := 2 } := by simp [hearD, hearS, goesV, toldV, sentV, doneV, fedD, failV, hx, he]
      have FB : Hid (Blk (w1.setCell ⟨q, 8, none⟩ (.int .i64 2)) q 64 (docC j (hearD x p) (.slice Ap x.piece.length cp))) := by rw [hr]; exact (hB1).set 8 (.int .i64 2)
      have FK : Hid (Keeps (Only q) w (w1.setCell ⟨q, 8, none⟩ (.int .i64 2))) := HK1.out.of_non.trans ((Keeps.refl (Only q) w1).set (p := ⟨q, 8, none⟩) rfl (.int .i64 2))
      have FP : Hid (PcA w0 (.slice Ap x.piece.length cp) (hearD x p).piece) := by rw [hr]; exact hpv
      clear he
      clear hr hB1 hx
      go_wp2_with fail
      first | go_end0 | refine bodyPost_ret (results_none rfl _ _ _) rfl ?_
      exact ⟨rfl, _, FB.out, FP.out, FK.out⟩
    · have hn0 := he
      clear he
      by_cases he : p.err = 172
      · have hb0 : (p.err == 0) = false := by rw [he]; rfl
        have hb172 : (p.err == 172) = true := by rw [he]; rfl
        have hb222 : (p.err == 222) = false := by rw [he]; rfl
        have hbn : (p.err != 0) = true := by rw [he]; rfl
        have hr : hearD x p = { x with at_ := 2 } := by simp [hearD, hearS, goesV, toldV, sentV, doneV, fedD, failV, hx, he]
        have FB : Hid (Blk (w1.setCell ⟨q, 8, none⟩ (.int .i64 2)) q 64 (docC j (hearD x p) (.slice Ap x.piece.length cp))) := by rw [hr]; exact (hB1).set 8 (.int .i64 2)
        have FK : Hid (Keeps (Only q) w (w1.setCell ⟨q, 8, none⟩ (.int .i64 2))) := HK1.out.of_non.trans ((Keeps.refl (Only q) w1).set (p := ⟨q, 8, none⟩) rfl (.int .i64 2))
        have FP : Hid (PcA w0 (.slice Ap x.piece.length cp) (hearD x p).piece) := by rw [hr]; exact hpv
        clear he
        clear hr hB1 hx
        go_wp2_with fail
        first | go_end0 | refine bodyPost_ret (results_none rfl _ _ _) rfl ?_
        exact ⟨rfl, _, FB.out, FP.out, FK.out⟩
      · have hn172 := he
        clear he
        by_cases he : p.err = 222
        · have hb0 : (p.err == 0) = false := by rw [he]; rfl
          have hb172 : (p.err == 172) = false := by rw [he]; rfl
          have hb222 : (p.err == 222) = true := by rw [he]; rfl
          have hbn : (p.err != 0) = true := by rw [he]; rfl
          have hr : hearD x p = failV x p.err := by simp [hearD, hearS, goesV, toldV, sentV, doneV, fedD, failV, hx, he]
          have HFA := Lib.hid (rfails_any (p.err) w1 hB1)
          have HR := Lib.hid hr
          clear he
          clear hr hB1 hx
          go_wp2_with (go_at_call 17; go_must (refine HFA.out.mono ?_); rintro en w5 ⟨rfl, h5, hK5⟩)
          first | go_end0 | refine bodyPost_ret (results_none rfl _ _ _) rfl ?_
          rw [HR.out]
          exact ⟨rfl, _, h5, hpv, HK1.out.of_non.trans hK5⟩
        · have hn222 := he
          clear he
          have hb0 : (p.err == 0) = false := by rw [beq_eq_false_iff_ne]; exact hn0
          have hb172 : (p.err == 172) = false := by rw [beq_eq_false_iff_ne]; exact hn172
          have hb222 : (p.err == 222) = false := by rw [beq_eq_false_iff_ne]; exact hn222
          have hbn : (p.err != 0) = true := by rw [bne_iff_ne]; exact hn0
          have hr : hearD x p = failV x p.err := by simp [hearD, hearS, goesV, toldV, sentV, doneV, fedD, failV, hx, hn0, hn172, hn222, (Ne.symm hn172 : ¬ (172 : Int) = p.err), (Ne.symm hn222 : ¬ (222 : Int) = p.err)]
          have HFA := Lib.hid (rfails_any (p.err) w1 hB1)
          have HR := Lib.hid hr
          clear hr hB1 hx
          go_wp2_with (go_at_call 17; go_must (refine HFA.out.mono ?_); rintro en w5 ⟨rfl, h5, hK5⟩)
          first | go_end0 | refine bodyPost_ret (results_none rfl _ _ _) rfl ?_
          rw [HR.out]
          exact ⟨rfl, _, h5, hpv, HK1.out.of_non.trans hK5⟩
end
end Go.Proofs.Yteigjlkgbpgkjaa
