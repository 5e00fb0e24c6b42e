/- told, sent. -/
import Derived.Test.YteigjlkgbpgkjaaR6
namespace Go.Proofs.Yteigjlkgbpgkjaa
open Go.RowKit Go.Uc

section
variable {g : Nat} {on : Option Nat} {j : Job} {x : St} {pv : Value}
set_option maxHeartbeats 4000000 in
theorem told_any (p : Rp) (Al : Option Addr) (cl : Nat) (Ad : Option Addr) (cd : Nat) (w : World) (h : RepS w g on j x pv) (hA : AtS w Al p.list) (hn : p.list.length ≤ 140737488355328) :
    Calls Try.prog 27 #[.pointer (some ⟨g, 0, none⟩), .agg #[.int .i64 p.ses, .int .i64 p.id, .int .i64 p.err, .int .i64 p.num, .string p.text, (.slice Al p.list.length cl), (.slice Ad p.data.length cd)]] w (HearP g on j pv x (toldV x p) w) := by
  unfold HearP
  obtain ⟨w1, hw1⟩ : ∃ w1, w1 = w.alloc (.cells #[.int .i64 p.ses, .int .i64 p.id, .int .i64 p.err, .int .i64 p.num, .string p.text, (.slice Al p.list.length cl), (.slice Ad p.data.length cd)] 37) := ⟨_, rfl⟩
  obtain ⟨b, hb⟩ : ∃ b, b = w.heap.size := ⟨_, rfl⟩
  have hk1 : Keeps Non w w1 := by rw [hw1]; exact (Keeps.refl _ _).alloc _
  have hX1 : Blk w1 b 37 #[.int .i64 p.ses, .int .i64 p.id, .int .i64 p.err, .int .i64 p.num, .string p.text, (.slice Al p.list.length cl), (.slice Ad p.data.length cd)] := by rw [hw1, hb]; exact Blk.new _ _ _
  have h1 := h.non hk1
  obtain ⟨dd, steps, hB, hC⟩ := h1.blk
  have hbg : b ≠ g := hX1.ne hB (by decide)
  have hgb : ¬ g = b := fun e => hbg e.symm
  have HK := Lib.hid hk1
  have HX := Lib.hid hX1
  have HC := Lib.hid hC
  have HA := Lib.hid (hA.non hk1)
  have b2 : w1.cell? ⟨b, 2, none⟩ = some (.int .i64 p.err) := hX1.cell 2
  have b3 : w1.cell? ⟨b, 3, none⟩ = some (.int .i64 p.num) := hX1.cell 3
  have b5 : w1.cell? ⟨b, 5, none⟩ = some (.slice Al p.list.length cl) := hX1.cell 5
  have c14 : w1.cell? ⟨g, 14, none⟩ = some (.int .i64 x.has) := hB.cell 14
  have f14 := hB.frozen 14
  obtain ⟨y, hy⟩ : ∃ y, y = toldV x p := ⟨_, rfl⟩
  rw [← hy]
  have HY := Lib.hid hy
  have H1 := Lib.hid h1
  have hk14 : Keeps (Only g) w1 (w1.setCell ⟨g, 14, none⟩ (.int .i64 p.num)) := (Keeps.refl (Only g) w1).set (p := ⟨g, 14, none⟩) rfl _
  have H2 := Lib.hid (And.intro (hC _ { x with has := p.num } pv hk14 (hB.set 14 (.int .i64 p.num))) hk14)
  have b2' : (w1.setCell ⟨g, 14, none⟩ (.int .i64 p.num)).cell? ⟨b, 2, none⟩ = some (.int .i64 p.err) := (hX1.one hk14 hbg).cell 2
  clear h hX1 hk1 h1 hB hC hy hA hk14
  by_cases hz : p.list.length = 0
  · have HZ : Hid (p.list = []) := List.eq_nil_of_length_eq_zero hz
    rw [hz] at b5 ⊢
    clear hz
    go_enter Try.func27, Try.ntmps27
    go_upto_region 1 with fail
    rw [show (p.list.length) = 0 from by rw [HZ.out]; rfl] at hw1
    rw [← hw1, ← hb]
    clear hw1 hb
    go_upto_region 5 with fail
    have HTO : Hid ((if wholeB p = true then 5 else 3) = 3) := by show _ = _; rw [if_neg (by unfold wholeB; rw [HZ.out]; decide)]
    by_cases h0 : p.err = 0
    · have hb0 : (p.err == 0) = true := by rw [h0]; rfl
      have HGO := Lib.hid (goes_any 3 3 p.err none (.slice none 0 0) rfl _ H2.out.1 rfl)
      have HE := Lib.hid h0
      clear h0
      go_wp2_with (go_at_call 37; go_must (refine HGO.out.mono ?_); rintro en w2 ⟨rfl, h2, hK2⟩)
      go_end0
      rw [HY.out]
      unfold toldV
      rw [if_pos HE.out, HTO.out]
      exact ⟨rfl, pv, h2, .inl ⟨rfl, goes_piece _ _ _ _⟩, (HK.out.of_non.trans H2.out.2).trans hK2⟩
    · have hb0 : (p.err == 0) = false := by rw [beq_eq_false_iff_ne]; exact h0
      have HGO := Lib.hid (goes_any 3 3 p.err none (.slice none 0 0) rfl w1 H1.out rfl)
      have HE := Lib.hid h0
      clear h0
      go_wp2_with (go_at_call 37; go_must (refine HGO.out.mono ?_); rintro en w2 ⟨rfl, h2, hK2⟩)
      go_end0
      rw [HY.out]
      unfold toldV
      rw [if_neg HE.out, HTO.out]
      exact ⟨rfl, pv, h2, .inl ⟨rfl, goes_piece _ _ _ _⟩, HK.out.of_non.trans hK2⟩
  · obtain ⟨m, hm⟩ : ∃ m, p.list.length = m + 1 := ⟨p.list.length - 1, by omega⟩
    obtain ⟨bb, off, rfl, hc⟩ := HA.out.at_ (k := m) (by omega)
    obtain ⟨la, hla⟩ : ∃ la, la = p.list[m] := ⟨_, rfl⟩
    rw [← hla] at hc
    have hlast : p.list.getLast? = some la := by rw [List.getLast?_eq_getElem?, hm, hla]; simp
    have HLA := Lib.hid hlast
    have HM := Lib.hid hm
    rw [hm] at b5 hw1 hn ⊢
    have hwr : IntKind.i64.wrap (((m + 1 : Nat) : Int) - 1) = (m : Int) := by
      rw [show ((m + 1 : Nat) : Int) - 1 = (m : Int) by omega]
      exact IntKind.wrap_i64 _ |>.trans (by omega)
    have hd1 : decide (0 < ((m + 1 : Nat) : Int)) = true := by rw [decide_eq_true_eq]; omega
    clear hla hlast hm hz
    cases hwb : (la.toList == [119, 104, 111, 108, 101])
    · have HW := Lib.hid hwb
      go_enter Try.func27, Try.ntmps27
      go_upto_region 1 with fail
      rw [← hw1, ← hb]
      clear hw1 hb
      go_upto_region 5 with fail
      have HTO : Hid ((if wholeB p = true then 5 else 3) = 3) := by show _ = _; rw [if_neg (by unfold wholeB; rw [HLA.out]; show ¬ (la.toList == [119, 104, 111, 108, 101]) = true; rw [HW.out]; simp)]
      by_cases h0 : p.err = 0
      · have hb0 : (p.err == 0) = true := by rw [h0]; rfl
        have HGO := Lib.hid (goes_any 3 3 p.err none (.slice none 0 0) rfl _ H2.out.1 rfl)
        have HE := Lib.hid h0
        clear h0
        go_wp2_with (go_at_call 37; go_must (refine HGO.out.mono ?_); rintro en w2 ⟨rfl, h2, hK2⟩)
        go_end0
        rw [HY.out]
        unfold toldV
        rw [if_pos HE.out, HTO.out]
        exact ⟨rfl, pv, h2, .inl ⟨rfl, goes_piece _ _ _ _⟩, (HK.out.of_non.trans H2.out.2).trans hK2⟩
      · have hb0 : (p.err == 0) = false := by rw [beq_eq_false_iff_ne]; exact h0
        have HGO := Lib.hid (goes_any 3 3 p.err none (.slice none 0 0) rfl w1 H1.out rfl)
        have HE := Lib.hid h0
        clear h0
        go_wp2_with (go_at_call 37; go_must (refine HGO.out.mono ?_); rintro en w2 ⟨rfl, h2, hK2⟩)
        go_end0
        rw [HY.out]
        unfold toldV
        rw [if_neg HE.out, HTO.out]
        exact ⟨rfl, pv, h2, .inl ⟨rfl, goes_piece _ _ _ _⟩, HK.out.of_non.trans hK2⟩
    · have HW := Lib.hid hwb
      go_enter Try.func27, Try.ntmps27
      go_upto_region 1 with fail
      rw [← hw1, ← hb]
      clear hw1 hb
      go_upto_region 5 with fail
      have HTO : Hid ((if wholeB p = true then 5 else 3) = 5) := by show _ = _; rw [if_pos (by unfold wholeB; rw [HLA.out]; exact HW.out)]
      by_cases h0 : p.err = 0
      · have hb0 : (p.err == 0) = true := by rw [h0]; rfl
        have HGO := Lib.hid (goes_any 5 5 p.err none (.slice none 0 0) rfl _ H2.out.1 rfl)
        have HE := Lib.hid h0
        clear h0
        go_wp2_with (go_at_call 37; go_must (refine HGO.out.mono ?_); rintro en w2 ⟨rfl, h2, hK2⟩)
        go_end0
        rw [HY.out]
        unfold toldV
        rw [if_pos HE.out, HTO.out]
        exact ⟨rfl, pv, h2, .inl ⟨rfl, goes_piece _ _ _ _⟩, (HK.out.of_non.trans H2.out.2).trans hK2⟩
      · have hb0 : (p.err == 0) = false := by rw [beq_eq_false_iff_ne]; exact h0
        have HGO := Lib.hid (goes_any 5 5 p.err none (.slice none 0 0) rfl w1 H1.out rfl)
        have HE := Lib.hid h0
        clear h0
        go_wp2_with (go_at_call 37; go_must (refine HGO.out.mono ?_); rintro en w2 ⟨rfl, h2, hK2⟩)
        go_end0
        rw [HY.out]
        unfold toldV
        rw [if_neg HE.out, HTO.out]
        exact ⟨rfl, pv, h2, .inl ⟨rfl, goes_piece _ _ _ _⟩, HK.out.of_non.trans hK2⟩
set_option maxHeartbeats 4000000 in
theorem sent_any (p : Rp) (Al : Option Addr) (cl : Nat) (Ad : Option Addr) (cd : Nat) (w : World) (h : RepS w g on j x pv) (hA : At w Ad p.data) (hn : p.data.length ≤ 140737488355328) :
    Calls Try.prog 29 #[.pointer (some ⟨g, 0, none⟩), .agg #[.int .i64 p.ses, .int .i64 p.id, .int .i64 p.err, .int .i64 p.num, .string p.text, (.slice Al p.list.length cl), (.slice Ad p.data.length cd)]] w (HearP g on j pv x (sentV x p) w) := by
  unfold HearP
  obtain ⟨w1, hw1⟩ : ∃ w1, w1 = w.alloc (.cells #[.int .i64 p.ses, .int .i64 p.id, .int .i64 p.err, .int .i64 p.num, .string p.text, (.slice Al p.list.length cl), (.slice Ad p.data.length cd)] 37) := ⟨_, rfl⟩
  obtain ⟨b, hb⟩ : ∃ b, b = w.heap.size := ⟨_, rfl⟩
  have hk1 : Keeps Non w w1 := by rw [hw1]; exact (Keeps.refl _ _).alloc _
  have hX1 : Blk w1 b 37 #[.int .i64 p.ses, .int .i64 p.id, .int .i64 p.err, .int .i64 p.num, .string p.text, (.slice Al p.list.length cl), (.slice Ad p.data.length cd)] := by rw [hw1, hb]; exact Blk.new _ _ _
  have h1 := h.non hk1
  obtain ⟨dd, steps, hB, hC⟩ := h1.blk
  have hbg : b ≠ g := hX1.ne hB (by decide)
  have hgb : ¬ g = b := fun e => hbg e.symm
  have HK := Lib.hid hk1
  have HX := Lib.hid hX1
  have HB := Lib.hid hB
  have HC := Lib.hid hC
  have H1 := Lib.hid h1
  have HCL := Lib.hid (clone_b Ad cd p.data w1 (hA.non hk1) hn)
  have b2 : w1.cell? ⟨b, 2, none⟩ = some (.int .i64 p.err) := hX1.cell 2
  have b6 : w1.cell? ⟨b, 6, none⟩ = some (.slice Ad p.data.length cd) := hX1.cell 6
  have hz1 := hk1.size
  obtain ⟨y, hy⟩ : ∃ y, y = sentV x p := ⟨_, rfl⟩
  rw [← hy]
  have HY := Lib.hid hy
  clear h hX1 hk1 h1 hB hC hy hA
  by_cases h0 : p.err = 0
  · have hb0 : (p.err != 0) = false := by rw [h0]; rfl
    have hb0' : (p.err == 0) = true := by rw [h0]; rfl
    have HE := Lib.hid h0
    clear h0
    go_enter Try.func29, Try.ntmps29
    go_upto_region 1 with fail
    rw [← hw1, ← hb]
    clear hw1 hb
    go_upto_region 3 with fail
    go_wp2_with fail
    refine HCL.out.mono ?_
    rintro en w2 ⟨v, rfl, hO, hK2⟩
    obtain ⟨Av, cv, rfl, -, -, -⟩ := id hO.open
    have hB2 := HB.out.non hK2
    have hX2 := HX.out.non hK2
    have d12 : w2.cell? ⟨g, 12, none⟩ = some (.int .i64 x.at_) := hB2.cell 12
    have e12 := hB2.frozen 12
    have d16 : w2.cell? ⟨g, 16, none⟩ = some pv := hB2.cell 16
    have e16 := hB2.frozen 16
    have d15 : w2.cell? ⟨g, 15, none⟩ = some (.int .i64 x.tries) := hB2.cell 15
    have e15 := hB2.frozen 15
    have d6 : w2.cell? ⟨b, 6, none⟩ = some (.slice Ad p.data.length cd) := hX2.cell 6
    clear b2 b6 HCL
    by_cases hz : p.data.length = 0
    case' pos =>
      have hzb : ((p.data.length : Int) == 0) = true := by rw [hz]; rfl
      have HZ := Lib.hid hz
      go_upto_region 8 with fail
      obtain ⟨V, hV⟩ : ∃ V, V = (.slice Av 0 cv : Value) := ⟨_, rfl⟩
      have hO4 : OwnB w2 w1.heap.size 5 V p.data := by rw [hV]; have h := hO; rw [hz] at h; exact h
      obtain ⟨w4, hw4⟩ : ∃ W, W = (((w2.setCell ⟨g, 16, none⟩ (.slice Av 0 cv)).setCell ⟨g, 12, none⟩ (.int .i64 4)).setCell ⟨g, 12, none⟩ (.int .i64 2)).setCell ⟨g, 15, none⟩ (.int .i64 (wrap64 (x.tries + 1))) := ⟨_, rfl⟩
      have hsw : sentW x p = { x with piece := p.data, at_ := 2, tries := wrap64 (x.tries + 1) } := by unfold sentW; rw [if_pos HZ.out]
      have hB4 : Blk w4 g 62 (repC dd 0 steps j (sentW x p) V) := by rw [hw4, hsw, hV]; exact (((hB2.set 16 (.slice Av 0 cv)).set 12 (.int .i64 4)).set 12 (.int .i64 2)).set 15 (.int .i64 (wrap64 (x.tries + 1)))
      have hk4 : Keeps (Only g) w2 w4 := by rw [hw4]; exact ((((Keeps.refl (Only g) w2).set (p := ⟨g, 16, none⟩) rfl _).set (p := ⟨g, 12, none⟩) rfl _).set (p := ⟨g, 12, none⟩) rfl _).set (p := ⟨g, 15, none⟩) rfl _
      have hpc : (sentW x p).piece = p.data := by rw [hsw]
      have hnl : ∀ k, V.ownBlock = some k → ¬ Only g k := Blk.apart hB2 hO4 (by decide)
      rw [← hw4]
      clear hw4 hsw hV hz
    case' neg =>
      have hzb : ((p.data.length : Int) == 0) = false := by rw [beq_eq_false_iff_ne]; omega
      have HZ := Lib.hid hz
      go_upto_region 8 with fail
      obtain ⟨V, hV⟩ : ∃ V, V = (.slice Av p.data.length cv : Value) := ⟨_, rfl⟩
      have hO4 : OwnB w2 w1.heap.size 5 V p.data := by rw [hV]; exact hO
      obtain ⟨w4, hw4⟩ : ∃ W, W = (w2.setCell ⟨g, 16, none⟩ (.slice Av p.data.length cv)).setCell ⟨g, 12, none⟩ (.int .i64 4) := ⟨_, rfl⟩
      have hsw : sentW x p = { x with piece := p.data, at_ := 4 } := by unfold sentW; rw [if_neg HZ.out]
      have hB4 : Blk w4 g 62 (repC dd 0 steps j (sentW x p) V) := by rw [hw4, hsw, hV]; exact (hB2.set 16 (.slice Av p.data.length cv)).set 12 (.int .i64 4)
      have hk4 : Keeps (Only g) w2 w4 := by rw [hw4]; exact ((Keeps.refl (Only g) w2).set (p := ⟨g, 16, none⟩) rfl _).set (p := ⟨g, 12, none⟩) rfl _
      have hpc : (sentW x p).piece = p.data := by rw [hsw]
      have hnl : ∀ k, V.ownBlock = some k → ¬ Only g k := Blk.apart hB2 hO4 (by decide)
      rw [← hw4]
      clear hw4 hsw hV hz
    all_goals
      have hk24 := hK2.of_non (S := Only g) |>.trans hk4
      have h4 : RepS w4 g on j (sentW x p) V := HC.out _ _ V hk24 hB4
      have hO5 : OwnB w4 w.heap.size 5 V p.data := (hO4.keep hk4 hnl).mono hz1
      have e15 : w4.cell? ⟨g, 15, none⟩ = some (.int .i64 (sentW x p).tries) := hB4.cell 15
      have hkw4 := HK.out.of_non.trans hk24
      have HFA := Lib.hid (fails_any 260 w4 h4)
      have HO5 := Lib.hid hO5
      have HK4 := Lib.hid hkw4
      have H4 := Lib.hid h4
      clear h4 hO5 hkw4 hk24 hk4 hB4 hO4 hO hB2 hX2 hK2 d12 e12 d16 e16 d15 e15 d6
      have e15 : w4.cell? ⟨g, 15, none⟩ = some (.int .i64 (sentW x p).tries) := by obtain ⟨d', s', hb, -⟩ := H4.out.blk; exact hb.cell 15
      by_cases ht : 3 ≤ (sentW x p).tries
      · have HT := Lib.hid ht
        go_wp2_with (go_at_call 15; go_must (refine HFA.out.mono ?_); rintro en w5 ⟨rfl, h5, hK5⟩)
        go_end0
        rw [HY.out]
        unfold sentV
        rw [if_pos HE.out, if_pos HT.out]
        refine ⟨rfl, V, h5, .inr ?_, HK4.out.trans hK5⟩
        show OwnB w5 w.heap.size 5 V (sentW x p).piece
        rw [hpc]
        obtain ⟨d', s', hb, -⟩ := H4.out.blk
        exact HO5.out.keep hK5 (Blk.apart hb HO5.out (by decide))
      · have HT : Hid ((sentW x p).tries < 3) := by show _ < _; omega
        go_wp2_with fail
        go_end0
        rw [HY.out]
        unfold sentV
        rw [if_pos HE.out, if_neg (by have := HT.out; omega)]
        refine ⟨rfl, V, H4.out, .inr ?_, HK4.out⟩
        rw [hpc]
        exact HO5.out
  · have hb0 : (p.err != 0) = true := by rw [bne_iff_ne]; exact h0
    have hb0' : (p.err == 0) = false := by rw [beq_eq_false_iff_ne]; exact h0
    have HGO := Lib.hid (goes_any 4 4 p.err none (.slice none 0 0) rfl w1 H1.out rfl)
    have HE := Lib.hid h0
    clear h0
    go_enter Try.func29, Try.ntmps29
    go_upto_region 1 with fail
    rw [← hw1, ← hb]
    clear hw1 hb
    go_wp2_with (go_at_call 37; go_must (refine HGO.out.mono ?_); rintro en w2 ⟨rfl, h2, hK2⟩)
    refine bodyPost_ret (results_none rfl _ _ _) rfl ?_
    rw [HY.out]
    unfold sentV
    rw [if_neg HE.out]
    exact ⟨rfl, pv, h2, .inl ⟨rfl, goes_piece _ _ _ _⟩, HK.out.of_non.trans hK2⟩
end
end Go.Proofs.Yteigjlkgbpgkjaa
