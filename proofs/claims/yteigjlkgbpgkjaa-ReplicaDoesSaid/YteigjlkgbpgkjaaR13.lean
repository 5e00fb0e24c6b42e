/- What replies do, by the document. -/
import Derived.Test.YteigjlkgbpgkjaaR12
namespace Go.Proofs.Yteigjlkgbpgkjaa
open Go.RowKit Go.Uc

def fedD (x : St) (p : Rp) : St := if p.err = 222 then { x with at_ := 1 } else if (fedW x p).tries < 3 then { fedW x p with at_ := 2 } else failV { fedW x p with at_ := 2 } (if p.err = 0 then 260 else p.err)
/-- What a reply that counts does, by the document. -/
def hearD (x : St) (p : Rp) : St := if x.at_ = 4 then fedD x p else hearS x p

section
variable {q : Nat} {j : Job} {x : St} {pv : Value}
theorem rfails_any (e : Int) (w : World) (hb : Blk w q 64 (docC j x pv)) :
    Calls Try.prog 17 #[.pointer (some ⟨q, 0, none⟩), .int .i64 e] w fun en w' => en = .returned (.tuple #[]) ∧ Blk w' q 64 (docC j (failV x e) pv) ∧ Keeps (Only q) w w' := by
  have c13 : w.cell? ⟨q, 13, none⟩ = some (.int .i64 x.how) := hb.cell 13
  have c14 : w.cell? ⟨q, 14, none⟩ = some (.int .i64 x.why) := hb.cell 14
  have f13 := hb.frozen 13
  have f14 := hb.frozen 14
  have hk : Keeps (Only q) w ((w.setCell ⟨q, 13, none⟩ (.int .i64 2)).setCell ⟨q, 14, none⟩ (.int .i64 e)) := ((Keeps.refl (Only q) w).set (p := ⟨q, 13, none⟩) rfl _).set (p := ⟨q, 14, none⟩) rfl _
  have h2 : Blk ((w.setCell ⟨q, 13, none⟩ (.int .i64 2)).setCell ⟨q, 14, none⟩ (.int .i64 e)) q 64 (docC j (failV x e) pv) := (hb.set 13 (.int .i64 2)).set 14 (.int .i64 e)
  have FIN := Lib.hid (And.intro h2 hk)
  clear hb hk h2
  go_enter Try.func17, Try.ntmps17
  go_wp2
  go_end0
  exact ⟨rfl, FIN.out⟩

set_option maxHeartbeats 4000000 in
theorem rfed_any (p : Rp) (Al : Option Addr) (cl : Nat) (Ad : Option Addr) (cd : Nat) (w : World) (hB : Blk w q 64 (docC j x pv)) (he : p.err ≠ 222) :
    Calls Try.prog 21 #[.pointer (some ⟨q, 0, none⟩), .agg #[.int .i64 p.ses, .int .i64 p.id, .int .i64 p.err, .int .i64 p.num, .string p.text, (.slice Al p.list.length cl), (.slice Ad p.data.length cd)]] w fun en w' => en = .returned (.tuple #[]) ∧ Blk w' q 64 (docC j (fedD x p) pv) ∧ Keeps (Only q) w w' := by
  obtain ⟨w1, hw1⟩ : ∃ w1, w1 = w.alloc (.cells #[.int .i64 p.ses, .int .i64 p.id, .int .i64 p.err, .int .i64 p.num, .string p.text, (.slice Al p.list.length cl), (.slice Ad p.data.length cd)] 37) := ⟨_, rfl⟩
  obtain ⟨b, hb⟩ : ∃ b, b = w.heap.size := ⟨_, rfl⟩
  have hk1 : Keeps Non w w1 := by rw [hw1]; exact (Keeps.refl _ _).alloc _
  have hX1 : Blk w1 b 37 #[.int .i64 p.ses, .int .i64 p.id, .int .i64 p.err, .int .i64 p.num, .string p.text, (.slice Al p.list.length cl), (.slice Ad p.data.length cd)] := by rw [hw1, hb]; exact Blk.new _ _ _
  have hB1 := hB.non hk1
  have hbq : b ≠ q := hX1.ne hB1 (by decide)
  have hqb : ¬ q = b := fun e => hbq e.symm
  have c11 : w1.cell? ⟨q, 11, none⟩ = some (.int .i64 x.tries) := hB1.cell 11
  have f11 := hB1.frozen 11
  obtain ⟨y, hy⟩ : ∃ y, y = fedD x p := ⟨_, rfl⟩
  rw [← hy]
  have HY := Lib.hid hy
  have HE := Lib.hid he
  obtain ⟨w2, hw2⟩ : ∃ W, W = w1.setCell ⟨q, 11, none⟩ (.int .i64 (wrap64 (x.tries + 1))) := ⟨_, rfl⟩
  have hB2 : Blk w2 q 64 (docC j { x with tries := wrap64 (x.tries + 1) } pv) := by rw [hw2]; exact hB1.set 11 _
  have hk2 : Keeps (Only q) w1 w2 := by rw [hw2]; exact (Keeps.refl (Only q) w1).set (p := ⟨q, 11, none⟩) rfl _
  have hX2 := hX1.one hk2 hbq
  have hkw2 := hk1.of_non.trans hk2
  clear hB hy he hB1 hX1 hk1 hk2
  go_enter Try.func21, Try.ntmps21
  go_upto_region 1 with fail
  rw [← hw1, ← hb]
  clear hw1 hb
  go_upto_region 2 with fail
  rw [← hw2]
  clear hw2 c11 f11
  have b3 : w2.cell? ⟨b, 3, none⟩ = some (.int .i64 p.num) := hX2.cell 3
  have c10 : w2.cell? ⟨q, 10, none⟩ = some (.int .i64 x.has) := hB2.cell 10
  go_quiet (fail)
  obtain ⟨w3, hw3⟩ : ∃ W, W = w2.drewN nq := ⟨_, rfl⟩
  have hk3 : Keeps Non w2 w3 := by rw [hw3]; exact (Keeps.refl _ _).drewN _
  have hB3 := hB2.non hk3
  have hX3 := hX2.non hk3
  have hkw3 := hkw2.non hk3
  have d3 : w3.cell? ⟨b, 3, none⟩ = some (.int .i64 p.num) := hX3.cell 3
  have d10 : w3.cell? ⟨q, 10, none⟩ = some (.int .i64 x.has) := hB3.cell 10
  have e10 := hB3.frozen 10
  have d8 : w3.cell? ⟨q, 8, none⟩ = some (.int .i64 x.at_) := hB3.cell 8
  have e8 := hB3.frozen 8
  have d11 : w3.cell? ⟨q, 11, none⟩ = some (.int .i64 (wrap64 (x.tries + 1))) := hB3.cell 11
  have e11 := hB3.frozen 11
  rw [← hw3]
  clear hw3 b3 c10 hk3 hB2 hX2 hkw2
  by_cases hgt : x.has < p.num
  case' pos =>
    have HG : Hid _ := hgt
    go_upto_region 6 with fail
    obtain ⟨w4, hw4⟩ : ∃ W, W = ((w3.setCell ⟨q, 11, none⟩ (.int .i64 0)).setCell ⟨q, 10, none⟩ (.int .i64 p.num)).setCell ⟨q, 8, none⟩ (.int .i64 2) := ⟨_, rfl⟩
    have hfw : { fedW x p with at_ := 2 } = { x with tries := 0, has := p.num, at_ := 2 } := by unfold fedW; rw [if_pos HG.out]
    have hB4 : Blk w4 q 64 (docC j { fedW x p with at_ := 2 } pv) := by rw [hw4, hfw]; exact ((hB3.set 11 (.int .i64 0)).set 10 (.int .i64 p.num)).set 8 (.int .i64 2)
    have hk4 : Keeps (Only q) w3 w4 := by rw [hw4]; exact (((Keeps.refl (Only q) w3).set (p := ⟨q, 11, none⟩) rfl _).set (p := ⟨q, 10, none⟩) rfl _).set (p := ⟨q, 8, none⟩) rfl _
    rw [← hw4]
    clear hw4 hfw
  case' neg =>
    have HG : Hid _ := hgt
    go_upto_region 6 with fail
    obtain ⟨w4, hw4⟩ : ∃ W, W = (w3.setCell ⟨q, 10, none⟩ (.int .i64 p.num)).setCell ⟨q, 8, none⟩ (.int .i64 2) := ⟨_, rfl⟩
    have hfw : { fedW x p with at_ := 2 } = { x with tries := wrap64 (x.tries + 1), has := p.num, at_ := 2 } := by unfold fedW; rw [if_neg (by have := HG.out; omega)]
    have hB4 : Blk w4 q 64 (docC j { fedW x p with at_ := 2 } pv) := by rw [hw4, hfw]; exact (hB3.set 10 (.int .i64 p.num)).set 8 (.int .i64 2)
    have hk4 : Keeps (Only q) w3 w4 := by rw [hw4]; exact ((Keeps.refl (Only q) w3).set (p := ⟨q, 10, none⟩) rfl _).set (p := ⟨q, 8, none⟩) rfl _
    rw [← hw4]
    clear hw4 hfw
  all_goals
    have hX4 := hX3.one hk4 hbq
    have hkw4 := hkw3.trans hk4
    clear d3 d10 e10 d8 e8 d11 e11
    have t11 : w4.cell? ⟨q, 11, none⟩ = some (.int .i64 (fedW x p).tries) := hB4.cell 11
    have b2 : w4.cell? ⟨b, 2, none⟩ = some (.int .i64 p.err) := hX4.cell 2
    have HFA := Lib.hid (fun e => rfails_any e w4 hB4)
    have FIN := Lib.hid (And.intro hB4 hkw4)
    clear hX3 hX4 hB3 hB4 hkw3 hkw4 hk4
    by_cases ht : (fedW x p).tries < 3
    · have HT : Hid ((fedW x p).tries < 3) := ht
      go_wp2_with fail
      refine bodyPost_ret (results_none rfl _ _ _) rfl ?_
      rw [HY.out, show fedD x p = { fedW x p with at_ := 2 } by unfold fedD; rw [if_neg HE.out, if_pos HT.out]]
      exact ⟨rfl, FIN.out⟩
    · have HT : Hid (3 ≤ (fedW x p).tries) := by show _ ≤ _; omega
      by_cases h0 : p.err = 0
      · have hb0 : (p.err == 0) = true := by rw [h0]; rfl
        have H0 := Lib.hid h0
        clear h0
        go_wp2_with (go_at_call 17; go_must (refine (HFA.out _).mono ?_); rintro en w5 ⟨rfl, h5, hK5⟩)
        go_end0
        rw [HY.out, show fedD x p = failV { fedW x p with at_ := 2 } 260 by unfold fedD; rw [if_neg HE.out, if_neg (by have := HT.out; omega), if_pos H0.out]]
        exact ⟨rfl, h5, FIN.out.2.trans hK5⟩
      · have hb0 : (p.err == 0) = false := by rw [beq_eq_false_iff_ne]; exact h0
        have H0 := Lib.hid h0
        clear h0
        go_wp2_with (go_at_call 17; go_must (refine (HFA.out _).mono ?_); rintro en w5 ⟨rfl, h5, hK5⟩)
        go_end0
        rw [HY.out, show fedD x p = failV { fedW x p with at_ := 2 } p.err by unfold fedD; rw [if_neg HE.out, if_neg (by have := HT.out; omega), if_neg H0.out]]
        exact ⟨rfl, h5, FIN.out.2.trans hK5⟩
end
end Go.Proofs.Yteigjlkgbpgkjaa
