/- What replies do, step by step. -/
import Derived.Test.YteigjlkgbpgkjaaR5
namespace Go.Proofs.Yteigjlkgbpgkjaa
open Go.RowKit Go.Uc

/-- Does the list end in the word? -/
def wholeB (p : Rp) : Bool := match p.list.getLast? with
  | some s => s.toList == [119, 104, 111, 108, 101]
  | none => false
def failV (x : St) (e : Int) : St := { x with how := 2, why := e }
def toldV (x : St) (p : Rp) : St := goesV (if p.err = 0 then { x with has := p.num } else x) (if wholeB p = true then 5 else 3) p.err none
def sentW (x : St) (p : Rp) : St := if p.data.length = 0 then { x with piece := p.data, at_ := 2, tries := wrap64 (x.tries + 1) } else { x with piece := p.data, at_ := 4 }
def sentV (x : St) (p : Rp) : St := if p.err = 0 then (if 3 ≤ (sentW x p).tries then failV (sentW x p) 260 else sentW x p) else goesV x 4 p.err none
def fedW (x : St) (p : Rp) : St := { x with tries := if x.has < p.num then 0 else wrap64 (x.tries + 1), has := p.num }
def fedV (x : St) (p : Rp) : St := if p.err = 222 then { x with at_ := 1 } else if (fedW x p).tries < 3 then { fedW x p with at_ := 2 } else if p.err = 0 then failV (fedW x p) 260 else failV (fedW x p) p.err
def doneV (x : St) (p : Rp) : St := if p.err = 0 then { x with how := 1 } else goesV x 5 p.err none
/-- What a reply that counts does. -/
def hearS (x : St) (p : Rp) : St := match x.at_ with
  | 0 => goesV x 1 p.err (some 222)
  | 1 => goesV x 2 p.err (some 172)
  | 2 => toldV x p
  | 3 => sentV x p
  | 4 => fedV x p
  | _ => doneV x p
/-- What it leaves. -/
def HearP (g : Nat) (on : Option Nat) (j : Job) (pv : Value) (x x' : St) (w : World) (en : Ending) (w' : World) : Prop :=
  en = .returned (.tuple #[]) ∧ ∃ pv', RepS w' g on j x' pv' ∧ ((pv' = pv ∧ x'.piece = x.piece) ∨ OwnB w' w.heap.size 5 pv' x'.piece) ∧ Keeps (Only g) w w'
theorem goes_piece (x : St) (n : Nat) (e : Int) (m : Option Int) : (goesV x n e m).piece = x.piece := by
  unfold goesV
  split
  · rfl
  · split <;> rfl

section
variable {g : Nat} {on : Option Nat} {j : Job} {x : St} {pv : Value}
set_option maxHeartbeats 2000000 in
theorem dropped_any (p : Rp) (Al : Option Addr) (cl : Nat) (Ad : Option Addr) (cd : Nat) (w : World) (h : RepS w g on j x pv) :
    Calls Try.prog 25 #[.pointer (some ⟨g, 0, none⟩), .agg #[.int .i64 p.ses, .int .i64 p.id, .int .i64 p.err, .int .i64 p.num, .string p.text, (.slice Al p.list.length cl), (.slice Ad p.data.length cd)]] w (HearP g on j pv x (goesV x 1 p.err (some 222)) w) := by
  unfold HearP
  obtain ⟨w1, hw1⟩ : ∃ w1, w1 = w.alloc (.cells #[.int .i64 p.ses, .int .i64 p.id, .int .i64 p.err, .int .i64 p.num, .string p.text, (.slice Al p.list.length cl), (.slice Ad p.data.length cd)] 37) := ⟨_, rfl⟩
  obtain ⟨b, hb⟩ : ∃ b, b = w.heap.size := ⟨_, rfl⟩
  have hk1 : Keeps Non w w1 := by rw [hw1]; exact (Keeps.refl _ _).alloc _
  have hX1 : Blk w1 b 37 #[.int .i64 p.ses, .int .i64 p.id, .int .i64 p.err, .int .i64 p.num, .string p.text, (.slice Al p.list.length cl), (.slice Ad p.data.length cd)] := by rw [hw1, hb]; exact Blk.new _ _ _
  have b2 : w1.cell? ⟨b, 2, none⟩ = some (.int .i64 p.err) := hX1.cell 2
  have hka : Keeps Non w1 (w1.alloc (.cells #[.int .i64 222] 27)) := (Keeps.refl _ _).alloc _
  have HGO := Lib.hid (goes_any 1 1 p.err (some 222) (.slice (some ⟨w1.heap.size, 0, none⟩) 1 1) rfl (w1.alloc (.cells #[.int .i64 222] 27)) ((h.non hk1).non hka) ⟨_, rfl, (Blk.new w1 27 #[.int .i64 222]).cell 0⟩)
  have HK := Lib.hid (hk1.trans hka)
  clear h hX1 hk1 hka
  go_enter Try.func25, Try.ntmps25
  go_upto_region 1 with fail
  rw [← hw1, ← hb]
  clear hw1 hb
  go_wp2_with (go_at_call 37; go_must (refine HGO.out.mono ?_); rintro en w2 ⟨rfl, h2, hK2⟩)
  go_end0
  exact ⟨rfl, pv, h2, .inl ⟨rfl, goes_piece _ _ _ _⟩, HK.out.of_non.trans hK2⟩
set_option maxHeartbeats 2000000 in
theorem taken_any (p : Rp) (Al : Option Addr) (cl : Nat) (Ad : Option Addr) (cd : Nat) (w : World) (h : RepS w g on j x pv) :
    Calls Try.prog 26 #[.pointer (some ⟨g, 0, none⟩), .agg #[.int .i64 p.ses, .int .i64 p.id, .int .i64 p.err, .int .i64 p.num, .string p.text, (.slice Al p.list.length cl), (.slice Ad p.data.length cd)]] w (HearP g on j pv x (goesV x 2 p.err (some 172)) w) := by
  unfold HearP
  obtain ⟨w1, hw1⟩ : ∃ w1, w1 = w.alloc (.cells #[.int .i64 p.ses, .int .i64 p.id, .int .i64 p.err, .int .i64 p.num, .string p.text, (.slice Al p.list.length cl), (.slice Ad p.data.length cd)] 37) := ⟨_, rfl⟩
  obtain ⟨b, hb⟩ : ∃ b, b = w.heap.size := ⟨_, rfl⟩
  have hk1 : Keeps Non w w1 := by rw [hw1]; exact (Keeps.refl _ _).alloc _
  have hX1 : Blk w1 b 37 #[.int .i64 p.ses, .int .i64 p.id, .int .i64 p.err, .int .i64 p.num, .string p.text, (.slice Al p.list.length cl), (.slice Ad p.data.length cd)] := by rw [hw1, hb]; exact Blk.new _ _ _
  have b2 : w1.cell? ⟨b, 2, none⟩ = some (.int .i64 p.err) := hX1.cell 2
  have hka : Keeps Non w1 (w1.alloc (.cells #[.int .i64 172] 27)) := (Keeps.refl _ _).alloc _
  have HGO := Lib.hid (goes_any 2 2 p.err (some 172) (.slice (some ⟨w1.heap.size, 0, none⟩) 1 1) rfl (w1.alloc (.cells #[.int .i64 172] 27)) ((h.non hk1).non hka) ⟨_, rfl, (Blk.new w1 27 #[.int .i64 172]).cell 0⟩)
  have HK := Lib.hid (hk1.trans hka)
  clear h hX1 hk1 hka
  go_enter Try.func26, Try.ntmps26
  go_upto_region 1 with fail
  rw [← hw1, ← hb]
  clear hw1 hb
  go_wp2_with (go_at_call 37; go_must (refine HGO.out.mono ?_); rintro en w2 ⟨rfl, h2, hK2⟩)
  go_end0
  exact ⟨rfl, pv, h2, .inl ⟨rfl, goes_piece _ _ _ _⟩, HK.out.of_non.trans hK2⟩
set_option maxHeartbeats 2000000 in
theorem done_any (p : Rp) (Al : Option Addr) (cl : Nat) (Ad : Option Addr) (cd : Nat) (w : World) (h : RepS w g on j x pv) :
    Calls Try.prog 32 #[.pointer (some ⟨g, 0, none⟩), .agg #[.int .i64 p.ses, .int .i64 p.id, .int .i64 p.err, .int .i64 p.num, .string p.text, (.slice Al p.list.length cl), (.slice Ad p.data.length cd)]] w (HearP g on j pv x (doneV x p) w) := by
  unfold HearP
  obtain ⟨w1, hw1⟩ : ∃ w1, w1 = w.alloc (.cells #[.int .i64 p.ses, .int .i64 p.id, .int .i64 p.err, .int .i64 p.num, .string p.text, (.slice Al p.list.length cl), (.slice Ad p.data.length cd)] 37) := ⟨_, rfl⟩
  obtain ⟨b, hb⟩ : ∃ b, b = w.heap.size := ⟨_, rfl⟩
  have hk1 : Keeps Non w w1 := by rw [hw1]; exact (Keeps.refl _ _).alloc _
  have hX1 : Blk w1 b 37 #[.int .i64 p.ses, .int .i64 p.id, .int .i64 p.err, .int .i64 p.num, .string p.text, (.slice Al p.list.length cl), (.slice Ad p.data.length cd)] := by rw [hw1, hb]; exact Blk.new _ _ _
  have b2 : w1.cell? ⟨b, 2, none⟩ = some (.int .i64 p.err) := hX1.cell 2
  have h1 := h.non hk1
  have HGO := Lib.hid (goes_any 5 5 p.err none (.slice none 0 0) rfl w1 h1 rfl)
  have HK := Lib.hid hk1
  obtain ⟨dd, steps, hB, hC⟩ := h1.blk
  have c17 : w1.cell? ⟨g, 17, none⟩ = some (.int .i64 x.how) := hB.cell 17
  have f17 := hB.frozen 17
  have hk : Keeps (Only g) w1 (w1.setCell ⟨g, 17, none⟩ (.int .i64 1)) := (Keeps.refl (Only g) w1).set (p := ⟨g, 17, none⟩) rfl _
  have FD := Lib.hid (And.intro (hC _ { x with how := 1 } pv hk (hB.set 17 (.int .i64 1))) hk)
  obtain ⟨y, hy⟩ : ∃ y, y = doneV x p := ⟨_, rfl⟩
  rw [← hy]
  have HY := Lib.hid hy
  clear h hX1 hk1 h1 hB hC hk hy
  by_cases h0 : p.err = 0
  · have hb0 : (p.err == 0) = true := by rw [h0]; rfl
    have H0 := Lib.hid h0
    clear h0
    go_enter Try.func32, Try.ntmps32
    go_upto_region 1 with fail
    rw [← hw1, ← hb]
    clear hw1 hb
    go_wp2_with fail
    refine bodyPost_ret (results_none rfl _ _ _) rfl ?_
    rw [HY.out]
    unfold doneV
    rw [if_pos H0.out]
    exact ⟨rfl, pv, FD.out.1, .inl ⟨rfl, rfl⟩, HK.out.of_non.trans FD.out.2⟩
  · have hb0 : (p.err == 0) = false := by rw [beq_eq_false_iff_ne]; exact h0
    have H0 := Lib.hid h0
    clear h0
    go_enter Try.func32, Try.ntmps32
    go_upto_region 1 with fail
    rw [← hw1, ← hb]
    clear hw1 hb
    go_wp2_with (go_at_call 37; go_must (refine HGO.out.mono ?_); rintro en w2 ⟨rfl, h2, hK2⟩)
    go_end0
    rw [HY.out]
    unfold doneV
    rw [if_neg H0.out]
    exact ⟨rfl, pv, h2, .inl ⟨rfl, goes_piece _ _ _ _⟩, HK.out.of_non.trans hK2⟩
set_option maxHeartbeats 4000000 in
theorem fed_any (p : Rp) (Al : Option Addr) (cl : Nat) (Ad : Option Addr) (cd : Nat) (w : World) (h : RepS w g on j x pv) :
    Calls Try.prog 31 #[.pointer (some ⟨g, 0, none⟩), .agg #[.int .i64 p.ses, .int .i64 p.id, .int .i64 p.err, .int .i64 p.num, .string p.text, (.slice Al p.list.length cl), (.slice Ad p.data.length cd)]] w (HearP g on j pv x (fedV x p) w) := by
  unfold HearP
  obtain ⟨w1, hw1⟩ : ∃ w1, w1 = w.alloc (.cells #[.int .i64 p.ses, .int .i64 p.id, .int .i64 p.err, .int .i64 p.num, .string p.text, (.slice Al p.list.length cl), (.slice Ad p.data.length cd)] 37) := ⟨_, rfl⟩
  obtain ⟨b, hb⟩ : ∃ b, b = w.heap.size := ⟨_, rfl⟩
  have hk1 : Keeps Non w w1 := by rw [hw1]; exact (Keeps.refl _ _).alloc _
  have hX1 : Blk w1 b 37 #[.int .i64 p.ses, .int .i64 p.id, .int .i64 p.err, .int .i64 p.num, .string p.text, (.slice Al p.list.length cl), (.slice Ad p.data.length cd)] := by rw [hw1, hb]; exact Blk.new _ _ _
  have h1 := h.non hk1
  obtain ⟨dd, steps, hB, hC⟩ := h1.blk
  have hbg : b ≠ g := hX1.ne hB (by decide)
  have HK := Lib.hid hk1
  have HX := Lib.hid hX1
  have HB := Lib.hid hB
  have HC := Lib.hid hC
  have b2 : w1.cell? ⟨b, 2, none⟩ = some (.int .i64 p.err) := hX1.cell 2
  have b3 : w1.cell? ⟨b, 3, none⟩ = some (.int .i64 p.num) := hX1.cell 3
  have c12 : w1.cell? ⟨g, 12, none⟩ = some (.int .i64 x.at_) := hB.cell 12
  have f12 := hB.frozen 12
  have c14 : w1.cell? ⟨g, 14, none⟩ = some (.int .i64 x.has) := hB.cell 14
  have f14 := hB.frozen 14
  have c15 : w1.cell? ⟨g, 15, none⟩ = some (.int .i64 x.tries) := hB.cell 15
  have f15 := hB.frozen 15
  have hgb : ¬ g = b := fun e => hbg e.symm
  obtain ⟨y, hy⟩ : ∃ y, y = fedV x p := ⟨_, rfl⟩
  rw [← hy]
  have HY := Lib.hid hy
  clear h hX1 hk1 h1 hB hC hy
  by_cases h0 : p.err = 222
  · have hb0 : (p.err == 222) = true := by rw [h0]; rfl
    have H0 := Lib.hid h0
    clear h0
    go_enter Try.func31, Try.ntmps31
    go_upto_region 1 with fail
    rw [← hw1, ← hb]
    clear hw1 hb
    go_wp2_with fail
    refine bodyPost_ret (results_none rfl _ _ _) rfl ?_
    rw [HY.out]
    unfold fedV
    rw [if_pos H0.out]
    have hk : Keeps (Only g) w1 (w1.setCell ⟨g, 12, none⟩ (.int .i64 1)) := (Keeps.refl (Only g) w1).set (p := ⟨g, 12, none⟩) rfl _
    exact ⟨rfl, pv, HC.out _ { x with at_ := 1 } pv hk (HB.out.set 12 (.int .i64 1)), .inl ⟨rfl, rfl⟩, HK.out.of_non.trans hk⟩
  · have hb0 : (p.err == 222) = false := by rw [beq_eq_false_iff_ne]; exact h0
    have H0 := Lib.hid h0
    clear h0
    go_enter Try.func31, Try.ntmps31
    go_upto_region 1 with fail
    rw [← hw1, ← hb]
    clear hw1 hb
    go_upto_region 3 with fail
    go_quiet (fail)
    obtain ⟨w2, hw2⟩ : ∃ W, W = w1.drewN nq := ⟨_, rfl⟩
    have hk2 : Keeps Non w1 w2 := by rw [hw2]; exact (Keeps.refl _ _).drewN _
    have hB2 := HB.out.non hk2
    have hX2 := HX.out.non hk2
    by_cases hgt : x.has < p.num
    case' pos =>
      have HG : Hid _ := hgt
      have d15 : w2.cell? ⟨g, 15, none⟩ = some (.int .i64 x.tries) := hB2.cell 15
      have g15 := hB2.frozen 15
      have d14 : w2.cell? ⟨g, 14, none⟩ = some (.int .i64 x.has) := hB2.cell 14
      have g14 := hB2.frozen 14
      have d3 : w2.cell? ⟨b, 3, none⟩ = some (.int .i64 p.num) := hX2.cell 3
      rw [← hw2]
      clear hw2
      go_upto_region 8 with fail
      obtain ⟨w4, hw4⟩ : ∃ W, W = (w2.setCell ⟨g, 15, none⟩ (.int .i64 0)).setCell ⟨g, 14, none⟩ (.int .i64 p.num) := ⟨_, rfl⟩
      have hfw : fedW x p = { x with tries := 0, has := p.num } := by unfold fedW; rw [if_pos HG.out]
      have hB4 : Blk w4 g 62 (repC dd 0 steps j (fedW x p) pv) := by rw [hw4, hfw]; exact (hB2.set 15 (.int .i64 0)).set 14 (.int .i64 p.num)
      have hk4 : Keeps (Only g) w1 w4 := by rw [hw4]; exact ((hk2.of_non (S := Only g)).set (p := ⟨g, 15, none⟩) rfl _).set (p := ⟨g, 14, none⟩) rfl _
      have hX4 : Blk w4 b 37 #[.int .i64 p.ses, .int .i64 p.id, .int .i64 p.err, .int .i64 p.num, .string p.text, (.slice Al p.list.length cl), (.slice Ad p.data.length cd)] := HX.out.one hk4 hbg
      rw [← hw4]
      clear hw4 hfw d15 g15 d14 g14 d3
    case' neg =>
      have HG : Hid _ := hgt
      have d15 : w2.cell? ⟨g, 15, none⟩ = some (.int .i64 x.tries) := hB2.cell 15
      have g15 := hB2.frozen 15
      have d14 : w2.cell? ⟨g, 14, none⟩ = some (.int .i64 x.has) := hB2.cell 14
      have g14 := hB2.frozen 14
      have d3 : w2.cell? ⟨b, 3, none⟩ = some (.int .i64 p.num) := hX2.cell 3
      rw [← hw2]
      clear hw2
      go_upto_region 8 with fail
      obtain ⟨w4, hw4⟩ : ∃ W, W = (w2.setCell ⟨g, 15, none⟩ (.int .i64 (wrap64 (x.tries + 1)))).setCell ⟨g, 14, none⟩ (.int .i64 p.num) := ⟨_, rfl⟩
      have hfw : fedW x p = { x with tries := (wrap64 (x.tries + 1)), has := p.num } := by unfold fedW; rw [if_neg (by have := HG.out; omega)]
      have hB4 : Blk w4 g 62 (repC dd 0 steps j (fedW x p) pv) := by rw [hw4, hfw]; exact (hB2.set 15 (.int .i64 (wrap64 (x.tries + 1)))).set 14 (.int .i64 p.num)
      have hk4 : Keeps (Only g) w1 w4 := by rw [hw4]; exact ((hk2.of_non (S := Only g)).set (p := ⟨g, 15, none⟩) rfl _).set (p := ⟨g, 14, none⟩) rfl _
      have hX4 : Blk w4 b 37 #[.int .i64 p.ses, .int .i64 p.id, .int .i64 p.err, .int .i64 p.num, .string p.text, (.slice Al p.list.length cl), (.slice Ad p.data.length cd)] := HX.out.one hk4 hbg
      rw [← hw4]
      clear hw4 hfw d15 g15 d14 g14 d3
    all_goals
      have h4 : RepS w4 g on j (fedW x p) pv := HC.out _ _ pv hk4 hB4
      have e2 : w4.cell? ⟨b, 2, none⟩ = some (.int .i64 p.err) := hX4.cell 2
      have e12 : w4.cell? ⟨g, 12, none⟩ = some (.int .i64 x.at_) := hB4.cell 12
      have g12 := hB4.frozen 12
      have e15 : w4.cell? ⟨g, 15, none⟩ = some (.int .i64 (fedW x p).tries) := hB4.cell 15
      have hC4 := fun (y : St) (v : Value) (hb : Blk (w4.setCell ⟨g, 12, none⟩ v) g 62 (repC dd 0 steps j y pv)) => HC.out _ y pv (hk4.set (p := ⟨g, 12, none⟩) rfl v) hb
      by_cases ht : (fedW x p).tries < 3
      · have FIN := Lib.hid (And.intro (hC4 { fedW x p with at_ := 2 } (.int .i64 2) (hB4.set 12 (.int .i64 2))) (HK.out.of_non.trans (hk4.set (p := ⟨g, 12, none⟩) rfl (.int .i64 2))))
        have HT := Lib.hid ht
        clear h4 hC4 hB4 hk4 hX4 hB2 hX2 hk2 b2 b3 c12 f12 c14 f14 c15 f15
        go_wp2_with fail
        go_end0
        rw [HY.out]
        unfold fedV
        rw [if_neg H0.out, if_pos HT.out]
        exact ⟨rfl, pv, FIN.out.1, .inl ⟨rfl, rfl⟩, FIN.out.2⟩
      · have HT : Hid (¬ (fedW x p).tries < 3) := by show ¬ _; omega
        have HFA := Lib.hid (fun e => fails_any e w4 h4)
        have FK := Lib.hid (HK.out.of_non.trans hk4)
        clear h4 hC4 hB4 hk4 hX4 hB2 hX2 hk2 b2 b3 c12 f12 c14 f14 c15 f15
        by_cases he : p.err = 0
        · have hbe : (p.err == 0) = true := by rw [he]; rfl
          have HE := Lib.hid he
          clear he
          go_wp2_with (go_at_call 15; go_must (refine (HFA.out _).mono ?_); rintro en w5 ⟨rfl, h5, hK5⟩)
          go_end0
          rw [HY.out]
          unfold fedV
          rw [if_neg H0.out, if_neg (by have := HT.out; omega), if_pos HE.out]
          exact ⟨rfl, pv, h5, .inl ⟨rfl, rfl⟩, FK.out.trans hK5⟩
        · have hbe : (p.err == 0) = false := by rw [beq_eq_false_iff_ne]; exact he
          have HE := Lib.hid he
          clear he
          go_wp2_with (go_at_call 15; go_must (refine (HFA.out _).mono ?_); rintro en w5 ⟨rfl, h5, hK5⟩)
          go_end0
          rw [HY.out]
          unfold fedV
          rw [if_neg H0.out, if_neg (by have := HT.out; omega), if_neg HE.out]
          exact ⟨rfl, pv, h5, .inl ⟨rfl, rfl⟩, FK.out.trans hK5⟩
end
end Go.Proofs.Yteigjlkgbpgkjaa
