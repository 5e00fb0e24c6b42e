/- Hear. -/
import Derived.Test.YteigjlkgbpgkjaaR10
namespace Go.Proofs.Yteigjlkgbpgkjaa
open Go.RowKit Go.Uc

def endV (y : St) : St := if 1073741824 < wrap64 (y.id + 1) ∧ y.how = 0 then failV { y with id := wrap64 (y.id + 1) } 260 else { y with id := wrap64 (y.id + 1) }
/-- What Hear does. -/
def hearV (j : Job) (x : St) (who : Int) (p : Rp) : St := if x.how = 0 ∧ who = whoK x.at_ ∧ p.ses = j.ses ∧ p.id = x.id ∧ p.err ≠ 4 ∧ p.err ≠ 5 ∧ p.err ≠ 251 then endV (hearS x p) else x
/-- What it leaves. -/
def HearQ (g : Nat) (j : Job) (pv : Value) (x x' : St) (w : World) (en : Ending) (w' : World) : Prop :=
  en = .returned (.tuple #[]) ∧ ∃ on' pv', RepS w' g on' j x' pv' ∧ ((pv' = pv ∧ x'.piece = x.piece) ∨ OwnB w' w.heap.size 5 pv' x'.piece) ∧ Keeps (Only g) w w'
theorem run_field (a : Int) (n m : Nat) (w : World) : (Instr.field 69 (.agg #[.int .i64 a, .func (.func n) #[] #[], .func (.func m) #[] #[]]) 2).run Try.prog w = .ok (.func (.func m) #[] #[]) w := by kernel_rfl
section
variable {g : Nat} {on : Option Nat} {j : Job} {x : St} {pv : Value}
theorem hears_any (p : Rp) (Al : Option Addr) (cl : Nat) (Ad : Option Addr) (cd : Nat) (w : World) (h : RepS w g on j x pv) (hk : x.at_ < 6) (hL : AtS w Al p.list) (hA : At w Ad p.data) (hb : RpB p) :
    Calls Try.prog (hearK x.at_) #[.pointer (some ⟨g, 0, none⟩), .agg #[.int .i64 p.ses, .int .i64 p.id, .int .i64 p.err, .int .i64 p.num, .string p.text, (.slice Al p.list.length cl), (.slice Ad p.data.length cd)]] w (HearP g on j pv x (hearS x p) w) := by
  unfold RpB at hb
  unfold hearS
  match hx : x.at_, hk with
  | 0, _ => exact dropped_any p Al cl Ad cd w h
  | 1, _ => exact taken_any p Al cl Ad cd w h
  | 2, _ => exact told_any p Al cl Ad cd w h hL (by omega)
  | 3, _ => exact sent_any p Al cl Ad cd w h hA (by omega)
  | 4, _ => exact fed_any p Al cl Ad cd w h
  | 5, _ => exact done_any p Al cl Ad cd w h
set_option maxRecDepth 100000 in
set_option maxHeartbeats 8000000 in
theorem hear_off (who : Int) (p : Rp) (Al : Option Addr) (cl : Nat) (Ad : Option Addr) (cd : Nat) (w : World) (h : RepS w g on j x pv) (h0 : x.how ≠ 0) :
    Calls Try.prog 9 #[.pointer (some ⟨g, 0, none⟩), .int .i64 who, .agg #[.int .i64 p.ses, .int .i64 p.id, .int .i64 p.err, .int .i64 p.num, .string p.text, (.slice Al p.list.length cl), (.slice Ad p.data.length cd)]] w (HearQ g j pv x (hearV j x who p) w) := by
  unfold HearQ
  rw [show hearV j x who p = x from if_neg (fun hh => h0 hh.1)]
  obtain ⟨w1, hw1⟩ : ∃ w1, w1 = w.alloc (.cells #[.int .i64 p.ses, .int .i64 p.id, .int .i64 p.err, .int .i64 p.num, .string p.text, (.slice Al p.list.length cl), (.slice Ad p.data.length cd)] 37) := ⟨_, rfl⟩
  obtain ⟨b, hb⟩ : ∃ b, b = w.heap.size := ⟨_, rfl⟩
  have hk1 : Keeps Non w w1 := by rw [hw1]; exact (Keeps.refl _ _).alloc _
  have h1 := h.non hk1
  have hnx := next_off w1 h1 h0
  unfold rqC Rq.none at hnx
  have HNX := Lib.hid hnx
  have H1 := Lib.hid h1
  have HK1 := Lib.hid hk1
  clear h h1 hnx hk1 h0
  go_enter Try.func9, Try.ntmps9
  go_upto_region 1 with fail
  rw [← hw1, ← hb]
  clear hw1 hb
  go_upto_region 2 with (go_at_call 11; go_must (refine HNX.out.mono ?_); rintro en w2 ⟨rfl, hK2⟩)
  have hka : Keeps Non w2 (w2.alloc (.cells #[.int .i64 0, .int .i64 0, .int .i64 0, .string { data := #[] }, .string { data := #[] }, .string { data := #[] }, .string { data := #[] }, .int .i64 0, .int .i64 0, .slice none 0 0] 41)) := (Keeps.refl _ _).alloc _
  have FN := Lib.hid (And.intro ((H1.out.non hK2).non hka) (((HK1.out.trans hK2).trans hka).of_non (S := Only g)))
  clear hka hK2
  go_wp2_with fail
  refine bodyPost_ret (results_none rfl _ _ _) rfl ?_
  exact ⟨rfl, on, pv, FN.out.1, .inl ⟨rfl, by first | rfl | trivial⟩, FN.out.2⟩
set_option maxRecDepth 100000 in
set_option maxHeartbeats 8000000 in
theorem hear_on (who : Int) (p : Rp) (Al : Option Addr) (cl : Nat) (Ad : Option Addr) (cd : Nat) (w : World) (h : RepS w g on j x pv) (h0 : x.how = 0) (hk : x.at_ < 6) (hO : OwnB w 0 5 pv x.piece) (hn : x.piece.length ≤ 140737488355328) (hrd : ∀ W, Keeps (Only g) w W → AtS W Al p.list ∧ At W Ad p.data) (hpb : RpB p) :
    Calls Try.prog 9 #[.pointer (some ⟨g, 0, none⟩), .int .i64 who, .agg #[.int .i64 p.ses, .int .i64 p.id, .int .i64 p.err, .int .i64 p.num, .string p.text, (.slice Al p.list.length cl), (.slice Ad p.data.length cd)]] w (HearQ g j pv x (hearV j x who p) w) := by
  unfold HearQ
  obtain ⟨y, hy⟩ : ∃ y, y = hearV j x who p := ⟨_, rfl⟩
  rw [← hy]
  have HY := Lib.hid hy
  obtain ⟨w1, hw1⟩ : ∃ w1, w1 = w.alloc (.cells #[.int .i64 p.ses, .int .i64 p.id, .int .i64 p.err, .int .i64 p.num, .string p.text, (.slice Al p.list.length cl), (.slice Ad p.data.length cd)] 37) := ⟨_, rfl⟩
  obtain ⟨b, hb⟩ : ∃ b, b = w.heap.size := ⟨_, rfl⟩
  have hk1 : Keeps Non w w1 := by rw [hw1]; exact (Keeps.refl _ _).alloc _
  have hX1 : Blk w1 b 37 #[.int .i64 p.ses, .int .i64 p.id, .int .i64 p.err, .int .i64 p.num, .string p.text, (.slice Al p.list.length cl), (.slice Ad p.data.length cd)] := by rw [hw1, hb]; exact Blk.new _ _ _
  have h1 := h.non hk1
  have hO1 := hO.non hk1
  obtain ⟨dd, steps, hB1, -⟩ := h1.blk
  have hbg : b ≠ g := hX1.ne hB1 (by decide)
  have hnx := next_on w1 h1 hk h0 hO1 hn
  obtain ⟨vw, hvw⟩ : ∃ v, v = whoK x.at_ := ⟨_, rfl⟩
  rw [← hvw] at hnx
  obtain ⟨R, hR⟩ : ∃ R, R = nextV j x := ⟨_, rfl⟩
  rw [← hR] at hnx
  have HRR : Hid (R.ses = j.ses ∧ R.id = x.id) := by
    show _ ∧ _
    rw [hR]
    unfold nextV
    rw [if_pos h0]
    exact ⟨rfl, rfl⟩
  unfold rqC at hnx
  have HNX := Lib.hid hnx
  have HVW := Lib.hid hvw
  have H0 := Lib.hid h0
  have HK := Lib.hid hk
  have HO := Lib.hid hO
  have HL := Lib.hid hrd
  have HPB := Lib.hid hpb
  have HK1 := Lib.hid hk1
  have HX := Lib.hid hX1
  have hz1 := hk1.size
  have HB1 := Lib.hid hB1
  clear h h1 hnx hvw hR hk1 h0 hk hO hO1 hrd hpb hX1 hB1 hy
  go_enter Try.func9, Try.ntmps9
  go_upto_region 1 with fail
  rw [← hw1, ← hb]
  clear hw1 hb
  go_upto_region 2 with (go_at_call 11; go_must (refine HNX.out.mono ?_); rintro en w2 ⟨gs, dv, rfl, hOd, h2, hK2⟩; obtain ⟨Av, cv, rfl, -, -, -⟩ := id hOd.open)
  obtain ⟨q6, hq6⟩ : ∃ q, q = w2.heap.size := ⟨_, rfl⟩
  obtain ⟨w3, hw3⟩ : ∃ W, W = w2.alloc (.cells #[.int .i64 R.ses, .int .i64 R.id, .int .i64 R.verb, .string R.name, .string R.item, .string R.other, .string R.path, .int .i64 R.at_, .int .i64 R.many, .slice Av (askV j x).data.length cv] 41) := ⟨_, rfl⟩
  have hk3 : Keeps Non w2 w3 := by rw [hw3]; exact (Keeps.refl _ _).alloc _
  have hQ3 : Blk w3 q6 41 #[.int .i64 R.ses, .int .i64 R.id, .int .i64 R.verb, .string R.name, .string R.item, .string R.other, .string R.path, .int .i64 R.at_, .int .i64 R.many, .slice Av (askV j x).data.length cv] := by rw [hw3, hq6]; exact Blk.new _ _ _
  have hX3 := (HX.out.one hK2 hbg).non hk3
  have h3 := h2.non hk3
  have hkw3 : Keeps (Only g) w w3 := (HK1.out.of_non.trans hK2).non hk3
  have r0 : w3.cell? ⟨q6, 0, none⟩ = some (.int .i64 j.ses) := by rw [← HRR.out.1]; exact hQ3.cell 0
  have r1 : w3.cell? ⟨q6, 1, none⟩ = some (.int .i64 x.id) := by rw [← HRR.out.2]; exact hQ3.cell 1
  have b0 : w3.cell? ⟨b, 0, none⟩ = some (.int .i64 p.ses) := hX3.cell 0
  have b1 : w3.cell? ⟨b, 1, none⟩ = some (.int .i64 p.id) := hX3.cell 1
  have b2 : w3.cell? ⟨b, 2, none⟩ = some (.int .i64 p.err) := hX3.cell 2
  have FN := Lib.hid (And.intro h3 hkw3)
  have HX3 := Lib.hid hX3
  rw [← hw3, ← hq6]
  clear hw3 hq6 hQ3 hX3 h3 hkw3 hk3 h2 hK2 hOd HNX
  by_cases hc0 : who = whoK x.at_
  case' neg =>
    have hb0 : (who != vw) = true := by rw [bne_iff_ne, HVW.out]; exact hc0
    have hb0' : (who == vw) = false := by rw [beq_eq_false_iff_ne, HVW.out]; exact hc0
    have HC0 := Lib.hid hc0
    clear hc0
    go_wp2_with fail
    refine bodyPost_ret (results_none rfl _ _ _) rfl ?_
    rw [HY.out, show hearV j x who p = x from if_neg (fun h => HC0.out h.2.1)]
    exact ⟨rfl, _, pv, FN.out.1, .inl ⟨rfl, rfl⟩, FN.out.2⟩
  have hb0 : (who != vw) = false := by rw [hc0, ← HVW.out]; simp
  have hb0' : (who == vw) = true := by rw [hc0, ← HVW.out]; simp
  have HC0 := Lib.hid hc0
  clear hc0
  by_cases hc1 : p.ses = j.ses
  case' neg =>
    have hb1 : (p.ses != j.ses) = true := by rw [bne_iff_ne]; exact hc1
    have hb1' : (p.ses == j.ses) = false := by rw [beq_eq_false_iff_ne]; exact hc1
    have HC1 := Lib.hid hc1
    clear hc1
    go_wp2_with fail
    refine bodyPost_ret (results_none rfl _ _ _) rfl ?_
    rw [HY.out, show hearV j x who p = x from if_neg (fun h => HC1.out h.2.2.1)]
    exact ⟨rfl, _, pv, FN.out.1, .inl ⟨rfl, rfl⟩, FN.out.2⟩
  have hb1 : (p.ses != j.ses) = false := by rw [hc1]; simp
  have hb1' : (p.ses == j.ses) = true := by rw [hc1]; simp
  have HC1 := Lib.hid hc1
  clear hc1
  by_cases hc2 : p.id = x.id
  case' neg =>
    have hb2 : (p.id != x.id) = true := by rw [bne_iff_ne]; exact hc2
    have hb2' : (p.id == x.id) = false := by rw [beq_eq_false_iff_ne]; exact hc2
    have HC2 := Lib.hid hc2
    clear hc2
    go_wp2_with fail
    refine bodyPost_ret (results_none rfl _ _ _) rfl ?_
    rw [HY.out, show hearV j x who p = x from if_neg (fun h => HC2.out h.2.2.2.1)]
    exact ⟨rfl, _, pv, FN.out.1, .inl ⟨rfl, rfl⟩, FN.out.2⟩
  have hb2 : (p.id != x.id) = false := by rw [hc2]; simp
  have hb2' : (p.id == x.id) = true := by rw [hc2]; simp
  have HC2 := Lib.hid hc2
  clear hc2
  by_cases hc3 : p.err = 4
  case' pos =>
    have hb3 : (p.err == 4) = true := by rw [hc3]; rfl
    have HC3 := Lib.hid hc3
    clear hc3
    go_wp2_with fail
    refine bodyPost_ret (results_none rfl _ _ _) rfl ?_
    rw [HY.out, show hearV j x who p = x from if_neg (fun h => h.2.2.2.2.1 HC3.out)]
    exact ⟨rfl, _, pv, FN.out.1, .inl ⟨rfl, rfl⟩, FN.out.2⟩
  have hb3 : (p.err == 4) = false := by rw [beq_eq_false_iff_ne]; exact hc3
  have HC3 := Lib.hid hc3
  clear hc3
  by_cases hc4 : p.err = 5
  case' pos =>
    have hb4 : (p.err == 5) = true := by rw [hc4]; rfl
    have HC4 := Lib.hid hc4
    clear hc4
    go_wp2_with fail
    refine bodyPost_ret (results_none rfl _ _ _) rfl ?_
    rw [HY.out, show hearV j x who p = x from if_neg (fun h => h.2.2.2.2.2.1 HC4.out)]
    exact ⟨rfl, _, pv, FN.out.1, .inl ⟨rfl, rfl⟩, FN.out.2⟩
  have hb4 : (p.err == 5) = false := by rw [beq_eq_false_iff_ne]; exact hc4
  have HC4 := Lib.hid hc4
  clear hc4
  by_cases hc5 : p.err = 251
  case' pos =>
    have hb5 : (p.err == 251) = true := by rw [hc5]; rfl
    have HC5 := Lib.hid hc5
    clear hc5
    go_wp2_with fail
    refine bodyPost_ret (results_none rfl _ _ _) rfl ?_
    rw [HY.out, show hearV j x who p = x from if_neg (fun h => h.2.2.2.2.2.2 HC5.out)]
    exact ⟨rfl, _, pv, FN.out.1, .inl ⟨rfl, rfl⟩, FN.out.2⟩
  have hb5 : (p.err == 251) = false := by rw [beq_eq_false_iff_ne]; exact hc5
  have HC5 := Lib.hid hc5
  clear hc5
  obtain ⟨Y, hY⟩ : ∃ Y, Y = hearS x p := ⟨_, rfl⟩
  obtain ⟨vh, hvh⟩ : ∃ v, v = hearK x.at_ := ⟨_, rfl⟩
  have hhe := fun W on' (h : RepS W g on' j x pv) (hkW : Keeps (Only g) w W) => hears_any p Al cl Ad cd W h HK.out (HL.out W hkW).1 (HL.out W hkW).2 HPB.out
  rw [← hvh, ← hY] at hhe
  have HHS := Lib.hid hhe
  have hnw := now_any g (some gs) j x pv w3.drew (FN.out.1.non (Keeps.refl _ _).drew) HK.out
  unfold fnV at hnw
  rw [← hvh] at hnw
  obtain ⟨va, hva⟩ : ∃ v, v = askK x.at_ := ⟨_, rfl⟩
  obtain ⟨vw', hvw'⟩ : ∃ v, v = whoK x.at_ := ⟨_, rfl⟩
  rw [← hva, ← hvw'] at hnw
  have HNW := Lib.hid hnw
  have HV6 : Hid (vh = 25 ∨ vh = 26 ∨ vh = 27 ∨ vh = 29 ∨ vh = 31 ∨ vh = 32) := by
    show _ ∨ _
    rw [hvh]
    have hk := HK.out
    match hx : x.at_, hk with
    | 0, _ => exact .inl rfl
    | 1, _ => exact .inr (.inl rfl)
    | 2, _ => exact .inr (.inr (.inl rfl))
    | 3, _ => exact .inr (.inr (.inr (.inl rfl)))
    | 4, _ => exact .inr (.inr (.inr (.inr (.inl rfl))))
    | 5, _ => exact .inr (.inr (.inr (.inr (.inr rfl))))
  have HYY := Lib.hid hY
  clear hhe hnw hva hvw' hvh hY
  have FS1 : Hid (w3.drew.cell? ⟨b, 0, none⟩ = some (.int .i64 p.ses) ∧ w3.drew.cell? ⟨b, 1, none⟩ = some (.int .i64 p.id) ∧ w3.drew.cell? ⟨b, 2, none⟩ = some (.int .i64 p.err) ∧ w3.drew.cell? ⟨b, 3, none⟩ = some (.int .i64 p.num) ∧ w3.drew.cell? ⟨b, 4, none⟩ = some (.string p.text) ∧ w3.drew.cell? ⟨b, 5, none⟩ = some (.slice Al p.list.length cl) ∧ w3.drew.cell? ⟨b, 6, none⟩ = some (.slice Ad p.data.length cd)) := ⟨HX3.out.drew.cell 0, HX3.out.drew.cell 1, HX3.out.drew.cell 2, HX3.out.drew.cell 3, HX3.out.drew.cell 4, HX3.out.drew.cell 5, HX3.out.drew.cell 6⟩
  go_upto_region 3 with fail
  go_cut [] from 51 to 56 (fun wc => ∃ on' pv', RepS wc g on' j Y pv' ∧ ((pv' = pv ∧ Y.piece = x.piece) ∨ OwnB wc w.heap.size 5 pv' Y.piece) ∧ Keeps (Only g) w wc)
  case first =>
    have hfd := fun W => run_field vw' va vh W
    rcases HV6.out with rfl | rfl | rfl | rfl | rfl | rfl
    all_goals
      go_region_held3 (fun w' : World => w'.cell? ⟨b, 0, none⟩ = some (.int .i64 p.ses) ∧ w'.cell? ⟨b, 1, none⟩ = some (.int .i64 p.id) ∧ w'.cell? ⟨b, 2, none⟩ = some (.int .i64 p.err) ∧ w'.cell? ⟨b, 3, none⟩ = some (.int .i64 p.num) ∧ w'.cell? ⟨b, 4, none⟩ = some (.string p.text) ∧ w'.cell? ⟨b, 5, none⟩ = some (.slice Al p.list.length cl) ∧ w'.cell? ⟨b, 6, none⟩ = some (.slice Ad p.data.length cd)) (with_reducible (first | exact FS1.out | exact FS2.out | exact FS3.out))
        (first
            | (go_at_call 14; go_must (refine HNW.out.mono ?_); rintro en w4 ⟨gs2, rfl, h4, hK4⟩; go_must (have hX4 := HX3.out.drew.one hK4 hbg; have FS2 : Hid (w4.cell? ⟨b, 0, none⟩ = some (.int .i64 p.ses) ∧ w4.cell? ⟨b, 1, none⟩ = some (.int .i64 p.id) ∧ w4.cell? ⟨b, 2, none⟩ = some (.int .i64 p.err) ∧ w4.cell? ⟨b, 3, none⟩ = some (.int .i64 p.num) ∧ w4.cell? ⟨b, 4, none⟩ = some (.string p.text) ∧ w4.cell? ⟨b, 5, none⟩ = some (.slice Al p.list.length cl) ∧ w4.cell? ⟨b, 6, none⟩ = some (.slice Ad p.data.length cd)) := ⟨hX4.cell 0, hX4.cell 1, hX4.cell 2, hX4.cell 3, hX4.cell 4, hX4.cell 5, hX4.cell 6⟩; have HHE := Lib.hid (HHS.out w4 _ h4 (FN.out.2.drew.trans hK4))))
            | (go_at_call 25; go_must (refine HHE.out.mono ?_); rintro en w5 ⟨rfl, pv', h5, hp5, hK5⟩; go_must (have hX5 := hX4.one hK5 hbg; have FS3 : Hid (w5.cell? ⟨b, 0, none⟩ = some (.int .i64 p.ses) ∧ w5.cell? ⟨b, 1, none⟩ = some (.int .i64 p.id) ∧ w5.cell? ⟨b, 2, none⟩ = some (.int .i64 p.err) ∧ w5.cell? ⟨b, 3, none⟩ = some (.int .i64 p.num) ∧ w5.cell? ⟨b, 4, none⟩ = some (.string p.text) ∧ w5.cell? ⟨b, 5, none⟩ = some (.slice Al p.list.length cl) ∧ w5.cell? ⟨b, 6, none⟩ = some (.slice Ad p.data.length cd)) := ⟨hX5.cell 0, hX5.cell 1, hX5.cell 2, hX5.cell 3, hX5.cell 4, hX5.cell 5, hX5.cell 6⟩; have FR : Hid (∃ on' pv', RepS w5 g on' j Y pv' ∧ ((pv' = pv ∧ Y.piece = x.piece) ∨ OwnB w5 w.heap.size 5 pv' Y.piece) ∧ Keeps (Only g) w w5) := ⟨_, pv', h5, hp5.imp id (fun h => h.mono (FN.out.2.drew.trans hK4).size), (FN.out.2.drew.trans hK4).trans hK5⟩))
            | (go_at_call 26; go_must (refine HHE.out.mono ?_); rintro en w5 ⟨rfl, pv', h5, hp5, hK5⟩; go_must (have hX5 := hX4.one hK5 hbg; have FS3 : Hid (w5.cell? ⟨b, 0, none⟩ = some (.int .i64 p.ses) ∧ w5.cell? ⟨b, 1, none⟩ = some (.int .i64 p.id) ∧ w5.cell? ⟨b, 2, none⟩ = some (.int .i64 p.err) ∧ w5.cell? ⟨b, 3, none⟩ = some (.int .i64 p.num) ∧ w5.cell? ⟨b, 4, none⟩ = some (.string p.text) ∧ w5.cell? ⟨b, 5, none⟩ = some (.slice Al p.list.length cl) ∧ w5.cell? ⟨b, 6, none⟩ = some (.slice Ad p.data.length cd)) := ⟨hX5.cell 0, hX5.cell 1, hX5.cell 2, hX5.cell 3, hX5.cell 4, hX5.cell 5, hX5.cell 6⟩; have FR : Hid (∃ on' pv', RepS w5 g on' j Y pv' ∧ ((pv' = pv ∧ Y.piece = x.piece) ∨ OwnB w5 w.heap.size 5 pv' Y.piece) ∧ Keeps (Only g) w w5) := ⟨_, pv', h5, hp5.imp id (fun h => h.mono (FN.out.2.drew.trans hK4).size), (FN.out.2.drew.trans hK4).trans hK5⟩))
            | (go_at_call 27; go_must (refine HHE.out.mono ?_); rintro en w5 ⟨rfl, pv', h5, hp5, hK5⟩; go_must (have hX5 := hX4.one hK5 hbg; have FS3 : Hid (w5.cell? ⟨b, 0, none⟩ = some (.int .i64 p.ses) ∧ w5.cell? ⟨b, 1, none⟩ = some (.int .i64 p.id) ∧ w5.cell? ⟨b, 2, none⟩ = some (.int .i64 p.err) ∧ w5.cell? ⟨b, 3, none⟩ = some (.int .i64 p.num) ∧ w5.cell? ⟨b, 4, none⟩ = some (.string p.text) ∧ w5.cell? ⟨b, 5, none⟩ = some (.slice Al p.list.length cl) ∧ w5.cell? ⟨b, 6, none⟩ = some (.slice Ad p.data.length cd)) := ⟨hX5.cell 0, hX5.cell 1, hX5.cell 2, hX5.cell 3, hX5.cell 4, hX5.cell 5, hX5.cell 6⟩; have FR : Hid (∃ on' pv', RepS w5 g on' j Y pv' ∧ ((pv' = pv ∧ Y.piece = x.piece) ∨ OwnB w5 w.heap.size 5 pv' Y.piece) ∧ Keeps (Only g) w w5) := ⟨_, pv', h5, hp5.imp id (fun h => h.mono (FN.out.2.drew.trans hK4).size), (FN.out.2.drew.trans hK4).trans hK5⟩))
            | (go_at_call 29; go_must (refine HHE.out.mono ?_); rintro en w5 ⟨rfl, pv', h5, hp5, hK5⟩; go_must (have hX5 := hX4.one hK5 hbg; have FS3 : Hid (w5.cell? ⟨b, 0, none⟩ = some (.int .i64 p.ses) ∧ w5.cell? ⟨b, 1, none⟩ = some (.int .i64 p.id) ∧ w5.cell? ⟨b, 2, none⟩ = some (.int .i64 p.err) ∧ w5.cell? ⟨b, 3, none⟩ = some (.int .i64 p.num) ∧ w5.cell? ⟨b, 4, none⟩ = some (.string p.text) ∧ w5.cell? ⟨b, 5, none⟩ = some (.slice Al p.list.length cl) ∧ w5.cell? ⟨b, 6, none⟩ = some (.slice Ad p.data.length cd)) := ⟨hX5.cell 0, hX5.cell 1, hX5.cell 2, hX5.cell 3, hX5.cell 4, hX5.cell 5, hX5.cell 6⟩; have FR : Hid (∃ on' pv', RepS w5 g on' j Y pv' ∧ ((pv' = pv ∧ Y.piece = x.piece) ∨ OwnB w5 w.heap.size 5 pv' Y.piece) ∧ Keeps (Only g) w w5) := ⟨_, pv', h5, hp5.imp id (fun h => h.mono (FN.out.2.drew.trans hK4).size), (FN.out.2.drew.trans hK4).trans hK5⟩))
            | (go_at_call 31; go_must (refine HHE.out.mono ?_); rintro en w5 ⟨rfl, pv', h5, hp5, hK5⟩; go_must (have hX5 := hX4.one hK5 hbg; have FS3 : Hid (w5.cell? ⟨b, 0, none⟩ = some (.int .i64 p.ses) ∧ w5.cell? ⟨b, 1, none⟩ = some (.int .i64 p.id) ∧ w5.cell? ⟨b, 2, none⟩ = some (.int .i64 p.err) ∧ w5.cell? ⟨b, 3, none⟩ = some (.int .i64 p.num) ∧ w5.cell? ⟨b, 4, none⟩ = some (.string p.text) ∧ w5.cell? ⟨b, 5, none⟩ = some (.slice Al p.list.length cl) ∧ w5.cell? ⟨b, 6, none⟩ = some (.slice Ad p.data.length cd)) := ⟨hX5.cell 0, hX5.cell 1, hX5.cell 2, hX5.cell 3, hX5.cell 4, hX5.cell 5, hX5.cell 6⟩; have FR : Hid (∃ on' pv', RepS w5 g on' j Y pv' ∧ ((pv' = pv ∧ Y.piece = x.piece) ∨ OwnB w5 w.heap.size 5 pv' Y.piece) ∧ Keeps (Only g) w w5) := ⟨_, pv', h5, hp5.imp id (fun h => h.mono (FN.out.2.drew.trans hK4).size), (FN.out.2.drew.trans hK4).trans hK5⟩))
            | (go_at_call 32; go_must (refine HHE.out.mono ?_); rintro en w5 ⟨rfl, pv', h5, hp5, hK5⟩; go_must (have hX5 := hX4.one hK5 hbg; have FS3 : Hid (w5.cell? ⟨b, 0, none⟩ = some (.int .i64 p.ses) ∧ w5.cell? ⟨b, 1, none⟩ = some (.int .i64 p.id) ∧ w5.cell? ⟨b, 2, none⟩ = some (.int .i64 p.err) ∧ w5.cell? ⟨b, 3, none⟩ = some (.int .i64 p.num) ∧ w5.cell? ⟨b, 4, none⟩ = some (.string p.text) ∧ w5.cell? ⟨b, 5, none⟩ = some (.slice Al p.list.length cl) ∧ w5.cell? ⟨b, 6, none⟩ = some (.slice Ad p.data.length cd)) := ⟨hX5.cell 0, hX5.cell 1, hX5.cell 2, hX5.cell 3, hX5.cell 4, hX5.cell 5, hX5.cell 6⟩; have FR : Hid (∃ on' pv', RepS w5 g on' j Y pv' ∧ ((pv' = pv ∧ Y.piece = x.piece) ∨ OwnB w5 w.heap.size 5 pv' Y.piece) ∧ Keeps (Only g) w w5) := ⟨_, pv', h5, hp5.imp id (fun h => h.mono (FN.out.2.drew.trans hK4).size), (FN.out.2.drew.trans hK4).trans hK5⟩)))
      all_goals
        go_wp2_with fail
        go_meet
        case rel => exact FR.out
  case rest =>
    clear HHS HNW FS1 b0 b1 b2 r0 r1
    obtain ⟨on', pv', h5, hp5, hK5⟩ := hcut
    obtain ⟨d', s', hB5, hC5⟩ := h5.blk
    have c13 : wc.cell? ⟨g, 13, none⟩ = some (.int .i64 Y.id) := hB5.cell 13
    have f13 := hB5.frozen 13
    have c17 : wc.cell? ⟨g, 17, none⟩ = some (.int .i64 Y.how) := hB5.cell 17
    have hkk : Keeps (Only g) wc (wc.setCell ⟨g, 13, none⟩ (.int .i64 (wrap64 (Y.id + 1)))) := (Keeps.refl (Only g) wc).set (p := ⟨g, 13, none⟩) rfl _
    have h6 : RepS (wc.setCell ⟨g, 13, none⟩ (.int .i64 (wrap64 (Y.id + 1)))) g on' j { Y with id := wrap64 (Y.id + 1) } pv' := hC5 _ _ pv' hkk (hB5.set 13 (.int .i64 (wrap64 (Y.id + 1))))
    have HFA := Lib.hid (fails_any 260 _ h6)
    have hp6 : (pv' = pv ∧ Y.piece = x.piece) ∨ OwnB (wc.setCell ⟨g, 13, none⟩ (.int .i64 (wrap64 (Y.id + 1)))) w.heap.size 5 pv' Y.piece := hp5.imp id fun h => h.keep hkk (Blk.apart hB5 h (by decide))
    have F6 := Lib.hid (And.intro h6 (And.intro hp6 (hK5.trans hkk)))
    have HG6 : Hid (∀ w7, Keeps (Only g) (wc.setCell ⟨g, 13, none⟩ (.int .i64 (wrap64 (Y.id + 1)))) w7 → OwnB w7 w.heap.size 5 pv' Y.piece ∨ (pv' = pv ∧ Y.piece = x.piece)) := fun w7 hk7 => hp6.elim .inr fun h => by
      obtain ⟨d2, s2, hb2, -⟩ := F6.out.1.blk
      exact .inl (h.keep hk7 (Blk.apart hb2 h (by decide)))
    have HVE : Hid (y = endV Y) := by
      show _ = _
      rw [HY.out, HYY.out]
      exact if_pos ⟨H0.out, HC0.out, HC1.out, HC2.out, HC3.out, HC4.out, HC5.out⟩
    clear h5 hp5 hK5 hB5 hC5 hkk h6 hp6
    by_cases hbig : 1073741824 < wrap64 (Y.id + 1)
    · by_cases hh0 : Y.how = 0
      · have hhb : (Y.how == 0) = true := by rw [hh0]; rfl
        have HE := Lib.hid (And.intro hbig hh0)
        clear hh0
        go_wp2_with (go_at_call 15; go_must (refine HFA.out.mono ?_); rintro en w7 ⟨rfl, h7, hK7⟩)
        go_end0
        rw [HVE.out, show endV Y = failV { Y with id := wrap64 (Y.id + 1) } 260 from if_pos HE.out]
        exact ⟨rfl, on', pv', h7, (HG6.out _ hK7).symm, F6.out.2.2.trans hK7⟩
      · have hhb : (Y.how == 0) = false := by rw [beq_eq_false_iff_ne]; exact hh0
        have HE := Lib.hid hh0
        clear hh0
        go_wp2_with fail
        go_end0
        rw [HVE.out, show endV Y = { Y with id := wrap64 (Y.id + 1) } from if_neg (fun h => HE.out h.2)]
        exact ⟨rfl, on', pv', F6.out⟩
    · have HE : Hid (wrap64 (Y.id + 1) ≤ 1073741824) := by show _ ≤ _; omega
      go_wp2_with fail
      go_end0
      rw [HVE.out, show endV Y = { Y with id := wrap64 (Y.id + 1) } from if_neg (fun h => by have := HE.out; have := h.1; omega)]
      exact ⟨rfl, on', pv', F6.out⟩
end
end Go.Proofs.Yteigjlkgbpgkjaa
