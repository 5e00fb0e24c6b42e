/- The document's Hear. -/
import Derived.Test.YteigjlkgbpgkjaaR14
import Derived.Test.YteigjlkgbpgkjaaR15
import Derived.Test.YteigjlkgbpgkjaaR16
import Derived.Test.YteigjlkgbpgkjaaR17
namespace Go.Proofs.Yteigjlkgbpgkjaa
open Go.RowKit Go.Uc

/-- What the document's Hear does. -/
def hearVD (j : Job) (x : St) (who : Int) (p : Rp) : St := if x.how = 0 ∧ who = whoK x.at_ ∧ p.ses = j.ses ∧ p.id = x.id ∧ p.err ≠ 4 ∧ p.err ≠ 5 ∧ p.err ≠ 251 then endV (hearD x p) else x
section
variable {q : Nat} {j : Job} {x : St} {pv : Value}
theorem rcounts_any (w0 : World) (p : Rp) (Al : Option Addr) (cl : Nat) (Ad : Option Addr) (cd : Nat) (w : World) (hB : Blk w q 64 (docC j x pv)) (hpv : PcA w0 pv x.piece) (hk : x.at_ < 6) (hL : AtS w Al p.list) (hpdat : At w0 Ad p.data) (hn : p.list.length ≤ 140737488355328) (hnd : p.data.length ≤ 140737488355328) :
    Calls Try.prog 16 #[.pointer (some ⟨q, 0, none⟩), .agg #[.int .i64 p.ses, .int .i64 p.id, .int .i64 p.err, .int .i64 p.num, .string p.text, (.slice Al p.list.length cl), (.slice Ad p.data.length cd)]] w fun en w' => en = .returned (.tuple #[]) ∧ ∃ pv', Blk w' q 64 (docC j (hearD x p) pv') ∧ PcA w0 pv' (hearD x p).piece ∧ Keeps (Only q) w w' := by
  match hx : x.at_, hk with
  | 0, _ => exact rcounts_0 w0 p Al cl Ad cd w hB hpv hx hL hpdat hn hnd
  | 1, _ => exact rcounts_1 w0 p Al cl Ad cd w hB hpv hx hL hpdat hn hnd
  | 2, _ => exact rcounts_2 w0 p Al cl Ad cd w hB hpv hx hL hpdat hn hnd
  | 3, _ => exact rcounts_3 w0 p Al cl Ad cd w hB hpv hx hL hpdat hn hnd
  | 4, _ => exact rcounts_4 w0 p Al cl Ad cd w hB hpv hx hL hpdat hn hnd
  | 5, _ => exact rcounts_5 w0 p Al cl Ad cd w hB hpv hx hL hpdat hn hnd
/-- What it leaves. -/
def HearT (w0 : World) (q : Nat) (j : Job) (x' : St) (w : World) (en : Ending) (w' : World) : Prop :=
  en = .returned (.tuple #[]) ∧ DocR w0 w' q j x' ∧ Keeps (Only q) w w'
set_option maxRecDepth 100000 in
set_option maxHeartbeats 8000000 in
theorem rhear_off (w0 : World) (who : Int) (p : Rp) (Al : Option Addr) (cl : Nat) (Ad : Option Addr) (cd : Nat) (w : World) (hB : Blk w q 64 (docC j x pv)) (hpv : PcA w0 pv x.piece) (h0 : x.how ≠ 0) :
    Calls Try.prog 10 #[.pointer (some ⟨q, 0, none⟩), .int .i64 who, .agg #[.int .i64 p.ses, .int .i64 p.id, .int .i64 p.err, .int .i64 p.num, .string p.text, (.slice Al p.list.length cl), (.slice Ad p.data.length cd)]] w (HearT w0 q j (hearVD j x who p) w) := by
  unfold HearT
  rw [show hearVD j x who p = x from if_neg (fun hh => h0 hh.1)]
  obtain ⟨w1, hw1⟩ : ∃ w1, w1 = w.alloc (.cells #[.int .i64 p.ses, .int .i64 p.id, .int .i64 p.err, .int .i64 p.num, .string p.text, (.slice Al p.list.length cl), (.slice Ad p.data.length cd)] 37) := ⟨_, rfl⟩
  obtain ⟨b, hb⟩ : ∃ b, b = w.heap.size := ⟨_, rfl⟩
  have hk1 : Keeps Non w w1 := by rw [hw1]; exact (Keeps.refl _ _).alloc _
  have h1 := hB.non hk1
  have hnx := rnext_off w1 h1 h0
  unfold rqC Rq.none at hnx
  have HNX := Lib.hid hnx
  have H1 := Lib.hid (And.intro h1 hpv)
  have HK1 := Lib.hid hk1
  clear hB hpv h1 hnx hk1 h0
  go_enter Try.func10, Try.ntmps10
  go_upto_region 1 with fail
  rw [← hw1, ← hb]
  clear hw1 hb
  go_upto_region 2 with (go_at_call 8; go_must (refine HNX.out.mono ?_); rintro en w2 ⟨rfl, hK2⟩)
  have hka : Keeps Non w2 (w2.alloc (.cells #[.int .i64 0, .int .i64 0, .int .i64 0, .string { data := #[] }, .string { data := #[] }, .string { data := #[] }, .string { data := #[] }, .int .i64 0, .int .i64 0, .slice none 0 0] 41)) := (Keeps.refl _ _).alloc _
  have FN := Lib.hid (And.intro ((H1.out.1.non hK2).non hka) (((HK1.out.trans hK2).trans hka).of_non (S := Only q)))
  clear hka hK2
  go_wp2_with fail
  first | go_end0 | refine bodyPost_ret (results_none rfl _ _ _) rfl ?_
  exact ⟨rfl, ⟨pv, FN.out.1, H1.out.2⟩, FN.out.2⟩
set_option maxRecDepth 100000 in
set_option maxHeartbeats 8000000 in
theorem rhear_on (w0 : World) (who : Int) (p : Rp) (Al : Option Addr) (cl : Nat) (Ad : Option Addr) (cd : Nat) (w : World) (hB : Blk w q 64 (docC j x pv)) (hpv : PcA w0 pv x.piece) (h0 : x.how = 0) (hk : x.at_ < 6) (hrd : ∀ W, Keeps (Only q) w W → AtS W Al p.list) (hpdat : At w0 Ad p.data) (hn : p.list.length ≤ 140737488355328) (hnd : p.data.length ≤ 140737488355328) :
    Calls Try.prog 10 #[.pointer (some ⟨q, 0, none⟩), .int .i64 who, .agg #[.int .i64 p.ses, .int .i64 p.id, .int .i64 p.err, .int .i64 p.num, .string p.text, (.slice Al p.list.length cl), (.slice Ad p.data.length cd)]] w (HearT w0 q j (hearVD j x who p) w) := by
  unfold HearT
  obtain ⟨y, hy⟩ : ∃ y, y = hearVD j x who p := ⟨_, rfl⟩
  rw [← hy]
  have HY := Lib.hid hy
  obtain ⟨w1, hw1⟩ : ∃ w1, w1 = w.alloc (.cells #[.int .i64 p.ses, .int .i64 p.id, .int .i64 p.err, .int .i64 p.num, .string p.text, (.slice Al p.list.length cl), (.slice Ad p.data.length cd)] 37) := ⟨_, rfl⟩
  obtain ⟨b, hb⟩ : ∃ b, b = w.heap.size := ⟨_, rfl⟩
  have hk1 : Keeps Non w w1 := by rw [hw1]; exact (Keeps.refl _ _).alloc _
  have hX1 : Blk w1 b 37 #[.int .i64 p.ses, .int .i64 p.id, .int .i64 p.err, .int .i64 p.num, .string p.text, (.slice Al p.list.length cl), (.slice Ad p.data.length cd)] := by rw [hw1, hb]; exact Blk.new _ _ _
  have hB1 := hB.non hk1
  have hbq : b ≠ q := hX1.ne hB1 (by decide)
  have hnx := rnext_on w0 w1 hB1 hpv hk h0
  obtain ⟨vw, hvw⟩ : ∃ v, v = whoK x.at_ := ⟨_, rfl⟩
  rw [← hvw] at hnx
  obtain ⟨R, hR⟩ : ∃ R, R = nextV j x := ⟨_, rfl⟩
  rw [← hR] at hnx
  have HRR : Hid (R.ses = j.ses ∧ R.id = x.id) := by
    show _ ∧ _
    rw [hR]
    unfold nextV
    rw [if_pos h0]
    exact ⟨rfl, rfl⟩
  unfold rqC at hnx
  have HNX := Lib.hid hnx
  have HVW := Lib.hid hvw
  have H0 := Lib.hid h0
  have HK := Lib.hid hk
  have HPV := Lib.hid hpv
  have HL := Lib.hid hrd
  have HPD := Lib.hid hpdat
  have HK1 := Lib.hid hk1
  have HX := Lib.hid hX1
  have hz1 := hk1.size
  have HB1 := Lib.hid hB1
  clear hB hnx hvw hR hk1 h0 hk hpv hrd hpdat hX1 hB1 hy
  go_enter Try.func10, Try.ntmps10
  go_upto_region 1 with fail
  rw [← hw1, ← hb]
  clear hw1 hb
  go_upto_region 2 with (go_at_call 8; go_must (refine HNX.out.mono ?_); rintro en w2 ⟨dv, rfl, hOd, hK2⟩; obtain ⟨Av, cv, rfl, -⟩ := id hOd)
  obtain ⟨q6, hq6⟩ : ∃ q, q = w2.heap.size := ⟨_, rfl⟩
  obtain ⟨w3, hw3⟩ : ∃ W, W = w2.alloc (.cells #[.int .i64 R.ses, .int .i64 R.id, .int .i64 R.verb, .string R.name, .string R.item, .string R.other, .string R.path, .int .i64 R.at_, .int .i64 R.many, .slice Av R.data.length cv] 41) := ⟨_, rfl⟩
  have hk3 : Keeps Non w2 w3 := by rw [hw3]; exact (Keeps.refl _ _).alloc _
  have hQ3 : Blk w3 q6 41 #[.int .i64 R.ses, .int .i64 R.id, .int .i64 R.verb, .string R.name, .string R.item, .string R.other, .string R.path, .int .i64 R.at_, .int .i64 R.many, .slice Av R.data.length cv] := by rw [hw3, hq6]; exact Blk.new _ _ _
  have hX3 := (HX.out.non hK2).non hk3
  have h3 := (HB1.out.non hK2).non hk3
  have hkw3 : Keeps (Only q) w w3 := ((HK1.out.trans hK2).trans hk3).of_non
  have r0 : w3.cell? ⟨q6, 0, none⟩ = some (.int .i64 j.ses) := by rw [← HRR.out.1]; exact hQ3.cell 0
  have r1 : w3.cell? ⟨q6, 1, none⟩ = some (.int .i64 x.id) := by rw [← HRR.out.2]; exact hQ3.cell 1
  have b0 : w3.cell? ⟨b, 0, none⟩ = some (.int .i64 p.ses) := hX3.cell 0
  have b1 : w3.cell? ⟨b, 1, none⟩ = some (.int .i64 p.id) := hX3.cell 1
  have b2 : w3.cell? ⟨b, 2, none⟩ = some (.int .i64 p.err) := hX3.cell 2
  have b3 : w3.cell? ⟨b, 3, none⟩ = some (.int .i64 p.num) := hX3.cell 3
  have b4 : w3.cell? ⟨b, 4, none⟩ = some (.string p.text) := hX3.cell 4
  have b5 : w3.cell? ⟨b, 5, none⟩ = some (.slice Al p.list.length cl) := hX3.cell 5
  have b6 : w3.cell? ⟨b, 6, none⟩ = some (.slice Ad p.data.length cd) := hX3.cell 6
  have FN := Lib.hid (And.intro h3 hkw3)
  rw [← hw3, ← hq6]
  clear hw3 hq6 hQ3 hX3 h3 hkw3 hk3 hK2 hOd HNX
  by_cases hc0 : who = whoK x.at_
  case' neg =>
    have hb0 : (who != vw) = true := by rw [bne_iff_ne, HVW.out]; exact hc0
    have hb0' : (who == vw) = false := by rw [beq_eq_false_iff_ne, HVW.out]; exact hc0
    have HC0 := Lib.hid hc0
    clear hc0
    go_wp2_with fail
    first | go_end0 | refine bodyPost_ret (results_none rfl _ _ _) rfl ?_
    rw [HY.out, show hearVD j x who p = x from if_neg (fun h => HC0.out h.2.1)]
    exact ⟨rfl, ⟨_, FN.out.1, HPV.out⟩, FN.out.2⟩
  have hb0 : (who != vw) = false := by rw [hc0, ← HVW.out]; simp
  have hb0' : (who == vw) = true := by rw [hc0, ← HVW.out]; simp
  have HC0 := Lib.hid hc0
  clear hc0
  by_cases hc1 : p.ses = j.ses
  case' neg =>
    have hb1 : (p.ses != j.ses) = true := by rw [bne_iff_ne]; exact hc1
    have hb1' : (p.ses == j.ses) = false := by rw [beq_eq_false_iff_ne]; exact hc1
    have HC1 := Lib.hid hc1
    clear hc1
    go_wp2_with fail
    first | go_end0 | refine bodyPost_ret (results_none rfl _ _ _) rfl ?_
    rw [HY.out, show hearVD j x who p = x from if_neg (fun h => HC1.out h.2.2.1)]
    exact ⟨rfl, ⟨_, FN.out.1, HPV.out⟩, FN.out.2⟩
  have hb1 : (p.ses != j.ses) = false := by rw [hc1]; simp
  have hb1' : (p.ses == j.ses) = true := by rw [hc1]; simp
  have HC1 := Lib.hid hc1
  clear hc1
  by_cases hc2 : p.id = x.id
  case' neg =>
    have hb2 : (p.id != x.id) = true := by rw [bne_iff_ne]; exact hc2
    have hb2' : (p.id == x.id) = false := by rw [beq_eq_false_iff_ne]; exact hc2
    have HC2 := Lib.hid hc2
    clear hc2
    go_wp2_with fail
    first | go_end0 | refine bodyPost_ret (results_none rfl _ _ _) rfl ?_
    rw [HY.out, show hearVD j x who p = x from if_neg (fun h => HC2.out h.2.2.2.1)]
    exact ⟨rfl, ⟨_, FN.out.1, HPV.out⟩, FN.out.2⟩
  have hb2 : (p.id != x.id) = false := by rw [hc2]; simp
  have hb2' : (p.id == x.id) = true := by rw [hc2]; simp
  have HC2 := Lib.hid hc2
  clear hc2
  by_cases hc3 : p.err = 4
  case' pos =>
    have hb3 : (p.err == 4) = true := by rw [hc3]; rfl
    have HC3 := Lib.hid hc3
    clear hc3
    go_wp2_with fail
    first | go_end0 | refine bodyPost_ret (results_none rfl _ _ _) rfl ?_
    rw [HY.out, show hearVD j x who p = x from if_neg (fun h => h.2.2.2.2.1 HC3.out)]
    exact ⟨rfl, ⟨_, FN.out.1, HPV.out⟩, FN.out.2⟩
  have hb3 : (p.err == 4) = false := by rw [beq_eq_false_iff_ne]; exact hc3
  have HC3 := Lib.hid hc3
  clear hc3
  by_cases hc4 : p.err = 5
  case' pos =>
    have hb4 : (p.err == 5) = true := by rw [hc4]; rfl
    have HC4 := Lib.hid hc4
    clear hc4
    go_wp2_with fail
    first | go_end0 | refine bodyPost_ret (results_none rfl _ _ _) rfl ?_
    rw [HY.out, show hearVD j x who p = x from if_neg (fun h => h.2.2.2.2.2.1 HC4.out)]
    exact ⟨rfl, ⟨_, FN.out.1, HPV.out⟩, FN.out.2⟩
  have hb4 : (p.err == 5) = false := by rw [beq_eq_false_iff_ne]; exact hc4
  have HC4 := Lib.hid hc4
  clear hc4
  by_cases hc5 : p.err = 251
  case' pos =>
    have hb5 : (p.err == 251) = true := by rw [hc5]; rfl
    have HC5 := Lib.hid hc5
    clear hc5
    go_wp2_with fail
    first | go_end0 | refine bodyPost_ret (results_none rfl _ _ _) rfl ?_
    rw [HY.out, show hearVD j x who p = x from if_neg (fun h => h.2.2.2.2.2.2 HC5.out)]
    exact ⟨rfl, ⟨_, FN.out.1, HPV.out⟩, FN.out.2⟩
  have hb5 : (p.err == 251) = false := by rw [beq_eq_false_iff_ne]; exact hc5
  have HC5 := Lib.hid hc5
  clear hc5
  obtain ⟨Y, hY⟩ : ∃ Y, Y = hearD x p := ⟨_, rfl⟩
  have hhe := rcounts_any w0 p Al cl Ad cd w3 FN.out.1 HPV.out HK.out (HL.out w3 FN.out.2) HPD.out hn hnd
  rw [← hY] at hhe
  have HHE := Lib.hid hhe
  have HYY := Lib.hid hY
  clear hhe hY
  go_upto_region 5 with (go_at_call 16; go_must (refine HHE.out.mono ?_); rintro en w4 ⟨rfl, pv4, h4, hp4, hK4⟩)
  have hkw4 := FN.out.2.trans hK4
  have c9 : w4.cell? ⟨q, 9, none⟩ = some (.int .i64 Y.id) := h4.cell 9
  have f9 := h4.frozen 9
  have c13 : w4.cell? ⟨q, 13, none⟩ = some (.int .i64 Y.how) := h4.cell 13
  have hkk : Keeps (Only q) w4 (w4.setCell ⟨q, 9, none⟩ (.int .i64 (wrap64 (Y.id + 1)))) := (Keeps.refl (Only q) w4).set (p := ⟨q, 9, none⟩) rfl _
  have h6 : Blk (w4.setCell ⟨q, 9, none⟩ (.int .i64 (wrap64 (Y.id + 1)))) q 64 (docC j { Y with id := wrap64 (Y.id + 1) } pv4) := h4.set 9 (.int .i64 (wrap64 (Y.id + 1)))
  have HFA := Lib.hid (rfails_any 260 _ h6)
  have F6 := Lib.hid (And.intro h6 (hkw4.trans hkk))
  have HP4 := Lib.hid hp4
  have HVE : Hid (y = endV Y) := by
    show _ = _
    rw [HY.out, HYY.out]
    exact if_pos ⟨H0.out, HC0.out, HC1.out, HC2.out, HC3.out, HC4.out, HC5.out⟩
  clear h4 hK4 hkw4 hkk h6 hp4 HHE b0 b1 b2 b3 b4 b5 b6 r0 r1
  by_cases hbig : 1073741824 < wrap64 (Y.id + 1)
  · by_cases hh0 : Y.how = 0
    · have hhb : (Y.how == 0) = true := by rw [hh0]; rfl
      have HE := Lib.hid (And.intro hbig hh0)
      clear hh0
      go_wp2_with (go_at_call 17; go_must (refine HFA.out.mono ?_); rintro en w7 ⟨rfl, h7, hK7⟩)
      go_end0
      rw [HVE.out, show endV Y = failV { Y with id := wrap64 (Y.id + 1) } 260 from if_pos HE.out]
      exact ⟨rfl, ⟨pv4, h7, HP4.out⟩, F6.out.2.trans hK7⟩
    · have hhb : (Y.how == 0) = false := by rw [beq_eq_false_iff_ne]; exact hh0
      have HE := Lib.hid hh0
      clear hh0
      go_wp2_with fail
      go_end0
      rw [HVE.out, show endV Y = { Y with id := wrap64 (Y.id + 1) } from if_neg (fun h => HE.out h.2)]
      exact ⟨rfl, ⟨pv4, F6.out.1, HP4.out⟩, F6.out.2⟩
  · have HE : Hid (wrap64 (Y.id + 1) ≤ 1073741824) := by show _ ≤ _; omega
    go_wp2_with fail
    go_end0
    rw [HVE.out, show endV Y = { Y with id := wrap64 (Y.id + 1) } from if_neg (fun h => by have := HE.out; have := h.1; omega)]
    exact ⟨rfl, ⟨pv4, F6.out.1, HP4.out⟩, F6.out.2⟩
end
end Go.Proofs.Yteigjlkgbpgkjaa
