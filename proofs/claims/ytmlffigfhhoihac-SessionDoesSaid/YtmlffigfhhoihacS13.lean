/- Two tables at once; the walk of SessionApart. -/
import Derived.Test.YtmlffigfhhoihacS11
import Derived.Deep.Cut
import Derived.Deep.CutRange
namespace Go.Proofs.Ytmlffigfhhoihac
open Go.RowKit Go.Uc

theorem RdR.zero (w : World) : RdR w (.slice none 0 0) (.slice none 0 0) Rp.none := RdR.empty w Rp.none rfl rfl
/-- What Look tells, by its arguments and the session's own reply. -/
def lookP (K : Nat → Rp) (s i : Int) : Rp := if isB s i = true ∧ i = (K s.toNat).id then K s.toNat else Rp.none
def lookB (K : Nat → Rp) (s i : Int) : Bool := decide (isB s i = true ∧ i = (K s.toNat).id)
def lookC (K : Nat → Rp) (s i : Int) : Int := if isB s i = false then 240 else if i < (K s.toNat).id then 241 else 0
theorem look_alone {K1 K2 : Nat → Rp} {s i : Int} (h : K1 s.toNat = K2 s.toNat) : lookP K1 s i = lookP K2 s i ∧ lookB K1 s i = lookB K2 s i ∧ lookC K1 s i = lookC K2 s i := by
  unfold lookP lookB lookC
  rw [h]
  exact ⟨rfl, rfl, rfl⟩
theorem LookV.det {w w' : World} {K : Nat → Rp} {s i a r a' r' : Int} {v1 v2 v3 : Value} (h : LookV w w' K s i a r v1 v2 v3 a' r') (hf : ∀ i, RpB (K i)) :
    ∃ (l d : Value), v1 = .agg #[.int .i64 (lookP K s i).ses, .int .i64 (lookP K s i).id, .int .i64 (lookP K s i).err, .int .i64 (lookP K s i).num, .string (lookP K s i).text, l, d] ∧ v2 = .bool (lookB K s i) ∧ v3 = .int .i64 (lookC K s i) ∧ RpO w' w.heap.size l d (lookP K s i) ∧ RpB (lookP K s i) := by
  have hz : RpB Rp.none := by simp [RpB, Rp.none]
  cases h with
  | bad hs =>
    have e1 : lookP K s i = Rp.none := by unfold lookP; rw [if_neg (by rw [hs]; simp)]
    have e2 : lookB K s i = false := by unfold lookB; rw [hs]; simp
    have e3 : lookC K s i = 240 := by unfold lookC; rw [if_pos hs]
    rw [e1, e2, e3]
    exact ⟨_, _, rfl, rfl, rfl, ⟨OwnS.nil _ _, OwnB.nil _ _ _⟩, hz⟩
  | stale hs hl =>
    have e1 : lookP K s i = Rp.none := by unfold lookP; rw [if_neg (by omega)]
    have e2 : lookB K s i = false := by unfold lookB; rw [decide_eq_false_iff_not]; omega
    have e3 : lookC K s i = 241 := by unfold lookC; rw [if_neg (by rw [hs]; simp), if_pos hl]
    rw [e1, e2, e3]
    exact ⟨_, _, rfl, rfl, rfl, ⟨OwnS.nil _ _, OwnB.nil _ _ _⟩, hz⟩
  | same l d hs hl ho =>
    have e1 : lookP K s i = K s.toNat := by unfold lookP; rw [if_pos ⟨hs, hl⟩]
    have e2 : lookB K s i = true := by unfold lookB; rw [decide_eq_true_eq]; exact ⟨hs, hl⟩
    have e3 : lookC K s i = 0 := by unfold lookC; rw [if_neg (by rw [hs]; simp), if_neg (by omega)]
    rw [e1, e2, e3]
    exact ⟨l, d, rfl, rfl, rfl, ho, hf _⟩
  | new hs hl =>
    have e1 : lookP K s i = Rp.none := by unfold lookP; rw [if_neg (by omega)]
    have e2 : lookB K s i = false := by unfold lookB; rw [decide_eq_false_iff_not]; omega
    have e3 : lookC K s i = 0 := by unfold lookC; rw [if_neg (by rw [hs]; simp), if_neg (by omega)]
    rw [e1, e2, e3]
    exact ⟨_, _, rfl, rfl, rfl, ⟨OwnS.nil _ _, OwnB.nil _ _ _⟩, hz⟩
theorem keep_two {K1 K2 K1' K2' : Nat → Rp} {p : Rp} {f r f' r' f2 r2 f2' r2' c c' : Int} (h : KeepV K1 p f r c K1' f' r') (h' : KeepV K2 p f2 r2 c' K2' f2' r2') (hK : K1 p.ses.toNat = K2 p.ses.toNat) : c = c' ∧ K1' p.ses.toNat = K2' p.ses.toNat := by
  cases hs : isB p.ses p.id with
  | false =>
    obtain ⟨rfl, rfl, -⟩ := h.isBad hs
    obtain ⟨rfl, rfl, -⟩ := h'.isBad hs
    exact ⟨rfl, hK⟩
  | true =>
    by_cases hl : (K1 p.ses.toNat).id < p.id
    · obtain ⟨rfl, rfl, -⟩ := h.isOk hs hl
      obtain ⟨rfl, rfl, -⟩ := h'.isOk hs (by rw [← hK]; exact hl)
      exact ⟨rfl, by rw [upd_same, upd_same]⟩
    · obtain ⟨rfl, rfl, -⟩ := h.isStale hs (by omega)
      obtain ⟨rfl, rfl, -⟩ := h'.isStale hs (by rw [← hK]; omega)
      exact ⟨rfl, hK⟩
theorem KeepV.far {K K' : Nat → Rp} {p : Rp} {f r f' r' c : Int} {sn : Nat} (h : KeepV K p f r c K' f' r') (hne : p.ses ≠ sn) : K' sn = K sn := by
  cases h with
  | bad _ => rfl
  | stale _ _ => rfl
  | ok h _ => have := isB_of h; exact upd_other _ (by omega) _
/-- A table stands while another one turns. -/
theorem Tab.other {w w' : World} {B g1 g2 : Nat} {ok1 ok2 : Option Nat} {A1 A2 : Nat → Prop} {K1 K2 : Nat → Rp} {f a r f2 a2 r2 : Int} (h2 : Tab w B A2 g2 ok2 K2 f2 a2 r2) (h1 : Tab w B A1 g1 ok1 K1 f a r) (hk : Keeps (fun k => k = g1 ∨ ok1 = some k) w w') (hg : g1 ≠ g2) (hd : ∀ k, ok1 = some k → ok2 ≠ some k) :
    Tab w' B A2 g2 ok2 K2 f2 a2 r2 := by
  have hty : ∀ k, (k = g1 ∨ ok1 = some k) → (k = g1 ∧ ∃ cs, Blk w k 71 cs) ∨ (ok1 = some k ∧ ∃ cs, Blk w k 31 cs) := fun k hk => by
    rcases hk with rfl | hk
    · obtain ⟨d, kept, hb, -⟩ := h1.blk
      exact .inl ⟨rfl, _, hb⟩
    · rcases h1 with ⟨e, -⟩ | ⟨gk, e, h⟩
      · rw [e] at hk; cases hk
      · obtain ⟨cur, hc, -⟩ := h.row
        have e2 := e
        rw [hk] at e
        injection e with e
        subst e
        exact .inr ⟨hk, cur, hc⟩
  have ng : ¬ (g2 = g1 ∨ ok1 = some g2) := fun h => by
    rcases hty g2 h with ⟨e, -⟩ | ⟨-, cs, hc⟩
    · exact hg e.symm
    · obtain ⟨d, kept, hb, -⟩ := h2.blk
      exact hc.ne hb (by decide) rfl
  rcases h2 with ⟨e1, e2, e3, e4⟩ | ⟨gk, e1, e2⟩
  · exact .inl ⟨e1, e2, e3.keep hk ng, e4⟩
  · refine .inr ⟨gk, e1, e2.keep hk ng (fun h => ?_) fun k _ h => .inr ?_⟩
    · rcases hty gk h with ⟨-, cs, hc⟩ | ⟨e, -⟩
      · obtain ⟨cur, hc', -⟩ := e2.row
        exact hc.ne hc' (by decide) rfl
      · exact hd gk e e1
    · rcases hty k h with ⟨-, cs, hc⟩ | ⟨-, cs, hc⟩
      · exact ⟨71, cs, hc, by decide, by decide⟩
      · exact ⟨31, cs, hc, by decide, by decide⟩
theorem Ext.dis {w : World} {ok1 ok1' ok2 : Option Nat} (h : Ext w ok1 ok1') (hl : ∀ gk, ok2 = Option.some gk → gk < w.heap.size) (hd : ∀ k, ok1 = Option.some k → ok2 ≠ Option.some k) : ∀ k, ok1' = Option.some k → ok2 ≠ Option.some k := by
  intro k hk h2
  rcases h with e | ⟨e, gk', e2, e3⟩
  · exact hd k (by rw [← e]; exact hk) h2
  · rw [e2] at hk
    injection hk with hk
    have := hl k h2
    omega

set_option maxRecDepth 100000 in
set_option maxHeartbeats 8000000 in
theorem sessionApart_any (A : Option Addr) (c : Nat) (os : List Opn) (only : Int) (w : World) (hO : Opns w A os) (hn : os.length ≤ 140737488351232) (hon : I64 only) :
    Calls Try.prog 4 #[.slice A os.length c, .int .i64 only] w fun e w' => e = .returned (.bool true) ∧ Keeps Non w w' := by
  have HO := Lib.hid hO
  obtain ⟨B, hB⟩ : ∃ B, B = w.heap.size := ⟨_, rfl⟩
  have HB : Hid (B = w.heap.size) := hB
  obtain ⟨pn, hpn⟩ : ∃ pn : Nat, pk only 8 = pn := ⟨(pk only 8).toNat, by have := pk_bounds only 8 (by omega); omega⟩
  have hpn8 : pn < 8 := by have := pk_bounds only 8 (by omega); omega
  obtain ⟨sn, hsn⟩ : ∃ sn : Nat, sn = 1 + pn := ⟨_, rfl⟩
  have hsi : (1 : Int) + (pn : Int) = (sn : Int) := by omega
  have hs1 : 1 ≤ sn := by omega
  have hs8 : sn ≤ 8 := by omega
  have HPN := Lib.hid hpn
  have HSI := Lib.hid hsi
  clear hO hB hpn hsn hsi
  go_enter Try.func4, Try.ntmps4
  go_wp2_with fail
  refine (awake_any _).mono ?_
  rintro e w1 ⟨rfl, hK1⟩
  have HN := Lib.hid (new_any B (fun _ => True) w1 (by have := HB.out; have := hK1.size; omega))
  go_wp2_with fail
  refine HN.out.mono ?_
  rintro e w2 ⟨rfl, h2, hK2⟩
  have hk2 := hK1.trans hK2
  obtain ⟨g, hg⟩ : ∃ g, g = w1.heap.size := ⟨_, rfl⟩
  rw [← hg] at h2 ⊢
  clear hg HN hK1 hK2
  have HN := Lib.hid (new_any B (fun _ => True) w2 (by have := HB.out; have := hk2.size; omega))
  go_wp2_with fail
  refine HN.out.mono ?_
  rintro e w3 ⟨rfl, h3, hK3⟩
  have hk3 := hk2.trans hK3
  have h2' := h2.non hK3
  obtain ⟨q, hq⟩ : ∃ q, q = w2.heap.size := ⟨_, rfl⟩
  have hgq : g ≠ q := by
    obtain ⟨d, kept, hb, -⟩ := h2.blk
    have := hb.lt
    omega
  rw [← hq] at h3 ⊢
  clear hq HN hk2 hK3 h2
  go_wp2_with fail
  refine (pick_pk only 8 _ (by omega) (by omega) hon).mono ?_
  rw [HPN.out]
  rintro e w4 ⟨rfl, hw4⟩
  subst w4
  go_wp2_with fail
  rw [HSI.out]
  have hd0 : Hid (∀ k, (none : Option Nat) = some k → (none : Option Nat) ≠ some k) := fun k e => by cases e
  have hz3 := hk3.size
  go_loopw [9, 10, 11, 12, 13, 14, 15, 16, 17, 18, 19] (fun i _ _ _ _ _ _ _ _ _ _ wr => ∃ (k : Nat) (K1 K2 : Nat → Rp) (ok1 ok2 : Option Nat) (f1 a1 r1 f2 a2 r2 : Int), k ≤ os.length ∧ i = .int .i64 k ∧ Tab wr B (fun _ => True) g ok1 K1 f1 a1 r1 ∧ Tab wr B (fun _ => True) q ok2 K2 f2 a2 r2 ∧ Hid (∀ k, ok1 = some k → ok2 ≠ some k) ∧ Hid (K1 sn = K2 sn) ∧ Keeps Non w wr) (fun i _ _ _ _ _ _ _ _ _ _ _ => os.length - (intOf i).toNat)
  case atStart => exact ⟨0, _, _, none, none, 0, 0, 0, 0, 0, 0, Nat.zero_le _, rfl, h2', h3, hd0, rfl, hk3⟩
  case round =>
    clear h2' h3 hk3 hd0 w3 w2 w1 hz3
    obtain ⟨k, K1, K2, ok1, ok2, f1, a1, r1, f2, a2, r2, hk, rfl, hT, hU, HD, HKe, hK⟩ := hrel
    have hBw : B ≤ wr.heap.size := by have := HB.out; have := hK.size; omega
    by_cases hlt : k < os.length
    · obtain ⟨b, off, l, d, AL, cL, rfl, q0, q1, q2, q3, q4, q5, q6, q7, q8, q9, hrd, hrb, i1, i2, i3, i4, -⟩ := HO.out k hlt
      obtain ⟨o, ho⟩ : ∃ o, o = os[k] := ⟨_, rfl⟩
      rw [← ho] at q0 q1 q2 q3 q4 q5 q6 q9 hrd hrb i1 i2 i3 i4
      clear ho
      obtain ⟨Al, cl, Ad, cd, rfl, rfl, -⟩ := id hrd
      have p0 := hK.cell q0 id
      have p1 := hK.cell q1 id
      have p2 := hK.cell q2 id
      have p3 := hK.cell q3 id
      have p4 := hK.cell q4 id
      have p5 := hK.cell q5 id
      have p6 := hK.cell q6 id
      have p7 := hK.cell q7 id
      have p8 := hK.cell q8 id
      have p9 := hK.cell q9 id
      clear q0 q1 q2 q3 q4 q5 q6 q7 q8 q9
      have HRD := Lib.hid hrd
      have HRB := Lib.hid hrb
      clear hrd hrb
      go_wp2_with fail
      obtain ⟨w5, hw5⟩ : ∃ w5, w5 = wr.alloc (.cells #[.int .i64 o.kind, .int .i64 o.which, .int .i64 o.r.ses, .int .i64 o.r.id, .int .i64 o.r.err, .int .i64 o.r.num, .string o.r.text, .slice Al o.r.list.length cl, .slice Ad o.r.data.length cd, .slice AL o.l.length cL] 33) := ⟨_, rfl⟩
      rw [← hw5]
      obtain ⟨gO, hgO⟩ : ∃ g, g = wr.heap.size := ⟨_, rfl⟩
      rw [← hgO]
      have hka : Keeps Non wr w5 := by rw [hw5]; exact (Keeps.refl _ _).alloc _
      have hB5 : Blk w5 gO 33 #[.int .i64 o.kind, .int .i64 o.which, .int .i64 o.r.ses, .int .i64 o.r.id, .int .i64 o.r.err, .int .i64 o.r.num, .string o.r.text, .slice Al o.r.list.length cl, .slice Ad o.r.data.length cd, .slice AL o.l.length cL] := by rw [hw5, hgO]; exact Blk.new _ _ _
      have hT5 := hT.non hka
      have hU5 := hU.non hka
      have hk5 := hK.trans hka
      have hz5 : B ≤ w5.heap.size := by have := hka.size; omega
      clear p0 p1 p2 p3 p4 p5 p6 p7 p8 p9 hT hU hK hw5 hgO hka hBw
      have k0 : w5.cell? ⟨gO, 0, none⟩ = some (.int .i64 o.kind) := hB5.cell 0
      obtain ⟨tn, htn⟩ : ∃ tn : Nat, pk o.kind 2 = tn := ⟨(pk o.kind 2).toNat, by have := pk_bounds o.kind 2 (by omega); omega⟩
      have htn2 : tn < 2 := by have := pk_bounds o.kind 2 (by omega); omega
      refine (pick_pk o.kind 2 _ (by omega) (by omega) i1).mono ?_
      rw [htn]
      rintro e w6 ⟨rfl, hw6⟩
      subst w6
      clear htn k0
      have k2 : w5.cell? ⟨gO, 2, none⟩ = some (.int .i64 o.r.ses) := hB5.cell 2
      have k3 : w5.cell? ⟨gO, 3, none⟩ = some (.int .i64 o.r.id) := hB5.cell 3
      have hne33 := hT5.ne hB5 (by decide) (by decide)
      have hnu33 := hU5.ne hB5 (by decide) (by decide)
      have hlow := hU5.low
      have hlk := hT5.lowk
      have hlu := hU5.lowk
      by_cases htz : tn = 0
      · subst htz
        have HLk := Lib.hid (look_any o.r.ses o.r.id w5 hT5 hz5)
        go_wp2_with fail
        refine HLk.out.mono ?_
        rintro e w6 ⟨v1, v2, v3, ok6, a6, r6, rfl, hv, h6, hE6, hK6⟩
        obtain ⟨l6, d6, rfl, rfl, rfl, hr6, hb6⟩ := hv.det hT5.fine
        obtain ⟨p, hp⟩ : ∃ p, p = lookP K1 o.r.ses o.r.id := ⟨_, rfl⟩
        obtain ⟨fb, hfb⟩ : ∃ fb, fb = lookB K1 o.r.ses o.r.id := ⟨_, rfl⟩
        obtain ⟨fc, hfc⟩ : ∃ fc, fc = lookC K1 o.r.ses o.r.id := ⟨_, rfl⟩
        rw [← hp] at hr6 hb6 ⊢
        rw [← hfb, ← hfc]
        have HLP := Lib.hid (And.intro hp (And.intro hfb hfc))
        clear hp hfb hfc
        obtain ⟨Bl, bl, Bd, bd, eq1, eq2, -⟩ := hr6.rd
        subst eq1 eq2
        have hU6 := hU5.other hT5 (hK6.mono fun k e => .inl e) hgq HD.out
        have HD6 : Hid (∀ k, ok6 = some k → ok2 ≠ some k) := hE6.dis hlow HD.out
        have hB6 := hB5.keep hK6 hne33.1
        have hk6 : Keeps Non w w6 := hk5.then hK6 fun i hi e => by unfold Only at e; have := HB.out; omega
        obtain ⟨x6, hx6⟩ : ∃ x, x = w6.alloc (.cells #[.int .i64 p.ses, .int .i64 p.id, .int .i64 p.err, .int .i64 p.num, .string p.text, (.slice Bl p.list.length bl), (.slice Bd p.data.length bd)] 31) := ⟨_, rfl⟩
        obtain ⟨gA, hgA⟩ : ∃ g, g = w6.heap.size := ⟨_, rfl⟩
        have hka6 : Keeps Non w6 x6 := by rw [hx6]; exact (Keeps.refl _ _).alloc _
        have hX6 : Blk x6 gA 31 #[.int .i64 p.ses, .int .i64 p.id, .int .i64 p.err, .int .i64 p.num, .string p.text, (.slice Bl p.list.length bl), (.slice Bd p.data.length bd)] := by rw [hx6, hgA]; exact Blk.new _ _ _
        have h6' := h6.non hka6
        have hU6' := hU6.non hka6
        have hB6' := hB6.non hka6
        have hk6' := hk6.trans hka6
        have hr6' := hr6.non hka6
        have hgAl : ∀ k, ok2 = some k → k ≠ gA := fun k e => by have := hU6.low k e; omega
        have k2' : x6.cell? ⟨gO, 2, none⟩ = some (.int .i64 o.r.ses) := hB6'.cell 2
        clear hK6 hE6 HLk hB5 hT5 hU5 hk5 k2 k3 h6 hU6 hB6 hk6 hr6 hka6 hv hne33
        go_upto_region 13 with fail
        rw [← hx6, ← hgA]
        clear hx6 hgA
        by_cases hse : o.r.ses = (sn : Int)
        · have hseb : (o.r.ses == (sn : Int)) = true := by rw [hse]; simp
          have k3' : x6.cell? ⟨gO, 3, none⟩ = some (.int .i64 o.r.id) := hB6'.cell 3
          have hz6 : B ≤ x6.heap.size := by have := HB.out; have := hk6'.size; omega
          have HLu := Lib.hid (look_any o.r.ses o.r.id x6 hU6' hz6)
          have HSE := Lib.hid hse
          clear hse
          go_wp2_with fail
          refine HLu.out.mono ?_
          rintro e w8 ⟨v1, v2, v3, ok8, a8, r8, rfl, hv, h8, hE8, hK8⟩
          obtain ⟨l8, d8, rfl, rfl, rfl, hr8, hb8⟩ := hv.det hU6'.fine
          have hcv : o.r.ses.toNat = sn := by rw [HSE.out]; simp
          have hal := look_alone (K1 := K1) (K2 := K2) (s := o.r.ses) (i := o.r.id) (by rw [hcv]; exact HKe.out)
          rw [← hal.1, ← hal.2.1, ← hal.2.2, ← HLP.out.1, ← HLP.out.2.1, ← HLP.out.2.2]
          rw [← hal.1, ← HLP.out.1] at hr8
          obtain ⟨Cl, ccl, Cd, ccd, eq1, eq2, -⟩ := hr8.rd
          subst eq1 eq2
          have hgAq : gA ≠ q := hU6'.box hX6
          have hT8 := h6'.other hU6' (hK8.mono fun k e => .inl e) hgq.symm (fun k e e' => HD6.out k e' e)
          have HD8 : Hid (∀ k, ok6 = some k → ok8 ≠ some k) := fun k e e' => (hE8.dis (ok2 := ok6) h6'.low (fun k e e' => HD6.out k e' e)) k e' e
          have hX8 := hX6.keep hK8 hgAq
          have hk8 : Keeps Non w w8 := hk6'.then hK8 fun i hi e => by unfold Only at e; have := HB.out; omega
          have hrA8 : RpO w8 w5.heap.size (.slice Bl p.list.length bl) (.slice Bd p.data.length bd) p := by
            obtain ⟨dq, keptq, hbq, -⟩ := hU6'.blk
            exact ⟨hr6'.1.keep hK8 (Blk.apart hbq hr6'.1 (by decide)), hr6'.2.keep hK8 (Blk.apart hbq hr6'.2 (by decide))⟩
          obtain ⟨x8, hx8⟩ : ∃ x, x = w8.alloc (.cells #[.int .i64 p.ses, .int .i64 p.id, .int .i64 p.err, .int .i64 p.num, .string p.text, (.slice Cl p.list.length ccl), (.slice Cd p.data.length ccd)] 31) := ⟨_, rfl⟩
          obtain ⟨gB, hgB⟩ : ∃ g, g = w8.heap.size := ⟨_, rfl⟩
          have hka8 : Keeps Non w8 x8 := by rw [hx8]; exact (Keeps.refl _ _).alloc _
          have hY8 : Blk x8 gB 31 #[.int .i64 p.ses, .int .i64 p.id, .int .i64 p.err, .int .i64 p.num, .string p.text, (.slice Cl p.list.length ccl), (.slice Cd p.data.length ccd)] := by rw [hx8, hgB]; exact Blk.new _ _ _
          have hX8' := hX8.non hka8
          have hT8' := hT8.non hka8
          have h8' := h8.non hka8
          have hk8' := hk8.trans hka8
          have HSm := Lib.hid (same_any p _ _ _ _ x8 (hrA8.non hka8).rd (hr8.non hka8).rd hb6)
          have y0 : x8.cell? ⟨gA, 0, none⟩ = some (.int .i64 p.ses) := hX8'.cell 0
          have y1 : x8.cell? ⟨gA, 1, none⟩ = some (.int .i64 p.id) := hX8'.cell 1
          have y2 : x8.cell? ⟨gA, 2, none⟩ = some (.int .i64 p.err) := hX8'.cell 2
          have y3 : x8.cell? ⟨gA, 3, none⟩ = some (.int .i64 p.num) := hX8'.cell 3
          have y4 : x8.cell? ⟨gA, 4, none⟩ = some (.string p.text) := hX8'.cell 4
          have y5 : x8.cell? ⟨gA, 5, none⟩ = some (.slice Bl p.list.length bl) := hX8'.cell 5
          have y6 : x8.cell? ⟨gA, 6, none⟩ = some (.slice Bd p.data.length bd) := hX8'.cell 6
          have z0 : x8.cell? ⟨gB, 0, none⟩ = some (.int .i64 p.ses) := hY8.cell 0
          have z1 : x8.cell? ⟨gB, 1, none⟩ = some (.int .i64 p.id) := hY8.cell 1
          have z2 : x8.cell? ⟨gB, 2, none⟩ = some (.int .i64 p.err) := hY8.cell 2
          have z3 : x8.cell? ⟨gB, 3, none⟩ = some (.int .i64 p.num) := hY8.cell 3
          have z4 : x8.cell? ⟨gB, 4, none⟩ = some (.string p.text) := hY8.cell 4
          have z5 : x8.cell? ⟨gB, 5, none⟩ = some (.slice Cl p.list.length ccl) := hY8.cell 5
          have z6 : x8.cell? ⟨gB, 6, none⟩ = some (.slice Cd p.data.length ccd) := hY8.cell 6
          clear hK8 hE8 HLu hU6' h6' hB6' hk6' hr6' hX6 hX8 hT8 h8 hk8 hrA8 hr8 hka8 hY8 hX8' hv hal hcv k2' k3'
          go_upto_region 15 with fail
          rw [← hx8, ← hgB]
          clear hx8 hgB
          go_wp2_with fail
          refine HSm.out.mono ?_
          rintro e w9 ⟨rfl, hK9⟩
          have HFIN := Lib.hid (And.intro (hT8'.non hK9) (And.intro (h8'.non hK9) (hk8'.trans hK9)))
          clear hT8' h8' hk8' hK9 HSm y0 y1 y2 y3 y4 y5 y6 z0 z1 z2 z3 z4 z5 z6
          go_wp2_with fail
          go_roundw
          case rel => exact ⟨k + 1, K1, K2, ok6, ok8, f1, a6, r6, f2, a8, r8, by omega, by go_num, HFIN.out.1, HFIN.out.2.1, HD8, HKe, HFIN.out.2.2⟩
          case measure => simp [intOf]; omega
        · have hseb : (o.r.ses == (sn : Int)) = false := by rw [beq_eq_false_iff_ne]; exact hse
          have HFIN := Lib.hid (And.intro h6' (And.intro hU6' hk6'))
          clear h6' hU6' hk6' hse
          go_wp2_with fail
          go_roundw
          case rel => exact ⟨k + 1, K1, K2, ok6, ok2, f1, a6, r6, f2, a2, r2, by omega, by go_num, HFIN.out.1, HFIN.out.2.1, HD6, HKe, HFIN.out.2.2⟩
          case measure => simp [intOf]; omega
      · have htz1 : tn = 1 := by omega
        subst htz1
        have k4 : w5.cell? ⟨gO, 4, none⟩ = some (.int .i64 o.r.err) := hB5.cell 4
        have k5 : w5.cell? ⟨gO, 5, none⟩ = some (.int .i64 o.r.num) := hB5.cell 5
        have k6 : w5.cell? ⟨gO, 6, none⟩ = some (.string o.r.text) := hB5.cell 6
        have k7 : w5.cell? ⟨gO, 7, none⟩ = some (.slice Al o.r.list.length cl) := hB5.cell 7
        have k8 : w5.cell? ⟨gO, 8, none⟩ = some (.slice Ad o.r.data.length cd) := hB5.cell 8
        have HKp := Lib.hid (keep_any o.r _ _ w5 hT5 hz5 (fun w' hk => HRD.out.non (hk5.then hk fun i hi e => by unfold Only at e; have := HB.out; omega)) HRB.out)
        go_wp2_with fail
        refine HKp.out.mono ?_
        rintro e w6 ⟨c6, K6, ok6, f6, r6, rfl, hv, h6m, hE6, hK6⟩
        have h6 : Tab w6 B (fun _ => True) g ok6 K6 f6 a1 r6 := h6m.mono fun _ _ => trivial
        have hU6 := hU5.other hT5 hK6 hgq HD.out
        have HD6 : Hid (∀ k, ok6 = some k → ok2 ≠ some k) := hE6.dis hlow HD.out
        have hk6 : Keeps Non w w6 := hk5.then hK6 fun i hi e => by
          have hb := HB.out
          rcases e with e | e
          · omega
          · exact absurd (hlk.2 i e) (by omega)
        have hB6 := hB5.keep hK6 fun e => by
          rcases e with e | e
          · exact hne33.1 e
          · exact hne33.2 _ e rfl
        have HV := Lib.hid hv
        clear hv h6m hE6 hK6 HKp hB5 hT5 hU5 hk5 k2 k3 k4 k5 k6 k7 k8 hne33 hnu33
        have k2 : w6.cell? ⟨gO, 2, none⟩ = some (.int .i64 o.r.ses) := hB6.cell 2
        by_cases hse : o.r.ses = (sn : Int)
        · have hseb : (o.r.ses == (sn : Int)) = true := by rw [hse]; simp
          have HSE := Lib.hid hse
          clear hse
          have k3 : w6.cell? ⟨gO, 3, none⟩ = some (.int .i64 o.r.id) := hB6.cell 3
          have k4 : w6.cell? ⟨gO, 4, none⟩ = some (.int .i64 o.r.err) := hB6.cell 4
          have k5 : w6.cell? ⟨gO, 5, none⟩ = some (.int .i64 o.r.num) := hB6.cell 5
          have k6 : w6.cell? ⟨gO, 6, none⟩ = some (.string o.r.text) := hB6.cell 6
          have k7 : w6.cell? ⟨gO, 7, none⟩ = some (.slice Al o.r.list.length cl) := hB6.cell 7
          have k8 : w6.cell? ⟨gO, 8, none⟩ = some (.slice Ad o.r.data.length cd) := hB6.cell 8
          have hz6 : B ≤ w6.heap.size := by have := HB.out; have := hk6.size; omega
          have HKq := Lib.hid (keep_any o.r _ _ w6 hU6 hz6 (fun w' hk => HRD.out.non (hk6.then hk fun i hi e => by unfold Only at e; have := HB.out; omega)) HRB.out)
          go_wp2_with fail
          refine HKq.out.mono ?_
          rintro e w7 ⟨c7, K7, ok7, f7, r7, rfl, hv, h7m, hE7, hK7⟩
          have hcv : o.r.ses.toNat = sn := by rw [HSE.out]; simp
          obtain ⟨hcc, hkk⟩ := keep_two HV.out hv (by rw [hcv]; exact HKe.out)
          rw [hcv] at hkk
          have h7 : Tab w7 B (fun _ => True) q ok7 K7 f7 a2 r7 := h7m.mono fun _ _ => trivial
          have hT7 := h6.other hU6 hK7 hgq.symm (fun k e e' => HD6.out k e' e)
          have HD7 : Hid (∀ k, ok6 = some k → ok7 ≠ some k) := fun k e e' => (hE7.dis (ok2 := ok6) h6.low (fun k e e' => HD6.out k e' e)) k e' e
          have hk7 : Keeps Non w w7 := hk6.then hK7 fun i hi e => by
            have hb := HB.out
            rcases e with e | e
            · omega
            · exact absurd (hlu.2 i e) (by omega)
          have HKK : Hid (K6 sn = K7 sn) := hkk
          have HFIN := Lib.hid (And.intro hT7 (And.intro h7 hk7))
          have hcb : (c6 != c7) = false := by rw [hcc]; simp
          clear hT7 h7 hk7 hK7 hE7 h7m hv HKq h6 hU6 hk6 hB6 k2 k3 k4 k5 k6 k7 k8 hkk hcc
          go_wp2_with fail
          go_roundw
          case rel => exact ⟨k + 1, K6, K7, ok6, ok7, f6, a1, r6, f7, a2, r7, by omega, by go_num, HFIN.out.1, HFIN.out.2.1, HD7, HKK, HFIN.out.2.2⟩
          case measure => simp [intOf]; omega
        · have hseb : (o.r.ses == (sn : Int)) = false := by rw [beq_eq_false_iff_ne]; exact hse
          have HKK : Hid (K6 sn = K2 sn) := by show _ = _; rw [HV.out.far hse]; exact HKe.out
          have HFIN := Lib.hid (And.intro h6 (And.intro hU6 hk6))
          clear h6 hU6 hk6 hse hB6
          go_wp2_with fail
          go_roundw
          case rel => exact ⟨k + 1, K6, K2, ok6, ok2, f6, a1, r6, f2, a2, r2, by omega, by go_num, HFIN.out.1, HFIN.out.2.1, HD6, HKK, HFIN.out.2.2⟩
          case measure => simp [intOf]; omega
    · obtain rfl : k = os.length := by omega
      have HLV1 := Lib.hid (lastV_in K1 sn hs1 hs8)
      have HLV2 := Lib.hid (lastV_in K2 sn hs1 hs8)
      have HLa := Lib.hid (last_any sn wr hT hBw)
      have hlk := hT.lowk
      have hlu := hU.lowk
      go_wp2_with fail
      refine HLa.out.mono ?_
      rw [HLV1.out]
      rintro e w7 ⟨ok7, rfl, h7, hE7, hK7⟩
      have hU7 := hU.other hT (hK7.mono fun k e => .inl e) hgq HD.out
      have hk7 : Keeps Non w w7 := hK.then hK7 fun i hi e => by unfold Only at e; have := HB.out; omega
      have HLb := Lib.hid (last_any sn w7 hU7 (by have := HB.out; have := hk7.size; omega))
      clear hK7 hE7 h7 hU7 hT hU hK HLa
      go_wp2_with fail
      refine HLb.out.mono ?_
      rw [HLV2.out, ← HKe.out]
      rintro e w8 ⟨ok8, rfl, h8, hE8, hK8⟩
      have HK8 := Lib.hid (hk7.then hK8 fun i hi e => by unfold Only at e; have := HB.out; omega)
      clear hK8 h8 hE8 hk7
      go_wp2_with fail
      go_ret
      exact ⟨rfl, HK8.out⟩
end Go.Proofs.Ytmlffigfhhoihac
