/- The document's Keep. -/
import Derived.Test.YtmlffigfhhoihacS21
namespace Go.Proofs.Ytmlffigfhhoihac
open Go.RowKit Go.Uc

/-- What the document's Keep leaves. -/
def RefKeepP (w0 : World) (B q : Nat) (K : Nat → Rp) (f a r : Int) (p : Rp) (w : World) (e : Ending) (w' : World) : Prop :=
  ∃ c K' f' r', e = .returned (.int .i64 c) ∧ KeepV K p f r c K' f' r' ∧ (Doc w0 w' B q K' f' a r' ∧ VNew w w' q) ∧ Keeps (Only q) w w'

/-- Seven cells of a reply at an address. -/
def Sev (w : World) (b o : Nat) (x : Rp) (l d : Value) : Prop := w.cell? ⟨b, o, none⟩ = some (.int .i64 x.ses) ∧ w.cell? ⟨b, o + 1, none⟩ = some (.int .i64 x.id) ∧ w.cell? ⟨b, o + 2, none⟩ = some (.int .i64 x.err) ∧
  w.cell? ⟨b, o + 3, none⟩ = some (.int .i64 x.num) ∧ w.cell? ⟨b, o + 4, none⟩ = some (.string x.text) ∧ w.cell? ⟨b, o + 5, none⟩ = some l ∧ w.cell? ⟨b, o + 6, none⟩ = some d
theorem Sev.non {w w' : World} {b o : Nat} {x : Rp} {l d : Value} (h : Sev w b o x l d) (hk : Keeps Non w w') : Sev w' b o x l d := ⟨hk.cell h.1 id, hk.cell h.2.1 id, hk.cell h.2.2.1 id, hk.cell h.2.2.2.1 id, hk.cell h.2.2.2.2.1 id, hk.cell h.2.2.2.2.2.1 id, hk.cell h.2.2.2.2.2.2 id⟩
theorem RepsE.sev {w : World} {E : Value → Value → Rp → Prop} {A : Option Addr} {rs : List Rp} (h : RepsE w E A rs) {i : Nat} (hi : i < rs.length) : ∃ b off l d, A = some ⟨b, off, none⟩ ∧ Sev w b (off + i * 7) rs[i] l d ∧ E l d rs[i] := by
  obtain ⟨b, off, l, d, h0, h1, h2, h3, h4, h5, h6, h7, h8⟩ := h.get hi
  exact ⟨b, off, l, d, h0, ⟨h1, h2, h3, h4, h5, h6, h7⟩, h8⟩

theorem insS_a (p x : Rp) (out : List Rp) : insS p (out, true) x = (if x.ses = p.ses then out else out ++ [x], true) := by simp [insS]
theorem insS_b (p x : Rp) (out : List Rp) (h : ¬ p.ses ≤ x.ses) : insS p (out, false) x = (if x.ses = p.ses then out else out ++ [x], false) := by simp [insS, h]
theorem insS_c (p x : Rp) (out : List Rp) (h : p.ses ≤ x.ses) : insS p (out, false) x = (if x.ses = p.ses then out ++ [p] else out ++ [p] ++ [x], true) := by simp [insS, h]

set_option maxRecDepth 100000 in
set_option maxHeartbeats 8000000 in
theorem refkeep_any (w0 : World) {B q : Nat} {K : Nat → Rp} {f a r : Int} (p : Rp) (l d : Value) (w : World) (h : Doc w0 w B q K f a r) (hG : Good K) (hB : B ≤ w.heap.size) (hrd : RdE w0 l d p) :
    Calls Try.prog 30 #[.pointer (some ⟨q, 0, none⟩), .agg #[.int .i64 p.ses, .int .i64 p.id, .int .i64 p.err, .int .i64 p.num, .string p.text, l, d]] w (RefKeepP w0 B q K f a r p w) := by
  unfold RefKeepP
  obtain ⟨Al, cl, Ad, cd, rfl, rfl, -⟩ := id hrd.1
  obtain ⟨w1, hw1⟩ : ∃ w1, w1 = w.alloc (.cells #[.int .i64 p.ses, .int .i64 p.id, .int .i64 p.err, .int .i64 p.num, .string p.text, (.slice Al p.list.length cl), (.slice Ad p.data.length cd)] 31) := ⟨_, rfl⟩
  obtain ⟨b, hb⟩ : ∃ b, b = w.heap.size := ⟨_, rfl⟩
  have hk1 : Keeps Non w w1 := by rw [hw1]; exact (Keeps.refl _ _).alloc _
  have hX1 : Blk w1 b 31 #[.int .i64 p.ses, .int .i64 p.id, .int .i64 p.err, .int .i64 p.num, .string p.text, (.slice Al p.list.length cl), (.slice Ad p.data.length cd)] := by rw [hw1, hb]; exact Blk.new _ _ _
  have hpw : w.heap.size ≤ b := by omega
  obtain ⟨v, hq, hQ, hR⟩ := id h
  have FIN := Lib.hid (fun (w' : World) (f' a' r' : Int) => @Doc.fin w0 w w' B q v K f a r f' a' r' hq hQ hR)
  have hQ1 := hQ.non hk1
  have hbq : b ≠ q := hX1.ne hQ1 (by decide)
  have HIS := Lib.hid (fun W => refis_any p.ses p.id W)
  have HOF := Lib.hid (of_any w0 p.ses w1 (h.non hk1) hG)
  have hR1 := hR.non hk1
  have HG := Lib.hid hG
  have b0 : w1.cell? ⟨b, 0, none⟩ = some (.int .i64 p.ses) := hX1.cell 0
  have b1 : w1.cell? ⟨b, 1, none⟩ = some (.int .i64 p.id) := hX1.cell 1
  have HRD := Lib.hid hrd
  clear h hG hQ hR hrd
  go_enter Try.func30, Try.ntmps30
  go_upto_region 1 with fail
  rw [← hw1, ← hb]
  clear hw1 hb
  go_wp2_with fail
  refine (HIS.out _).mono ?_
  rintro e w2 ⟨rfl, hw2⟩
  subst w2
  go_wp2_with fail
  refine HOF.out.mono ?_
  rintro e w3 ⟨lo, do_, rfl, hrdo, hK3⟩
  obtain ⟨o, ho⟩ : ∃ o, o = ofV K p.ses := ⟨_, rfl⟩
  rw [← ho] at hrdo ⊢
  have HO := Lib.hid ho
  clear ho
  obtain ⟨Alo, clo, Ado, cdo, el, ed, -⟩ := id hrdo.1
  subst el ed
  go_upto_region 3 with fail
  obtain ⟨x3, hx3⟩ : ∃ x, x = w3.alloc (.cells #[.int .i64 o.ses, .int .i64 o.id, .int .i64 o.err, .int .i64 o.num, .string o.text, (.slice Alo o.list.length clo), (.slice Ado o.data.length cdo)] 31) := ⟨_, rfl⟩
  obtain ⟨p2, hp2⟩ : ∃ p, p = w3.heap.size := ⟨_, rfl⟩
  have hka : Keeps Non w1 x3 := by rw [hx3]; exact hK3.alloc _
  have hP2 : Blk x3 p2 31 #[.int .i64 o.ses, .int .i64 o.id, .int .i64 o.err, .int .i64 o.num, .string o.text, (.slice Alo o.list.length clo), (.slice Ado o.data.length cdo)] := by rw [hx3, hp2]; exact Blk.new _ _ _
  rw [← hx3, ← hp2]
  have hX3 := hX1.non hka
  have hQ3 := hQ1.non hka
  have hR3 := hR1.non hka
  have hk3 := hk1.trans hka
  clear hx3 hp2 hK3 hka hX1 hQ1 hk1 HOF b0 b1 hR1 w3
  have q3 : x3.cell? ⟨q, 3, none⟩ = some (.int .i64 r) := hQ3.cell 3
  have f3 := hQ3.frozen 3
  have z1 : x3.cell? ⟨p2, 1, none⟩ = some (.int .i64 o.id) := hP2.cell 1
  have b1 : x3.cell? ⟨b, 1, none⟩ = some (.int .i64 p.id) := hX3.cell 1
  cases hs : isB p.ses p.id with
  | false =>
    have HS := Lib.hid hs
    clear hs
    obtain ⟨x4, hx4⟩ : ∃ x, x = x3.setCell ⟨q, 3, none⟩ (.int .i64 (wrap64 (r + 1))) := ⟨_, rfl⟩
    have FQ : Hid (Blk x4 q 45 #[v, .int .i64 f, .int .i64 a, .int .i64 (wrap64 (r + 1))]) := by rw [hx4]; exact hQ3.set 3 _
    have FK : Hid (Keeps (Only q) w x4) := by rw [hx4]; exact hk3.of_non.trans ((Keeps.refl (Only q) x3).set (p := ⟨q, 3, none⟩) rfl _)
    clear hQ3 hk3 hX3 hP2
    go_upto_region 5 with fail
    rw [← hx4]
    clear hx4 q3 f3 z1 b1
    go_wp2_with fail
    go_ret
    exact ⟨240, K, f, _, rfl, .bad HS.out, FIN.out _ _ _ _ FK.out FQ.out, FK.out⟩
  | true =>
    have hos : o = K p.ses.toNat := by rw [HO.out]; exact ofV_is hs
    have HS := Lib.hid hs
    have HOS := Lib.hid hos
    clear hs hos HO
    by_cases hl : p.id ≤ o.id
    · have HL := Lib.hid hl
      obtain ⟨x4, hx4⟩ : ∃ x, x = x3.setCell ⟨q, 3, none⟩ (.int .i64 (wrap64 (r + 1))) := ⟨_, rfl⟩
      have FQ : Hid (Blk x4 q 45 #[v, .int .i64 f, .int .i64 a, .int .i64 (wrap64 (r + 1))]) := by rw [hx4]; exact hQ3.set 3 _
      have FK : Hid (Keeps (Only q) w x4) := by rw [hx4]; exact hk3.of_non.trans ((Keeps.refl (Only q) x3).set (p := ⟨q, 3, none⟩) rfl _)
      clear hQ3 hk3 hX3 hP2
      go_upto_region 8 with fail
      rw [← hx4]
      clear hx4 q3 f3 z1 b1 hl
      go_wp2_with fail
      go_ret
      exact ⟨241, K, f, _, rfl, .stale HS.out (by rw [← HOS.out]; exact HL.out), FIN.out _ _ _ _ FK.out FQ.out, FK.out⟩
    · obtain ⟨A, c, rfl, hlc, hRE, -⟩ := hR3.open
      have hln := listTo_length K 9
      obtain ⟨L, hL⟩ : ∃ L, L = listTo K 9 := ⟨_, rfl⟩
      have HIN := Lib.hid (ins_list HG.out HS.out)
      rw [← hL] at hQ3 hlc hRE hln HIN
      have HL := Lib.hid hl
      have HRE := Lib.hid hRE
      have HQ := Lib.hid hQ3
      have HX := Lib.hid hX3
      go_upto_region 12 with fail
      clear hl hRE hL hR3 hQ3 hX3 q3 f3 z1 b1 hP2
      go_loopw [7, 8, 9] (fun u dn i wr => ∃ (k : Nat) (st : List Rp × Bool), k ≤ L.length ∧ i = .int .i64 k ∧ dn = .bool st.2 ∧ Hid (st = (L.take k).foldl (insS p) ([], false)) ∧ RowR wr x3.heap.size (RdE w0) u st.1 ∧ st.1.length ≤ 2 * k ∧ Keeps Non x3 wr) (fun _ _ i _ => L.length - (intOf i).toNat)
      case atStart => exact ⟨0, ([], false), Nat.zero_le _, rfl, rfl, rfl, RowR.nil _ _ _, Nat.zero_le _, Keeps.refl _ _⟩
      case round =>
        obtain ⟨k, st, hk, rfl, rfl, HST, hU, hul, hK⟩ := hrel
        have t0 : wr.cell? ⟨q, 0, none⟩ = some (.slice A L.length c) := (HQ.out.non hK).cell 0
        by_cases hlt : k < L.length
        · have HTK := Lib.hid (take_foldl (insS p) ([], false) L k hlt)
          obtain ⟨g, off, lx, dx, rfl, hsev, hrdx⟩ := HRE.out.sev hlt
          obtain ⟨x, hx⟩ : ∃ x, x = L[k] := ⟨_, rfl⟩
          rw [← hx] at hsev hrdx HTK
          clear hx
          obtain ⟨Alx, clx, Adx, cdx, rfl, rfl, -⟩ := id hrdx.1
          have HSV := Lib.hid hsev
          have HRX := Lib.hid hrdx
          obtain ⟨c0, c1, c2, c3, c4, c5, c6⟩ := hsev.non hK
          have hXr := HX.out.non hK
          have e0 : wr.cell? ⟨b, 0, none⟩ = some (.int .i64 p.ses) := hXr.cell 0
          have e1 : wr.cell? ⟨b, 1, none⟩ = some (.int .i64 p.id) := hXr.cell 1
          have e2 : wr.cell? ⟨b, 2, none⟩ = some (.int .i64 p.err) := hXr.cell 2
          have e3 : wr.cell? ⟨b, 3, none⟩ = some (.int .i64 p.num) := hXr.cell 3
          have e4 : wr.cell? ⟨b, 4, none⟩ = some (.string p.text) := hXr.cell 4
          have e5 : wr.cell? ⟨b, 5, none⟩ = some (.slice Al p.list.length cl) := hXr.cell 5
          have e6 : wr.cell? ⟨b, 6, none⟩ = some (.slice Ad p.data.length cd) := hXr.cell 6
          have hz := hK.size
          clear hsev hrdx hXr
          obtain ⟨out, dn⟩ := st
          simp only at hU hul
          obtain ⟨st1, hst1⟩ : ∃ s, s = insS p (out, dn) x := ⟨_, rfl⟩
          have HST1 : Hid (st1 = (L.take (k + 1)).foldl (insS p) ([], false)) := by show _ = _; rw [HTK.out, ← HST.out]; exact hst1
          by_cases hd : dn = true
          case' pos =>
            subst hd
            go_upto_region 14 with fail
            go_quiet (fail)
            go_upto_region 17 with fail
            obtain ⟨W1, hW1⟩ : ∃ W1, W1 = wr.drewN nq := ⟨_, rfl⟩
            rw [← hW1]
            have hK1 : Keeps Non x3 W1 := by rw [hW1]; exact hK.drewN _
            have hU1 : RowR W1 x3.heap.size (RdE w0) u7 out := by rw [hW1]; exact hU.non ((Keeps.refl _ _).drewN _)
            have H1 : Hid (st1 = (if x.ses = p.ses then out else out ++ [x], true)) := by
              show _ = _
              rw [hst1]
              exact insS_a p x out
            obtain ⟨out1, ho1⟩ : ∃ o : List Rp, o = out := ⟨_, rfl⟩
            rw [← ho1] at hU1 H1
            have hul1 : out1.length ≤ 2 * k + 1 := by rw [ho1]; omega
            clear ho1 hW1
          case' neg =>
            have hd' : dn = false := by simpa using hd
            subst hd'
            by_cases hge : p.ses ≤ x.ses
            case' neg =>
              have hgb : decide (p.ses ≤ x.ses) = false := by simpa using hge
              have HGE := Lib.hid hge
              clear hge
              go_upto_region 14 with fail
              go_quiet (fail)
              go_upto_region 17 with fail
              obtain ⟨W1, hW1⟩ : ∃ W1, W1 = wr.drewN nq := ⟨_, rfl⟩
              rw [← hW1]
              have hK1 : Keeps Non x3 W1 := by rw [hW1]; exact hK.drewN _
              have hU1 : RowR W1 x3.heap.size (RdE w0) u7 out := by rw [hW1]; exact hU.non ((Keeps.refl _ _).drewN _)
              have H1 : Hid (st1 = (if x.ses = p.ses then out else out ++ [x], false)) := by
                show _ = _
                rw [hst1]
                exact insS_b p x out HGE.out
              obtain ⟨out1, ho1⟩ : ∃ o : List Rp, o = out := ⟨_, rfl⟩
              rw [← ho1] at hU1 H1
              have hul1 : out1.length ≤ 2 * k + 1 := by rw [ho1]; omega
              clear ho1 hW1
            case' pos =>
              have hgb : decide (p.ses ≤ x.ses) = true := by simpa using hge
              have HGE := Lib.hid hge
              clear hge
              go_upto_region 14 with fail
              go_quiet (fail)
              go_upto_region 15 with fail
              obtain ⟨Wd, hWd⟩ : ∃ W1, W1 = wr.drewN nq := ⟨_, rfl⟩
              have hKd : Keeps Non x3 Wd := by rw [hWd]; exact hK.drewN _
              obtain ⟨vss, hv1, hv2, hv3⟩ : RowR Wd x3.heap.size (RdE w0) u7 out := by rw [hWd]; exact hU.non ((Keeps.refl _ _).drewN _)
              have hzd := hKd.size
              have hXd := HX.out.non hKd
              have d0 : Wd.cell? ⟨b, 0, none⟩ = some (.int .i64 p.ses) := hXd.cell 0
              have d1 : Wd.cell? ⟨b, 1, none⟩ = some (.int .i64 p.id) := hXd.cell 1
              have d2 : Wd.cell? ⟨b, 2, none⟩ = some (.int .i64 p.err) := hXd.cell 2
              have d3 : Wd.cell? ⟨b, 3, none⟩ = some (.int .i64 p.num) := hXd.cell 3
              have d4 : Wd.cell? ⟨b, 4, none⟩ = some (.string p.text) := hXd.cell 4
              have d5 : Wd.cell? ⟨b, 5, none⟩ = some (.slice Al p.list.length cl) := hXd.cell 5
              have d6 : Wd.cell? ⟨b, 6, none⟩ = some (.slice Ad p.data.length cd) := hXd.cell 6
              rw [← hWd]
              clear hWd hU hXd
              go_upto_region 17 with (at_builtin; go_must (refine wpList_append_reps rfl (.tmp 66) (.tmp 68) rfl x3.heap.size _ out.length vss.flatten rfl (row_keep hv1 ((Keeps.refl Non _).alloc _) fun _ _ e => e) (some ⟨Wd.heap.size, 0, none⟩) 1 1 (p.vals (.slice Al p.list.length cl) (.slice Ad p.data.length cd)) rfl rfl (Ats.seven _ _ _ _ _ _ _ _ _) (vals_one _ ⟨rfl, rfl⟩) (by omega) (by simp; omega) ?_); intro u1 W1 hO1 hKK hat; clear hat; go_must (have hU1 : RowR W1 x3.heap.size (RdE w0) u1 (out ++ [p]) := RowR.snoc hO1 hv2 hv3 ⟨_, _, rfl, ⟨rfl, rfl⟩, HRD.out⟩; have hK1 : Keeps Non x3 W1 := (hKd.alloc _).then hKK fun i hi e => absurd (World.ownsRow.lt hv1 i e).1 (by omega)); clear hO1 hKK)
              have H1 : Hid (st1 = (if x.ses = p.ses then out ++ [p] else out ++ [p] ++ [x], true)) := by
                show _ = _
                rw [hst1]
                exact insS_c p x out HGE.out
              obtain ⟨out1, ho1⟩ : ∃ o : List Rp, o = out ++ [p] := ⟨_, rfl⟩
              rw [← ho1] at hU1 H1
              have hul1 : out1.length ≤ 2 * k + 1 := by rw [ho1]; simp; omega
              clear ho1 d0 d1 d2 d3 d4 d5 d6 hv1 hv2 hv3 hKd hzd
          all_goals
            clear c0 c1 c2 c3 c4 c5 c6 e0 e1 e2 e3 e4 e5 e6 t0 hst1 hK hz
            obtain ⟨c0, c1, c2, c3, c4, c5, c6⟩ := HSV.out.non hK1
            have t0 : W1.cell? ⟨q, 0, none⟩ = some (.slice (some ⟨g, off, none⟩) L.length c) := (HQ.out.non hK1).cell 0
            have e0 : W1.cell? ⟨b, 0, none⟩ = some (.int .i64 p.ses) := (HX.out.non hK1).cell 0
            by_cases hse : x.ses = p.ses
            · have hseb : (x.ses == p.ses) = true := by rw [hse]; simp
              have HSE := Lib.hid hse
              clear hse
              go_quiet (fail)
              go_wp2_with fail
              go_roundw
              case rel => exact ⟨k + 1, st1, by omega, by go_num, by rw [H1.out], HST1, by rw [H1.out, if_pos HSE.out]; exact hU1.non ((Keeps.refl _ _).drewN _), by rw [H1.out, if_pos HSE.out]; simp only; omega, hK1.drewN _⟩
              case measure => simp [intOf]; omega
            · have hseb : (x.ses == p.ses) = false := by rw [beq_eq_false_iff_ne]; exact hse
              have HSE := Lib.hid hse
              clear hse
              go_quiet (fail)
              go_upto_region 18 with fail
              obtain ⟨W2, hW2⟩ : ∃ W, W = W1.drewN nq := ⟨_, rfl⟩
              have hK2 : Keeps Non x3 W2 := by rw [hW2]; exact hK1.drewN _
              obtain ⟨vss, hv1, hv2, hv3⟩ : RowR W2 x3.heap.size (RdE w0) _ out1 := by rw [hW2]; exact hU1.non ((Keeps.refl _ _).drewN _)
              have hz2 := hK2.size
              obtain ⟨d0, d1, d2, d3, d4, d5, d6⟩ := HSV.out.non hK2
              have t2 : W2.cell? ⟨q, 0, none⟩ = some (.slice (some ⟨g, off, none⟩) L.length c) := (HQ.out.non hK2).cell 0
              rw [← hW2]
              clear hW2 hU1 hK1 c0 c1 c2 c3 c4 c5 c6 e0 t0
              go_wp2_with (at_builtin; go_must (refine wpList_append_reps rfl (.tmp 81) (.tmp 89) rfl x3.heap.size _ out1.length vss.flatten rfl (row_keep hv1 ((Keeps.refl Non _).alloc _) fun _ _ e => e) (some ⟨W2.heap.size, 0, none⟩) 1 1 (x.vals (.slice Alx x.list.length clx) (.slice Adx x.data.length cdx)) rfl rfl (Ats.seven _ _ _ _ _ _ _ _ _) (vals_one _ ⟨rfl, rfl⟩) (by omega) (by simp; omega) ?_); intro u9 W9 hO9 hKK hat; clear hat; go_must (have hU9 : RowR W9 x3.heap.size (RdE w0) u9 (out1 ++ [x]) := RowR.snoc hO9 hv2 hv3 ⟨_, _, rfl, ⟨rfl, rfl⟩, HRX.out⟩; have hK9 : Keeps Non x3 W9 := (hK2.alloc _).then hKK fun i hi e => absurd (World.ownsRow.lt hv1 i e).1 (by omega)); clear hO9 hKK)
              go_roundw
              case rel => exact ⟨k + 1, st1, by omega, by go_num, by rw [H1.out], HST1, by rw [H1.out, if_neg HSE.out]; exact hU9, by rw [H1.out, if_neg HSE.out]; simp; omega, hK9⟩
              case measure => simp [intOf]; omega
        · obtain rfl : k = L.length := by omega
          rw [List.take_length] at HST
          have hXr := HX.out.non hK
          have hin : insF p st = listTo (upd K p.ses.toNat p) 9 := by rw [← HIN.out, ← HST.out]
          have e0 : wr.cell? ⟨b, 0, none⟩ = some (.int .i64 p.ses) := hXr.cell 0
          have e1 : wr.cell? ⟨b, 1, none⟩ = some (.int .i64 p.id) := hXr.cell 1
          have e2 : wr.cell? ⟨b, 2, none⟩ = some (.int .i64 p.err) := hXr.cell 2
          have e3 : wr.cell? ⟨b, 3, none⟩ = some (.int .i64 p.num) := hXr.cell 3
          have e4 : wr.cell? ⟨b, 4, none⟩ = some (.string p.text) := hXr.cell 4
          have e5 : wr.cell? ⟨b, 5, none⟩ = some (.slice Al p.list.length cl) := hXr.cell 5
          have e6 : wr.cell? ⟨b, 6, none⟩ = some (.slice Ad p.data.length cd) := hXr.cell 6
          have hz := hK.size
          clear hXr
          obtain ⟨out, dn⟩ := st
          simp only at hU hul
          cases dn
          case' true =>
            go_upto_region 21 with fail
            obtain ⟨W1, hW1⟩ : ∃ W1, W1 = wr := ⟨_, rfl⟩
            have hU1 : RowR W1 x3.heap.size (RdE w0) u7 (listTo (upd K p.ses.toNat p) 9) := by rw [hW1, ← hin]; exact hU
            have hK1 : Keeps Non x3 W1 := by rw [hW1]; exact hK
            rw [← hW1]
            clear hW1
          case' false =>
            obtain ⟨vss, hv1, hv2, hv3⟩ := id hU
            go_upto_region 20 with fail
            go_upto_region 21 with (at_builtin; go_must (refine wpList_append_reps rfl (.tmp 93) (.tmp 95) rfl x3.heap.size _ out.length vss.flatten rfl (row_keep hv1 ((Keeps.refl Non _).alloc _) fun _ _ e => e) (some ⟨wr.heap.size, 0, none⟩) 1 1 (p.vals (.slice Al p.list.length cl) (.slice Ad p.data.length cd)) rfl rfl (Ats.seven _ _ _ _ _ _ _ _ _) (vals_one _ ⟨rfl, rfl⟩) (by omega) (by simp; omega) ?_); intro u1 W1 hO1 hKK hat; clear hat; go_must (have hU1 : RowR W1 x3.heap.size (RdE w0) u1 (listTo (upd K p.ses.toNat p) 9) := (by rw [← hin]; exact RowR.snoc hO1 hv2 hv3 ⟨_, _, rfl, ⟨rfl, rfl⟩, HRD.out⟩); have hK1 : Keeps Non x3 W1 := (hK.alloc _).then hKK fun i hi e => absurd (World.ownsRow.lt hv1 i e).1 (by omega)); clear hO1 hKK)
            clear hv1 hv2 hv3
          all_goals
            have hQ1 := HQ.out.non hK1
            obtain ⟨A9, c9, rfl, -, -, -⟩ := id hU1.open
            have s0 : W1.cell? ⟨q, 0, none⟩ = some (.slice A L.length c) := hQ1.cell 0
            have f0 := hQ1.frozen 0
            have hQa := hQ1.set 0 (.slice A9 (listTo (upd K p.ses.toNat p) 9).length c9)
            have s1 : (W1.setCell ⟨q, 0, none⟩ (.slice A9 (listTo (upd K p.ses.toNat p) 9).length c9)).cell? ⟨q, 1, none⟩ = some (.int .i64 f) := hQa.cell 1
            have f1 := hQa.frozen 1
            have FQ : Hid (Blk ((W1.setCell ⟨q, 0, none⟩ (.slice A9 (listTo (upd K p.ses.toNat p) 9).length c9)).setCell ⟨q, 1, none⟩ (.int .i64 (wrap64 (f + 1)))) q 45 #[.slice A9 (listTo (upd K p.ses.toNat p) 9).length c9, .int .i64 (wrap64 (f + 1)), .int .i64 a, .int .i64 r]) := hQa.set 1 _
            have hKq : Keeps (Only q) W1 ((W1.setCell ⟨q, 0, none⟩ (.slice A9 (listTo (upd K p.ses.toNat p) 9).length c9)).setCell ⟨q, 1, none⟩ (.int .i64 (wrap64 (f + 1)))) := ((Keeps.refl (Only q) W1).set (p := ⟨q, 0, none⟩) rfl _).set (p := ⟨q, 1, none⟩) rfl _
            have hqlt := HQ.out.lt
            have FK := Lib.hid ((hk3.trans hK1).of_non.trans hKq)
            have FU := Lib.hid ((hU1.keep hKq fun k hk hs => by
              obtain ⟨vss, ho, -⟩ := hU1
              have := (World.ownsRow.lt ho k hk).1
              unfold Only at hs
              omega).down (show B ≤ x3.heap.size by have := hk3.size; omega))
            have FV : Hid (∀ k, (Value.slice A9 (listTo (upd K p.ses.toNat p) 9).length c9).ownBlock = some k → w.heap.size ≤ k) := fun k hk => by
              obtain ⟨vss, ho, -⟩ := hU1
              have := (World.ownsRow.lt ho k hk).1
              have := hk3.size
              omega
            clear hQ1 hQa hKq hU1 hK1
            go_wp2_with fail
            go_ret
            exact ⟨0, _, _, _, rfl, .ok HS.out (by have := HL.out; rw [← HOS.out]; omega), ⟨⟨_, hq, FQ.out, FU.out⟩, fun v hv => .inr (by have e := FQ.out.cell 0; rw [e] at hv; injection hv with hv; subst hv; exact FV.out)⟩, FK.out⟩
end Go.Proofs.Ytmlffigfhhoihac
