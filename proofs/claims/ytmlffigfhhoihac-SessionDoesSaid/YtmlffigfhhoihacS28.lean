/- All upon a pair. -/
import Derived.Test.YtmlffigfhhoihacS25
namespace Go.Proofs.Ytmlffigfhhoihac
open Go.RowKit Go.Uc

/-- What is new is turned: the document's table stands. -/
theorem Doc.above {w0 w w' w'' : World} {S : Nat → Prop} {B q : Nat} {K K' : Nat → Rp} {f a r f' a' r' : Int} (h : Doc w0 w' B q K' f' a' r') (hd : Doc w0 w B q K f a r) (hc : w'.cell? ⟨q, 0, none⟩ = w.cell? ⟨q, 0, none⟩) (hk : Keeps S w' w'') (hS : ∀ k, S k → w.heap.size ≤ k) : Doc w0 w'' B q K' f' a' r' := by
  obtain ⟨v, h1, h2, h3⟩ := h
  have hql := hd.lt
  refine ⟨v, h1, h2.keep hk (fun e => by have := hS q e; omega), h3.keep hk fun k hk' hs => ?_⟩
  have hx : w.cell? ⟨q, 0, none⟩ = some v := by rw [← hc]; exact h2.cell 0
  obtain ⟨v', hv', hkk⟩ := hd.cell0
  rw [hx] at hv'
  injection hv' with hv'
  subst hv'
  have := (hkk k hk').1
  have := hS k hs
  omega

set_option maxRecDepth 100000 in
set_option maxHeartbeats 8000000 in
theorem does_all (w0 : World) {B gp : Nat} {x : PD} (o : Opn) (Al : Option Addr) (cl : Nat) (Ad : Option Addr) (cd : Nat) (AL : Option Addr) (nL cL : Nat) (w : World) (h : PairAt w0 w B gp x) (h0 : Keeps Non w0 w) (hB0 : w0.heap.size ≤ B) (hB : B ≤ w.heap.size) (hi : I64 o.kind) (ht : pk o.kind 6 = 3) :
    Calls Try.prog 16 #[.pointer (some ⟨gp, 0, none⟩), .agg #[.int .i64 o.kind, .int .i64 o.which, .int .i64 o.r.ses, .int .i64 o.r.id, .int .i64 o.r.err, .int .i64 o.r.num, .string o.r.text, (.slice Al o.r.list.length cl), (.slice Ad o.r.data.length cd), (.slice AL nL cL)]] w (DoneP w0 B gp x w) := by
  unfold DoneP
  obtain ⟨g, ok, K, f, a, r, q⟩ := x
  obtain ⟨hT, hD, hG, hP, hSep⟩ := h
  simp only at hT hD hG hP hSep ⊢
  obtain ⟨w1, hw1⟩ : ∃ w1, w1 = w.alloc (.cells #[.int .i64 o.kind, .int .i64 o.which, .int .i64 o.r.ses, .int .i64 o.r.id, .int .i64 o.r.err, .int .i64 o.r.num, .string o.r.text, (.slice Al o.r.list.length cl), (.slice Ad o.r.data.length cd), (.slice AL nL cL)] 33) := ⟨_, rfl⟩
  obtain ⟨b, hb⟩ : ∃ b, b = w.heap.size := ⟨_, rfl⟩
  have hk1 : Keeps Non w w1 := by rw [hw1]; exact (Keeps.refl _ _).alloc _
  have hX1 : Blk w1 b 33 #[.int .i64 o.kind, .int .i64 o.which, .int .i64 o.r.ses, .int .i64 o.r.id, .int .i64 o.r.err, .int .i64 o.r.num, .string o.r.text, (.slice Al o.r.list.length cl), (.slice Ad o.r.data.length cd), (.slice AL nL cL)] := by rw [hw1, hb]; exact Blk.new _ _ _
  have hT1 := (hT.non hk1).tight
  have hD1 := hD.non hk1
  have hP1 := hP.non hk1
  have HPK := Lib.hid (pick_pk o.kind 6 w1 (by omega) (by omega) hi)
  rw [ht] at HPK
  have hz1 := hk1.size
  have HG := Lib.hid hG
  have h01 := h0.trans hk1
  have HPE := Lib.hid (fun wc wd ok' K' f' a' r' N => @pair_end w B g ok K f a r w0 w1 wc wd gp q ok' K' f' a' r' N hB0 h0 hk1 hT hD hP hSep)
  have b0 : w1.cell? ⟨b, 0, none⟩ = some (.int .i64 o.kind) := hX1.cell 0
  have c0 : w1.cell? ⟨gp, 0, none⟩ = some (.pointer (some ⟨g, 0, none⟩)) := hP1.cell 0
  have hlk := hT1.lowk
  have hSep1 : Sep w1 q ok := hSep.non (hD.same hk1 id)
  have hAL := all_tab w1 hT1 (by omega)
  have hln := listTo_length K 9
  have hfl := fun r (hr : r ∈ listTo K 9) => fine_list hT1.fine hr
  obtain ⟨L, hL⟩ : ∃ L, L = listTo K 9 := ⟨_, rfl⟩
  rw [← hL] at hAL hln hfl
  have HL := Lib.hid hL
  have HAL := Lib.hid hAL
  clear hT hD hG hP ht h0 hSep hL hAL
  go_enter Try.func16, Try.ntmps16
  go_upto_region 1 with fail
  rw [← hw1, ← hb]
  clear hw1 hb
  go_upto_region 15 with (go_at_call 8; go_must (refine HPK.out.mono ?_); rintro e w2 ⟨rfl, hw2⟩; subst w2)
  go_wp2_with fail
  refine HAL.out.mono ?_
  rintro e w2 ⟨va, ok2, rfl, hR2, hT2, hE2, hsep2, hK2⟩
  have hD2 := hD1.tab hT1 hSep1 (hK2.mono fun k e => .inl e)
  have hP2 := hP1.one hK2 (by obtain ⟨dg, kg, hbg, -⟩ := hT1.blk; exact hP1.ne hbg (by decide))
  have h02 : Keeps Non w0 w2 := h01.then hK2 fun i hi e => by unfold Only at e; have := h01.size; have := hlk.1; omega
  have hlow2 := hR2.low
  obtain ⟨Aa, ca, rfl, hca, hRa, hga⟩ := hR2.open
  obtain ⟨vd, hqB, hQ2, hRd⟩ := id hD2
  rw [← HL.out] at hRd
  obtain ⟨Ad2, cd2, rfl, hcd, hRd2, -⟩ := hRd.open
  have HAS := Lib.hid (all_same Aa Ad2 ca cd2 L w2 (hRa.mono fun l d r hr hx => ⟨hx.rd, hfl r hr⟩) (hRd2.mono fun l d r hr hx => ⟨hx.1.non h02, hx.2⟩) hca hcd (by omega))
  have c1 : w2.cell? ⟨gp, 1, none⟩ = some (.pointer (some ⟨q, 0, none⟩)) := hP2.cell 1
  have q0 : w2.cell? ⟨q, 0, none⟩ = some (.slice Ad2 L.length cd2) := hQ2.cell 0
  have HRa := Lib.hid hRa
  have HGa := Lib.hid hga
  have hR2' := Lib.hid hR2
  clear HAL HPK b0 c0 hRa hga hR2 hRd hRd2 hQ2
  go_upto_region 16 with fail
  go_upto_region 17 with (go_at_call 31; go_must (refine HAS.out.mono ?_); rintro e w3 ⟨rfl, hK3⟩)
  have hT3 := hT2.non hK3
  have hD3 := hD2.non hK3
  have hP3 := hP2.non hK3
  have hRa3 := Lib.hid (HRa.out.non hK3)
  have hRo : Hid (∀ l d r, RpO w2 w1.heap.size l d r → RpO w3 w1.heap.size l d r) := fun l d r h => h.non hK3
  have hGa3 : Hid (0 < L.length → ∃ ga cur, Aa = some ⟨ga, 0, none⟩ ∧ Blk w3 ga 31 cur ∧ L.length * 7 ≤ cur.size ∧ w1.heap.size ≤ ga ∧ ok2 ≠ some ga) := fun h => by
    obtain ⟨ga, cur, e1, e2, e3, e4, e5⟩ := HGa.out h
    exact ⟨ga, cur, e1, e2.non hK3, e3, e4, hsep2 ga e5⟩
  have hgkT : ∀ gk, ok2 = some gk → ∃ cs, Blk w3 gk 31 cs := fun gk e => by
    rcases hT3 with ⟨e', -⟩ | ⟨gk', e', h'⟩
    · rw [e'] at e; cases e
    · rw [e'] at e
      injection e with e
      subst e
      obtain ⟨cur, hc, -⟩ := h'.row
      exact ⟨_, hc⟩
  clear HAS c1 q0 HRa HGa
  go_upto_region 18 with fail
  go_loopw [17] (fun i wr => ∃ k : Nat, k ≤ L.length ∧ i = .int .i64 k ∧ Sz w3 wr ∧ Keeps (fun k => w1.heap.size ≤ k ∧ ok2 ≠ some k) w3 wr ∧ Hid (∀ ga y, Aa = some ⟨ga, 0, none⟩ → k * 7 ≤ y → wr.cell? ⟨ga, y, none⟩ = w3.cell? ⟨ga, y, none⟩)) (fun i _ => L.length - (intOf i).toNat)
  case atStart => exact ⟨0, Nat.zero_le _, rfl, Sz.refl _, Keeps.refl _ _, fun _ _ _ _ => rfl⟩
  case round =>
    obtain ⟨k, hk, rfl, hS, hK, hY⟩ := hrel
    by_cases hlt : k < L.length
    · obtain ⟨ga, cur, rfl, hgb, hgz, hg1, hg2⟩ := hGa3.out (by omega)
      obtain ⟨b', off', l, d, e, hsv, hro⟩ := hRa3.out.sev hlt
      injection e with e
      injection e with e1 e2
      subst e1 e2
      obtain ⟨p, hp⟩ : ∃ p, p = L[k] := ⟨_, rfl⟩
      rw [← hp] at hsv hro
      clear hp
      rw [Nat.zero_add] at hsv
      have hro3 := hRo.out _ _ _ hro
      obtain ⟨Bl, bl, Bd, bd, el, ed, -⟩ := id hro3.rd
      subst el ed
      obtain ⟨x0, x1, x2, x3, x4, x5, x6⟩ := hsv
      have y0 : wr.cell? ⟨ga, k * 7, none⟩ = some (.int .i64 p.ses) := by rw [hY.out ga _ rfl (by omega)]; exact x0
      have y1 : wr.cell? ⟨ga, k * 7 + 1, none⟩ = some (.int .i64 p.id) := by rw [hY.out ga _ rfl (by omega)]; exact x1
      have y2 : wr.cell? ⟨ga, k * 7 + 2, none⟩ = some (.int .i64 p.err) := by rw [hY.out ga _ rfl (by omega)]; exact x2
      have y3 : wr.cell? ⟨ga, k * 7 + 3, none⟩ = some (.int .i64 p.num) := by rw [hY.out ga _ rfl (by omega)]; exact x3
      have y4 : wr.cell? ⟨ga, k * 7 + 4, none⟩ = some (.string p.text) := by rw [hY.out ga _ rfl (by omega)]; exact x4
      have y5 : wr.cell? ⟨ga, k * 7 + 5, none⟩ = some (.slice Bl p.list.length bl) := by rw [hY.out ga _ rfl (by omega)]; exact x5
      have y6 : wr.cell? ⟨ga, k * 7 + 6, none⟩ = some (.slice Bd p.data.length bd) := by rw [hY.out ga _ rfl (by omega)]; exact x6
      have HSp := Lib.hid (spoil_any p.ses p.id p.err p.num p.text _ _ wr (hro3.wr.1.sz hS) (hro3.wr.2.sz hS))
      have hnga : ¬ Spo (.slice Bl p.list.length bl) (.slice Bd p.data.length bd) ga := fun hs => by rcases hro3.typed hs _ _ hgb with e | e <;> exact absurd e (by decide)
      have hspS : ∀ k, Spo (.slice Bl p.list.length bl) (.slice Bd p.data.length bd) k → w1.heap.size ≤ k ∧ ok2 ≠ some k := fun k hs => ⟨(hro3.low hs).1, fun e => by
        obtain ⟨cs, hc⟩ := hgkT k e
        rcases hro3.typed hs _ _ hc with e | e <;> exact absurd e (by decide)⟩
      clear x0 x1 x2 x3 x4 x5 x6 hro hro3
      go_upto_region 20 with fail
      go_upto_region 21 with (go_at_call 27; go_must (refine HSp.out.mono ?_); rintro e w4 ⟨rfl, hS4, hK4⟩)
      obtain ⟨cs, hcs, hcz⟩ := (hS.trans hS4) _ _ _ hgb
      have hkk4 : Keeps (fun k => w1.heap.size ≤ k ∧ ok2 ≠ some k) w3 w4 := hK.trans (hK4.mono hspS)
      have s1 : ∃ v, w4.cell? ⟨ga, k * 7 + 1, none⟩ = some v := ⟨_, by rw [hcs.cell, Array.getElem?_eq_getElem (by omega)]⟩
      obtain ⟨v1, s1⟩ := s1
      have f1 := hcs.frozen (k * 7 + 1)
      have hi0 : (0 : Int) ≤ (k : Int) := by omega
      have hin : (k : Int) < (L.length : Int) := by omega
      have FS := Lib.hid ((hS.trans hS4).trans (Sz.set (i := k * 7 + 1) hcs (.int .i64 (-1))))
      have FK := Lib.hid (hkk4.set (p := ⟨ga, k * 7 + 1, none⟩) ⟨hg1, hg2⟩ (.int .i64 (-1)))
      have FY : Hid (∀ ga' y, some (⟨ga, 0, none⟩ : Addr) = some ⟨ga', 0, none⟩ → (k + 1) * 7 ≤ y → (w4.setCell ⟨ga, k * 7 + 1, none⟩ (.int .i64 (-1))).cell? ⟨ga', y, none⟩ = w3.cell? ⟨ga', y, none⟩) := fun ga' y e hy => by
        injection e with e
        injection e with e
        subst e
        rw [(hcs.set (k * 7 + 1) (.int .i64 (-1))).cell, Array.getElem?_setIfInBounds, if_neg (by omega), ← hcs.cell, ← hY.out ga y rfl (by omega)]
        obtain ⟨cs3, hcs3, -⟩ := hS _ _ _ hgb
        rw [(hcs3.keep hK4 hnga).cell, hcs3.cell]
      clear y0 y1 y2 y3 y4 y5 y6 HSp hS hK hY hS4 hK4 hcs hkk4 hcz
      go_wp2_with fail
      go_roundw
      case rel => exact ⟨k + 1, by omega, by go_num, FS.out, FK.out, FY⟩
      case measure => simp [intOf]; omega
    · have hTw : Tab wr B (fun k => k < w1.heap.size) g ok2 K f a r := hT3.keep hK (fun e => by have := hT1.lt; omega) (fun gk e e' => e'.2 e) fun k _ e => .inl (by have := e.1; omega)
      have hcell : w3.cell? ⟨q, 0, none⟩ = w1.cell? ⟨q, 0, none⟩ := by
        rw [hD2.same hK3 id, hD1.same hK2 (fun e => by obtain ⟨dg, kg, hbg, -⟩ := hT1.blk; exact hD1.ne hbg (by decide) e.symm)]
      have hql := hD1.lt
      have hDw := hD3.above hD1 hcell hK (fun k e => e.1)
      have hPw := hP3.keep hK fun e => by have := hP1.lt; omega
      have hk1w : Keeps (fun k => k = g ∨ ok = some k) w1 wr := ((hK2.mono fun k e => .inl e).non hK3).then hK fun i hi e => by have := e.1; omega
      have hF := HPE.out wr wr ok2 K f a r w1.heap.size HG.out hk1w hE2 hDw (VNew.same rfl) (Keeps.refl _ _) hTw hTw.low (Nat.le_refl _)
      have FIN := Lib.hid (And.intro (hTw.mono (A' := fun _ => True) fun _ _ => trivial) hF)
      clear hTw hDw hPw hk1w hF hS hK hY
      go_wp2_with fail
      go_ret
      exact ⟨⟨g, ok2, K, f, a, r, q⟩, rfl, rfl, rfl, ⟨FIN.out.1, FIN.out.2.1, HG.out, FIN.out.2.2.1, FIN.out.2.2.2.1⟩, FIN.out.2.2.2.2.2.1, FIN.out.2.2.2.2.1, FIN.out.2.2.2.2.2.2.1⟩
end Go.Proofs.Ytmlffigfhhoihac
