/- Any call upon a pair; loads. -/
import Derived.Test.YtmlffigfhhoihacS26
import Derived.Test.YtmlffigfhhoihacS27
import Derived.Test.YtmlffigfhhoihacS28
import Derived.Test.YtmlffigfhhoihacS29
namespace Go.Proofs.Ytmlffigfhhoihac
open Go.RowKit Go.Uc

theorem does_any (w0 : World) {B gp : Nat} {x : PD} (o : Opn) (Al : Option Addr) (cl : Nat) (Ad : Option Addr) (cd : Nat) (AL : Option Addr) (nL cL : Nat) (w : World) (h : PairAt w0 w B gp x) (h0 : Keeps Non w0 w) (hB0 : w0.heap.size ≤ B) (hB : B ≤ w.heap.size) (hi : I64 o.kind)
    (hrd : RdE w0 (.slice Al o.r.list.length cl) (.slice Ad o.r.data.length cd) o.r) :
    Calls Try.prog 16 #[.pointer (some ⟨gp, 0, none⟩), .agg #[.int .i64 o.kind, .int .i64 o.which, .int .i64 o.r.ses, .int .i64 o.r.id, .int .i64 o.r.err, .int .i64 o.r.num, .string o.r.text, (.slice Al o.r.list.length cl), (.slice Ad o.r.data.length cd), (.slice AL nL cL)]] w (DoneP w0 B gp x w) := by
  have hb := pk_bounds o.kind 6 (by omega)
  obtain ⟨n, hn⟩ := Int.eq_ofNat_of_zero_le hb.1
  by_cases h0' : n = 0
  · exact does_look w0 o Al cl Ad cd AL nL cL w h h0 hB0 hB hi (by rw [hn, h0']; rfl)
  by_cases h1 : n = 1
  · exact does_keep w0 o Al cl Ad cd AL nL cL w h h0 hB0 hB hi (by rw [hn, h1]; rfl) hrd
  by_cases h3 : n = 3
  · exact does_all w0 o Al cl Ad cd AL nL cL w h h0 hB0 hB hi (by rw [hn, h3]; rfl)
  · exact does_ask w0 o Al cl Ad cd AL nL cL w h h0 hB0 hB hi n hn h0' h1 h3

theorem Doc.down {w0 w : World} {B B' q : Nat} {K : Nat → Rp} {f a r : Int} (h : Doc w0 w B q K f a r) (hB : B' ≤ B) : Doc w0 w B' q K f a r := by
  obtain ⟨v, h1, h2, h3⟩ := h
  exact ⟨v, by omega, h2, h3.down hB⟩
theorem Doc.sep {w0 w : World} {B q : Nat} {ok : Option Nat} {K : Nat → Rp} {f a r : Int} (h : Doc w0 w B q K f a r) (hl : ∀ gk, ok = some gk → gk < B) : Sep w q ok := fun v k hv hk e => by
  obtain ⟨v', h1, h2, h3⟩ := h
  have e2 : w.cell? ⟨q, 0, none⟩ = some v' := h2.cell 0
  rw [hv] at e2
  injection e2 with e2
  subst e2
  have := h3.low k hk
  have := hl k e
  omega
theorem LoadP.split {rs : List Rp} {w w' : World} {e : Ending} (h : LoadP rs w e w') : Keeps Non w w' ∧ ∃ v6 v7, e = .returned (.tuple #[v6, .int .i64 v7]) ∧
    ((loadB 0 rs = true ∧ ∃ g ok, v6 = .pointer (some ⟨g, 0, none⟩) ∧ v7 = 0 ∧ Tab w' w.heap.size (fun k => w.heap.size ≤ k) g ok (tabF (fun _ => Rp.none) rs) 0 0 0) ∨ (loadB 0 rs = false ∧ v6 = .pointer none ∧ v7 = 240)) := by
  obtain ⟨hk, h | h⟩ := h
  · obtain ⟨h1, g, ok, rfl, h2⟩ := h
    exact ⟨hk, _, _, rfl, .inl ⟨h1, g, ok, rfl, rfl, h2⟩⟩
  · obtain ⟨h1, rfl⟩ := h
    exact ⟨hk, _, _, rfl, .inr ⟨h1, rfl, rfl⟩⟩
/-- What loads leaves. -/
def LoadsP (w0 w : World) (e : Ending) (w' : World) : Prop := Keeps Non w w' ∧
  ((∃ gp x, e = .returned (.tuple #[.pointer (some ⟨gp, 0, none⟩), .bool true]) ∧ w.heap.size ≤ gp ∧ PairAt w0 w' w.heap.size gp x) ∨ e = .returned (.tuple #[.pointer none, .bool true]))

set_option maxRecDepth 100000 in
set_option maxHeartbeats 8000000 in
theorem loads_any (w0 : World) (A : Option Addr) (c : Nat) (rs : List Rp) (w : World) (hR : RepsE w0 (RdE w0) A rs) (h0 : Keeps Non w0 w) (hn : rs.length * 96 ≤ 140737488355328) (hc : rs.length ≤ c) :
    Calls Try.prog 15 #[.slice A rs.length c] w (LoadsP w0 w) := by
  unfold LoadsP
  have HR := Lib.hid hR
  have H0 := Lib.hid h0
  clear hR h0
  go_enter Try.func15, Try.ntmps15
  go_upto_region 3 with fail
  go_loopw [4, 5] (fun v i wr => ∃ k : Nat, k ≤ rs.length ∧ i = .int .i64 k ∧ RowR wr w.heap.size (RpO wr w.heap.size) v (rs.take k) ∧ Keeps Non w wr) (fun _ i _ => rs.length - (intOf i).toNat)
  case atStart => exact ⟨0, Nat.zero_le _, rfl, RowR.nil _ _ _, Keeps.refl _ _⟩
  case round =>
    obtain ⟨k, hk, rfl, hO, hK⟩ := hrel
    by_cases hlt : k < rs.length
    · obtain ⟨b, off, l, d, rfl, hsv, hrd⟩ := HR.out.sev hlt
      have htk := List.take_succ_eq_append_getElem hlt
      have htl : (rs.take k).length = k := by simp; omega
      obtain ⟨p, hp⟩ : ∃ p, p = rs[k] := ⟨_, rfl⟩
      rw [← hp] at hsv hrd htk
      clear hp
      have HTK := Lib.hid htk
      obtain ⟨Al, cl, Ad, cd, rfl, rfl, -⟩ := id hrd.1
      have h0r := H0.out.trans hK
      obtain ⟨x0, x1, x2, x3, x4, x5, x6⟩ := hsv.non h0r
      have HLE := Lib.hid (lent_any p _ _ wr (hrd.1.non h0r) hrd.2)
      clear htk hsv hrd
      go_upto_region 5 with fail
      go_wp2_with fail
      refine HLE.out.mono ?_
      rintro e w2 ⟨l', d', rfl, hRo, hK2⟩
      obtain ⟨Al', cl', Ad', cd', el, ed, -⟩ := hRo.rd
      subst el ed
      have hO2 := hO.non_own hK2
      have hk2 := hK.trans hK2
      have hz2 := hk2.size
      have hRo2 := hRo.mono (B' := w.heap.size) hK.size
      obtain ⟨vss, hv1, hv2, hv3⟩ := hO2
      clear hRo hK2 hO hK HLE x0 x1 x2 x3 x4 x5 x6
      go_wp2_with (at_builtin; go_must (refine wpList_append_reps rfl (.tmp 17) (.tmp 23) rfl w.heap.size _ (rs.take k).length vss.flatten rfl (row_keep hv1 ((Keeps.refl Non _).alloc _) fun _ _ e => e) (some ⟨w2.heap.size, 0, none⟩) 1 1 (p.vals (.slice Al' p.list.length cl') (.slice Ad' p.data.length cd')) rfl rfl (Ats.seven _ _ _ _ _ _ _ _ _) (vals_one _ ⟨rfl, rfl⟩) (by omega) (by simp; omega) ?_); intro v4 w4 hO4 hK4 hat; clear hat; go_must (have hR4 := RowR.grow hv1 hv2 hv3 hRo2 hO4 hK4; have hk4 : Keeps Non w w4 := (hk2.alloc _).then hK4 fun i hi e => absurd (World.ownsRow.lt hv1 i e).1 (by omega)); clear hO4 hK4)
      go_roundw
      case rel => exact ⟨k + 1, by omega, by go_num, by rw [HTK.out]; exact hR4, hk4⟩
      case measure => simp [intOf]; omega
    · obtain rfl : k = rs.length := by omega
      rw [List.take_length] at hO
      obtain ⟨w1, rfl⟩ : ∃ W : World, W = wr := ⟨_, rfl⟩
      have hz1 := hK.size
      obtain ⟨Ao, co, rfl, hco, hRo, hgo⟩ := hO.open
      have hfin : ∀ r ∈ rs, RpB r := fun r hr => by
        obtain ⟨j, hj, rfl⟩ := List.getElem_of_mem hr
        obtain ⟨_, _, _, _, _, _, hrd⟩ := HR.out.sev hj
        exact hrd.2
      have HLd := Lib.hid (load_rs Ao co rs w1 (hRo.mono fun l d r hr hx => ⟨hx.rd, hfin r hr⟩) (by omega))
      have HGo := Lib.hid hgo
      have HRo := Lib.hid hRo
      clear hO hRo hgo hfin
      go_upto_region 6 with fail
      go_upto_region 8 with (go_at_call 22; go_must (refine HLd.out.mono ?_); rintro e w2 hLP; obtain ⟨hK2, v6, v7, rfl, hL2⟩ := hLP.split)
      have HL2 := Lib.hid hL2
      have HRo2 := Lib.hid (HRo.out.non hK2)
      have HRp : Hid (∀ l d r, RpO w1 w.heap.size l d r → RpO w2 w.heap.size l d r ∧ ∀ k, Spo l d k → k < w1.heap.size) := fun l d r h => ⟨h.non hK2, fun k hs => (h.low hs).2⟩
      have HGo2 : Hid (0 < rs.length → ∃ ga cur, Ao = some ⟨ga, 0, none⟩ ∧ Blk w2 ga 31 cur ∧ rs.length * 7 ≤ cur.size ∧ w.heap.size ≤ ga ∧ ga < w1.heap.size) := fun h => by
        obtain ⟨ga, cur, e1, e2, e3, e4, e5⟩ := HGo.out h
        exact ⟨ga, cur, e1, e2.non hK2, e3, e4, e2.lt⟩
      have hz2 := hK2.size
      have HK12 := Lib.hid (hK.trans hK2)
      clear hL2 HRo HGo HLd hK hK2
      go_loopw [8] (fun i wr => ∃ k : Nat, k ≤ rs.length ∧ i = .int .i64 k ∧ Sz w2 wr ∧ Keeps (fun k => w.heap.size ≤ k ∧ k < w1.heap.size) w2 wr ∧ Hid (∀ ga y, Ao = some ⟨ga, 0, none⟩ → k * 7 ≤ y → wr.cell? ⟨ga, y, none⟩ = w2.cell? ⟨ga, y, none⟩)) (fun i _ => rs.length - (intOf i).toNat)
      case atStart => exact ⟨0, Nat.zero_le _, rfl, Sz.refl _, Keeps.refl _ _, fun _ _ _ _ => rfl⟩
      case round =>
        obtain ⟨k, hk, rfl, hS, hK, hY⟩ := hrel
        by_cases hlt : k < rs.length
        · obtain ⟨ga, cur, rfl, hgb, hgz, hg1, hg2⟩ := HGo2.out (by omega)
          obtain ⟨b', off', l, d, e, hsv, hro⟩ := HRo2.out.sev hlt
          injection e with e
          injection e with e1 e2
          subst e1 e2
          obtain ⟨p, hp⟩ : ∃ p, p = rs[k] := ⟨_, rfl⟩
          rw [← hp] at hsv hro
          clear hp
          rw [Nat.zero_add] at hsv
          obtain ⟨hro3, hlo3⟩ := HRp.out _ _ _ hro
          obtain ⟨Bl, bl, Bd, bd, el, ed, -⟩ := id hro3.rd
          subst el ed
          obtain ⟨x0, x1, x2, x3, x4, x5, x6⟩ := hsv
          have y0 : wr.cell? ⟨ga, k * 7, none⟩ = some (.int .i64 p.ses) := by rw [hY.out ga _ rfl (by omega)]; exact x0
          have y1 : wr.cell? ⟨ga, k * 7 + 1, none⟩ = some (.int .i64 p.id) := by rw [hY.out ga _ rfl (by omega)]; exact x1
          have y2 : wr.cell? ⟨ga, k * 7 + 2, none⟩ = some (.int .i64 p.err) := by rw [hY.out ga _ rfl (by omega)]; exact x2
          have y3 : wr.cell? ⟨ga, k * 7 + 3, none⟩ = some (.int .i64 p.num) := by rw [hY.out ga _ rfl (by omega)]; exact x3
          have y4 : wr.cell? ⟨ga, k * 7 + 4, none⟩ = some (.string p.text) := by rw [hY.out ga _ rfl (by omega)]; exact x4
          have y5 : wr.cell? ⟨ga, k * 7 + 5, none⟩ = some (.slice Bl p.list.length bl) := by rw [hY.out ga _ rfl (by omega)]; exact x5
          have y6 : wr.cell? ⟨ga, k * 7 + 6, none⟩ = some (.slice Bd p.data.length bd) := by rw [hY.out ga _ rfl (by omega)]; exact x6
          have HSp := Lib.hid (spoil_any p.ses p.id p.err p.num p.text _ _ wr (hro3.wr.1.sz hS) (hro3.wr.2.sz hS))
          have hnga : ¬ Spo (.slice Bl p.list.length bl) (.slice Bd p.data.length bd) ga := fun hs => by rcases hro3.typed hs _ _ hgb with e | e <;> exact absurd e (by decide)
          have hspS : ∀ k, Spo (.slice Bl p.list.length bl) (.slice Bd p.data.length bd) k → w.heap.size ≤ k ∧ k < w1.heap.size := fun k hs => ⟨(hro3.low hs).1, hlo3 k hs⟩
          clear x0 x1 x2 x3 x4 x5 x6 hro hro3 hlo3
          go_upto_region 10 with fail
          go_upto_region 11 with (go_at_call 27; go_must (refine HSp.out.mono ?_); rintro e w4 ⟨rfl, hS4, hK4⟩)
          obtain ⟨cs, hcs, hcz⟩ := (hS.trans hS4) _ _ _ hgb
          have hkk4 : Keeps (fun k => w.heap.size ≤ k ∧ k < w1.heap.size) w2 w4 := hK.trans (hK4.mono hspS)
          have s1 : ∃ v, w4.cell? ⟨ga, k * 7, none⟩ = some v := ⟨_, by rw [hcs.cell, Array.getElem?_eq_getElem (by omega)]⟩
          obtain ⟨v1, s1⟩ := s1
          have f1 := hcs.frozen (k * 7)
          have hi0 : (0 : Int) ≤ (k : Int) := by omega
          have hin : (k : Int) < (rs.length : Int) := by omega
          have FS := Lib.hid ((hS.trans hS4).trans (Sz.set (i := k * 7) hcs (.int .i64 (-1))))
          have FK := Lib.hid (hkk4.set (p := ⟨ga, k * 7, none⟩) ⟨hg1, hg2⟩ (.int .i64 (-1)))
          have FY : Hid (∀ ga' y, some (⟨ga, 0, none⟩ : Addr) = some ⟨ga', 0, none⟩ → (k + 1) * 7 ≤ y → (w4.setCell ⟨ga, k * 7, none⟩ (.int .i64 (-1))).cell? ⟨ga', y, none⟩ = w2.cell? ⟨ga', y, none⟩) := fun ga' y e hy => by
            injection e with e
            injection e with e
            subst e
            rw [(hcs.set (k * 7) (.int .i64 (-1))).cell, Array.getElem?_setIfInBounds, if_neg (by omega), ← hcs.cell, ← hY.out ga y rfl (by omega)]
            obtain ⟨cs3, hcs3, -⟩ := hS _ _ _ hgb
            rw [(hcs3.keep hK4 hnga).cell, hcs3.cell]
          clear y0 y1 y2 y3 y4 y5 y6 HSp hS hK hY hS4 hK4 hcs hkk4 hcz
          go_wp2_with fail
          go_roundw
          case rel => exact ⟨k + 1, by omega, by go_num, FS.out, FK.out, FY⟩
          case measure => simp [intOf]; omega
        · obtain ⟨w3, rfl⟩ : ∃ W : World, W = wr := ⟨_, rfl⟩
          have hk3 : Keeps Non w w3 := HK12.out.then hK fun i hi e => by have := e.1; omega
          have h03 := H0.out.trans hk3
          have HRL := Lib.hid (refload_any w0 A c rs w3 ((HR.out.non h03)) hn hc)
          have hz3 := hK.size
          rcases HL2.out with ⟨hlb, g, ok, rfl, rfl, hT2⟩ | ⟨hlb, rfl, rfl⟩
          · have hT3 : Tab w3 w1.heap.size (fun k => w1.heap.size ≤ k) g ok (tabF (fun _ => Rp.none) rs) 0 0 0 := hT2.keep hK (fun e => by have := e.2; have := hT2.lowk.1; omega) (fun gk e e' => by have := e'.2; have := hT2.lowk.2 gk e; omega) fun k _ e => .inl (by have := e.2; omega)
            have hrl := HRL.out.mono (fun e w' h => show Keeps Non w3 w' ∧ ∃ q, e = .returned (.tuple #[.pointer (some ⟨q, 0, none⟩), .int .i64 0]) ∧ Doc w0 w' w3.heap.size q (tabF (fun _ => Rp.none) rs) 0 0 0 from ⟨h.1, h.2.elim (fun x => x.2) fun x => absurd x.1 (by rw [hlb]; decide)⟩)
            have HRT := Lib.hid hrl
            have HGD := Lib.hid (load_good hlb).2
            have HK3 := Lib.hid hk3
            have HT3 := Lib.hid hT3
            clear hlb hk3 h03 hT2 hS hK hY hT3 hrl HRL
            go_upto_region 12 with fail
            go_upto_region 13 with (go_at_call 28; go_must (refine HRT.out.mono ?_); rintro e w4 ⟨hK4, q, rfl, hD4⟩)
            have hT4 := HT3.out.non hK4
            have hz4 := hK4.size
            have hk4 := HK3.out.trans hK4
            have hsep := hD4.sep HT3.out.low
            have hka : Keeps Non w4 (w4.alloc (.cells #[.pointer (some ⟨g, 0, none⟩), .pointer (some ⟨q, 0, none⟩)] 47)) := (Keeps.refl _ _).alloc _
            have FIN := Lib.hid (show PairAt w0 (w4.alloc (.cells #[.pointer (some ⟨g, 0, none⟩), .pointer (some ⟨q, 0, none⟩)] 47)) w.heap.size w4.heap.size ⟨g, ok, tabF (fun _ => Rp.none) rs, 0, 0, 0, q⟩ from
              ⟨((hT4.non hka).down (by omega)).mono fun _ _ => trivial, (hD4.non hka).down (by omega), HGD.out, Blk.new _ _ _, hsep.non (hD4.same hka id)⟩)
            have FK := Lib.hid (hk4.trans hka)
            have FG : Hid (w.heap.size ≤ w4.heap.size) := by show _ ≤ _; omega
            clear hT4 hk4 hsep hka hD4 hK4
            go_wp2_with fail
            go_ret2
            exact ⟨FK.out, .inl ⟨_, _, rfl, FG.out, FIN.out⟩⟩
          · have hrl := HRL.out.mono (fun e w' h => show Keeps Non w3 w' ∧ e = .returned (.tuple #[.pointer none, .int .i64 240]) from ⟨h.1, h.2.elim (fun x => absurd x.1 (by rw [hlb]; decide)) fun x => x.2⟩)
            have HRT := Lib.hid hrl
            have HK3 := Lib.hid hk3
            clear hlb hk3 h03 hS hK hY hrl HRL
            go_upto_region 12 with fail
            go_upto_region 13 with (go_at_call 28; go_must (refine HRT.out.mono ?_); rintro e w4 ⟨hK4, rfl⟩)
            have FK := Lib.hid (HK3.out.trans hK4)
            clear hK4
            go_wp2_with fail
            go_ret2
            exact ⟨FK.out, .inr rfl⟩
end Go.Proofs.Ytmlffigfhhoihac
