/- Keep upon a pair. -/
import Derived.Test.YtmlffigfhhoihacS25
namespace Go.Proofs.Ytmlffigfhhoihac
open Go.RowKit Go.Uc

theorem KeepV.det2 {K K1 K2 : Nat → Rp} {p : Rp} {f r c1 f1 r1 c2 f2 r2 : Int} (h : KeepV K p f r c1 K1 f1 r1) (h' : KeepV K p f r c2 K2 f2 r2) : c2 = c1 ∧ K2 = K1 ∧ f2 = f1 ∧ r2 = r1 := by
  cases hs : isB p.ses p.id with
  | false =>
    obtain ⟨rfl, rfl, rfl, rfl⟩ := h.isBad hs
    exact h'.isBad hs
  | true =>
    by_cases hl : (K p.ses.toNat).id < p.id
    · obtain ⟨rfl, rfl, rfl, rfl⟩ := h.isOk hs hl
      exact h'.isOk hs hl
    · obtain ⟨rfl, rfl, rfl, rfl⟩ := h.isStale hs (by omega)
      exact h'.isStale hs (by omega)
theorem KeepV.good {K K' : Nat → Rp} {p : Rp} {f r c f' r' : Int} (h : KeepV K p f r c K' f' r') (hG : Good K) : Good K' := by
  cases h with
  | bad _ => exact hG
  | stale _ _ => exact hG
  | ok hs _ => exact hG.upd hs

theorem RpO.tabk {w w' : World} {B g N : Nat} {ok : Option Nat} {A : Nat → Prop} {K : Nat → Rp} {f a r : Int} {l d : Value} {p : Rp} (h : RpO w N l d p) (hT : Tab w B A g ok K f a r) (hk : Keeps (fun k => k = g ∨ ok = some k) w w') : RpO w' N l d p := by
  have : ∀ k, Spo l d k → ¬ (k = g ∨ ok = some k) := fun k hs e => by
    obtain ⟨t, cs, hb, ht⟩ := hT.typed e
    rcases ht with rfl | rfl <;> rcases h.typed hs _ cs hb with e | e <;> exact absurd e (by decide)
  exact h.keep hk (fun k hk' => this k (.inl hk')) fun k hk' => this k (.inr hk')
theorem Blk.tabk {w w' : World} {B g k t : Nat} {cs : Array Value} {ok : Option Nat} {A : Nat → Prop} {K : Nat → Rp} {f a r : Int} (h : Blk w k t cs) (hT : Tab w B A g ok K f a r) (hk : Keeps (fun k => k = g ∨ ok = some k) w w') (h1 : t ≠ 71) (h2 : t ≠ 31) : Blk w' k t cs := h.keep hk fun e => by
  obtain ⟨t', cs', hb, ht⟩ := hT.typed e
  rcases ht with rfl | rfl
  · exact h.ne hb h1 rfl
  · exact h.ne hb h2 rfl

set_option maxRecDepth 100000 in
set_option maxHeartbeats 8000000 in
theorem does_keep (w0 : World) {B gp : Nat} {x : PD} (o : Opn) (Al : Option Addr) (cl : Nat) (Ad : Option Addr) (cd : Nat) (AL : Option Addr) (nL cL : Nat) (w : World) (h : PairAt w0 w B gp x) (h0 : Keeps Non w0 w) (hB0 : w0.heap.size ≤ B) (hB : B ≤ w.heap.size) (hi : I64 o.kind) (ht : pk o.kind 6 = 1)
    (hrd : RdE w0 (.slice Al o.r.list.length cl) (.slice Ad o.r.data.length cd) o.r) :
    Calls Try.prog 16 #[.pointer (some ⟨gp, 0, none⟩), .agg #[.int .i64 o.kind, .int .i64 o.which, .int .i64 o.r.ses, .int .i64 o.r.id, .int .i64 o.r.err, .int .i64 o.r.num, .string o.r.text, (.slice Al o.r.list.length cl), (.slice Ad o.r.data.length cd), (.slice AL nL cL)]] w (DoneP w0 B gp x w) := by
  unfold DoneP
  obtain ⟨g, ok, K, f, a, r, q⟩ := x
  obtain ⟨hT, hD, hG, hP, hSep⟩ := h
  simp only at hT hD hG hP hSep ⊢
  obtain ⟨w1, hw1⟩ : ∃ w1, w1 = w.alloc (.cells #[.int .i64 o.kind, .int .i64 o.which, .int .i64 o.r.ses, .int .i64 o.r.id, .int .i64 o.r.err, .int .i64 o.r.num, .string o.r.text, (.slice Al o.r.list.length cl), (.slice Ad o.r.data.length cd), (.slice AL nL cL)] 33) := ⟨_, rfl⟩
  obtain ⟨b, hb⟩ : ∃ b, b = w.heap.size := ⟨_, rfl⟩
  have hk1 : Keeps Non w w1 := by rw [hw1]; exact (Keeps.refl _ _).alloc _
  have hX1 : Blk w1 b 33 #[.int .i64 o.kind, .int .i64 o.which, .int .i64 o.r.ses, .int .i64 o.r.id, .int .i64 o.r.err, .int .i64 o.r.num, .string o.r.text, (.slice Al o.r.list.length cl), (.slice Ad o.r.data.length cd), (.slice AL nL cL)] := by rw [hw1, hb]; exact Blk.new _ _ _
  have hbw : w.heap.size ≤ b := by omega
  have hT1 := (hT.non hk1).tight
  have hD1 := hD.non hk1
  have hP1 := hP.non hk1
  have HPK := Lib.hid (pick_pk o.kind 6 w1 (by omega) (by omega) hi)
  rw [ht] at HPK
  have hz1 := hk1.size
  have HG := Lib.hid hG
  have h01 := h0.trans hk1
  have HLE := Lib.hid (lent_any o.r _ _ w1 (hrd.1.non h01) hrd.2)
  have HRD := Lib.hid hrd
  have HPE := Lib.hid (fun wc wd ok' K' f' a' r' N => @pair_end w B g ok K f a r w0 w1 wc wd gp q ok' K' f' a' r' N hB0 h0 hk1 hT hD hP hSep)
  have b0 : w1.cell? ⟨b, 0, none⟩ = some (.int .i64 o.kind) := hX1.cell 0
  have b2 : w1.cell? ⟨b, 2, none⟩ = some (.int .i64 o.r.ses) := hX1.cell 2
  have b3 : w1.cell? ⟨b, 3, none⟩ = some (.int .i64 o.r.id) := hX1.cell 3
  have b4 : w1.cell? ⟨b, 4, none⟩ = some (.int .i64 o.r.err) := hX1.cell 4
  have b5 : w1.cell? ⟨b, 5, none⟩ = some (.int .i64 o.r.num) := hX1.cell 5
  have b6 : w1.cell? ⟨b, 6, none⟩ = some (.string o.r.text) := hX1.cell 6
  have b7 : w1.cell? ⟨b, 7, none⟩ = some (.slice Al o.r.list.length cl) := hX1.cell 7
  have b8 : w1.cell? ⟨b, 8, none⟩ = some (.slice Ad o.r.data.length cd) := hX1.cell 8
  have hlk := hT1.lowk
  have hSep1 : Sep w1 q ok := hSep.non (hD.same hk1 id)
  clear hT hD hG hP ht h0 hrd hSep
  go_enter Try.func16, Try.ntmps16
  go_upto_region 1 with fail
  rw [← hw1, ← hb]
  clear hw1 hb
  go_upto_region 9 with (go_at_call 8; go_must (refine HPK.out.mono ?_); rintro e w2 ⟨rfl, hw2⟩; subst w2)
  go_wp2_with fail
  refine HLE.out.mono ?_
  rintro e w2 ⟨l2, d2, rfl, hr2, hK2⟩
  obtain ⟨Al2, cl2, Ad2, cd2, el, ed, -⟩ := id hr2.rd
  subst el ed
  obtain ⟨x3, hx3⟩ : ∃ x, x = w2.alloc (.cells #[.int .i64 o.r.ses, .int .i64 o.r.id, .int .i64 o.r.err, .int .i64 o.r.num, .string o.r.text, (.slice Al2 o.r.list.length cl2), (.slice Ad2 o.r.data.length cd2)] 31) := ⟨_, rfl⟩
  obtain ⟨e3, he3⟩ : ∃ e, e = w2.heap.size := ⟨_, rfl⟩
  have hka : Keeps Non w2 x3 := by rw [hx3]; exact (Keeps.refl _ _).alloc _
  have hE3 : Blk x3 e3 31 #[.int .i64 o.r.ses, .int .i64 o.r.id, .int .i64 o.r.err, .int .i64 o.r.num, .string o.r.text, (.slice Al2 o.r.list.length cl2), (.slice Ad2 o.r.data.length cd2)] := by rw [hx3, he3]; exact Blk.new _ _ _
  have hk13 := hK2.trans hka
  have hT3 := hT1.non hk13
  have hX3 := hX1.non hk13
  have hP3 := hP1.non hk13
  have hr3 := hr2.non hka
  have hee : ∀ gk, ok = some gk → gk ≠ e3 := fun gk e => by have := hT1.low gk e; have := hK2.size; omega
  go_upto_region 10 with fail
  rw [← hx3, ← he3]
  have he31 : w1.heap.size ≤ e3 := by have := hK2.size; omega
  clear hx3 he3 hka hK2 hr2 b0 b2 b3 b4 b5 b6 b7 b8 HLE HPK
  have c0 : x3.cell? ⟨gp, 0, none⟩ = some (.pointer (some ⟨g, 0, none⟩)) := hP3.cell 0
  have y0 : x3.cell? ⟨e3, 0, none⟩ = some (.int .i64 o.r.ses) := hE3.cell 0
  have y1 : x3.cell? ⟨e3, 1, none⟩ = some (.int .i64 o.r.id) := hE3.cell 1
  have y2 : x3.cell? ⟨e3, 2, none⟩ = some (.int .i64 o.r.err) := hE3.cell 2
  have y3 : x3.cell? ⟨e3, 3, none⟩ = some (.int .i64 o.r.num) := hE3.cell 3
  have y4 : x3.cell? ⟨e3, 4, none⟩ = some (.string o.r.text) := hE3.cell 4
  have y5 : x3.cell? ⟨e3, 5, none⟩ = some (.slice Al2 o.r.list.length cl2) := hE3.cell 5
  have y6 : x3.cell? ⟨e3, 6, none⟩ = some (.slice Ad2 o.r.data.length cd2) := hE3.cell 6
  have hd3 : Keeps Non x3 x3.drew := (Keeps.refl _ _).drew
  have hz3 := hk13.size
  obtain ⟨dg, keptg, hbg, -⟩ := hT3.blk
  have HKp := Lib.hid (keep_any o.r _ _ x3.drew (hT3.non hd3) (by simp; omega) (fun w' hk => ((hr3.non hd3).keep hk (Blk.apart hbg.drew (hr3.non hd3).1 (by decide)) (Blk.apart hbg.drew (hr3.non hd3).2 (by decide))).rd) HRD.out.2)
  go_still_tail 5, (by kernel_rfl)
  go_wp2_with fail
  refine HKp.out.mono ?_
  rintro e w4 ⟨c4, K4, ok4, f4, r4, rfl, hv4, hT4, hE4, hK4⟩
  have hTd3 := hT3.non hd3
  have hE4b : Blk w4 e3 31 #[.int .i64 o.r.ses, .int .i64 o.r.id, .int .i64 o.r.err, .int .i64 o.r.num, .string o.r.text, (.slice Al2 o.r.list.length cl2), (.slice Ad2 o.r.data.length cd2)] := hE3.drew.keep hK4 fun e => by
    rcases e with e | e
    · exact hE3.ne hbg (by decide) e
    · exact hee _ e rfl
  have hr4 := (hr3.non hd3).tabk hTd3 hK4
  have hP4 := Blk.tabk (hP3.non hd3) hTd3 hK4 (by decide) (by decide)
  have hX4 := Blk.tabk (hX3.non hd3) hTd3 hK4 (by decide) (by decide)
  have hSep3 : Sep x3.drew q ok := (hSep1.non (hD1.same hk13 id)).non ((hD1.non hk13).same hd3 id)
  have hD4 := ((hD1.non hk13).non hd3).tab hTd3 hSep3 hK4
  have hr3low := fun k hs => hr3.low (k := k) hs
  have hk14 : Keeps (fun k => k = g ∨ ok = some k) w1 w4 := (hk13.of_non.drew).trans hK4
  have hE4' := hE4.down (w := w1) (by simp; omega)
  have HV4 := Lib.hid hv4
  have HE4 := Lib.hid hE4'
  have z0 : w4.cell? ⟨e3, 0, none⟩ = some (.int .i64 o.r.ses) := hE4b.cell 0
  have z1 : w4.cell? ⟨e3, 1, none⟩ = some (.int .i64 o.r.id) := hE4b.cell 1
  have z2 : w4.cell? ⟨e3, 2, none⟩ = some (.int .i64 o.r.err) := hE4b.cell 2
  have z3 : w4.cell? ⟨e3, 3, none⟩ = some (.int .i64 o.r.num) := hE4b.cell 3
  have z4 : w4.cell? ⟨e3, 4, none⟩ = some (.string o.r.text) := hE4b.cell 4
  have z5 : w4.cell? ⟨e3, 5, none⟩ = some (.slice Al2 o.r.list.length cl2) := hE4b.cell 5
  have z6 : w4.cell? ⟨e3, 6, none⟩ = some (.slice Ad2 o.r.data.length cd2) := hE4b.cell 6
  have HSp := Lib.hid (spoil_any o.r.ses o.r.id o.r.err o.r.num o.r.text _ _ w4 hr4.wr.1 hr4.wr.2)
  clear c0 y0 y1 y2 y3 y4 y5 y6 HKp hT3 hX3 hP3 hr3 hE3 hbg hTd3 hK4 hE4 hE4' hv4 hE4b hSep3 hd3 hk13 hX1 hP1
  go_upto_region 12 with (go_at_call 27; go_must (refine HSp.out.mono ?_); rintro e w5 ⟨rfl, -, hK5⟩)
  have hT5 : Tab w5 B (fun k => k < w1.heap.size ∨ x3.drew.heap.size ≤ k) g ok4 K4 f4 a r4 := by
    refine hT4.keep hK5 (fun hs => ?_) (fun gk hok hs => ?_) fun k _ hs => .inl (by have h1 := (hr4.low hs).1; have h2 := (hr3low k hs).2; simp; omega)
    · obtain ⟨t, cs, hb, ht⟩ := hT4.typed (.inl rfl)
      rcases ht with rfl | rfl <;> rcases hr4.typed hs _ cs hb with e | e <;> exact absurd e (by decide)
    · obtain ⟨t, cs, hb, ht⟩ := hT4.typed (.inr hok)
      rcases ht with rfl | rfl <;> rcases hr4.typed hs _ cs hb with e | e <;> exact absurd e (by decide)
  have hD5 := hD4.spoilt hr4 hK5
  have hP5 := Blk.spoilt hP4 hr4 hK5 (by decide) (by decide)
  have hX5 := Blk.spoilt hX4 hr4 hK5 (by decide) (by decide)
  have hk15 : Keeps (fun k => k = g ∨ ok = some k) w1 w5 := hk14.then hK5 fun i hi e => by have := (hr4.low e).1; omega
  have hz5 := hk15.size
  clear z0 z1 z2 z3 z4 z5 z6 HSp hT4 hD4 hP4 hX4 hk14 hr4 hr3low hK5
  have c1 : w5.cell? ⟨gp, 1, none⟩ = some (.pointer (some ⟨q, 0, none⟩)) := hP5.cell 1
  have b2 : w5.cell? ⟨b, 2, none⟩ = some (.int .i64 o.r.ses) := hX5.cell 2
  have b3 : w5.cell? ⟨b, 3, none⟩ = some (.int .i64 o.r.id) := hX5.cell 3
  have b4 : w5.cell? ⟨b, 4, none⟩ = some (.int .i64 o.r.err) := hX5.cell 4
  have b5 : w5.cell? ⟨b, 5, none⟩ = some (.int .i64 o.r.num) := hX5.cell 5
  have b6 : w5.cell? ⟨b, 6, none⟩ = some (.string o.r.text) := hX5.cell 6
  have b7 : w5.cell? ⟨b, 7, none⟩ = some (.slice Al o.r.list.length cl) := hX5.cell 7
  have b8 : w5.cell? ⟨b, 8, none⟩ = some (.slice Ad o.r.data.length cd) := hX5.cell 8
  have HRK := Lib.hid (refkeep_any w0 o.r _ _ w5.drew (hD5.non (Keeps.refl _ _).drew) HG.out (by simp; omega) HRD.out)
  go_still_tail 6, (by kernel_rfl)
  go_wp2_with fail
  refine HRK.out.mono ?_
  rintro e w6 ⟨c6, K6, f6, r6, rfl, hv6, ⟨hD6, hV6⟩, hK6⟩
  obtain ⟨rfl, rfl, rfl, rfl⟩ := HV4.out.det2 hv6
  have hK56 : Keeps (Only q) w5 w6 := (Keeps.refl (Only q) w5).drew.trans hK6
  have hT6 := (hT5.doc hD5 hK56)
  have hF := HPE.out w5 w6 ok4 _ _ _ _ w6.heap.size (HV4.out.good HG.out) hk15 HE4.out hD6 hV6 hK56 hT6.tight hT5.low (by have := hK56.size; omega)
  have FIN := Lib.hid (And.intro (hT6.mono (A' := fun _ => True) fun _ _ => trivial) hF)
  clear hT6 hF hK56 hD6 hV6 hv6 hK6 HRK hT5 hD5 hP5 hX5 c1 b2 b3 b4 b5 b6 b7 b8 hk15
  go_wp2_with fail
  go_ret
  exact ⟨⟨g, ok4, _, _, _, _, q⟩, rfl, rfl, rfl, ⟨FIN.out.1, FIN.out.2.1, HV4.out.good HG.out, FIN.out.2.2.1, FIN.out.2.2.2.1⟩, FIN.out.2.2.2.2.2.1, FIN.out.2.2.2.2.1, FIN.out.2.2.2.2.2.2.1⟩
end Go.Proofs.Ytmlffigfhhoihac
