/- Look upon a pair. -/
import Derived.Test.YtmlffigfhhoihacS25
namespace Go.Proofs.Ytmlffigfhhoihac
open Go.RowKit Go.Uc

/-- What the program's Look has told, laid into a box. -/
def GotX (w1 : World) (B g : Nat) (ok : Option Nat) (K : Nat → Rp) (f a r s i : Int) (s5 s6 s7 : Value) (wc : World) : Prop :=
  ∃ e l d ok2, s5 = .pointer (some ⟨e, 0, none⟩) ∧ s6 = .bool (lookB K s i) ∧ s7 = .int .i64 (lookC K s i) ∧ w1.heap.size ≤ e ∧ Blk wc e 31 #[.int .i64 (lookP K s i).ses, .int .i64 (lookP K s i).id, .int .i64 (lookP K s i).err, .int .i64 (lookP K s i).num, .string (lookP K s i).text, l, d] ∧ RpO wc w1.heap.size l d (lookP K s i) ∧ RpB (lookP K s i) ∧
    Tab wc B (fun k => k < w1.heap.size) g ok2 K f (lookA K s i a) (lookR K s i r) ∧ Ext w1 ok ok2 ∧ Keeps (Only g) w1 wc
/-- What the document's Look has told, laid into a box. -/
def GotY (w0 w1 : World) (B q : Nat) (K : Nat → Rp) (f a r s i : Int) (s5 s6 s7 : Value) (wc : World) : Prop :=
  ∃ e l d, s5 = .pointer (some ⟨e, 0, none⟩) ∧ s6 = .bool (lookB K s i) ∧ s7 = .int .i64 (lookC K s i) ∧ w1.heap.size ≤ e ∧ Blk wc e 31 #[.int .i64 (lookP K s i).ses, .int .i64 (lookP K s i).id, .int .i64 (lookP K s i).err, .int .i64 (lookP K s i).num, .string (lookP K s i).text, l, d] ∧ RdE w0 l d (lookP K s i) ∧
    Doc w0 wc B q K f (lookA K s i a) (lookR K s i r) ∧ VNew w1 wc q ∧ Keeps (Only q) w1 wc

set_option maxRecDepth 100000 in
set_option maxHeartbeats 8000000 in
theorem does_look (w0 : World) {B gp : Nat} {x : PD} (o : Opn) (Al : Option Addr) (cl : Nat) (Ad : Option Addr) (cd : Nat) (AL : Option Addr) (nL cL : Nat) (w : World) (h : PairAt w0 w B gp x) (h0 : Keeps Non w0 w) (hB0 : w0.heap.size ≤ B) (hB : B ≤ w.heap.size) (hi : I64 o.kind) (ht : pk o.kind 6 = 0) :
    Calls Try.prog 16 #[.pointer (some ⟨gp, 0, none⟩), .agg #[.int .i64 o.kind, .int .i64 o.which, .int .i64 o.r.ses, .int .i64 o.r.id, .int .i64 o.r.err, .int .i64 o.r.num, .string o.r.text, (.slice Al o.r.list.length cl), (.slice Ad o.r.data.length cd), (.slice AL nL cL)]] w (DoneP w0 B gp x w) := by
  unfold DoneP
  obtain ⟨g, ok, K, f, a, r, q⟩ := x
  obtain ⟨hT, hD, hG, hP, hSep⟩ := h
  simp only at hT hD hG hP hSep ⊢
  obtain ⟨w1, hw1⟩ : ∃ w1, w1 = w.alloc (.cells #[.int .i64 o.kind, .int .i64 o.which, .int .i64 o.r.ses, .int .i64 o.r.id, .int .i64 o.r.err, .int .i64 o.r.num, .string o.r.text, (.slice Al o.r.list.length cl), (.slice Ad o.r.data.length cd), (.slice AL nL cL)] 33) := ⟨_, rfl⟩
  obtain ⟨b, hb⟩ : ∃ b, b = w.heap.size := ⟨_, rfl⟩
  have hk1 : Keeps Non w w1 := by rw [hw1]; exact (Keeps.refl _ _).alloc _
  have hX1 : Blk w1 b 33 #[.int .i64 o.kind, .int .i64 o.which, .int .i64 o.r.ses, .int .i64 o.r.id, .int .i64 o.r.err, .int .i64 o.r.num, .string o.r.text, (.slice Al o.r.list.length cl), (.slice Ad o.r.data.length cd), (.slice AL nL cL)] := by rw [hw1, hb]; exact Blk.new _ _ _
  have hbw : w.heap.size ≤ b := by omega
  have hT1 := (hT.non hk1).tight
  have hD1 := hD.non hk1
  have hD0 := hD
  have hP1 := hP.non hk1
  have HPK := Lib.hid (pick_pk o.kind 6 w1 (by omega) (by omega) hi)
  rw [ht] at HPK
  have b0 : w1.cell? ⟨b, 0, none⟩ = some (.int .i64 o.kind) := hX1.cell 0
  have hz1 := hk1.size
  have HLO := Lib.hid (fun W (hk : Keeps Non w1 W) => look_any o.r.ses o.r.id W (hT1.non hk) (by have := hk.size; omega))
  have HG := Lib.hid hG
  have H0 := Lib.hid (h0.trans hk1)
  have hlow1 := hT1.low
  have FS1 : Hid (w1.drew.cell? ⟨gp, 0, none⟩ = some (.pointer (some ⟨g, 0, none⟩)) ∧ w1.drew.cell? ⟨b, 2, none⟩ = some (.int .i64 o.r.ses) ∧ w1.drew.cell? ⟨b, 3, none⟩ = some (.int .i64 o.r.id)) := ⟨hP1.cell 0, hX1.cell 2, hX1.cell 3⟩
  have hbg : b ≠ g ∧ gp ≠ g := by
    obtain ⟨d, kept, hbb, -⟩ := hT1.blk
    exact ⟨hX1.ne hbb (by decide), hP1.ne hbb (by decide)⟩
  have hbq : b ≠ q ∧ gp ≠ q := ⟨hD1.ne hX1 (by decide), hD1.ne hP1 (by decide)⟩
  have hgl : g < w1.heap.size := hT1.lt
  have HPE := Lib.hid (fun wc wd ok' K' f' a' r' => @pair_end w B g ok K f a r w0 w1 wc wd gp q ok' K' f' a' r' w1.heap.size hB0 h0 hk1 hT hD hP hSep)
  clear hT hD hG hP ht h0
  go_enter Try.func16, Try.ntmps16
  go_upto_region 1 with fail
  rw [← hw1, ← hb]
  clear hw1 hb
  go_upto_region 2 with fail
  refine HPK.out.mono ?_
  rintro e w2 ⟨rfl, hw2⟩
  subst w2
  go_upto_region 3 with fail
  clear b0 HPK
  have hP0 := (hP1.alloc (.cells #[.int .i64 0, .int .i64 0, .int .i64 0, .int .i64 0, .string { data := #[] }, .slice none 0 0, .slice none 0 0] 31)).drew
  have hX0 := (hX1.alloc (.cells #[.int .i64 0, .int .i64 0, .int .i64 0, .int .i64 0, .string { data := #[] }, .slice none 0 0, .slice none 0 0] 31)).drew
  have FS0 : Hid ((w1.alloc (.cells #[.int .i64 0, .int .i64 0, .int .i64 0, .int .i64 0, .string { data := #[] }, .slice none 0 0, .slice none 0 0] 31)).drew.cell? ⟨gp, 0, none⟩ = some (.pointer (some ⟨g, 0, none⟩)) ∧ (w1.alloc (.cells #[.int .i64 0, .int .i64 0, .int .i64 0, .int .i64 0, .string { data := #[] }, .slice none 0 0, .slice none 0 0] 31)).drew.cell? ⟨b, 2, none⟩ = some (.int .i64 o.r.ses) ∧ (w1.alloc (.cells #[.int .i64 0, .int .i64 0, .int .i64 0, .int .i64 0, .string { data := #[] }, .slice none 0 0, .slice none 0 0] 31)).drew.cell? ⟨b, 3, none⟩ = some (.int .i64 o.r.id)) := ⟨hP0.cell 0, hX0.cell 2, hX0.cell 3⟩
  clear hP0 hX0
  have HLOa := Lib.hid (HLO.out w1.drew (Keeps.refl Non w1).drew)
  have HLOb := Lib.hid (HLO.out (w1.alloc (.cells #[.int .i64 0, .int .i64 0, .int .i64 0, .int .i64 0, .string { data := #[] }, .slice none 0 0, .slice none 0 0] 31)).drew ((Keeps.refl Non w1).alloc (.cells #[.int .i64 0, .int .i64 0, .int .i64 0, .int .i64 0, .string { data := #[] }, .slice none 0 0, .slice none 0 0] 31)).drew)
  go_cut [5, 6, 7] from 28 to 42 (fun s5 s6 s7 wc => GotX w1 B g ok K f a r o.r.ses o.r.id s5 s6 s7 wc)
  case first =>
    go_region_held3 (fun w' : World => w'.cell? ⟨gp, 0, none⟩ = some (.pointer (some ⟨g, 0, none⟩)) ∧ w'.cell? ⟨b, 2, none⟩ = some (.int .i64 o.r.ses) ∧ w'.cell? ⟨b, 3, none⟩ = some (.int .i64 o.r.id))
      (with_reducible (first | exact FS1.out | exact FS0.out | exact FS2.out | exact FS3.out | exact FS4.out))
      (first
        | (go_at_call 9; refine HLOa.out.mono ?_; rintro e w2 ⟨v1, v2, v3, ok2, a2, r2, rfl, hv, hT2, hE2, hK2⟩; go_must (obtain ⟨hca, hcr⟩ := hv.cnt; subst hca hcr; obtain ⟨l2, d2, rfl, rfl, rfl, hr2, hb2⟩ := hv.det hT1.fine; obtain ⟨p, hp⟩ : ∃ p, p = lookP K o.r.ses o.r.id := ⟨_, rfl⟩; rw [← hp] at hr2 hb2 ⊢; obtain ⟨Bl, bl, Bd, bd, el, ed, -⟩ := hr2.rd; subst el ed; have hP2 := hP1.drew.one hK2 hbg.2; have hX2 := hX1.drew.one hK2 hbg.1; have FS2 : Hid (w2.cell? ⟨gp, 0, none⟩ = some (.pointer (some ⟨g, 0, none⟩)) ∧ w2.cell? ⟨b, 2, none⟩ = some (.int .i64 o.r.ses) ∧ w2.cell? ⟨b, 3, none⟩ = some (.int .i64 o.r.id)) := ⟨hP2.cell 0, hX2.cell 2, hX2.cell 3⟩; have hP4 := hP2.alloc (.cells #[.int .i64 p.ses, .int .i64 p.id, .int .i64 p.err, .int .i64 p.num, .string p.text, (.slice Bl p.list.length bl), (.slice Bd p.data.length bd)] 31); have hX4 := hX2.alloc (.cells #[.int .i64 p.ses, .int .i64 p.id, .int .i64 p.err, .int .i64 p.num, .string p.text, (.slice Bl p.list.length bl), (.slice Bd p.data.length bd)] 31); have FS4 : Hid ((w2.alloc (.cells #[.int .i64 p.ses, .int .i64 p.id, .int .i64 p.err, .int .i64 p.num, .string p.text, (.slice Bl p.list.length bl), (.slice Bd p.data.length bd)] 31)).cell? ⟨gp, 0, none⟩ = some (.pointer (some ⟨g, 0, none⟩)) ∧ (w2.alloc (.cells #[.int .i64 p.ses, .int .i64 p.id, .int .i64 p.err, .int .i64 p.num, .string p.text, (.slice Bl p.list.length bl), (.slice Bd p.data.length bd)] 31)).cell? ⟨b, 2, none⟩ = some (.int .i64 o.r.ses) ∧ (w2.alloc (.cells #[.int .i64 p.ses, .int .i64 p.id, .int .i64 p.err, .int .i64 p.num, .string p.text, (.slice Bl p.list.length bl), (.slice Bd p.data.length bd)] 31)).cell? ⟨b, 3, none⟩ = some (.int .i64 o.r.id)) := ⟨hP4.cell 0, hX4.cell 2, hX4.cell 3⟩; have hP3 := hP2.alloc (.cells #[.int .i64 0, .int .i64 0, .int .i64 0, .int .i64 0, .string { data := #[] }, .slice none 0 0, .slice none 0 0] 31); have hX3 := hX2.alloc (.cells #[.int .i64 0, .int .i64 0, .int .i64 0, .int .i64 0, .string { data := #[] }, .slice none 0 0, .slice none 0 0] 31); have FS3 : Hid ((w2.alloc (.cells #[.int .i64 0, .int .i64 0, .int .i64 0, .int .i64 0, .string { data := #[] }, .slice none 0 0, .slice none 0 0] 31)).cell? ⟨gp, 0, none⟩ = some (.pointer (some ⟨g, 0, none⟩)) ∧ (w2.alloc (.cells #[.int .i64 0, .int .i64 0, .int .i64 0, .int .i64 0, .string { data := #[] }, .slice none 0 0, .slice none 0 0] 31)).cell? ⟨b, 2, none⟩ = some (.int .i64 o.r.ses) ∧ (w2.alloc (.cells #[.int .i64 0, .int .i64 0, .int .i64 0, .int .i64 0, .string { data := #[] }, .slice none 0 0, .slice none 0 0] 31)).cell? ⟨b, 3, none⟩ = some (.int .i64 o.r.id)) := ⟨hP3.cell 0, hX3.cell 2, hX3.cell 3⟩; have hka := (Keeps.refl Non w2).alloc (.cells #[.int .i64 p.ses, .int .i64 p.id, .int .i64 p.err, .int .i64 p.num, .string p.text, (.slice Bl p.list.length bl), (.slice Bd p.data.length bd)] 31); have FR := Lib.hid (show GotX w1 B g ok K f a r o.r.ses o.r.id (.pointer (some ⟨w2.heap.size, 0, none⟩)) _ _ _ from ⟨w2.heap.size, _, _, ok2, rfl, rfl, rfl, hK2.size, (by rw [← hp]; exact Blk.new _ _ _), (by rw [← hp]; exact hr2.non hka), (by rw [← hp]; exact hb2), hT2.non hka, hE2, ((Keeps.refl (Only g) w1).drew.trans hK2).non hka⟩); have HPE := Lib.hid hp; clear hp))
        | (go_at_call 9; refine HLOb.out.mono ?_; rintro e w2 ⟨v1, v2, v3, ok2, a2, r2, rfl, hv, hT2, hE2, hK2⟩; go_must (obtain ⟨hca, hcr⟩ := hv.cnt; subst hca hcr; obtain ⟨l2, d2, rfl, rfl, rfl, hr2, hb2⟩ := hv.det hT1.fine; obtain ⟨p, hp⟩ : ∃ p, p = lookP K o.r.ses o.r.id := ⟨_, rfl⟩; rw [← hp] at hr2 hb2 ⊢; obtain ⟨Bl, bl, Bd, bd, el, ed, -⟩ := hr2.rd; subst el ed; have hka := (Keeps.refl Non w1).alloc (.cells #[.int .i64 0, .int .i64 0, .int .i64 0, .int .i64 0, .string { data := #[] }, .slice none 0 0, .slice none 0 0] 31); have hP2 := (hP1.non hka.drew).one hK2 hbg.2; have hX2 := (hX1.non hka.drew).one hK2 hbg.1; have hE0 : Blk (w1.alloc (.cells #[.int .i64 0, .int .i64 0, .int .i64 0, .int .i64 0, .string { data := #[] }, .slice none 0 0, .slice none 0 0] 31)).drew w1.heap.size 31 zeroRep.toArray := Blk.new w1 31 zeroRep.toArray; have hne : w1.heap.size ≠ g := (by omega); have hQ2 := hE0.one hK2 hne; have FS2 : Hid (w2.cell? ⟨gp, 0, none⟩ = some (.pointer (some ⟨g, 0, none⟩)) ∧ w2.cell? ⟨b, 2, none⟩ = some (.int .i64 o.r.ses) ∧ w2.cell? ⟨b, 3, none⟩ = some (.int .i64 o.r.id)) := ⟨hP2.cell 0, hX2.cell 2, hX2.cell 3⟩; obtain ⟨⟨va0, sa0⟩, fa0, ⟨va1, sa1⟩, fa1, ⟨va2, sa2⟩, fa2, ⟨va3, sa3⟩, fa3, ⟨va4, sa4⟩, fa4, ⟨va5, sa5⟩, fa5, ⟨va6, sa6⟩, fa6, hBa, hKa⟩ := store_seven hQ2 (0) (by decide) (.int .i64 p.ses) (.int .i64 p.id) (.int .i64 p.err) (.int .i64 p.num) (.string p.text) (.slice Bl p.list.length bl) (.slice Bd p.data.length bd); simp only [Nat.zero_add] at sa0 fa0 sa1 fa1 sa2 fa2 sa3 fa3 sa4 fa4 sa5 fa5 sa6 fa6 hBa hKa; rw [set7_zero] at hBa; have hP4 := hP2.one hKa (by have := hP1.lt; omega); have hX4 := hX2.one hKa (by have := hX1.lt; omega); have FS4 : Hid ((((((((w2.setCell ⟨w1.heap.size, 0, none⟩ (.int .i64 p.ses)).setCell ⟨w1.heap.size, 1, none⟩ (.int .i64 p.id)).setCell ⟨w1.heap.size, 2, none⟩ (.int .i64 p.err)).setCell ⟨w1.heap.size, 3, none⟩ (.int .i64 p.num)).setCell ⟨w1.heap.size, 4, none⟩ (.string p.text)).setCell ⟨w1.heap.size, 5, none⟩ (.slice Bl p.list.length bl)).setCell ⟨w1.heap.size, 6, none⟩ (.slice Bd p.data.length bd)).cell? ⟨gp, 0, none⟩ = some (.pointer (some ⟨g, 0, none⟩)) ∧ (((((((w2.setCell ⟨w1.heap.size, 0, none⟩ (.int .i64 p.ses)).setCell ⟨w1.heap.size, 1, none⟩ (.int .i64 p.id)).setCell ⟨w1.heap.size, 2, none⟩ (.int .i64 p.err)).setCell ⟨w1.heap.size, 3, none⟩ (.int .i64 p.num)).setCell ⟨w1.heap.size, 4, none⟩ (.string p.text)).setCell ⟨w1.heap.size, 5, none⟩ (.slice Bl p.list.length bl)).setCell ⟨w1.heap.size, 6, none⟩ (.slice Bd p.data.length bd)).cell? ⟨b, 2, none⟩ = some (.int .i64 o.r.ses) ∧ (((((((w2.setCell ⟨w1.heap.size, 0, none⟩ (.int .i64 p.ses)).setCell ⟨w1.heap.size, 1, none⟩ (.int .i64 p.id)).setCell ⟨w1.heap.size, 2, none⟩ (.int .i64 p.err)).setCell ⟨w1.heap.size, 3, none⟩ (.int .i64 p.num)).setCell ⟨w1.heap.size, 4, none⟩ (.string p.text)).setCell ⟨w1.heap.size, 5, none⟩ (.slice Bl p.list.length bl)).setCell ⟨w1.heap.size, 6, none⟩ (.slice Bd p.data.length bd)).cell? ⟨b, 3, none⟩ = some (.int .i64 o.r.id)) := ⟨hP4.cell 0, hX4.cell 2, hX4.cell 3⟩; have hzz := hK2.size; have FR := Lib.hid (show GotX w1 B g ok K f a r o.r.ses o.r.id (.pointer (some ⟨w1.heap.size, 0, none⟩)) _ _ _ from ⟨w1.heap.size, _, _, ok2, rfl, rfl, rfl, Nat.le_refl _, (by rw [← hp]; exact hBa), (by rw [← hp]; exact (hr2.mono (B' := w1.heap.size) (by simp)).keep hKa (Blk.apart hQ2 hr2.1 (by decide)) (Blk.apart hQ2 hr2.2 (by decide))), (by rw [← hp]; exact hb2), hT2.boxed hQ2 (hE2.ne hE0.lt fun gk e => by have := hlow1 gk e; omega) hKa, (by rcases hE2 with e | ⟨e, gk', e2, e3⟩; exact .inl e; exact .inr ⟨e, gk', e2, by simp at e3; omega⟩), (hka.of_non.drew.trans hK2).then hKa (fun i hi e => by unfold Only at e; omega)⟩); have HPE := Lib.hid hp; clear hp)))
    all_goals
      go_wp2_with fail
      go_meet
      case rel => exact FR.out
  case rest =>
    obtain ⟨wx, rfl⟩ : ∃ W : World, W = wc := ⟨_, rfl⟩
    clear HLOa HLOb FS0 FS1 HLO
    obtain ⟨e5, l5, d5, ok5, rfl, rfl, rfl, he5, hB5, hr5, hb5, hT5, hE5, hK5⟩ := hcut
    have hSep1 : Sep w1 q ok := hSep.non (hD0.same hk1 id)
    have hD5 := hD1.tab hT1 hSep1 (hK5.mono fun k e => .inl e)
    have hP5 := hP1.one hK5 hbg.2
    have hX5 := hX1.one hK5 hbg.1
    have HRL := Lib.hid (fun W (hk : Keeps Non wx W) => reflook_any w0 o.r.ses o.r.id W (hD5.non hk) HG.out)
    have HRLa := Lib.hid (HRL.out wx.drew (Keeps.refl Non wx).drew)
    have HRLb := Lib.hid (HRL.out (wx.alloc (.cells #[.int .i64 0, .int .i64 0, .int .i64 0, .int .i64 0, .string { data := #[] }, .slice none 0 0, .slice none 0 0] 31)).drew ((Keeps.refl Non wx).alloc (.cells #[.int .i64 0, .int .i64 0, .int .i64 0, .int .i64 0, .string { data := #[] }, .slice none 0 0, .slice none 0 0] 31)).drew)
    have FS1 : Hid (wx.drew.cell? ⟨gp, 1, none⟩ = some (.pointer (some ⟨q, 0, none⟩)) ∧ wx.drew.cell? ⟨b, 2, none⟩ = some (.int .i64 o.r.ses) ∧ wx.drew.cell? ⟨b, 3, none⟩ = some (.int .i64 o.r.id)) := ⟨hP5.cell 1, hX5.cell 2, hX5.cell 3⟩
    have hP0 := (hP5.alloc (.cells #[.int .i64 0, .int .i64 0, .int .i64 0, .int .i64 0, .string { data := #[] }, .slice none 0 0, .slice none 0 0] 31)).drew
    have hX0 := (hX5.alloc (.cells #[.int .i64 0, .int .i64 0, .int .i64 0, .int .i64 0, .string { data := #[] }, .slice none 0 0, .slice none 0 0] 31)).drew
    have FS0 : Hid ((wx.alloc (.cells #[.int .i64 0, .int .i64 0, .int .i64 0, .int .i64 0, .string { data := #[] }, .slice none 0 0, .slice none 0 0] 31)).drew.cell? ⟨gp, 1, none⟩ = some (.pointer (some ⟨q, 0, none⟩)) ∧ (wx.alloc (.cells #[.int .i64 0, .int .i64 0, .int .i64 0, .int .i64 0, .string { data := #[] }, .slice none 0 0, .slice none 0 0] 31)).drew.cell? ⟨b, 2, none⟩ = some (.int .i64 o.r.ses) ∧ (wx.alloc (.cells #[.int .i64 0, .int .i64 0, .int .i64 0, .int .i64 0, .string { data := #[] }, .slice none 0 0, .slice none 0 0] 31)).drew.cell? ⟨b, 3, none⟩ = some (.int .i64 o.r.id)) := ⟨hP0.cell 1, hX0.cell 2, hX0.cell 3⟩
    clear hP0 hX0
    go_upto_region 4 with fail
    go_cut [8, 9, 10] from 43 to 57 (fun s5 s6 s7 wc => GotY w0 wx B q K f a r o.r.ses o.r.id s5 s6 s7 wc)
    case first =>
      go_region_held3 (fun w' : World => w'.cell? ⟨gp, 1, none⟩ = some (.pointer (some ⟨q, 0, none⟩)) ∧ w'.cell? ⟨b, 2, none⟩ = some (.int .i64 o.r.ses) ∧ w'.cell? ⟨b, 3, none⟩ = some (.int .i64 o.r.id))
        (with_reducible (first | exact FS1.out | exact FS0.out | exact FS2.out | exact FS3.out | exact FS4.out))
        (first
          | (go_at_call 29; refine HRLa.out.mono ?_; rintro e w2 ⟨l2, d2, rfl, hr2, hDV2, hK2⟩; go_must (obtain ⟨p, hp⟩ : ∃ p, p = lookP K o.r.ses o.r.id := ⟨_, rfl⟩; rw [← hp] at hr2 ⊢; obtain ⟨Bl, bl, Bd, bd, el, ed, -⟩ := id hr2.1; subst el ed; have hP2 := hP5.drew.one hK2 hbq.2; have hX2 := hX5.drew.one hK2 hbq.1; have FS2 : Hid (w2.cell? ⟨gp, 1, none⟩ = some (.pointer (some ⟨q, 0, none⟩)) ∧ w2.cell? ⟨b, 2, none⟩ = some (.int .i64 o.r.ses) ∧ w2.cell? ⟨b, 3, none⟩ = some (.int .i64 o.r.id)) := ⟨hP2.cell 1, hX2.cell 2, hX2.cell 3⟩; have hP4 := hP2.alloc (.cells #[.int .i64 p.ses, .int .i64 p.id, .int .i64 p.err, .int .i64 p.num, .string p.text, (.slice Bl p.list.length bl), (.slice Bd p.data.length bd)] 31); have hX4 := hX2.alloc (.cells #[.int .i64 p.ses, .int .i64 p.id, .int .i64 p.err, .int .i64 p.num, .string p.text, (.slice Bl p.list.length bl), (.slice Bd p.data.length bd)] 31); have FS4 : Hid ((w2.alloc (.cells #[.int .i64 p.ses, .int .i64 p.id, .int .i64 p.err, .int .i64 p.num, .string p.text, (.slice Bl p.list.length bl), (.slice Bd p.data.length bd)] 31)).cell? ⟨gp, 1, none⟩ = some (.pointer (some ⟨q, 0, none⟩)) ∧ (w2.alloc (.cells #[.int .i64 p.ses, .int .i64 p.id, .int .i64 p.err, .int .i64 p.num, .string p.text, (.slice Bl p.list.length bl), (.slice Bd p.data.length bd)] 31)).cell? ⟨b, 2, none⟩ = some (.int .i64 o.r.ses) ∧ (w2.alloc (.cells #[.int .i64 p.ses, .int .i64 p.id, .int .i64 p.err, .int .i64 p.num, .string p.text, (.slice Bl p.list.length bl), (.slice Bd p.data.length bd)] 31)).cell? ⟨b, 3, none⟩ = some (.int .i64 o.r.id)) := ⟨hP4.cell 1, hX4.cell 2, hX4.cell 3⟩; have hP3 := hP2.alloc (.cells #[.int .i64 0, .int .i64 0, .int .i64 0, .int .i64 0, .string { data := #[] }, .slice none 0 0, .slice none 0 0] 31); have hX3 := hX2.alloc (.cells #[.int .i64 0, .int .i64 0, .int .i64 0, .int .i64 0, .string { data := #[] }, .slice none 0 0, .slice none 0 0] 31); have FS3 : Hid ((w2.alloc (.cells #[.int .i64 0, .int .i64 0, .int .i64 0, .int .i64 0, .string { data := #[] }, .slice none 0 0, .slice none 0 0] 31)).cell? ⟨gp, 1, none⟩ = some (.pointer (some ⟨q, 0, none⟩)) ∧ (w2.alloc (.cells #[.int .i64 0, .int .i64 0, .int .i64 0, .int .i64 0, .string { data := #[] }, .slice none 0 0, .slice none 0 0] 31)).cell? ⟨b, 2, none⟩ = some (.int .i64 o.r.ses) ∧ (w2.alloc (.cells #[.int .i64 0, .int .i64 0, .int .i64 0, .int .i64 0, .string { data := #[] }, .slice none 0 0, .slice none 0 0] 31)).cell? ⟨b, 3, none⟩ = some (.int .i64 o.r.id)) := ⟨hP3.cell 1, hX3.cell 2, hX3.cell 3⟩; have hka := (Keeps.refl Non w2).alloc (.cells #[.int .i64 p.ses, .int .i64 p.id, .int .i64 p.err, .int .i64 p.num, .string p.text, (.slice Bl p.list.length bl), (.slice Bd p.data.length bd)] 31); have FR := Lib.hid (show GotY w0 wx B q K f a r o.r.ses o.r.id (.pointer (some ⟨w2.heap.size, 0, none⟩)) _ _ _ from ⟨w2.heap.size, _, _, rfl, rfl, rfl, hK2.size, (by rw [← hp]; exact Blk.new _ _ _), (by rw [← hp]; exact hr2), hDV2.1.non hka, VNew.trans (w2 := w2) hDV2.2 (VNew.same (hDV2.1.same hka id)) hK2.size, ((Keeps.refl (Only q) wx).drew.trans hK2).non hka⟩); have HPE := Lib.hid hp; clear hp))
          | (go_at_call 29; refine HRLb.out.mono ?_; rintro e w2 ⟨l2, d2, rfl, hr2, hDV2, hK2⟩; go_must (obtain ⟨p, hp⟩ : ∃ p, p = lookP K o.r.ses o.r.id := ⟨_, rfl⟩; rw [← hp] at hr2 ⊢; obtain ⟨Bl, bl, Bd, bd, el, ed, -⟩ := id hr2.1; subst el ed; have hka := (Keeps.refl Non wx).alloc (.cells #[.int .i64 0, .int .i64 0, .int .i64 0, .int .i64 0, .string { data := #[] }, .slice none 0 0, .slice none 0 0] 31); have hP2 := (hP5.non hka.drew).one hK2 hbq.2; have hX2 := (hX5.non hka.drew).one hK2 hbq.1; have hE0 : Blk (wx.alloc (.cells #[.int .i64 0, .int .i64 0, .int .i64 0, .int .i64 0, .string { data := #[] }, .slice none 0 0, .slice none 0 0] 31)).drew wx.heap.size 31 zeroRep.toArray := Blk.new wx 31 zeroRep.toArray; have hne : wx.heap.size ≠ q := (by have := hD5.lt; omega); have hQ2 := hE0.one hK2 hne; have FS2 : Hid (w2.cell? ⟨gp, 1, none⟩ = some (.pointer (some ⟨q, 0, none⟩)) ∧ w2.cell? ⟨b, 2, none⟩ = some (.int .i64 o.r.ses) ∧ w2.cell? ⟨b, 3, none⟩ = some (.int .i64 o.r.id)) := ⟨hP2.cell 1, hX2.cell 2, hX2.cell 3⟩; obtain ⟨⟨va0, sa0⟩, fa0, ⟨va1, sa1⟩, fa1, ⟨va2, sa2⟩, fa2, ⟨va3, sa3⟩, fa3, ⟨va4, sa4⟩, fa4, ⟨va5, sa5⟩, fa5, ⟨va6, sa6⟩, fa6, hBa, hKa⟩ := store_seven hQ2 (0) (by decide) (.int .i64 p.ses) (.int .i64 p.id) (.int .i64 p.err) (.int .i64 p.num) (.string p.text) (.slice Bl p.list.length bl) (.slice Bd p.data.length bd); simp only [Nat.zero_add] at sa0 fa0 sa1 fa1 sa2 fa2 sa3 fa3 sa4 fa4 sa5 fa5 sa6 fa6 hBa hKa; rw [set7_zero] at hBa; have hP4 := hP2.one hKa (by have := hP5.lt; omega); have hX4 := hX2.one hKa (by have := hX5.lt; omega); have FS4 : Hid ((((((((w2.setCell ⟨wx.heap.size, 0, none⟩ (.int .i64 p.ses)).setCell ⟨wx.heap.size, 1, none⟩ (.int .i64 p.id)).setCell ⟨wx.heap.size, 2, none⟩ (.int .i64 p.err)).setCell ⟨wx.heap.size, 3, none⟩ (.int .i64 p.num)).setCell ⟨wx.heap.size, 4, none⟩ (.string p.text)).setCell ⟨wx.heap.size, 5, none⟩ (.slice Bl p.list.length bl)).setCell ⟨wx.heap.size, 6, none⟩ (.slice Bd p.data.length bd)).cell? ⟨gp, 1, none⟩ = some (.pointer (some ⟨q, 0, none⟩)) ∧ (((((((w2.setCell ⟨wx.heap.size, 0, none⟩ (.int .i64 p.ses)).setCell ⟨wx.heap.size, 1, none⟩ (.int .i64 p.id)).setCell ⟨wx.heap.size, 2, none⟩ (.int .i64 p.err)).setCell ⟨wx.heap.size, 3, none⟩ (.int .i64 p.num)).setCell ⟨wx.heap.size, 4, none⟩ (.string p.text)).setCell ⟨wx.heap.size, 5, none⟩ (.slice Bl p.list.length bl)).setCell ⟨wx.heap.size, 6, none⟩ (.slice Bd p.data.length bd)).cell? ⟨b, 2, none⟩ = some (.int .i64 o.r.ses) ∧ (((((((w2.setCell ⟨wx.heap.size, 0, none⟩ (.int .i64 p.ses)).setCell ⟨wx.heap.size, 1, none⟩ (.int .i64 p.id)).setCell ⟨wx.heap.size, 2, none⟩ (.int .i64 p.err)).setCell ⟨wx.heap.size, 3, none⟩ (.int .i64 p.num)).setCell ⟨wx.heap.size, 4, none⟩ (.string p.text)).setCell ⟨wx.heap.size, 5, none⟩ (.slice Bl p.list.length bl)).setCell ⟨wx.heap.size, 6, none⟩ (.slice Bd p.data.length bd)).cell? ⟨b, 3, none⟩ = some (.int .i64 o.r.id)) := ⟨hP4.cell 1, hX4.cell 2, hX4.cell 3⟩; have hzz := hK2.size; have FR := Lib.hid (show GotY w0 wx B q K f a r o.r.ses o.r.id (.pointer (some ⟨wx.heap.size, 0, none⟩)) _ _ _ from ⟨wx.heap.size, _, _, rfl, rfl, rfl, Nat.le_refl _, (by rw [← hp]; exact hBa), (by rw [← hp]; exact hr2), hDV2.1.boxl hD5 hDV2.2 (hD5.same hka.drew id) (Nat.le_refl _) (by simp) hKa hne, VNew.trans (VNew.trans (VNew.same (hD5.same hka.drew id)) hDV2.2 hka.drew.size) (VNew.same (hDV2.1.same hKa fun e => hne e.symm)) (Nat.le_trans hka.drew.size hzz), (hka.of_non.drew.trans hK2).then hKa (fun i hi e => by unfold Only at e; omega)⟩); have HPE := Lib.hid hp; clear hp)))
      all_goals
        go_wp2_with fail
        go_meet
        case rel => exact FR.out
    case rest =>
      clear FS0 FS1 HRL HRLa HRLb
      obtain ⟨e8, l8, d8, rfl, rfl, rfl, he8, hB8, hr8, hD8, hV8, hK8⟩ := hcut
      obtain ⟨p, hp⟩ : ∃ p, p = lookP K o.r.ses o.r.id := ⟨_, rfl⟩
      rw [← hp] at hB5 hr5 hb5 hB8 hr8
      clear hp
      obtain ⟨Al5, cl5, Ad5, cd5, el, ed, -⟩ := id hr5.rd
      subst el ed
      obtain ⟨Al8, cl8, Ad8, cd8, el, ed, -⟩ := id hr8.1
      subst el ed
      obtain ⟨vq, hqB, hbq5, -⟩ := id hD5
      have hB5d := hB5.one hK8 (hB5.ne hbq5 (by decide))
      have hr5d := hr5.keep hK8 (Blk.apart hbq5 hr5.1 (by decide)) (Blk.apart hbq5 hr5.2 (by decide))
      have hT5d := hT5.doc hD5 hK8
      have HF := Lib.hid (HPE.out wx wc ok5 K f _ _ HG.out (hK5.mono fun k e => .inl e) hE5 hD8 hV8 hK8 hT5d hT5.low (Nat.le_refl _))
      have HSm := Lib.hid (same_any p _ _ _ _ wc hr5d.rd (hr8.1.non HF.out.2.2.2.2.2.2) hb5)
      have x0 : wc.cell? ⟨e5, 0, none⟩ = some (.int .i64 p.ses) := hB5d.cell 0
      have x1 : wc.cell? ⟨e5, 1, none⟩ = some (.int .i64 p.id) := hB5d.cell 1
      have x2 : wc.cell? ⟨e5, 2, none⟩ = some (.int .i64 p.err) := hB5d.cell 2
      have x3 : wc.cell? ⟨e5, 3, none⟩ = some (.int .i64 p.num) := hB5d.cell 3
      have x4 : wc.cell? ⟨e5, 4, none⟩ = some (.string p.text) := hB5d.cell 4
      have x5 : wc.cell? ⟨e5, 5, none⟩ = some (.slice Al5 p.list.length cl5) := hB5d.cell 5
      have x6 : wc.cell? ⟨e5, 6, none⟩ = some (.slice Ad5 p.data.length cd5) := hB5d.cell 6
      have y0 : wc.cell? ⟨e8, 0, none⟩ = some (.int .i64 p.ses) := hB8.cell 0
      have y1 : wc.cell? ⟨e8, 1, none⟩ = some (.int .i64 p.id) := hB8.cell 1
      have y2 : wc.cell? ⟨e8, 2, none⟩ = some (.int .i64 p.err) := hB8.cell 2
      have y3 : wc.cell? ⟨e8, 3, none⟩ = some (.int .i64 p.num) := hB8.cell 3
      have y4 : wc.cell? ⟨e8, 4, none⟩ = some (.string p.text) := hB8.cell 4
      have y5 : wc.cell? ⟨e8, 5, none⟩ = some (.slice Al8 p.list.length cl8) := hB8.cell 5
      have y6 : wc.cell? ⟨e8, 6, none⟩ = some (.slice Ad8 p.data.length cd8) := hB8.cell 6
      clear hB5 hr5 hK5 hE5 hT5 hD5 hP5 hX5 hB8 hr8 hV8 hK8 hbq5 hT1 hD1 hD0 hP1 hX1 hSep hSep1 HPE H0
      go_upto_region 6 with fail
      refine HSm.out.mono ?_
      rintro e we ⟨rfl, hKe⟩
      have hB5e := hB5d.non hKe
      have hr5e := hr5d.non hKe
      have hT5e := hT5d.non hKe
      have hD8e := hD8.non hKe
      have hPe := HF.out.2.1.non hKe
      have HSp := Lib.hid (spoil_any p.ses p.id p.err p.num p.text _ _ we hr5e.wr.1 hr5e.wr.2)
      have z0 : we.cell? ⟨e5, 0, none⟩ = some (.int .i64 p.ses) := hB5e.cell 0
      have z1 : we.cell? ⟨e5, 1, none⟩ = some (.int .i64 p.id) := hB5e.cell 1
      have z2 : we.cell? ⟨e5, 2, none⟩ = some (.int .i64 p.err) := hB5e.cell 2
      have z3 : we.cell? ⟨e5, 3, none⟩ = some (.int .i64 p.num) := hB5e.cell 3
      have z4 : we.cell? ⟨e5, 4, none⟩ = some (.string p.text) := hB5e.cell 4
      have z5 : we.cell? ⟨e5, 5, none⟩ = some (.slice Al5 p.list.length cl5) := hB5e.cell 5
      have z6 : we.cell? ⟨e5, 6, none⟩ = some (.slice Ad5 p.data.length cd5) := hB5e.cell 6
      have hsame : we.cell? ⟨q, 0, none⟩ = wc.cell? ⟨q, 0, none⟩ := hD8.same hKe id
      have HKe := Lib.hid hKe
      have HSA := Lib.hid hsame
      clear hB5d hr5d hT5d hD8 hKe HSm x0 x1 x2 x3 x4 x5 x6 y0 y1 y2 y3 y4 y5 y6 hsame
      go_upto_region 7 with fail
      refine HSp.out.mono ?_
      rintro e wf ⟨rfl, -, hKf⟩
      have hTf := (hT5e.spoilt hr5e hKf).mono (A' := fun _ => True) fun _ _ => trivial
      have hDf := hD8e.spoilt hr5e hKf
      have hPf := Blk.spoilt hPe hr5e hKf (by decide) (by decide)
      have hcf : wf.cell? ⟨q, 0, none⟩ = wc.cell? ⟨q, 0, none⟩ := (hD8e.same hKf (hD8e.nospo hr5e)).trans HSA.out
      have hKF : Keeps (Foot ⟨g, ok, K, f, a, r, q⟩) w wf := (HF.out.2.2.2.2.2.1.non HKe.out).then hKf fun i hi e => by have := (hr5e.low e).1; omega
      have hzd := HF.out.2.2.2.2.2.1.size
      have FIN := Lib.hid (And.intro hTf (And.intro hDf (And.intro hPf (And.intro (HF.out.2.2.1.non hcf) (And.intro (VNew.trans HF.out.2.2.2.1 (VNew.same hcf) hzd) hKF)))))
      clear hT5e hr5e hD8e hPe hKf hTf hDf hPf hcf hKF HSp hB5e z0 z1 z2 z3 z4 z5 z6
      go_wp2_with fail
      go_ret
      exact ⟨⟨g, ok5, K, f, _, _, q⟩, rfl, rfl, rfl, ⟨FIN.out.1, FIN.out.2.1, HG.out, FIN.out.2.2.1, FIN.out.2.2.2.1⟩, HF.out.2.2.2.2.1, FIN.out.2.2.2.2.1, FIN.out.2.2.2.2.2⟩
end Go.Proofs.Ytmlffigfhhoihac
