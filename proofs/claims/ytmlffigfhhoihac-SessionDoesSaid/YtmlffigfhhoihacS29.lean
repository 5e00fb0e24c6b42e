/- Last and Counts upon a pair. -/
import Derived.Test.YtmlffigfhhoihacS25
namespace Go.Proofs.Ytmlffigfhhoihac
open Go.RowKit Go.Uc

/-- What the document's Of has told, laid into a box. -/
def GotO (w2 : World) (K : Nat → Rp) (s : Int) (s19 : Value) (wc : World) : Prop := ∃ e l d, s19 = .pointer (some ⟨e, 0, none⟩) ∧ Blk wc e 31 #[.int .i64 (ofV K s).ses, .int .i64 (ofV K s).id, .int .i64 (ofV K s).err, .int .i64 (ofV K s).num, .string (ofV K s).text, l, d] ∧ Keeps Non w2 wc

set_option maxRecDepth 100000 in
set_option maxHeartbeats 8000000 in
theorem does_ask (w0 : World) {B gp : Nat} {x : PD} (o : Opn) (Al : Option Addr) (cl : Nat) (Ad : Option Addr) (cd : Nat) (AL : Option Addr) (nL cL : Nat) (w : World) (h : PairAt w0 w B gp x) (h0 : Keeps Non w0 w) (hB0 : w0.heap.size ≤ B) (hB : B ≤ w.heap.size) (hi : I64 o.kind) (n : Nat) (hpn : pk o.kind 6 = n) (hn0 : n ≠ 0) (hn1 : n ≠ 1) (hn3 : n ≠ 3) :
    Calls Try.prog 16 #[.pointer (some ⟨gp, 0, none⟩), .agg #[.int .i64 o.kind, .int .i64 o.which, .int .i64 o.r.ses, .int .i64 o.r.id, .int .i64 o.r.err, .int .i64 o.r.num, .string o.r.text, (.slice Al o.r.list.length cl), (.slice Ad o.r.data.length cd), (.slice AL nL cL)]] w (DoneP w0 B gp x w) := by
  unfold DoneP
  obtain ⟨g, ok, K, f, a, r, q⟩ := x
  obtain ⟨hT, hD, hG, hP, hSep⟩ := h
  simp only at hT hD hG hP hSep ⊢
  obtain ⟨w1, hw1⟩ : ∃ w1, w1 = w.alloc (.cells #[.int .i64 o.kind, .int .i64 o.which, .int .i64 o.r.ses, .int .i64 o.r.id, .int .i64 o.r.err, .int .i64 o.r.num, .string o.r.text, (.slice Al o.r.list.length cl), (.slice Ad o.r.data.length cd), (.slice AL nL cL)] 33) := ⟨_, rfl⟩
  obtain ⟨b, hb⟩ : ∃ b, b = w.heap.size := ⟨_, rfl⟩
  have hk1 : Keeps Non w w1 := by rw [hw1]; exact (Keeps.refl _ _).alloc _
  have hX1 : Blk w1 b 33 #[.int .i64 o.kind, .int .i64 o.which, .int .i64 o.r.ses, .int .i64 o.r.id, .int .i64 o.r.err, .int .i64 o.r.num, .string o.r.text, (.slice Al o.r.list.length cl), (.slice Ad o.r.data.length cd), (.slice AL nL cL)] := by rw [hw1, hb]; exact Blk.new _ _ _
  have hT1 := (hT.non hk1).tight
  have hD1 := hD.non hk1
  have hP1 := hP.non hk1
  have HPK := Lib.hid (pick_pk o.kind 6 w1 (by omega) (by omega) hi)
  rw [hpn] at HPK
  have hz1 := hk1.size
  have HG := Lib.hid hG
  have HPE := Lib.hid (fun wc wd ok' K' f' a' r' N => @pair_end w B g ok K f a r w0 w1 wc wd gp q ok' K' f' a' r' N hB0 h0 hk1 hT hD hP hSep)
  have b0 : w1.cell? ⟨b, 0, none⟩ = some (.int .i64 o.kind) := hX1.cell 0
  have b2 : w1.cell? ⟨b, 2, none⟩ = some (.int .i64 o.r.ses) := hX1.cell 2
  have c0 : w1.cell? ⟨gp, 0, none⟩ = some (.pointer (some ⟨g, 0, none⟩)) := hP1.cell 0
  have hlk := hT1.lowk
  have hSep1 : Sep w1 q ok := hSep.non (hD.same hk1 id)
  have hLA := last_any o.r.ses w1.drew (hT1.non (Keeps.refl _ _).drew) (by simp; omega)
  obtain ⟨m, hm⟩ : ∃ m, m = (ofV K o.r.ses).id := ⟨_, rfl⟩
  rw [← ofV_last, ← hm] at hLA
  have HM := Lib.hid hm
  clear hm
  have HLA := Lib.hid hLA
  have hbg : b ≠ g ∧ gp ≠ g := by
    obtain ⟨d, kept, hbb, -⟩ := hT1.blk
    exact ⟨hX1.ne hbb (by decide), hP1.ne hbb (by decide)⟩
  have n0 : ((n : Int) == 0) = false := by rw [beq_eq_false_iff_ne]; omega
  have n1 : ((n : Int) == 1) = false := by rw [beq_eq_false_iff_ne]; omega
  have n3 : ((n : Int) == 3) = false := by rw [beq_eq_false_iff_ne]; omega
  clear hT hD hG hP hpn h0 hSep hLA
  go_enter Try.func16, Try.ntmps16
  go_upto_region 1 with fail
  rw [← hw1, ← hb]
  clear hw1 hb
  go_upto_region 23 with (go_at_call 8; go_must (refine HPK.out.mono ?_); rintro e w2 ⟨rfl, hw2⟩; subst w2)
  go_still_tail 7, (by kernel_rfl)
  go_wp2_with fail
  refine HLA.out.mono ?_
  rintro e w2 ⟨ok2, rfl, hT2, hE2, hK2⟩
  have hK12 : Keeps (Only g) w1 w2 := (Keeps.refl (Only g) w1).drew.trans hK2
  have hD2 := hD1.tab hT1 hSep1 (hK12.mono fun k e => .inl e)
  have hP2 := hP1.one hK12 hbg.2
  have hX2 := hX1.one hK12 hbg.1
  have HRL := Lib.hid (fun W (hk : Keeps Non w2 W) => of_any w0 o.r.ses W (hD2.non hk) HG.out)
  have HRLa := Lib.hid (HRL.out w2.drew (Keeps.refl Non w2).drew)
  have HRLb := Lib.hid (HRL.out (w2.alloc (.cells #[.int .i64 0, .int .i64 0, .int .i64 0, .int .i64 0, .string { data := #[] }, .slice none 0 0, .slice none 0 0] 31)).drew ((Keeps.refl Non w2).alloc (.cells #[.int .i64 0, .int .i64 0, .int .i64 0, .int .i64 0, .string { data := #[] }, .slice none 0 0, .slice none 0 0] 31)).drew)
  have FS1 : Hid (w2.drew.cell? ⟨gp, 1, none⟩ = some (.pointer (some ⟨q, 0, none⟩)) ∧ w2.drew.cell? ⟨b, 2, none⟩ = some (.int .i64 o.r.ses)) := ⟨hP2.cell 1, hX2.cell 2⟩
  have hP0 := (hP2.alloc (.cells #[.int .i64 0, .int .i64 0, .int .i64 0, .int .i64 0, .string { data := #[] }, .slice none 0 0, .slice none 0 0] 31)).drew
  have hX0 := (hX2.alloc (.cells #[.int .i64 0, .int .i64 0, .int .i64 0, .int .i64 0, .string { data := #[] }, .slice none 0 0, .slice none 0 0] 31)).drew
  have FS0 : Hid ((w2.alloc (.cells #[.int .i64 0, .int .i64 0, .int .i64 0, .int .i64 0, .string { data := #[] }, .slice none 0 0, .slice none 0 0] 31)).drew.cell? ⟨gp, 1, none⟩ = some (.pointer (some ⟨q, 0, none⟩)) ∧ (w2.alloc (.cells #[.int .i64 0, .int .i64 0, .int .i64 0, .int .i64 0, .string { data := #[] }, .slice none 0 0, .slice none 0 0] 31)).drew.cell? ⟨b, 2, none⟩ = some (.int .i64 o.r.ses)) := ⟨hP0.cell 1, hX0.cell 2⟩
  clear hP0 hX0 HRL HLA HPK b0 b2 c0 hK2
  go_upto_region 24 with fail
  go_cut [19] from 137 to 144 (fun s19 wd => GotO w2 K o.r.ses s19 wd)
  case first =>
    go_region_held3 (fun w' : World => w'.cell? ⟨gp, 1, none⟩ = some (.pointer (some ⟨q, 0, none⟩)) ∧ w'.cell? ⟨b, 2, none⟩ = some (.int .i64 o.r.ses))
      (with_reducible (first | exact FS1.out | exact FS0.out | exact FS2.out | exact FS3.out | exact FS4.out))
      (first
        | (go_at_call 32; refine HRLa.out.mono ?_; rintro e w3 ⟨l3, d3, rfl, hr3, hK3⟩; go_must (obtain ⟨p, hp⟩ : ∃ p, p = ofV K o.r.ses := ⟨_, rfl⟩; rw [← hp] at hr3 ⊢; obtain ⟨Bl, bl, Bd, bd, el, ed, -⟩ := id hr3.1; subst el ed; have hPa := hP2.non ((Keeps.refl Non w2).drew.trans hK3); have hXa := hX2.non ((Keeps.refl Non w2).drew.trans hK3); have FS2 : Hid (w3.cell? ⟨gp, 1, none⟩ = some (.pointer (some ⟨q, 0, none⟩)) ∧ w3.cell? ⟨b, 2, none⟩ = some (.int .i64 o.r.ses)) := ⟨hPa.cell 1, hXa.cell 2⟩; have hP4 := hPa.alloc (.cells #[.int .i64 p.ses, .int .i64 p.id, .int .i64 p.err, .int .i64 p.num, .string p.text, (.slice Bl p.list.length bl), (.slice Bd p.data.length bd)] 31); have hX4 := hXa.alloc (.cells #[.int .i64 p.ses, .int .i64 p.id, .int .i64 p.err, .int .i64 p.num, .string p.text, (.slice Bl p.list.length bl), (.slice Bd p.data.length bd)] 31); have FS4 : Hid ((w3.alloc (.cells #[.int .i64 p.ses, .int .i64 p.id, .int .i64 p.err, .int .i64 p.num, .string p.text, (.slice Bl p.list.length bl), (.slice Bd p.data.length bd)] 31)).cell? ⟨gp, 1, none⟩ = some (.pointer (some ⟨q, 0, none⟩)) ∧ (w3.alloc (.cells #[.int .i64 p.ses, .int .i64 p.id, .int .i64 p.err, .int .i64 p.num, .string p.text, (.slice Bl p.list.length bl), (.slice Bd p.data.length bd)] 31)).cell? ⟨b, 2, none⟩ = some (.int .i64 o.r.ses)) := ⟨hP4.cell 1, hX4.cell 2⟩; have hP3 := hPa.alloc (.cells #[.int .i64 0, .int .i64 0, .int .i64 0, .int .i64 0, .string { data := #[] }, .slice none 0 0, .slice none 0 0] 31); have hX3 := hXa.alloc (.cells #[.int .i64 0, .int .i64 0, .int .i64 0, .int .i64 0, .string { data := #[] }, .slice none 0 0, .slice none 0 0] 31); have FS3 : Hid ((w3.alloc (.cells #[.int .i64 0, .int .i64 0, .int .i64 0, .int .i64 0, .string { data := #[] }, .slice none 0 0, .slice none 0 0] 31)).cell? ⟨gp, 1, none⟩ = some (.pointer (some ⟨q, 0, none⟩)) ∧ (w3.alloc (.cells #[.int .i64 0, .int .i64 0, .int .i64 0, .int .i64 0, .string { data := #[] }, .slice none 0 0, .slice none 0 0] 31)).cell? ⟨b, 2, none⟩ = some (.int .i64 o.r.ses)) := ⟨hP3.cell 1, hX3.cell 2⟩; have FR := Lib.hid (show GotO w2 K o.r.ses (.pointer (some ⟨w3.heap.size, 0, none⟩)) (w3.alloc (.cells #[.int .i64 p.ses, .int .i64 p.id, .int .i64 p.err, .int .i64 p.num, .string p.text, (.slice Bl p.list.length bl), (.slice Bd p.data.length bd)] 31)) from ⟨w3.heap.size, _, _, rfl, (by rw [← hp]; exact Blk.new _ _ _), (((Keeps.refl Non w2).drew.trans hK3).alloc _)⟩); have HPE := Lib.hid hp; clear hp))
        | (go_at_call 32; refine HRLb.out.mono ?_; rintro e w3 ⟨l3, d3, rfl, hr3, hK3⟩; go_must (obtain ⟨p, hp⟩ : ∃ p, p = ofV K o.r.ses := ⟨_, rfl⟩; rw [← hp] at hr3 ⊢; obtain ⟨Bl, bl, Bd, bd, el, ed, -⟩ := id hr3.1; subst el ed; have hka := (Keeps.refl Non w2).alloc (.cells #[.int .i64 0, .int .i64 0, .int .i64 0, .int .i64 0, .string { data := #[] }, .slice none 0 0, .slice none 0 0] 31); have hPa := (hP2.non hka.drew).non hK3; have hXa := (hX2.non hka.drew).non hK3; have hE0 : Blk (w2.alloc (.cells #[.int .i64 0, .int .i64 0, .int .i64 0, .int .i64 0, .string { data := #[] }, .slice none 0 0, .slice none 0 0] 31)).drew w2.heap.size 31 zeroRep.toArray := Blk.new w2 31 zeroRep.toArray; have hQ3 := hE0.non hK3; have FS2 : Hid (w3.cell? ⟨gp, 1, none⟩ = some (.pointer (some ⟨q, 0, none⟩)) ∧ w3.cell? ⟨b, 2, none⟩ = some (.int .i64 o.r.ses)) := ⟨hPa.cell 1, hXa.cell 2⟩; obtain ⟨⟨va0, sa0⟩, fa0, ⟨va1, sa1⟩, fa1, ⟨va2, sa2⟩, fa2, ⟨va3, sa3⟩, fa3, ⟨va4, sa4⟩, fa4, ⟨va5, sa5⟩, fa5, ⟨va6, sa6⟩, fa6, hBa, hKa⟩ := store_seven hQ3 (0) (by decide) (.int .i64 p.ses) (.int .i64 p.id) (.int .i64 p.err) (.int .i64 p.num) (.string p.text) (.slice Bl p.list.length bl) (.slice Bd p.data.length bd); simp only [Nat.zero_add] at sa0 fa0 sa1 fa1 sa2 fa2 sa3 fa3 sa4 fa4 sa5 fa5 sa6 fa6 hBa hKa; rw [set7_zero] at hBa; have hP4 := hPa.one hKa (by have := hP2.lt; omega); have hX4 := hXa.one hKa (by have := hX2.lt; omega); have FS4 : Hid ((((((((w3.setCell ⟨w2.heap.size, 0, none⟩ (.int .i64 p.ses)).setCell ⟨w2.heap.size, 1, none⟩ (.int .i64 p.id)).setCell ⟨w2.heap.size, 2, none⟩ (.int .i64 p.err)).setCell ⟨w2.heap.size, 3, none⟩ (.int .i64 p.num)).setCell ⟨w2.heap.size, 4, none⟩ (.string p.text)).setCell ⟨w2.heap.size, 5, none⟩ (.slice Bl p.list.length bl)).setCell ⟨w2.heap.size, 6, none⟩ (.slice Bd p.data.length bd)).cell? ⟨gp, 1, none⟩ = some (.pointer (some ⟨q, 0, none⟩)) ∧ (((((((w3.setCell ⟨w2.heap.size, 0, none⟩ (.int .i64 p.ses)).setCell ⟨w2.heap.size, 1, none⟩ (.int .i64 p.id)).setCell ⟨w2.heap.size, 2, none⟩ (.int .i64 p.err)).setCell ⟨w2.heap.size, 3, none⟩ (.int .i64 p.num)).setCell ⟨w2.heap.size, 4, none⟩ (.string p.text)).setCell ⟨w2.heap.size, 5, none⟩ (.slice Bl p.list.length bl)).setCell ⟨w2.heap.size, 6, none⟩ (.slice Bd p.data.length bd)).cell? ⟨b, 2, none⟩ = some (.int .i64 o.r.ses)) := ⟨hP4.cell 1, hX4.cell 2⟩; have FR := Lib.hid (show GotO w2 K o.r.ses (.pointer (some ⟨w2.heap.size, 0, none⟩)) (((((((w3.setCell ⟨w2.heap.size, 0, none⟩ (.int .i64 p.ses)).setCell ⟨w2.heap.size, 1, none⟩ (.int .i64 p.id)).setCell ⟨w2.heap.size, 2, none⟩ (.int .i64 p.err)).setCell ⟨w2.heap.size, 3, none⟩ (.int .i64 p.num)).setCell ⟨w2.heap.size, 4, none⟩ (.string p.text)).setCell ⟨w2.heap.size, 5, none⟩ (.slice Bl p.list.length bl)).setCell ⟨w2.heap.size, 6, none⟩ (.slice Bd p.data.length bd)) from ⟨w2.heap.size, _, _, rfl, (by rw [← hp]; exact hBa), ((hka.drew.trans hK3).then hKa (fun i hi e => by unfold Only at e; omega))⟩); have HPE := Lib.hid hp; clear hp)))
    all_goals
      go_wp2_with fail
      go_meet
      case rel => exact FR.out
  case rest =>
    obtain ⟨wx, rfl⟩ : ∃ W : World, W = wc := ⟨_, rfl⟩
    clear FS0 FS1 HRLa HRLb
    obtain ⟨e, l, d, rfl, hB3, hK3⟩ := hcut
    have hT3 := hT2.non hK3
    have hD3 := hD2.non hK3
    have hP3 := hP2.non hK3
    have c0 : wx.cell? ⟨gp, 0, none⟩ = some (.pointer (some ⟨g, 0, none⟩)) := hP3.cell 0
    have HC := Lib.hid (counts_any wx hT3)
    go_upto_region 26 with (go_at_call 17; go_must (refine HC.out.mono ?_); rintro e w4 ⟨rfl, hK4⟩)
    have hT4 := hT3.non hK4
    have hD4 := hD3.non hK4
    have hP4 := hP3.non hK4
    have z1 : w4.cell? ⟨e, 1, none⟩ = some (.int .i64 m) := by rw [HM.out]; exact (hB3.non hK4).cell 1
    obtain ⟨d1, d2, d3, -⟩ := hD4.cells
    have c1 : w4.cell? ⟨gp, 1, none⟩ = some (.pointer (some ⟨q, 0, none⟩)) := hP4.cell 1
    have hk14 : Keeps (fun k => k = g ∨ ok = some k) w1 w4 := ((hK12.mono fun k e => .inl e).non hK3).non hK4
    have hF := HPE.out w4 w4 ok2 K f a r w1.heap.size HG.out hk14 (hE2.down (by simp)) hD4 (VNew.same rfl) (Keeps.refl _ _) hT4 hT4.low (Nat.le_refl _)
    have FIN := Lib.hid (And.intro (hT4.mono (A' := fun _ => True) fun _ _ => trivial) hF)
    clear hT2 hT3 hT4 hD2 hD3 hD4 hP2 hP3 hP4 hX2 hk14 hF hB3 hK3 hK4 HC c0
    go_wp2_with fail
    go_ret
    exact ⟨⟨g, ok2, K, f, a, r, q⟩, rfl, rfl, rfl, ⟨FIN.out.1, FIN.out.2.1, HG.out, FIN.out.2.2.1, FIN.out.2.2.2.1⟩, FIN.out.2.2.2.2.2.1, FIN.out.2.2.2.2.1, FIN.out.2.2.2.2.2.2.1⟩
end Go.Proofs.Ytmlffigfhhoihac
