/- Keep: a new reply. -/
import Derived.Test.YtmlffigfhhoihacS7
namespace Go.Proofs.Ytmlffigfhhoihac
open Go.RowKit Go.Uc

set_option maxRecDepth 100000 in
set_option maxHeartbeats 4000000 in
theorem keep_ok {B g : Nat} {ok : Option Nat} {A : Nat → Prop} {K : Nat → Rp} {f a r : Int} (sn : Nat) (p : Rp) (l d : Value) (w : World) (h : Tab w B A g ok K f a r) (hB : B ≤ w.heap.size) (hse : p.ses = sn) (hs : isB sn p.id = true) (hs8 : sn ≤ 8) (hlt : (K sn).id < p.id) (hrd : ∀ w', Keeps (Only g) w w' → RdR w' l d p) (hpb : RpB p) :
    Calls Try.prog 10 #[.pointer (some ⟨g, 0, none⟩), .agg #[.int .i64 p.ses, .int .i64 p.id, .int .i64 p.err, .int .i64 p.num, .string p.text, l, d]] w (KeepP B A g ok K f a r p w) := by
  have HSE := Lib.hid hse
  have HLT := Lib.hid hlt
  have hlt' : ¬ p.id ≤ (K sn).id := by omega
  rw [hse]
  obtain ⟨w1, hw1⟩ : ∃ w1, w1 = w.alloc (.cells #[.int .i64 sn, .int .i64 p.id, .int .i64 p.err, .int .i64 p.num, .string p.text, l, d] 31) := ⟨_, rfl⟩
  obtain ⟨q, hq⟩ : ∃ q, q = w.heap.size := ⟨_, rfl⟩
  have hk1 : Keeps Non w w1 := by rw [hw1]; exact (Keeps.refl _ _).alloc _
  have hQ1 : Blk w1 q 31 #[.int .i64 sn, .int .i64 p.id, .int .i64 p.err, .int .i64 p.num, .string p.text, l, d] := by rw [hw1, hq]; exact Blk.new _ _ _
  have h1 := h.non hk1
  have q0 : w1.cell? ⟨q, 0, none⟩ = some (.int .i64 sn) := hQ1.cell 0
  have q1 : w1.cell? ⟨q, 1, none⟩ = some (.int .i64 p.id) := hQ1.cell 1
  have HIS := Lib.hid (fun W => is_any sn p.id W)
  have HS := Lib.hid hs
  have hz1 := hk1.size
  have hlow := h.low
  have hg1 := h1.box hQ1
  have HP := Lib.hid (places_any w1.drew (h1.non (Keeps.refl _ _).drew) (by simp; omega))
  have hi0 : (0 : Int) ≤ (sn : Int) := by omega
  have hi9 : (sn : Int) < 9 := by omega
  obtain ⟨Al, cl, Ad, cd, rfl, rfl, -⟩ := hrd w (Keeps.refl _ _)
  have HRD := Lib.hid hrd
  clear hs hse hlt hrd
  go_enter Try.func10, Try.ntmps10
  go_wp2_with fail
  rw [← hw1, ← hq]
  have hqw : w.heap.size ≤ q := by omega
  clear hw1 hq
  refine (HIS.out _).mono ?_
  rw [HS.out]
  rintro e w2 ⟨rfl, hw2⟩
  subst w2
  go_wp2_with fail
  go_region_with (first | (go_at_call 19; go_must (refine HP.out.mono ?_); rintro e w3 ⟨gk, rfl, hT3, hE3, hK3⟩; obtain ⟨cur, hcb, hcz, hcv⟩ := hT3.row; obtain ⟨l3, d3, -, e1, -⟩ := hcv sn (by omega); have c1 : w3.cell? ⟨gk, sn * 7 + 1, none⟩ = some (.int .i64 (K sn).id) := (by rw [hcb.cell]; exact e1); have q0' : w3.cell? ⟨q, 0, none⟩ = some (.int .i64 sn) := hK3.cell q0 hg1; have q1' : w3.cell? ⟨q, 1, none⟩ = some (.int .i64 p.id) := hK3.cell q1 hg1))
  all_goals
    have t3 : w3.cell? ⟨g, 3, none⟩ = some (.slice (some ⟨gk, 0, none⟩) 9 9) := hT3.tb.cell 3
    have hQ3 := hQ1.drew.one hK3 hg1
    have HK3 := Lib.hid (hk1.of_non.drew.trans hK3)
    have hgq : gk ≠ q := by
      rcases hE3 with e | ⟨-, gk', e, e2⟩
      · have := hlow gk e.symm; omega
      · injection e with e; subst e; have := hQ1.lt; simp at e2; omega
    have hgkg : gk ≠ g := hcb.ne hT3.tb (by decide)
    have HE3 := Lib.hid hE3
    have ho := own_any p _ _ w3.drew (HRD.out w3.drew HK3.out.drew) hpb
    rw [HSE.out] at ho
    have HO := Lib.hid ho
    clear ho
    have HT3 := Lib.hid hT3
    have z0 : w3.cell? ⟨q, 0, none⟩ = some (.int .i64 sn) := hQ3.cell 0
    have z1 : w3.cell? ⟨q, 1, none⟩ = some (.int .i64 p.id) := hQ3.cell 1
    have z2 : w3.cell? ⟨q, 2, none⟩ = some (.int .i64 p.err) := hQ3.cell 2
    have z3 : w3.cell? ⟨q, 3, none⟩ = some (.int .i64 p.num) := hQ3.cell 3
    have z4 : w3.cell? ⟨q, 4, none⟩ = some (.string p.text) := hQ3.cell 4
    have z5 : w3.cell? ⟨q, 5, none⟩ = some (.slice Al p.list.length cl) := hQ3.cell 5
    have z6 : w3.cell? ⟨q, 6, none⟩ = some (.slice Ad p.data.length cd) := hQ3.cell 6
    clear q0 q1 c1 hcv e1 hT3 hE3 hK3
    have FS3 : Hid (w3.drew.cell? ⟨g, 3, none⟩ = some (.slice (some ⟨gk, 0, none⟩) 9 9) ∧ w3.drew.cell? ⟨q, 0, none⟩ = some (.int .i64 sn) ∧ w3.drew.cell? ⟨q, 1, none⟩ = some (.int .i64 p.id) ∧ w3.drew.cell? ⟨q, 2, none⟩ = some (.int .i64 p.err) ∧ w3.drew.cell? ⟨q, 3, none⟩ = some (.int .i64 p.num) ∧ w3.drew.cell? ⟨q, 4, none⟩ = some (.string p.text) ∧ w3.drew.cell? ⟨q, 5, none⟩ = some (.slice Al p.list.length cl) ∧ w3.drew.cell? ⟨q, 6, none⟩ = some (.slice Ad p.data.length cd)) := ⟨t3, z0, z1, z2, z3, z4, z5, z6⟩
    go_wp2_with fail
    go_region_held3 (fun w' : World => w'.cell? ⟨g, 3, none⟩ = some (.slice (some ⟨gk, 0, none⟩) 9 9) ∧ w'.cell? ⟨q, 0, none⟩ = some (.int .i64 sn) ∧ w'.cell? ⟨q, 1, none⟩ = some (.int .i64 p.id) ∧ w'.cell? ⟨q, 2, none⟩ = some (.int .i64 p.err) ∧ w'.cell? ⟨q, 3, none⟩ = some (.int .i64 p.num) ∧ w'.cell? ⟨q, 4, none⟩ = some (.string p.text) ∧ w'.cell? ⟨q, 5, none⟩ = some (.slice Al p.list.length cl) ∧ w'.cell? ⟨q, 6, none⟩ = some (.slice Ad p.data.length cd))
      (with_reducible (first | exact FS3.out | exact FS5.out | exact FS7.out))
      (first | (go_at_call 21; go_must (refine HO.out.mono ?_); rintro e w5 ⟨l', d', rfl, hRo, hK5⟩; go_must (have FS5 : Hid (w5.cell? ⟨g, 3, none⟩ = some (.slice (some ⟨gk, 0, none⟩) 9 9) ∧ w5.cell? ⟨q, 0, none⟩ = some (.int .i64 sn) ∧ w5.cell? ⟨q, 1, none⟩ = some (.int .i64 p.id) ∧ w5.cell? ⟨q, 2, none⟩ = some (.int .i64 p.err) ∧ w5.cell? ⟨q, 3, none⟩ = some (.int .i64 p.num) ∧ w5.cell? ⟨q, 4, none⟩ = some (.string p.text) ∧ w5.cell? ⟨q, 5, none⟩ = some (.slice Al p.list.length cl) ∧ w5.cell? ⟨q, 6, none⟩ = some (.slice Ad p.data.length cd)) := ⟨hK5.cell (p := ⟨g, 3, none⟩) t3 id, hK5.cell (p := ⟨q, 0, none⟩) z0 id, hK5.cell (p := ⟨q, 1, none⟩) z1 id, hK5.cell (p := ⟨q, 2, none⟩) z2 id, hK5.cell (p := ⟨q, 3, none⟩) z3 id, hK5.cell (p := ⟨q, 4, none⟩) z4 id, hK5.cell (p := ⟨q, 5, none⟩) z5 id, hK5.cell (p := ⟨q, 6, none⟩) z6 id⟩); go_must (obtain ⟨Al', cl', Ad', cd', el, ed, -⟩ := hRo.rd; subst el ed; have hcb5 := hcb.drew.non hK5; obtain ⟨⟨va0, sa0⟩, fa0, ⟨va1, sa1⟩, fa1, ⟨va2, sa2⟩, fa2, ⟨va3, sa3⟩, fa3, ⟨va4, sa4⟩, fa4, ⟨va5, sa5⟩, fa5, ⟨va6, sa6⟩, fa6, hBa, hKa⟩ := store_seven hcb5 (sn * 7) (by omega) (.int .i64 sn) (.int .i64 p.id) (.int .i64 p.err) (.int .i64 p.num) (.string p.text) (.slice Al' p.list.length cl') (.slice Ad' p.data.length cd'); have FS7 : Hid ((((((((w5.setCell ⟨gk, sn * 7, none⟩ (.int .i64 sn)).setCell ⟨gk, sn * 7 + 1, none⟩ (.int .i64 p.id)).setCell ⟨gk, sn * 7 + 2, none⟩ (.int .i64 p.err)).setCell ⟨gk, sn * 7 + 3, none⟩ (.int .i64 p.num)).setCell ⟨gk, sn * 7 + 4, none⟩ (.string p.text)).setCell ⟨gk, sn * 7 + 5, none⟩ (.slice Al' p.list.length cl')).setCell ⟨gk, sn * 7 + 6, none⟩ (.slice Ad' p.data.length cd')).cell? ⟨g, 3, none⟩ = some (.slice (some ⟨gk, 0, none⟩) 9 9) ∧ (((((((w5.setCell ⟨gk, sn * 7, none⟩ (.int .i64 sn)).setCell ⟨gk, sn * 7 + 1, none⟩ (.int .i64 p.id)).setCell ⟨gk, sn * 7 + 2, none⟩ (.int .i64 p.err)).setCell ⟨gk, sn * 7 + 3, none⟩ (.int .i64 p.num)).setCell ⟨gk, sn * 7 + 4, none⟩ (.string p.text)).setCell ⟨gk, sn * 7 + 5, none⟩ (.slice Al' p.list.length cl')).setCell ⟨gk, sn * 7 + 6, none⟩ (.slice Ad' p.data.length cd')).cell? ⟨q, 0, none⟩ = some (.int .i64 sn) ∧ (((((((w5.setCell ⟨gk, sn * 7, none⟩ (.int .i64 sn)).setCell ⟨gk, sn * 7 + 1, none⟩ (.int .i64 p.id)).setCell ⟨gk, sn * 7 + 2, none⟩ (.int .i64 p.err)).setCell ⟨gk, sn * 7 + 3, none⟩ (.int .i64 p.num)).setCell ⟨gk, sn * 7 + 4, none⟩ (.string p.text)).setCell ⟨gk, sn * 7 + 5, none⟩ (.slice Al' p.list.length cl')).setCell ⟨gk, sn * 7 + 6, none⟩ (.slice Ad' p.data.length cd')).cell? ⟨q, 1, none⟩ = some (.int .i64 p.id) ∧ (((((((w5.setCell ⟨gk, sn * 7, none⟩ (.int .i64 sn)).setCell ⟨gk, sn * 7 + 1, none⟩ (.int .i64 p.id)).setCell ⟨gk, sn * 7 + 2, none⟩ (.int .i64 p.err)).setCell ⟨gk, sn * 7 + 3, none⟩ (.int .i64 p.num)).setCell ⟨gk, sn * 7 + 4, none⟩ (.string p.text)).setCell ⟨gk, sn * 7 + 5, none⟩ (.slice Al' p.list.length cl')).setCell ⟨gk, sn * 7 + 6, none⟩ (.slice Ad' p.data.length cd')).cell? ⟨q, 2, none⟩ = some (.int .i64 p.err) ∧ (((((((w5.setCell ⟨gk, sn * 7, none⟩ (.int .i64 sn)).setCell ⟨gk, sn * 7 + 1, none⟩ (.int .i64 p.id)).setCell ⟨gk, sn * 7 + 2, none⟩ (.int .i64 p.err)).setCell ⟨gk, sn * 7 + 3, none⟩ (.int .i64 p.num)).setCell ⟨gk, sn * 7 + 4, none⟩ (.string p.text)).setCell ⟨gk, sn * 7 + 5, none⟩ (.slice Al' p.list.length cl')).setCell ⟨gk, sn * 7 + 6, none⟩ (.slice Ad' p.data.length cd')).cell? ⟨q, 3, none⟩ = some (.int .i64 p.num) ∧ (((((((w5.setCell ⟨gk, sn * 7, none⟩ (.int .i64 sn)).setCell ⟨gk, sn * 7 + 1, none⟩ (.int .i64 p.id)).setCell ⟨gk, sn * 7 + 2, none⟩ (.int .i64 p.err)).setCell ⟨gk, sn * 7 + 3, none⟩ (.int .i64 p.num)).setCell ⟨gk, sn * 7 + 4, none⟩ (.string p.text)).setCell ⟨gk, sn * 7 + 5, none⟩ (.slice Al' p.list.length cl')).setCell ⟨gk, sn * 7 + 6, none⟩ (.slice Ad' p.data.length cd')).cell? ⟨q, 4, none⟩ = some (.string p.text) ∧ (((((((w5.setCell ⟨gk, sn * 7, none⟩ (.int .i64 sn)).setCell ⟨gk, sn * 7 + 1, none⟩ (.int .i64 p.id)).setCell ⟨gk, sn * 7 + 2, none⟩ (.int .i64 p.err)).setCell ⟨gk, sn * 7 + 3, none⟩ (.int .i64 p.num)).setCell ⟨gk, sn * 7 + 4, none⟩ (.string p.text)).setCell ⟨gk, sn * 7 + 5, none⟩ (.slice Al' p.list.length cl')).setCell ⟨gk, sn * 7 + 6, none⟩ (.slice Ad' p.data.length cd')).cell? ⟨q, 5, none⟩ = some (.slice Al p.list.length cl) ∧ (((((((w5.setCell ⟨gk, sn * 7, none⟩ (.int .i64 sn)).setCell ⟨gk, sn * 7 + 1, none⟩ (.int .i64 p.id)).setCell ⟨gk, sn * 7 + 2, none⟩ (.int .i64 p.err)).setCell ⟨gk, sn * 7 + 3, none⟩ (.int .i64 p.num)).setCell ⟨gk, sn * 7 + 4, none⟩ (.string p.text)).setCell ⟨gk, sn * 7 + 5, none⟩ (.slice Al' p.list.length cl')).setCell ⟨gk, sn * 7 + 6, none⟩ (.slice Ad' p.data.length cd')).cell? ⟨q, 6, none⟩ = some (.slice Ad p.data.length cd)) := ⟨hKa.cell FS5.out.1 (fun e => hgkg e.symm), hKa.cell FS5.out.2.1 (fun e => hgq e.symm), hKa.cell FS5.out.2.2.1 (fun e => hgq e.symm), hKa.cell FS5.out.2.2.2.1 (fun e => hgq e.symm), hKa.cell FS5.out.2.2.2.2.1 (fun e => hgq e.symm), hKa.cell FS5.out.2.2.2.2.2.1 (fun e => hgq e.symm), hKa.cell FS5.out.2.2.2.2.2.2.1 (fun e => hgq e.symm), hKa.cell FS5.out.2.2.2.2.2.2.2 (fun e => hgq e.symm)⟩; have HBa := Lib.hid hBa; have HKa := Lib.hid hKa; clear hBa hKa)))
    obtain ⟨w7, hw7⟩ : ∃ w7, w7 = (((((((w5.setCell ⟨gk, sn * 7, none⟩ (.int .i64 sn)).setCell ⟨gk, sn * 7 + 1, none⟩ (.int .i64 p.id)).setCell ⟨gk, sn * 7 + 2, none⟩ (.int .i64 p.err)).setCell ⟨gk, sn * 7 + 3, none⟩ (.int .i64 p.num)).setCell ⟨gk, sn * 7 + 4, none⟩ (.string p.text)).setCell ⟨gk, sn * 7 + 5, none⟩ (.slice Al' p.list.length cl')).setCell ⟨gk, sn * 7 + 6, none⟩ (.slice Ad' p.data.length cd')) := ⟨_, rfl⟩
    have hT7 : TabD w7 B (fun k => A k ∨ w.heap.size ≤ k) g gk (upd K sn p) f a r := by
      have hd3 : Keeps Non w3 w5 := ((Keeps.refl Non w3).drew).trans hK5
      have hzz := HK3.out.size
      rw [hw7]
      exact (HT3.out.non hd3).put hcb5 HKa.out (by rw [HSE.out]; exact HBa.out) (by omega) (hRo.mono (Nat.zero_le _)) hpb (fun k hk => .inl hk) (fun k hk => .inr (by have := (World.ownsRow.lt hRo.1 k hk).1; simp at this; omega)) (fun k hk => .inr (by have := (World.ownsRow.lt hRo.2 k hk).1; simp at this; omega))
    have hk7 : Keeps (Only gk) w5 w7 := by rw [hw7]; exact HKa.out
    have HK7 := Lib.hid (HK3.out.drew.trans hK5.of_non |> fun h => And.intro h hk7)
    have HA := Lib.hid (add_fresh hT7.tab)
    rw [← hw7]
    clear hw7 FS3 FS5 FS7 HBa HKa hcb5 hcb hRo hK5 hk7 hT7 HO HT3 HRD z0 z1 z2 z3 z4 z5 z6 t3 hQ1 hQ3 h1
    clear sa0 fa0 sa1 fa1 sa2 fa2 sa3 fa3 sa4 fa4 sa5 fa5 sa6 fa6
    go_wp2_with fail
    refine HA.out.mono ?_
    rintro e w8 ⟨v8, rfl, h8, hK8⟩
    have F8 := Lib.hid h8
    have FK8 := Lib.hid hK8
    clear h8 hK8 HA
    go_wp2_with fail
    go_ret
    have hcnv : p.ses.toNat = sn := by rw [HSE.out]; simp
    refine ⟨_, upd K sn p, some gk, wrap64 (f + 1), r, rfl, ?_, F8.out, ?_, ?_⟩
    · have := @KeepV.ok K p f r (by rw [HSE.out]; exact HS.out) (by rw [hcnv]; exact HLT.out)
      rw [hcnv] at this
      exact this
    · rcases HE3.out with e | ⟨e, gk', e2, e3⟩
      · exact .inl e
      · exact .inr ⟨e, gk', e2, by simp at e3; omega⟩
    · have hkg : w.heap.size ≤ gk ∨ ok = some gk := by
        rcases HE3.out with e | ⟨e, gk', e2, e3⟩
        · exact .inr e.symm
        · injection e2 with e2; subst e2; simp at e3; exact .inl (by omega)
      refine ((HK7.out.1.mono (T := fun k => k = g ∨ ok = some k) fun k e => .inl e).then HK7.out.2 fun i hi e => ?_).trans (FK8.out.mono fun k e => .inl e)
      unfold Only at e
      subst e
      rcases hkg with h | h
      · omega
      · exact .inr h


theorem keep_any {B g : Nat} {ok : Option Nat} {A : Nat → Prop} {K : Nat → Rp} {f a r : Int} (p : Rp) (l d : Value) (w : World) (h : Tab w B A g ok K f a r) (hB : B ≤ w.heap.size) (hrd : ∀ w', Keeps (Only g) w w' → RdR w' l d p) (hpb : RpB p) :
    Calls Try.prog 10 #[.pointer (some ⟨g, 0, none⟩), .agg #[.int .i64 p.ses, .int .i64 p.id, .int .i64 p.err, .int .i64 p.num, .string p.text, l, d]] w (KeepP B A g ok K f a r p w) := by
  cases hs : isB p.ses p.id with
  | false => exact keep_bad p l d w h hs
  | true =>
    have hb := isB_of hs
    obtain ⟨sn, hsn⟩ := Int.eq_ofNat_of_zero_le (show 0 ≤ p.ses by omega)
    by_cases hl : (K sn).id < p.id
    · exact keep_ok sn p l d w h hB hsn (by rw [← hsn]; exact hs) (by omega) hl hrd hpb
    · exact keep_stale sn p l d w h hB hsn (by rw [← hsn]; exact hs) (by omega) (by omega)
end Go.Proofs.Ytmlffigfhhoihac
