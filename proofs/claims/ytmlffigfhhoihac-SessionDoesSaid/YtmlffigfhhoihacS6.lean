/- Look: the other two ways. -/
import Derived.Test.YtmlffigfhhoihacS5
namespace Go.Proofs.Ytmlffigfhhoihac
open Go.RowKit Go.Uc

theorem Ext.some {w : World} {gk : Nat} {ok : Option Nat} (h : Ext w (some gk) ok) : ok = some gk := by
  rcases h with e | ⟨e, -⟩
  · exact e
  · cases e

theorem Tab.fine {w : World} {B g : Nat} {ok : Option Nat} {A : Nat → Prop} {K : Nat → Rp} {f a r : Int} (h : Tab w B A g ok K f a r) : ∀ i, RpB (K i) := by
  rcases h with ⟨-, -, -, h⟩ | ⟨gk, -, h⟩
  · intro i; rw [h i]; simp [RpB, Rp.none]
  · exact h.fine

set_option maxRecDepth 100000 in
set_option maxHeartbeats 4000000 in
theorem look_new {B g : Nat} {ok : Option Nat} {A : Nat → Prop} {K : Nat → Rp} {f a r : Int} (sn : Nat) (i : Int) (w : World) (h : Tab w B A g ok K f a r) (hB : B ≤ w.heap.size) (hs : isB sn i = true) (hs8 : sn ≤ 8) (hlt : (K sn).id < i) :
    Calls Try.prog 9 #[.pointer (some ⟨g, 0, none⟩), .int .i64 sn, .int .i64 i] w (LookP B A g ok K f a r sn i w) := by
  obtain ⟨w1, hw1⟩ : ∃ w1, w1 = w.alloc (.cells zeroRep.toArray 31) := ⟨_, rfl⟩
  obtain ⟨q, hq⟩ : ∃ q, q = w.heap.size := ⟨_, rfl⟩
  have hk1 : Keeps Non w w1 := by rw [hw1]; exact (Keeps.refl _ _).alloc _
  have hQ1 : Blk w1 q 31 zeroRep.toArray := by rw [hw1, hq]; exact Blk.new _ _ _
  have h1 := h.non hk1
  have hz1 := hk1.size
  have hlow := h.low
  have HIS := Lib.hid (fun W => is_any sn i W)
  have HS := Lib.hid hs
  have HLT0 := Lib.hid hlt
  have hneq : (i == (K sn).id) = false := by rw [beq_eq_false_iff_ne]; omega
  clear hs
  go_enter Try.func9, Try.ntmps9
  go_wp2_with fail
  rw [show (#[.int .i64 0, .int .i64 0, .int .i64 0, .int .i64 0, .string { data := #[] }, .slice none 0 0, .slice none 0 0] : Array Value) = zeroRep.toArray from rfl, ← hw1, ← hq]
  have hqw : w.heap.size ≤ q := by omega
  clear hw1 hq
  refine (HIS.out _).mono ?_
  rw [HS.out]
  rintro e w2 ⟨rfl, rfl⟩
  have HP := Lib.hid (places_any w2 h1 (by omega))
  have hg1 := h1.box hQ1
  go_wp2_with fail
  refine HP.out.mono ?_
  rintro e w3 ⟨gk, rfl, hT3, hE3, hK3⟩
  have hQ3 := hQ1.one hK3 hg1
  have hz3 := hK3.size
  obtain ⟨cur, hcb, hcz, hcv⟩ := hT3.row
  obtain ⟨l, d, -, e1, -⟩ := hcv sn (by omega)
  have c1 : w3.cell? ⟨gk, sn * 7 + 1, none⟩ = some (.int .i64 (K sn).id) := by rw [hcb.cell]; exact e1
  have hgq : gk ≠ q := by
    rcases hE3 with e | ⟨-, gk', e, e2⟩
    · have := hlow gk e.symm; omega
    · injection e with e; subst e; have := hQ1.lt; omega
  have HP2 := Lib.hid (places_any w3 hT3.tab (by omega))
  clear hcb hcv e1 hT3 cur hcz
  go_wp2_with fail
  refine HP2.out.mono ?_
  rintro e w4 ⟨gk', rfl, hT4, hE4, hK4⟩
  obtain rfl : gk' = gk := by have := hE4.some; injection this
  have hQ4 := hQ3.one hK4 hg1
  obtain ⟨cur, hcb, hcz, hcv⟩ := hT4.row
  obtain ⟨l, d, -, e1, -⟩ := hcv sn (by omega)
  have c1' : w4.cell? ⟨gk', sn * 7 + 1, none⟩ = some (.int .i64 (K sn).id) := by rw [hcb.cell]; exact e1
  have HK4 := Lib.hid ((hk1.of_non.trans hK3).trans hK4)
  have HE3 := Lib.hid hE3
  clear c1 hcb hcv e1 cur hcz hE3 hE4 hK3 hK4 HP HP2
  obtain ⟨⟨va0, sa0⟩, fa0, ⟨va1, sa1⟩, fa1, ⟨va2, sa2⟩, fa2, ⟨va3, sa3⟩, fa3, ⟨va4, sa4⟩, fa4, ⟨va5, sa5⟩, fa5, ⟨va6, sa6⟩, fa6, hBa, hKa⟩ := store_seven hQ4 (0) (by decide) (.int .i64 0) (.int .i64 0) (.int .i64 0) (.int .i64 0) (.string { data := #[] }) (.slice none 0 0) (.slice none 0 0); simp only [Nat.zero_add] at sa0 fa0 sa1 fa1 sa2 fa2 sa3 fa3 sa4 fa4 sa5 fa5 sa6 fa6 hBa hKa
  have hq : Hid (w.heap.size ≤ q) := hqw
  rw [set7_zero] at hBa
  have FB := Lib.hid hBa
  have FK := Lib.hid hKa
  have F3 := Lib.hid hT4.tab
  clear hBa hKa hT4 hlt
  go_wp2_with fail
  refine bodyPost_ret (results_look rfl _ _ q _ rfl FB.out rfl) rfl ?_
  refine ⟨_, _, _, some gk', a, r, rfl, .new HS.out (by simpa using HLT0.out), ?_, ?_, ?_⟩
  · exact F3.out.boxed hQ4 (fun gk'' e => by injection e with e; rw [← e]; exact hgq) FK.out
  · rcases HE3.out with e | ⟨e, gk', e2, e3⟩
    · exact .inl e
    · exact .inr ⟨e, gk', e2, by omega⟩
  · exact HK4.out.then FK.out fun i hi e => by unfold Only at e; have := hq.out; omega

set_option maxRecDepth 100000 in
set_option maxHeartbeats 4000000 in
theorem look_same {B g : Nat} {ok : Option Nat} {A : Nat → Prop} {K : Nat → Rp} {f a r : Int} (sn : Nat) (i : Int) (w : World) (h : Tab w B A g ok K f a r) (hB : B ≤ w.heap.size) (hs : isB sn i = true) (hs8 : sn ≤ 8) (hlt : i = (K sn).id) :
    Calls Try.prog 9 #[.pointer (some ⟨g, 0, none⟩), .int .i64 sn, .int .i64 i] w (LookP B A g ok K f a r sn i w) := by
  obtain ⟨w1, hw1⟩ : ∃ w1, w1 = w.alloc (.cells zeroRep.toArray 31) := ⟨_, rfl⟩
  obtain ⟨q, hq⟩ : ∃ q, q = w.heap.size := ⟨_, rfl⟩
  have hk1 : Keeps Non w w1 := by rw [hw1]; exact (Keeps.refl _ _).alloc _
  have hQ1 : Blk w1 q 31 zeroRep.toArray := by rw [hw1, hq]; exact Blk.new _ _ _
  have h1 := h.non hk1
  have hz1 := hk1.size
  have hlow := h.low
  have HIS := Lib.hid (fun W => is_any sn i W)
  have HS := Lib.hid hs
  have HLT0 := Lib.hid hlt
  have hneq : (i == (K sn).id) = true := by rw [hlt]; simp
  have hnl : ¬ i < (K sn).id := by omega
  have hfine := h.fine sn
  have HFI := Lib.hid hfine
  clear hlt hfine
  clear hs
  go_enter Try.func9, Try.ntmps9
  go_wp2_with fail
  rw [show (#[.int .i64 0, .int .i64 0, .int .i64 0, .int .i64 0, .string { data := #[] }, .slice none 0 0, .slice none 0 0] : Array Value) = zeroRep.toArray from rfl, ← hw1, ← hq]
  have hqw : w.heap.size ≤ q := by omega
  clear hw1 hq
  refine (HIS.out _).mono ?_
  rw [HS.out]
  rintro e w2 ⟨rfl, rfl⟩
  have HP := Lib.hid (places_any w2 h1 (by omega))
  have hg1 := h1.box hQ1
  go_wp2_with fail
  refine HP.out.mono ?_
  rintro e w3 ⟨gk, rfl, hT3, hE3, hK3⟩
  have hQ3 := hQ1.one hK3 hg1
  have hz3 := hK3.size
  obtain ⟨cur, hcb, hcz, hcv⟩ := hT3.row
  obtain ⟨l, d, -, e1, -⟩ := hcv sn (by omega)
  have c1 : w3.cell? ⟨gk, sn * 7 + 1, none⟩ = some (.int .i64 (K sn).id) := by rw [hcb.cell]; exact e1
  have hgq : gk ≠ q := by
    rcases hE3 with e | ⟨-, gk', e, e2⟩
    · have := hlow gk e.symm; omega
    · injection e with e; subst e; have := hQ1.lt; omega
  have HP2 := Lib.hid (places_any w3 hT3.tab (by omega))
  clear hcb hcv e1 hT3 cur hcz
  go_wp2_with fail
  refine HP2.out.mono ?_
  rintro e w4 ⟨gk', rfl, hT4, hE4, hK4⟩
  obtain rfl : gk' = gk := by have := hE4.some; injection this
  have hQ4 := hQ3.one hK4 hg1
  obtain ⟨cur, hcb, hcz, hcv⟩ := hT4.row
  obtain ⟨l, d, -, e1, -⟩ := hcv sn (by omega)
  have c1' : w4.cell? ⟨gk', sn * 7 + 1, none⟩ = some (.int .i64 (K sn).id) := by rw [hcb.cell]; exact e1
  have HK4 := Lib.hid ((hk1.of_non.trans hK3).trans hK4)
  have HE3 := Lib.hid hE3
  clear c1 hcb hcv e1 cur hcz hE3 hE4 hK3 hK4 HP HP2
  have HA := Lib.hid (add_again hT4.tab)
  clear hT4
  go_wp2_with fail
  refine HA.out.mono ?_
  rintro e w5 ⟨v5, rfl, h5, hK5⟩
  have hQ5 := hQ4.one hK5 hg1
  obtain ⟨gk2, eg, hT5⟩ : ∃ gk2, some gk' = some gk2 ∧ TabD w5 B A g gk2 K f (wrap64 (a + 1)) r := by
    rcases h5 with ⟨e, -⟩ | h
    · cases e
    · exact h
  injection eg with eg
  subst eg
  have t3 : w5.cell? ⟨g, 3, none⟩ = some (.slice (some ⟨gk', 0, none⟩) 9 9) := hT5.tb.cell 3
  obtain ⟨cur, hcb, hcz, hcv⟩ := hT5.row
  obtain ⟨l, d, x0, x1, x2, x3, x4, x5, x6, hro, -, -⟩ := hcv sn (by omega)
  obtain ⟨Al, cl, Ad, cd, el, ed, -⟩ := hro.rd
  subst el ed
  have y0 : w5.cell? ⟨gk', sn * 7, none⟩ = some (.int .i64 (K sn).ses) := by rw [hcb.cell]; exact x0
  have y1 : w5.cell? ⟨gk', sn * 7 + 1, none⟩ = some (.int .i64 (K sn).id) := by rw [hcb.cell]; exact x1
  have y2 : w5.cell? ⟨gk', sn * 7 + 2, none⟩ = some (.int .i64 (K sn).err) := by rw [hcb.cell]; exact x2
  have y3 : w5.cell? ⟨gk', sn * 7 + 3, none⟩ = some (.int .i64 (K sn).num) := by rw [hcb.cell]; exact x3
  have y4 : w5.cell? ⟨gk', sn * 7 + 4, none⟩ = some (.string (K sn).text) := by rw [hcb.cell]; exact x4
  have y5 : w5.cell? ⟨gk', sn * 7 + 5, none⟩ = some (.slice Al (K sn).list.length cl) := by rw [hcb.cell]; exact x5
  have y6 : w5.cell? ⟨gk', sn * 7 + 6, none⟩ = some (.slice Ad (K sn).data.length cd) := by rw [hcb.cell]; exact x6
  have HO := Lib.hid (own_any (K sn) _ _ w5 hro.rd HFI.out)
  have HK5 := Lib.hid (HK4.out.trans hK5)
  have HT5 := Lib.hid hT5
  clear hcb hcv x0 x1 x2 x3 x4 x5 x6 hro hT5 h5 hcz HA HK4 c1' hK5
  go_wp2_with fail
  refine HO.out.mono ?_
  rintro e w6 ⟨l', d', rfl, hRo, hK6⟩
  obtain ⟨Al', cl', Ad', cd', el, ed, -⟩ := hRo.rd
  subst el ed
  have hQ6 := hQ5.non hK6
  obtain ⟨⟨va0, sa0⟩, fa0, ⟨va1, sa1⟩, fa1, ⟨va2, sa2⟩, fa2, ⟨va3, sa3⟩, fa3, ⟨va4, sa4⟩, fa4, ⟨va5, sa5⟩, fa5, ⟨va6, sa6⟩, fa6, hBa, hKa⟩ := store_seven hQ6 (0) (by decide) (.int .i64 (K sn).ses) (.int .i64 (K sn).id) (.int .i64 (K sn).err) (.int .i64 (K sn).num) (.string (K sn).text) (.slice Al' (K sn).list.length cl') (.slice Ad' (K sn).data.length cd'); simp only [Nat.zero_add] at sa0 fa0 sa1 fa1 sa2 fa2 sa3 fa3 sa4 fa4 sa5 fa5 sa6 fa6 hBa hKa
  have hq : Hid (w.heap.size ≤ q) := hqw
  rw [set7_zero] at hBa
  have hRo2 : RpO _ w.heap.size (.slice Al' (K sn).list.length cl') (.slice Ad' (K sn).data.length cd') (K sn) := ⟨hRo.1.keep hKa (Blk.apart hQ6 hRo.1 (by decide)), hRo.2.keep hKa (Blk.apart hQ6 hRo.2 (by decide))⟩ |> fun h => RpO.mono (B := w5.heap.size) h (by have := HK5.out.size; omega)
  have FR := Lib.hid hRo2
  have FB := Lib.hid hBa
  have FK := Lib.hid hKa
  have F3 := Lib.hid (HT5.out.non hK6).tab
  have FK5 := Lib.hid (HK5.out.trans hK6.of_non)
  clear hBa hKa hRo hRo2 HT5 HK5 hK6 HO y0 y1 y2 y3 y4 y5 y6 t3
  go_wp2_with fail
  refine bodyPost_ret (results_look rfl _ _ q _ rfl FB.out rfl) rfl ?_
  have hcnv : ((sn : Int)).toNat = sn := by omega
  refine ⟨_, _, _, some gk', wrap64 (a + 1), r, rfl, ?_, ?_, ?_, ?_⟩
  · have h := @LookV.same w _ K sn i a r (.slice Al' (K sn).list.length cl') (.slice Ad' (K sn).data.length cd') HS.out (by rw [hcnv]; exact HLT0.out) (by rw [hcnv]; exact FR.out)
    rw [hcnv] at h
    exact h
  · exact F3.out.boxed hQ6 (fun gk'' e => by injection e with e; rw [← e]; exact hgq) FK.out
  · rcases HE3.out with e | ⟨e, gk', e2, e3⟩
    · exact .inl e
    · exact .inr ⟨e, gk', e2, by omega⟩
  · exact FK5.out.then FK.out fun i hi e => by unfold Only at e; have := hq.out; omega

theorem isB_of {s i : Int} (h : isB s i = true) : 1 ≤ s ∧ s ≤ 8 ∧ 1 ≤ i ∧ i ≤ 1073741824 := by simp [isB] at h; omega
theorem look_any {B g : Nat} {ok : Option Nat} {A : Nat → Prop} {K : Nat → Rp} {f a r : Int} (s i : Int) (w : World) (h : Tab w B A g ok K f a r) (hB : B ≤ w.heap.size) :
    Calls Try.prog 9 #[.pointer (some ⟨g, 0, none⟩), .int .i64 s, .int .i64 i] w (LookP B A g ok K f a r s i w) := by
  cases hs : isB s i with
  | false => exact look_bad s i w h hs
  | true =>
    have hb := isB_of hs
    obtain ⟨sn, rfl⟩ := Int.eq_ofNat_of_zero_le (show 0 ≤ s by omega)
    rcases Int.lt_trichotomy i (K sn).id with hl | hl | hl
    · exact look_stale sn i w h hB hs (by omega) hl
    · exact look_same sn i w h hB hs (by omega) hl
    · exact look_new sn i w h hB hs (by omega) hl
end Go.Proofs.Ytmlffigfhhoihac
