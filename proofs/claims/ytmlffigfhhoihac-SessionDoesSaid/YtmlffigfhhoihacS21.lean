/- The document's Look. -/
import Derived.Test.YtmlffigfhhoihacS20
namespace Go.Proofs.Ytmlffigfhhoihac
open Go.RowKit Go.Uc

def lookA (K : Nat → Rp) (s i a : Int) : Int := if isB s i = true ∧ i = (K s.toNat).id then wrap64 (a + 1) else a
def lookR (K : Nat → Rp) (s i r : Int) : Int := if isB s i = false ∨ i < (K s.toNat).id then wrap64 (r + 1) else r
theorem LookV.cnt {w w' : World} {K : Nat → Rp} {s i a r a' r' : Int} {v1 v2 v3 : Value} (h : LookV w w' K s i a r v1 v2 v3 a' r') : a' = lookA K s i a ∧ r' = lookR K s i r := by
  unfold lookA lookR
  cases h with
  | bad hs => exact ⟨by rw [if_neg (by rw [hs]; simp)], by rw [if_pos (.inl hs)]⟩
  | stale hs hl => exact ⟨by rw [if_neg (by omega)], by rw [if_pos (.inr hl)]⟩
  | same l d hs hl ho => exact ⟨by rw [if_pos ⟨hs, hl⟩], by rw [if_neg (by rw [hs]; simp; omega)]⟩
  | new hs hl => exact ⟨by rw [if_neg (by omega)], by rw [if_neg (by rw [hs]; simp; omega)]⟩
theorem Doc.count {w0 w w' : World} {B q : Nat} {K : Nat → Rp} {f a r f' a' r' : Int} (h : Doc w0 w B q K f a r) (hk : Keeps (Only q) w w') (hb : ∀ v, Blk w q 45 #[v, .int .i64 f, .int .i64 a, .int .i64 r] → Blk w' q 45 #[v, .int .i64 f', .int .i64 a', .int .i64 r']) : Doc w0 w' B q K f' a' r' := by
  obtain ⟨v, h1, h2, h3⟩ := h
  refine ⟨v, h1, hb v h2, h3.keep hk fun g hg hs => ?_⟩
  unfold Only at hs
  subst hs
  obtain ⟨vss, ho, -⟩ := h3
  rcases ho.2 with ⟨rfl, h4⟩ | ⟨g', cap, cur, rfl, h4, h5, -⟩
  · cases hg
  · simp [Value.ownBlock] at hg
    subst hg
    exact (show Blk w g' 31 cur from h5).ne h2 (by decide) rfl
theorem Doc.cells {w0 w : World} {B q : Nat} {K : Nat → Rp} {f a r : Int} (h : Doc w0 w B q K f a r) : w.cell? ⟨q, 1, none⟩ = some (.int .i64 f) ∧ w.cell? ⟨q, 2, none⟩ = some (.int .i64 a) ∧ w.cell? ⟨q, 3, none⟩ = some (.int .i64 r) ∧ ∀ i, w.frozen? ⟨q, i, none⟩ = false := by
  obtain ⟨v, h1, h2, h3⟩ := h
  exact ⟨h2.cell 1, h2.cell 2, h2.cell 3, fun i => h2.frozen i⟩
theorem Doc.lt {w0 w : World} {B q : Nat} {K : Nat → Rp} {f a r : Int} (h : Doc w0 w B q K f a r) : q < w.heap.size := by
  obtain ⟨v, h1, h2, h3⟩ := h
  exact h2.lt
theorem Doc.ne {w0 w : World} {B q k t : Nat} {K : Nat → Rp} {f a r : Int} {cs : Array Value} (h : Doc w0 w B q K f a r) (hb : Blk w k t cs) (ht : t ≠ 45) : k ≠ q := by
  obtain ⟨v, h1, h2, h3⟩ := h
  exact hb.ne h2 ht
/-- The document's row is the one that was there, or a new one. -/
def VNew (w w' : World) (q : Nat) : Prop := ∀ v, w'.cell? ⟨q, 0, none⟩ = some v → w.cell? ⟨q, 0, none⟩ = some v ∨ ∀ k, v.ownBlock = some k → w.heap.size ≤ k
theorem VNew.same {w w' : World} {q : Nat} (h : w'.cell? ⟨q, 0, none⟩ = w.cell? ⟨q, 0, none⟩) : VNew w w' q := fun v hv => .inl (by rw [← h]; exact hv)
theorem Doc.fin {w0 w w' : World} {B q : Nat} {v : Value} {K : Nat → Rp} {f a r f' a' r' : Int} (hq : B ≤ q) (h2 : Blk w q 45 #[v, .int .i64 f, .int .i64 a, .int .i64 r]) (h3 : RowR w B (RdE w0) v (listTo K 9)) (hk : Keeps (Only q) w w') (hb : Blk w' q 45 #[v, .int .i64 f', .int .i64 a', .int .i64 r']) : Doc w0 w' B q K f' a' r' ∧ VNew w w' q := by
  refine ⟨?_, VNew.same (by have e1 : w'.cell? ⟨q, 0, none⟩ = some v := hb.cell 0; have e2 : w.cell? ⟨q, 0, none⟩ = some v := h2.cell 0; rw [e1, e2])⟩
  refine ⟨v, hq, hb, h3.keep hk fun g hg hs => ?_⟩
  unfold Only at hs
  subst hs
  obtain ⟨vss, ho, -⟩ := h3
  rcases ho.2 with ⟨rfl, h4⟩ | ⟨g', cap, cur, rfl, h4, h5, -⟩
  · cases hg
  · simp [Value.ownBlock] at hg
    subst hg
    exact (show Blk w g' 31 cur from h5).ne h2 (by decide) rfl

set_option maxRecDepth 100000 in
set_option maxHeartbeats 4000000 in
theorem reflook_any (w0 : World) {B q : Nat} {K : Nat → Rp} {f a r : Int} (s i : Int) (w : World) (h : Doc w0 w B q K f a r) (hG : Good K) :
    Calls Try.prog 29 #[.pointer (some ⟨q, 0, none⟩), .int .i64 s, .int .i64 i] w fun e w' => ∃ l d, e = .returned (.tuple #[.agg #[.int .i64 (lookP K s i).ses, .int .i64 (lookP K s i).id, .int .i64 (lookP K s i).err, .int .i64 (lookP K s i).num, .string (lookP K s i).text, l, d], .bool (lookB K s i), .int .i64 (lookC K s i)]) ∧ RdE w0 l d (lookP K s i) ∧ (Doc w0 w' B q K f (lookA K s i a) (lookR K s i r) ∧ VNew w w' q) ∧ Keeps (Only q) w w' := by
  obtain ⟨w1, hw1⟩ : ∃ w1, w1 = w.alloc (.cells zeroRep.toArray 31) := ⟨_, rfl⟩
  obtain ⟨p, hp⟩ : ∃ p, p = w.heap.size := ⟨_, rfl⟩
  have hk1 : Keeps Non w w1 := by rw [hw1]; exact (Keeps.refl _ _).alloc _
  have hP1 : Blk w1 p 31 zeroRep.toArray := by rw [hw1, hp]; exact Blk.new _ _ _
  have hpw : w.heap.size ≤ p := by omega
  obtain ⟨v, hq, hb, hR⟩ := id h
  have FIN := Lib.hid (fun (w' : World) (f' a' r' : Int) => @Doc.fin w0 w w' B q v K f a r f' a' r' hq hb hR)
  have hb1 := hb.non hk1
  have hpq : p ≠ q := hP1.ne hb1 (by decide)
  have HIS := Lib.hid (fun W => refis_any s i W)
  have HOF := Lib.hid (of_any w0 s w1 (h.non hk1) hG)
  clear h hG hb hR
  go_enter Try.func29, Try.ntmps29
  go_upto_region 2 with fail
  rw [show (#[.int .i64 0, .int .i64 0, .int .i64 0, .int .i64 0, .string { data := #[] }, .slice none 0 0, .slice none 0 0] : Array Value) = zeroRep.toArray from rfl, ← hw1, ← hp]
  clear hw1 hp
  refine (HIS.out _).mono ?_
  rintro e w2 ⟨rfl, hw2⟩
  subst w2
  go_wp2_with fail
  refine HOF.out.mono ?_
  rintro e w3 ⟨l, d, rfl, hrd, hK3⟩
  obtain ⟨o, ho⟩ : ∃ o, o = ofV K s := ⟨_, rfl⟩
  rw [← ho] at hrd ⊢
  have HO := Lib.hid ho
  clear ho
  obtain ⟨Al, cl, Ad, cd, el, ed, -⟩ := id hrd.1
  subst el ed
  go_upto_region 3 with fail
  obtain ⟨x3, hx3⟩ : ∃ x, x = w3.alloc (.cells #[.int .i64 o.ses, .int .i64 o.id, .int .i64 o.err, .int .i64 o.num, .string o.text, (.slice Al o.list.length cl), (.slice Ad o.data.length cd)] 31) := ⟨_, rfl⟩
  obtain ⟨p2, hp2⟩ : ∃ p, p = w3.heap.size := ⟨_, rfl⟩
  have hka : Keeps Non w1 x3 := by rw [hx3]; exact hK3.alloc _
  have hP2 : Blk x3 p2 31 #[.int .i64 o.ses, .int .i64 o.id, .int .i64 o.err, .int .i64 o.num, .string o.text, (.slice Al o.list.length cl), (.slice Ad o.data.length cd)] := by rw [hx3, hp2]; exact Blk.new _ _ _
  have hpp : p2 ≠ p := by have := hP1.lt; have := hK3.size; omega
  rw [← hx3, ← hp2]
  have hP3 := hP1.non hka
  have hb3 := hb1.non hka
  have hk3 := hk1.trans hka
  have HRD := Lib.hid hrd
  clear hx3 hp2 hK3 hka hP1 hb1 hk1 HOF hrd w3
  have hp2q : p2 ≠ q := hP2.ne hb3 (by decide)
  have q3 : x3.cell? ⟨q, 3, none⟩ = some (.int .i64 r) := hb3.cell 3
  have f3 := hb3.frozen 3
  have q2 : x3.cell? ⟨q, 2, none⟩ = some (.int .i64 a) := hb3.cell 2
  have f2 := hb3.frozen 2
  have z1 : x3.cell? ⟨p2, 1, none⟩ = some (.int .i64 o.id) := hP2.cell 1
  cases hs : isB s i with
  | false =>
    have HS := Lib.hid hs
    clear hs
    obtain ⟨x4, hx4⟩ : ∃ x, x = x3.setCell ⟨q, 3, none⟩ (.int .i64 (wrap64 (r + 1))) := ⟨_, rfl⟩
    have hb4 : Blk x4 q 45 #[v, .int .i64 f, .int .i64 a, .int .i64 (wrap64 (r + 1))] := by rw [hx4]; exact hb3.set 3 _
    have hk4 : Keeps (Only q) x3 x4 := by rw [hx4]; exact (Keeps.refl (Only q) x3).set (p := ⟨q, 3, none⟩) rfl _
    have hP4 := hP3.one hk4 hpq
    have hkw4 := hk3.of_non.trans hk4
    clear hb3 hP3 hk3 hk4
    go_upto_region 5 with fail
    rw [← hx4]
    clear hx4 hP2 q3 f3 q2 f2 z1
    obtain ⟨⟨va0, sa0⟩, fa0, ⟨va1, sa1⟩, fa1, ⟨va2, sa2⟩, fa2, ⟨va3, sa3⟩, fa3, ⟨va4, sa4⟩, fa4, ⟨va5, sa5⟩, fa5, ⟨va6, sa6⟩, fa6, hBa, hKa⟩ := store_seven hP4 (0) (by decide) (.int .i64 0) (.int .i64 0) (.int .i64 0) (.int .i64 0) (.string { data := #[] }) (.slice none 0 0) (.slice none 0 0); simp only [Nat.zero_add] at sa0 fa0 sa1 fa1 sa2 fa2 sa3 fa3 sa4 fa4 sa5 fa5 sa6 fa6 hBa hKa
    rw [set7_zero] at hBa
    have FB := Lib.hid hBa
    have FK := Lib.hid (hkw4.then hKa fun i hi e => by unfold Only at e; omega)
    have FQ := Lib.hid (hb4.one hKa hpq.symm)
    clear hBa hKa hP4 hb4 hkw4
    go_wp2_with fail
    refine bodyPost_ret (results_look rfl _ _ p _ rfl FB.out rfl) rfl ?_
    have e1 : lookP K s i = Rp.none := by unfold lookP; rw [if_neg (by rw [HS.out]; simp)]
    have e2 : lookB K s i = false := by unfold lookB; rw [HS.out]; simp
    have e3 : lookC K s i = 240 := by unfold lookC; rw [if_pos HS.out]
    have e4 : lookA K s i a = a := by unfold lookA; rw [if_neg (by rw [HS.out]; simp)]
    have e5 : lookR K s i r = wrap64 (r + 1) := by unfold lookR; rw [if_pos (.inl HS.out)]
    rw [e1, e2, e3, e4, e5]
    exact ⟨_, _, rfl, RdE.zero _, FIN.out _ _ _ _ FK.out FQ.out, FK.out⟩
  | true =>
    have hos : o = K s.toNat := by rw [HO.out]; exact ofV_is hs
    have HS := Lib.hid hs
    have HOS := Lib.hid hos
    clear hs hos HO
    by_cases hl : i < o.id
    · have HL := Lib.hid hl
      obtain ⟨x4, hx4⟩ : ∃ x, x = x3.setCell ⟨q, 3, none⟩ (.int .i64 (wrap64 (r + 1))) := ⟨_, rfl⟩
      have hb4 : Blk x4 q 45 #[v, .int .i64 f, .int .i64 a, .int .i64 (wrap64 (r + 1))] := by rw [hx4]; exact hb3.set 3 _
      have hk4 : Keeps (Only q) x3 x4 := by rw [hx4]; exact (Keeps.refl (Only q) x3).set (p := ⟨q, 3, none⟩) rfl _
      have hP4 := hP3.one hk4 hpq
      have hkw4 := hk3.of_non.trans hk4
      clear hb3 hP3 hk3 hk4
      go_upto_region 8 with fail
      rw [← hx4]
      clear hx4 hP2 q3 f3 q2 f2 z1
      obtain ⟨⟨va0, sa0⟩, fa0, ⟨va1, sa1⟩, fa1, ⟨va2, sa2⟩, fa2, ⟨va3, sa3⟩, fa3, ⟨va4, sa4⟩, fa4, ⟨va5, sa5⟩, fa5, ⟨va6, sa6⟩, fa6, hBa, hKa⟩ := store_seven hP4 (0) (by decide) (.int .i64 0) (.int .i64 0) (.int .i64 0) (.int .i64 0) (.string { data := #[] }) (.slice none 0 0) (.slice none 0 0); simp only [Nat.zero_add] at sa0 fa0 sa1 fa1 sa2 fa2 sa3 fa3 sa4 fa4 sa5 fa5 sa6 fa6 hBa hKa
      rw [set7_zero] at hBa
      have FB := Lib.hid hBa
      have FK := Lib.hid (hkw4.then hKa fun i hi e => by unfold Only at e; omega)
      have FQ := Lib.hid (hb4.one hKa hpq.symm)
      clear hBa hKa hP4 hb4 hkw4 hl
      go_wp2_with fail
      refine bodyPost_ret (results_look rfl _ _ p _ rfl FB.out rfl) rfl ?_
      have hl := HL.out
      rw [HOS.out] at hl
      have e1 : lookP K s i = Rp.none := by unfold lookP; rw [if_neg (by omega)]
      have e2 : lookB K s i = false := by unfold lookB; rw [decide_eq_false_iff_not]; omega
      have e3 : lookC K s i = 241 := by unfold lookC; rw [if_neg (by rw [HS.out]; simp), if_pos hl]
      have e4 : lookA K s i a = a := by unfold lookA; rw [if_neg (by omega)]
      have e5 : lookR K s i r = wrap64 (r + 1) := by unfold lookR; rw [if_pos (.inr hl)]
      rw [e1, e2, e3, e4, e5]
      exact ⟨_, _, rfl, RdE.zero _, FIN.out _ _ _ _ FK.out FQ.out, FK.out⟩
    · by_cases he : i = o.id
      · have HE := Lib.hid he
        have heb : (i == o.id) = true := by rw [he]; simp
        obtain ⟨x4, hx4⟩ : ∃ x, x = x3.setCell ⟨q, 2, none⟩ (.int .i64 (wrap64 (a + 1))) := ⟨_, rfl⟩
        have hb4 : Blk x4 q 45 #[v, .int .i64 f, .int .i64 (wrap64 (a + 1)), .int .i64 r] := by rw [hx4]; exact hb3.set 2 _
        have hk4 : Keeps (Only q) x3 x4 := by rw [hx4]; exact (Keeps.refl (Only q) x3).set (p := ⟨q, 2, none⟩) rfl _
        have hP4 := hP3.one hk4 hpq
        have hP24 := hP2.one hk4 hp2q
        have hkw4 := hk3.of_non.trans hk4
        clear hb3 hP3 hk3 hk4 he
        go_upto_region 11 with fail
        rw [← hx4]
        clear hx4 hP2 q3 f3 q2 f2 z1
        have z0 : x4.cell? ⟨p2, 0, none⟩ = some (.int .i64 o.ses) := hP24.cell 0
        have z1 : x4.cell? ⟨p2, 1, none⟩ = some (.int .i64 o.id) := hP24.cell 1
        have z2 : x4.cell? ⟨p2, 2, none⟩ = some (.int .i64 o.err) := hP24.cell 2
        have z3 : x4.cell? ⟨p2, 3, none⟩ = some (.int .i64 o.num) := hP24.cell 3
        have z4 : x4.cell? ⟨p2, 4, none⟩ = some (.string o.text) := hP24.cell 4
        have z5 : x4.cell? ⟨p2, 5, none⟩ = some (.slice Al o.list.length cl) := hP24.cell 5
        have z6 : x4.cell? ⟨p2, 6, none⟩ = some (.slice Ad o.data.length cd) := hP24.cell 6
        obtain ⟨⟨va0, sa0⟩, fa0, ⟨va1, sa1⟩, fa1, ⟨va2, sa2⟩, fa2, ⟨va3, sa3⟩, fa3, ⟨va4, sa4⟩, fa4, ⟨va5, sa5⟩, fa5, ⟨va6, sa6⟩, fa6, hBa, hKa⟩ := store_seven hP4 (0) (by decide) (.int .i64 o.ses) (.int .i64 o.id) (.int .i64 o.err) (.int .i64 o.num) (.string o.text) (.slice Al o.list.length cl) (.slice Ad o.data.length cd); simp only [Nat.zero_add] at sa0 fa0 sa1 fa1 sa2 fa2 sa3 fa3 sa4 fa4 sa5 fa5 sa6 fa6 hBa hKa
        rw [set7_zero] at hBa
        have FB := Lib.hid hBa
        have FK := Lib.hid (hkw4.then hKa fun i hi e => by unfold Only at e; omega)
        have FQ := Lib.hid (hb4.one hKa hpq.symm)
        clear hBa hKa hP4 hb4 hkw4 hP24
        go_wp2_with fail
        refine bodyPost_ret (results_look rfl _ _ p _ rfl FB.out rfl) rfl ?_
        have hl := HE.out
        rw [HOS.out] at hl
        have e1 : lookP K s i = o := by unfold lookP; rw [if_pos ⟨HS.out, hl⟩]; exact HOS.out.symm
        have e2 : lookB K s i = true := by unfold lookB; rw [decide_eq_true_eq]; exact ⟨HS.out, hl⟩
        have e3 : lookC K s i = 0 := by unfold lookC; rw [if_neg (by rw [HS.out]; simp), if_neg (by omega)]
        have e4 : lookA K s i a = wrap64 (a + 1) := by unfold lookA; rw [if_pos ⟨HS.out, hl⟩]
        have e5 : lookR K s i r = r := by unfold lookR; rw [if_neg (by rw [HS.out]; simp; omega)]
        rw [e1, e2, e3, e4, e5]
        exact ⟨_, _, rfl, HRD.out, FIN.out _ _ _ _ FK.out FQ.out, FK.out⟩
      · have HE := Lib.hid he
        have HL := Lib.hid hl
        have heb : (i == o.id) = false := by rw [beq_eq_false_iff_ne]; exact he
        clear he
        go_upto_region 12 with fail
        clear hP2 q3 f3 q2 f2 z1
        obtain ⟨⟨va0, sa0⟩, fa0, ⟨va1, sa1⟩, fa1, ⟨va2, sa2⟩, fa2, ⟨va3, sa3⟩, fa3, ⟨va4, sa4⟩, fa4, ⟨va5, sa5⟩, fa5, ⟨va6, sa6⟩, fa6, hBa, hKa⟩ := store_seven hP3 (0) (by decide) (.int .i64 0) (.int .i64 0) (.int .i64 0) (.int .i64 0) (.string { data := #[] }) (.slice none 0 0) (.slice none 0 0); simp only [Nat.zero_add] at sa0 fa0 sa1 fa1 sa2 fa2 sa3 fa3 sa4 fa4 sa5 fa5 sa6 fa6 hBa hKa
        rw [set7_zero] at hBa
        have FB := Lib.hid hBa
        have FK := Lib.hid ((hk3.of_non (S := Only q)).then hKa fun i hi e => by unfold Only at e; omega)
        have FQ := Lib.hid (hb3.one hKa hpq.symm)
        clear hBa hKa hP3 hb3 hk3 hl
        go_wp2_with fail
        refine bodyPost_ret (results_look rfl _ _ p _ rfl FB.out rfl) rfl ?_
        have hl := HL.out
        have he := HE.out
        rw [HOS.out] at hl he
        have e1 : lookP K s i = Rp.none := by unfold lookP; rw [if_neg (by omega)]
        have e2 : lookB K s i = false := by unfold lookB; rw [decide_eq_false_iff_not]; omega
        have e3 : lookC K s i = 0 := by unfold lookC; rw [if_neg (by rw [HS.out]; simp), if_neg (by omega)]
        have e4 : lookA K s i a = a := by unfold lookA; rw [if_neg (by omega)]
        have e5 : lookR K s i r = r := by unfold lookR; rw [if_neg (by rw [HS.out]; simp; omega)]
        rw [e1, e2, e3, e4, e5]
        exact ⟨_, _, rfl, RdE.zero _, FIN.out _ _ _ _ FK.out FQ.out, FK.out⟩
end Go.Proofs.Ytmlffigfhhoihac
