/- Keep. -/
import Derived.Test.YtmlffigfhhoihacS6
namespace Go.Proofs.Ytmlffigfhhoihac
open Go.RowKit Go.Uc

def upd (K : Nat → Rp) (s : Nat) (r : Rp) : Nat → Rp := fun i => if i = s then r else K i
theorem upd_same (K : Nat → Rp) (s : Nat) (r : Rp) : upd K s r s = r := by simp [upd]
theorem upd_other (K : Nat → Rp) {s i : Nat} (h : i ≠ s) (r : Rp) : upd K s r i = K i := by simp [upd, h]
/-- What Keep tells. -/
inductive KeepV (K : Nat → Rp) (p : Rp) (f r : Int) : Int → (Nat → Rp) → Int → Int → Prop
  | bad : isB p.ses p.id = false → KeepV K p f r 240 K f (wrap64 (r + 1))
  | stale : isB p.ses p.id = true → p.id ≤ (K p.ses.toNat).id → KeepV K p f r 241 K f (wrap64 (r + 1))
  | ok : isB p.ses p.id = true → (K p.ses.toNat).id < p.id → KeepV K p f r 0 (upd K p.ses.toNat p) (wrap64 (f + 1)) r
def KeepP (B : Nat) (A : Nat → Prop) (g : Nat) (ok : Option Nat) (K : Nat → Rp) (f a r : Int) (p : Rp) (w : World) (e : Ending) (w' : World) : Prop :=
  ∃ c K' ok' f' r', e = .returned (.int .i64 c) ∧ KeepV K p f r c K' f' r' ∧ Tab w' B (fun k => A k ∨ w.heap.size ≤ k) g ok' K' f' a r' ∧ Ext w ok ok' ∧ Keeps (fun k => k = g ∨ ok = some k) w w'

/-- A reply is put into the row. -/
theorem TabD.put {w w' : World} {B g gk sn : Nat} {A A' : Nat → Prop} {K : Nat → Rp} {f a r : Int} {cur : Array Value} {l d : Value} {p : Rp} (h : TabD w B A g gk K f a r) (hc : Blk w gk 31 cur) (hk : Keeps (Only gk) w w')
    (hb : Blk w' gk 31 (set7 cur (sn * 7) (.int .i64 p.ses) (.int .i64 p.id) (.int .i64 p.err) (.int .i64 p.num) (.string p.text) l d)) (hs : sn < 9) (ho : RpO w 0 l d p) (hp : RpB p) (hA : ∀ k, A k → A' k) (hl : ∀ k, l.ownBlock = some k → A' k) (hd : ∀ k, d.ownBlock = some k → A' k) :
    TabD w' B A' g gk (upd K sn p) f a r := by
  obtain ⟨cur', h1, h2, h3⟩ := h.row
  have hcc : cur' = cur := by
    unfold Blk at h1 hc
    rw [h1] at hc
    injection hc with hc
    injection hc
  subst hcc
  have hty : ∀ k, k < w.heap.size → Only gk k → ¬ A k ∨ ∃ t cs, Blk w k t cs ∧ t ≠ 9 ∧ t ≠ 5 := fun k _ e => .inr (by unfold Only at e; subst e; exact ⟨31, _, hc, by decide, by decide⟩)
  refine ⟨h.lowg, h.lowk, h.tb.one hk (h.tb.ne hc (by decide)), ⟨_, hb, by rw [set7_size]; exact h2, fun i hi => ?_⟩, fun i => ?_⟩
  · by_cases e : i = sn
    · subst e
      rw [upd_same]
      obtain ⟨x0, x1, x2, x3, x4, x5, x6⟩ := set7_at (cur := cur') (o := i * 7) (by omega) (.int .i64 p.ses) (.int .i64 p.id) (.int .i64 p.err) (.int .i64 p.num) (.string p.text) l d
      exact ⟨l, d, x0, x1, x2, x3, x4, x5, x6, ⟨ho.1.keep hk (Blk.apart hc ho.1 (by decide)), ho.2.keep hk (Blk.apart hc ho.2 (by decide))⟩, hl, hd⟩
    · rw [upd_other _ e]
      obtain ⟨l', d', x0, x1, x2, x3, x4, x5, x6, h7⟩ := ((h3 i hi).keep hk hty).mono hA
      refine ⟨l', d', ?_, ?_, ?_, ?_, ?_, ?_, ?_, h7⟩
      all_goals
        rw [set7_far _ _ _ _ _ _ _ _ _ _ (by omega)]
        assumption
  · unfold upd
    split
    · exact hp
    · exact h.fine i

set_option maxRecDepth 100000 in
set_option maxHeartbeats 2000000 in
theorem keep_bad {B g : Nat} {ok : Option Nat} {A : Nat → Prop} {K : Nat → Rp} {f a r : Int} (p : Rp) (l d : Value) (w : World) (h : Tab w B A g ok K f a r) (hs : isB p.ses p.id = false) :
    Calls Try.prog 10 #[.pointer (some ⟨g, 0, none⟩), .agg #[.int .i64 p.ses, .int .i64 p.id, .int .i64 p.err, .int .i64 p.num, .string p.text, l, d]] w (KeepP B A g ok K f a r p w) := by
  obtain ⟨w1, hw1⟩ : ∃ w1, w1 = w.alloc (.cells #[.int .i64 p.ses, .int .i64 p.id, .int .i64 p.err, .int .i64 p.num, .string p.text, l, d] 31) := ⟨_, rfl⟩
  obtain ⟨q, hq⟩ : ∃ q, q = w.heap.size := ⟨_, rfl⟩
  have hk1 : Keeps Non w w1 := by rw [hw1]; exact (Keeps.refl _ _).alloc _
  have hQ1 : Blk w1 q 31 #[.int .i64 p.ses, .int .i64 p.id, .int .i64 p.err, .int .i64 p.num, .string p.text, l, d] := by rw [hw1, hq]; exact Blk.new _ _ _
  have h1 := h.non hk1
  have q0 : w1.cell? ⟨q, 0, none⟩ = some (.int .i64 p.ses) := hQ1.cell 0
  have q1 : w1.cell? ⟨q, 1, none⟩ = some (.int .i64 p.id) := hQ1.cell 1
  have HIS := Lib.hid (fun W => is_any p.ses p.id W)
  have HS := Lib.hid hs
  have HA := Lib.hid (add_refused h1)
  have HQ := Lib.hid hQ1
  clear hs hQ1 h1
  go_enter Try.func10, Try.ntmps10
  go_wp2_with fail
  rw [← hw1, ← hq]
  clear hw1 hq
  refine (HIS.out _).mono ?_
  rw [HS.out]
  rintro e w2 ⟨rfl, rfl⟩
  clear q0 q1
  go_wp2_with fail
  refine HA.out.mono ?_
  rintro e w3 ⟨v3, rfl, h3, hK3⟩
  have F3 := Lib.hid h3
  have FK3 := Lib.hid (hk1.of_non.trans hK3)
  clear h3 hK3 HA
  go_wp2_with fail
  go_ret
  exact ⟨_, K, ok, f, wrap64 (r + 1), rfl, .bad HS.out, F3.out.mono fun k hk => .inl hk, .inl rfl, FK3.out.mono fun k e => .inl e⟩

set_option maxRecDepth 100000 in
set_option maxHeartbeats 4000000 in
theorem keep_stale {B g : Nat} {ok : Option Nat} {A : Nat → Prop} {K : Nat → Rp} {f a r : Int} (sn : Nat) (p : Rp) (l d : Value) (w : World) (h : Tab w B A g ok K f a r) (hB : B ≤ w.heap.size) (hse : p.ses = sn) (hs : isB sn p.id = true) (hs8 : sn ≤ 8) (hlt : p.id ≤ (K sn).id) :
    Calls Try.prog 10 #[.pointer (some ⟨g, 0, none⟩), .agg #[.int .i64 p.ses, .int .i64 p.id, .int .i64 p.err, .int .i64 p.num, .string p.text, l, d]] w (KeepP B A g ok K f a r p w) := by
  have HSE := Lib.hid hse
  rw [hse]
  obtain ⟨w1, hw1⟩ : ∃ w1, w1 = w.alloc (.cells #[.int .i64 sn, .int .i64 p.id, .int .i64 p.err, .int .i64 p.num, .string p.text, l, d] 31) := ⟨_, rfl⟩
  obtain ⟨q, hq⟩ : ∃ q, q = w.heap.size := ⟨_, rfl⟩
  have hk1 : Keeps Non w w1 := by rw [hw1]; exact (Keeps.refl _ _).alloc _
  have hQ1 : Blk w1 q 31 #[.int .i64 sn, .int .i64 p.id, .int .i64 p.err, .int .i64 p.num, .string p.text, l, d] := by rw [hw1, hq]; exact Blk.new _ _ _
  have h1 := h.non hk1
  have q0 : w1.cell? ⟨q, 0, none⟩ = some (.int .i64 sn) := hQ1.cell 0
  have q1 : w1.cell? ⟨q, 1, none⟩ = some (.int .i64 p.id) := hQ1.cell 1
  have HIS := Lib.hid (fun W => is_any sn p.id W)
  have HS := Lib.hid hs
  have hz1 := hk1.size
  have hlow := h.low
  have hg1 := h1.box hQ1
  have HP := Lib.hid (places_any w1.drew (h1.non (Keeps.refl _ _).drew) (by simp; omega))
  have hi0 : (0 : Int) ≤ (sn : Int) := by omega
  have hi9 : (sn : Int) < 9 := by omega
  clear hs hse
  go_enter Try.func10, Try.ntmps10
  go_wp2_with fail
  rw [← hw1, ← hq]
  clear hw1 hq
  refine (HIS.out _).mono ?_
  rw [HS.out]
  rintro e w2 ⟨rfl, hw2⟩
  subst w2
  go_wp2_with fail
  go_region_with (first | (go_at_call 19; go_must (refine HP.out.mono ?_); rintro e w3 ⟨gk, rfl, hT3, hE3, hK3⟩; obtain ⟨cur, hcb, hcz, hcv⟩ := hT3.row; obtain ⟨l3, d3, -, e1, -⟩ := hcv sn (by omega); have c1 : w3.cell? ⟨gk, sn * 7 + 1, none⟩ = some (.int .i64 (K sn).id) := (by rw [hcb.cell]; exact e1); have q0' : w3.cell? ⟨q, 0, none⟩ = some (.int .i64 sn) := hK3.cell q0 hg1; have q1' : w3.cell? ⟨q, 1, none⟩ = some (.int .i64 p.id) := hK3.cell q1 hg1))
  all_goals
    have HA := Lib.hid (add_refused hT3.tab)
    have HE3 := Lib.hid hE3
    have HK3 := Lib.hid (hk1.of_non.drew.trans hK3)
    have HL := Lib.hid hlt
    clear hcb hcv e1 hT3 hE3 hK3 hQ1 h1 h c1
    go_wp2_with fail
    refine HA.out.mono ?_
    rintro e w4 ⟨v4, rfl, h4, hK4⟩
    have F4 := Lib.hid h4
    have FK4 := Lib.hid (HK3.out.trans hK4)
    clear h4 hK4 HA
    go_wp2_with fail
    go_ret
    refine ⟨_, K, some gk, f, wrap64 (r + 1), rfl, .stale (by rw [HSE.out]; exact HS.out) (by rw [HSE.out]; simpa using HL.out), F4.out.mono fun k hk => .inl hk, ?_, FK4.out.mono fun k e => .inl e⟩
    rcases HE3.out with e | ⟨e, gk', e2, e3⟩
    · exact .inl e
    · exact .inr ⟨e, gk', e2, by simp at e3; omega⟩

end Go.Proofs.Ytmlffigfhhoihac
