/- The chapter's example. -/
import Derived.Test.YtmlffigfhhoihacS9
namespace Go.Proofs.Ytmlffigfhhoihac
open Go.RowKit Go.Uc

section inv
variable {w w' : World} {K K' : Nat → Rp} {s i f a r a' r' f' c : Int} {v1 v2 v3 : Value} {p : Rp}
theorem LookV.isNew (h : LookV w w' K s i a r v1 v2 v3 a' r') (hb : isB s i = true) (hl : (K s.toNat).id < i) : v1 = .agg #[.int .i64 0, .int .i64 0, .int .i64 0, .int .i64 0, .string { data := #[] }, .slice none 0 0, .slice none 0 0] ∧ v2 = .bool false ∧ v3 = .int .i64 0 ∧ a' = a ∧ r' = r := by
  cases h with
  | bad h => rw [h] at hb; cases hb
  | stale _ h => omega
  | same _ _ _ h => omega
  | new _ h => exact ⟨rfl, rfl, rfl, rfl, rfl⟩
theorem LookV.isSame (h : LookV w w' K s i a r v1 v2 v3 a' r') (hb : isB s i = true) (hl : i = (K s.toNat).id) : ∃ l d, v1 = .agg #[.int .i64 (K s.toNat).ses, .int .i64 (K s.toNat).id, .int .i64 (K s.toNat).err, .int .i64 (K s.toNat).num, .string (K s.toNat).text, l, d] ∧ v2 = .bool true ∧ v3 = .int .i64 0 ∧ a' = wrap64 (a + 1) ∧ r' = r ∧ RpO w' w.heap.size l d (K s.toNat) := by
  cases h with
  | bad h => rw [h] at hb; cases hb
  | stale _ h => omega
  | same l d _ _ h => exact ⟨l, d, rfl, rfl, rfl, rfl, rfl, h⟩
  | new _ h => omega
theorem LookV.isStale (h : LookV w w' K s i a r v1 v2 v3 a' r') (hb : isB s i = true) (hl : i < (K s.toNat).id) : v1 = .agg #[.int .i64 0, .int .i64 0, .int .i64 0, .int .i64 0, .string { data := #[] }, .slice none 0 0, .slice none 0 0] ∧ v2 = .bool false ∧ v3 = .int .i64 241 ∧ a' = a ∧ r' = wrap64 (r + 1) := by
  cases h with
  | bad h => rw [h] at hb; cases hb
  | stale _ h => exact ⟨rfl, rfl, rfl, rfl, rfl⟩
  | same _ _ _ h => omega
  | new _ h => omega
theorem LookV.isBad (h : LookV w w' K s i a r v1 v2 v3 a' r') (hb : isB s i = false) : v1 = .agg #[.int .i64 0, .int .i64 0, .int .i64 0, .int .i64 0, .string { data := #[] }, .slice none 0 0, .slice none 0 0] ∧ v2 = .bool false ∧ v3 = .int .i64 240 ∧ a' = a ∧ r' = wrap64 (r + 1) := by
  cases h with
  | bad h => exact ⟨rfl, rfl, rfl, rfl, rfl⟩
  | stale h _ => rw [h] at hb; cases hb
  | same _ _ h _ _ => rw [h] at hb; cases hb
  | new h _ => rw [h] at hb; cases hb
theorem KeepV.isOk (h : KeepV K p f r c K' f' r') (hb : isB p.ses p.id = true) (hl : (K p.ses.toNat).id < p.id) : c = 0 ∧ K' = upd K p.ses.toNat p ∧ f' = wrap64 (f + 1) ∧ r' = r := by
  cases h with
  | bad h => rw [h] at hb; cases hb
  | stale _ h => omega
  | ok _ h => exact ⟨rfl, rfl, rfl, rfl⟩
theorem KeepV.isStale (h : KeepV K p f r c K' f' r') (hb : isB p.ses p.id = true) (hl : p.id ≤ (K p.ses.toNat).id) : c = 241 ∧ K' = K ∧ f' = f ∧ r' = wrap64 (r + 1) := by
  cases h with
  | bad h => rw [h] at hb; cases hb
  | stale _ h => exact ⟨rfl, rfl, rfl, rfl⟩
  | ok _ h => omega
theorem KeepV.isBad (h : KeepV K p f r c K' f' r') (hb : isB p.ses p.id = false) : c = 240 ∧ K' = K ∧ f' = f ∧ r' = wrap64 (r + 1) := by
  cases h with
  | bad h => exact ⟨rfl, rfl, rfl, rfl⟩
  | stale h _ => rw [h] at hb; cases hb
  | ok h _ => rw [h] at hb; cases hb
end inv
theorem Tab.lowk {w : World} {B g : Nat} {ok : Option Nat} {A : Nat → Prop} {K : Nat → Rp} {f a r : Int} (h : Tab w B A g ok K f a r) : B ≤ g ∧ ∀ gk, ok = some gk → B ≤ gk := by
  rcases h with ⟨rfl, h, -⟩ | ⟨gk, rfl, h⟩
  · exact ⟨h, fun gk e => by cases e⟩
  · exact ⟨h.lowg, fun gk' e => by injection e with e; rw [← e]; exact h.lowk⟩
theorem RdR.empty (w : World) (p : Rp) (h1 : p.list = []) (h2 : p.data = []) : RdR w (.slice none 0 0) (.slice none 0 0) p := by
  refine ⟨none, 0, none, 0, by rw [h1]; rfl, by rw [h2]; rfl, by rw [h1]; exact AtS.nil _ _, by rw [h2]; exact At.nil _ _, by rw [h1]; exact Nat.le_refl _, by rw [h2]; exact Nat.le_refl _⟩

theorem Ext.ne {w : World} {ok ok' : Option Nat} {q : Nat} (h : Ext w ok ok') (hq : q < w.heap.size) (hn : ∀ gk, ok = Option.some gk → gk ≠ q) : ∀ gk, ok' = Option.some gk → gk ≠ q := by
  intro gk hg
  rcases h with e | ⟨e, gk', e2, e3⟩
  · exact hn gk (by rw [← e]; exact hg)
  · rw [e2] at hg
    injection hg with hg
    omega

set_option maxRecDepth 100000 in
set_option maxHeartbeats 4000000 in
theorem awake_any (w : World) : Calls Try.prog 6 #[] w fun e w' => e = .returned (.bool true) ∧ Keeps Non w w' := by
  obtain ⟨B, hB⟩ : ∃ B, B = w.heap.size := ⟨_, rfl⟩
  have HB : Hid (B = w.heap.size) := hB
  have HN := Lib.hid (new_any B (fun _ => True) w (Nat.le_of_eq hB))
  rw [← hB] at HN
  clear hB
  go_enter Try.func6, Try.ntmps6
  go_wp2_with fail
  refine HN.out.mono ?_
  rintro e w1 ⟨rfl, h1, hK1⟩
  have HK1 : Hid (Keeps Non w w1) := hK1
  have hz1 : B ≤ w1.heap.size := by have := HB.out; have := hK1.size; omega
  have HL1 := Lib.hid (look_any 1 5 w1 h1 hz1)
  clear h1 hK1
  go_wp2_with fail
  refine HL1.out.mono ?_
  rintro e w2 ⟨v1, v2, v3, ok2, a2, r2, rfl, hv, h2, -, hK2⟩
  obtain ⟨rfl, rfl, rfl, rfl, rfl⟩ := hv.isNew rfl (by decide)
  obtain ⟨x2, hx2⟩ : ∃ x, x = w2.alloc (.cells #[.int .i64 0, .int .i64 0, .int .i64 0, .int .i64 0, .string { data := #[] }, .slice none 0 0, .slice none 0 0] 31) := ⟨_, rfl⟩
  have hk2 : Keeps Non w x2 := by rw [hx2]; exact (HK1.out.then hK2 fun i hi e => by unfold Only at e; have := HB.out; omega).alloc _
  have h2' := h2.non (show Keeps Non w2 x2 by rw [hx2]; exact (Keeps.refl _ _).alloc _)
  have HK2 := Lib.hid hk2
  have HOK2 := Lib.hid h2'.lowk.2
  have hz2 : B ≤ x2.heap.size := by have := HB.out; have := hk2.size; omega
  obtain ⟨p1, hp1⟩ : ∃ p : Rp, p = ⟨1, 5, 0, 0, { data := #[97] }, [], []⟩ := ⟨_, rfl⟩
  have HP1 := Lib.hid hp1
  have hKp := keep_any p1 (.slice none 0 0) (.slice none 0 0) x2 h2' hz2 (fun w' _ => RdR.empty w' p1 (by rw [hp1]) (by rw [hp1])) (by rw [hp1]; simp [RpB])
  have hKp' := hKp
  simp only [hp1] at hKp'
  rw [← hp1] at hKp'
  have HKp := Lib.hid hKp'
  clear hv h2 h2' hK2 hk2 HL1 hp1 hKp hKp'
  go_wp2_with fail
  rw [← hx2]
  clear hx2
  refine HKp.out.mono ?_
  rintro e w3 ⟨c3, K3, ok3, f3, r3, rfl, hv, h3, -, hK3⟩
  obtain ⟨rfl, hKK, rfl, rfl⟩ := hv.isOk (by rw [HP1.out]; rfl) (by rw [HP1.out]; decide)
  have hK1 : K3 1 = p1 := by rw [hKK, HP1.out]; exact upd_same _ _ _
  have HKK := Lib.hid hK1
  have h3' : Tab w3 B (fun _ => True) B ok3 K3 (wrap64 (0 + 1)) 0 0 := h3.mono fun _ _ => trivial
  have hk3 : Keeps Non w w3 := HK2.out.then hK3 fun i hi e => by
    have hb := HB.out
    rcases e with e | e
    · omega
    · exact absurd (HOK2.out i e) (by omega)
  have HK3 := Lib.hid hk3
  have hz3 : B ≤ w3.heap.size := by have := HB.out; have := hk3.size; omega
  have HOK3 := Lib.hid h3'.lowk.2
  have HL3 := Lib.hid (look_any 1 5 w3 h3' hz3)
  clear hv h3 h3' hK3 hk3 HKp hKK hK1
  go_wp2_with fail
  refine HL3.out.mono ?_
  rintro e w4 ⟨v1, v2, v3, ok4, a4, r4, rfl, hv, h4, -, hK4⟩
  obtain ⟨l4, d4, e4, rfl, rfl, rfl, rfl, hRo⟩ := hv.isSame rfl (by show (5 : Int) = (K3 1).id; rw [HKK.out, HP1.out])
  obtain ⟨Al4, cl4, Ad4, cd4, el, ed, -⟩ := hRo.rd
  rw [show (1 : Int).toNat = 1 from rfl, HKK.out, HP1.out] at e4 el ed
  simp only at e4
  subst el ed
  subst e4
  obtain ⟨x4, hx4⟩ : ∃ x, x = w4.alloc (.cells #[.int .i64 1, .int .i64 5, .int .i64 0, .int .i64 0, .string { data := #[97] }, .slice Al4 0 cl4, .slice Ad4 0 cd4] 31) := ⟨_, rfl⟩
  have hk4 : Keeps Non w x4 := by rw [hx4]; exact (HK3.out.then hK4 fun i hi e => by unfold Only at e; have := HB.out; omega).alloc _
  have HNE4 : Hid (∀ gk, ok4 = some gk → gk ≠ w4.heap.size) := fun gk e => by have := h4.low gk e; omega
  have h4' := h4.non (show Keeps Non w4 x4 by rw [hx4]; exact (Keeps.refl _ _).alloc _)
  have HB4 : Hid (Blk x4 w4.heap.size 31 #[.int .i64 1, .int .i64 5, .int .i64 0, .int .i64 0, .string { data := #[97] }, .slice Al4 0 cl4, .slice Ad4 0 cd4]) := by rw [hx4]; exact Blk.new _ _ _
  have HK4 := Lib.hid hk4
  have hz4 : B ≤ x4.heap.size := by have := HB.out; have := hk4.size; omega
  have HL4 := Lib.hid (look_any 1 4 x4 h4' hz4)
  have hbg4 := Lib.hid (h4'.box HB4.out)
  clear hv h4 h4' hK4 hk4 HL3 hRo
  go_wp2_with fail
  rw [← hx4]
  clear hx4
  refine HL4.out.mono ?_
  rintro e w5 ⟨v1, v2, v3, ok5, a5, r5, rfl, hv, h5, hE5, hK5⟩
  obtain ⟨rfl, rfl, rfl, rfl, rfl⟩ := hv.isStale rfl (by show (4 : Int) < (K3 1).id; rw [HKK.out, HP1.out]; decide)
  obtain ⟨x5, hx5⟩ : ∃ x, x = w5.alloc (.cells #[.int .i64 0, .int .i64 0, .int .i64 0, .int .i64 0, .string { data := #[] }, .slice none 0 0, .slice none 0 0] 31) := ⟨_, rfl⟩
  have hk5 : Keeps Non w x5 := by rw [hx5]; exact (HK4.out.then hK5 fun i hi e => by unfold Only at e; have := HB.out; omega).alloc _
  have h5' := h5.non (show Keeps Non w5 x5 by rw [hx5]; exact (Keeps.refl _ _).alloc _)
  have HB5 : Hid (Blk x5 w4.heap.size 31 #[.int .i64 1, .int .i64 5, .int .i64 0, .int .i64 0, .string { data := #[97] }, .slice Al4 0 cl4, .slice Ad4 0 cd4]) := by rw [hx5]; exact (HB4.out.one hK5 hbg4.out).alloc _
  have HK5 := Lib.hid hk5
  have hz5 : B ≤ x5.heap.size := by have := HB.out; have := hk5.size; omega
  obtain ⟨p2, hp2⟩ : ∃ p : Rp, p = ⟨1, 5, 0, 0, { data := #[] }, [], []⟩ := ⟨_, rfl⟩
  have HP2 := Lib.hid hp2
  have hKp := keep_any p2 (.slice none 0 0) (.slice none 0 0) x5 h5' hz5 (fun w' _ => RdR.empty w' p2 (by rw [hp2]) (by rw [hp2])) (by rw [hp2]; simp [RpB])
  have hKp' := hKp
  simp only [hp2] at hKp'
  rw [← hp2] at hKp'
  have HKp := Lib.hid hKp'
  have HOK5 := Lib.hid h5'.lowk.2
  have HNE5 : Hid (∀ gk, ok5 = some gk → gk ≠ w4.heap.size) := hE5.ne HB4.out.lt HNE4.out
  have hbg5 := Lib.hid hbg4.out
  clear hv h5 h5' hK5 hk5 HL4 hp2 hKp hKp' hE5
  go_wp2_with fail
  rw [← hx5]
  clear hx5
  refine HKp.out.mono ?_
  rintro e w6 ⟨c6, K6, ok6, f6, r6, rfl, hv, h6, hE6, hK6⟩
  obtain ⟨rfl, hKe, rfl, rfl⟩ := hv.isStale (by rw [HP2.out]; rfl) (by rw [HP2.out]; show (5 : Int) ≤ (K3 1).id; rw [HKK.out, HP1.out]; decide)
  rw [hKe] at h6
  have h6' : Tab w6 B (fun _ => True) B ok6 K3 (wrap64 (0 + 1)) (wrap64 (0 + 1)) (wrap64 (wrap64 (0 + 1) + 1)) := h6.mono fun _ _ => trivial
  have hk6 : Keeps Non w w6 := HK5.out.then hK6 fun i hi e => by
    have hb := HB.out
    rcases e with e | e
    · omega
    · exact absurd (HOK5.out i e) (by omega)
  have HB6 : Hid (Blk w6 w4.heap.size 31 #[.int .i64 1, .int .i64 5, .int .i64 0, .int .i64 0, .string { data := #[97] }, .slice Al4 0 cl4, .slice Ad4 0 cd4]) := HB5.out.keep hK6 fun e => by
    rcases e with e | e
    · exact hbg5.out e
    · exact HNE5.out _ e rfl
  have HNE6 : Hid (∀ gk, ok6 = some gk → gk ≠ w4.heap.size) := hE6.ne HB5.out.lt HNE5.out
  have HK6 := Lib.hid hk6
  have HOK6 := Lib.hid h6'.lowk.2
  have hz6 : B ≤ w6.heap.size := by have := HB.out; have := hk6.size; omega
  obtain ⟨p3, hp3⟩ : ∃ p : Rp, p = ⟨9, 5, 0, 0, { data := #[] }, [], []⟩ := ⟨_, rfl⟩
  have HP3 := Lib.hid hp3
  have hKp := keep_any p3 (.slice none 0 0) (.slice none 0 0) w6 h6' hz6 (fun w' _ => RdR.empty w' p3 (by rw [hp3]) (by rw [hp3])) (by rw [hp3]; simp [RpB])
  have hKp' := hKp
  simp only [hp3] at hKp'
  rw [← hp3] at hKp'
  have HKp7 := Lib.hid hKp'
  clear hv h6 h6' hK6 hk6 HKp hp3 hKp hKp' hE6
  go_wp2_with fail
  refine HKp7.out.mono ?_
  rintro e w7 ⟨c7, K7, ok7, f7, r7, rfl, hv, h7, -, hK7⟩
  obtain ⟨rfl, hKe, rfl, rfl⟩ := hv.isBad (by rw [HP3.out]; rfl)
  rw [hKe] at h7
  have h7' : Tab w7 B (fun _ => True) B ok7 K3 (wrap64 (0 + 1)) (wrap64 (0 + 1)) (wrap64 (wrap64 (wrap64 (0 + 1) + 1) + 1)) := h7.mono fun _ _ => trivial
  have e1 : wrap64 (0 + 1) = 1 := by kernel_rfl
  have e3 : wrap64 (wrap64 (wrap64 (0 + 1) + 1) + 1) = 3 := by kernel_rfl
  rw [e3, e1] at h7'
  have hk7 : Keeps Non w w7 := HK6.out.then hK7 fun i hi e => by
    have hb := HB.out
    rcases e with e | e
    · omega
    · exact absurd (HOK6.out i e) (by omega)
  have HB7 : Hid (Blk w7 w4.heap.size 31 #[.int .i64 1, .int .i64 5, .int .i64 0, .int .i64 0, .string { data := #[97] }, .slice Al4 0 cl4, .slice Ad4 0 cd4]) := HB6.out.keep hK7 fun e => by
    rcases e with e | e
    · exact hbg5.out e
    · exact HNE6.out _ e rfl
  have HK7 := Lib.hid hk7
  have HT7 := Lib.hid h7'
  have HC7 := Lib.hid (counts_any w7 h7')
  clear hv h7 h7' hK7 hk7 HKp7 e1 e3
  go_wp2_with fail
  refine HC7.out.mono ?_
  rintro e w8 ⟨rfl, hK8⟩
  have t8 : w8.cell? ⟨w4.heap.size, 4, none⟩ = some (.string { data := #[97] }) := (HB7.out.non hK8).cell 4
  have HK8 := Lib.hid (HK7.out.trans hK8)
  have HL8 := Lib.hid (last_any 1 w8 (HT7.out.non hK8) (by have := HB.out; have := HK8.out.size; omega))
  clear hK8
  go_wp2_with fail
  refine HL8.out.mono ?_
  rintro e w9 ⟨ok9, rfl, h9, -, hK9⟩
  have hlv : lastV K3 1 = 5 := by
    unfold lastV
    rw [if_pos (by rfl), show (1 : Int).toNat = 1 from rfl, HKK.out, HP1.out]
  rw [hlv]
  have HK9 := Lib.hid (HK8.out.then hK9 fun i hi e => by unfold Only at e; have := HB.out; omega)
  clear h9 hK9 hlv t8
  go_wp2_with fail
  go_ret
  exact ⟨rfl, HK9.out⟩
end Go.Proofs.Ytmlffigfhhoihac
