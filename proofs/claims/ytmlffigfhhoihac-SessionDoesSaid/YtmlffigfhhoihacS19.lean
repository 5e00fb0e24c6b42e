/- Clone. -/
import Derived.Test.YtmlffigfhhoihacS18
namespace Go.Proofs.Ytmlffigfhhoihac
open Go.RowKit Go.Uc

section set
variable {w : World} {B g : Nat} {ok : Option Nat} {A : Nat → Prop} {K : Nat → Rp} {f a r : Int}
theorem set_fresh (y : Int) (h : Tab w B A g ok K f a r) : Calls Try.prog 24 #[.pointer (some ⟨g, 4, none⟩), .int .i64 y] w fun e w' => e = .returned (.tuple #[]) ∧ Tab w' B A g ok K y a r ∧ Keeps (Only g) w w' := by
  obtain ⟨d, kept, hb, hc⟩ := h.blk
  refine (store_any ⟨g, 4, none⟩ _ y w (hb.cell 4) (hb.frozen 4)).mono ?_
  rintro e w' ⟨rfl, rfl⟩
  have hk : Keeps (Only g) w (w.setCell ⟨g, 4, none⟩ (.int .i64 y)) := (Keeps.refl (Only g) w).set (p := ⟨g, 4, none⟩) rfl _
  exact ⟨rfl, hc _ _ _ _ hk (hb.set 4 _), hk⟩
theorem set_again (y : Int) (h : Tab w B A g ok K f a r) : Calls Try.prog 24 #[.pointer (some ⟨g, 5, none⟩), .int .i64 y] w fun e w' => e = .returned (.tuple #[]) ∧ Tab w' B A g ok K f y r ∧ Keeps (Only g) w w' := by
  obtain ⟨d, kept, hb, hc⟩ := h.blk
  refine (store_any ⟨g, 5, none⟩ _ y w (hb.cell 5) (hb.frozen 5)).mono ?_
  rintro e w' ⟨rfl, rfl⟩
  have hk : Keeps (Only g) w (w.setCell ⟨g, 5, none⟩ (.int .i64 y)) := (Keeps.refl (Only g) w).set (p := ⟨g, 5, none⟩) rfl _
  exact ⟨rfl, hc _ _ _ _ hk (hb.set 5 _), hk⟩
theorem set_refused (y : Int) (h : Tab w B A g ok K f a r) : Calls Try.prog 24 #[.pointer (some ⟨g, 6, none⟩), .int .i64 y] w fun e w' => e = .returned (.tuple #[]) ∧ Tab w' B A g ok K f a y ∧ Keeps (Only g) w w' := by
  obtain ⟨d, kept, hb, hc⟩ := h.blk
  refine (store_any ⟨g, 6, none⟩ _ y w (hb.cell 6) (hb.frozen 6)).mono ?_
  rintro e w' ⟨rfl, rfl⟩
  have hk : Keeps (Only g) w (w.setCell ⟨g, 6, none⟩ (.int .i64 y)) := (Keeps.refl (Only g) w).set (p := ⟨g, 6, none⟩) rfl _
  exact ⟨rfl, hc _ _ _ _ hk (hb.set 6 _), hk⟩
theorem get_fresh (h : Tab w B A g ok K f a r) : Calls Try.prog 25 #[.pointer (some ⟨g, 4, none⟩)] w fun e w' => e = .returned (.int .i64 f) ∧ w' = w := by
  obtain ⟨d, kept, hb, hc⟩ := h.blk
  exact load_any ⟨g, 4, none⟩ f w (hb.cell 4)
theorem get_again (h : Tab w B A g ok K f a r) : Calls Try.prog 25 #[.pointer (some ⟨g, 5, none⟩)] w fun e w' => e = .returned (.int .i64 a) ∧ w' = w := by
  obtain ⟨d, kept, hb, hc⟩ := h.blk
  exact load_any ⟨g, 5, none⟩ a w (hb.cell 5)
theorem get_refused (h : Tab w B A g ok K f a r) : Calls Try.prog 25 #[.pointer (some ⟨g, 6, none⟩)] w fun e w' => e = .returned (.int .i64 r) ∧ w' = w := by
  obtain ⟨d, kept, hb, hc⟩ := h.blk
  exact load_any ⟨g, 6, none⟩ r w (hb.cell 6)
theorem Tab.down {B' : Nat} (h : Tab w B A g ok K f a r) (hB : B' ≤ B) : Tab w B' A g ok K f a r := by
  rcases h with ⟨h1, h2, h3⟩ | ⟨gk, h1, h2⟩
  · exact .inl ⟨h1, by omega, h3⟩
  · exact .inr ⟨gk, h1, ⟨by have := h2.lowg; omega, by have := h2.lowk; omega, h2.tb, h2.row, h2.fine⟩⟩
theorem Tab.lt (h : Tab w B A g ok K f a r) : g < w.heap.size := by
  obtain ⟨d, kept, hb, -⟩ := h.blk
  exact hb.lt
end set
theorem fine_list {K : Nat → Rp} (h : ∀ i, RpB (K i)) {n : Nat} {r : Rp} (hr : r ∈ listTo K n) : RpB r := by
  unfold listTo at hr
  rw [List.mem_filter, List.mem_map] at hr
  obtain ⟨⟨i, -, rfl⟩, -⟩ := hr
  exact h i

set_option maxRecDepth 100000 in
set_option maxHeartbeats 4000000 in
theorem clone_tab {B g : Nat} {ok : Option Nat} {A : Nat → Prop} {K : Nat → Rp} {f a r : Int} (w : World) (h : Tab w B A g ok K f a r) (hB : B ≤ w.heap.size) (hG : Good K) :
    Calls Try.prog 13 #[.pointer (some ⟨g, 0, none⟩)] w fun e w' => ∃ g' ok' ok2, e = .returned (.pointer (some ⟨g', 0, none⟩)) ∧ Tab w' B A g ok' K f a r ∧ Ext w ok ok' ∧ Tab w' w.heap.size (fun k => w.heap.size ≤ k) g' ok2 K f a r ∧ (∀ k, ok2 = some k → ok' ≠ some k) ∧ Keeps (Only g) w w' := by
  have HA := Lib.hid (all_tab w h hB)
  have HG := Lib.hid (load_all hG)
  have HFI := Lib.hid h.fine
  clear h hG
  go_enter Try.func13, Try.ntmps13
  go_wp2_with fail
  refine HA.out.mono ?_
  rintro e w1 ⟨v, ok1, rfl, hR1, h1, hE1, -, hK1⟩
  obtain ⟨Av, cv, rfl, -, hRE, -⟩ := hR1.open
  have hln := listTo_length K 9
  have HL := Lib.hid (load_rs Av cv (listTo K 9) w1 (hRE.mono fun l d r hr hx => ⟨hx.rd, fine_list HFI.out hr⟩) (by omega))
  have hz1 := hK1.size
  have HK1 := Lib.hid hK1
  have H1 := Lib.hid h1
  have HE1 := Lib.hid hE1
  clear hR1 h1 hE1 hK1 hRE HA
  go_wp2_with fail
  refine HL.out.mono ?_
  rintro e w2 ⟨hK2, h2⟩
  rcases h2 with ⟨-, g', ok2, rfl, h2⟩ | ⟨hf, -⟩
  case inr => rw [HG.out.1] at hf; cases hf
  rw [HG.out.2] at h2
  have h12 := H1.out.non hK2
  have hgg : g' ≠ g := by have := h2.lowk.1; have := H1.out.lt; omega
  have hdis : ∀ k, ok2 = some k → ok1 ≠ some k := fun k e e' => by have := h2.lowk.2 k e; have := H1.out.low k e'; omega
  have HD := Lib.hid hdis
  have HK2 := Lib.hid (HK1.out.non hK2)
  have hg'2 : w.heap.size ≤ g' := by have := h2.lowk.1; omega
  clear hdis hK2
  go_upto_region 2 with fail
  have G2 := Lib.hid (get_fresh (h12.non (Keeps.refl _ _).drew))
  have S2 := Lib.hid (set_fresh f (h2.non (Keeps.refl _ _).drew))
  go_region_with (first | (go_at_call 25; go_must (refine G2.out.mono ?_); rintro e w' ⟨rfl, rfl⟩) | (go_at_call 24; go_must (refine S2.out.mono ?_); rintro e x2 ⟨rfl, h22, hKx2⟩))
  all_goals
  have h122 := (h12.non (Keeps.refl Non w2).drew).other ((h2.non (Keeps.refl Non w2).drew).down (by omega)) (hKx2.mono fun k e => .inl e) hgg HD.out
  have HKx2 := Lib.hid (HK2.out.drew.then hKx2 fun i hi e => by unfold Only at e; omega)
  clear h2 h12 hKx2 G2 S2
  go_upto_region 3 with fail
  have G3 := Lib.hid (get_again (h122.non (Keeps.refl _ _).drew))
  have S3 := Lib.hid (set_again a (h22.non (Keeps.refl _ _).drew))
  go_region_with (first | (go_at_call 25; go_must (refine G3.out.mono ?_); rintro e w' ⟨rfl, rfl⟩) | (go_at_call 24; go_must (refine S3.out.mono ?_); rintro e x3 ⟨rfl, h223, hKx3⟩))
  all_goals
  have h1223 := (h122.non (Keeps.refl Non x2).drew).other ((h22.non (Keeps.refl Non x2).drew).down (by omega)) (hKx3.mono fun k e => .inl e) hgg HD.out
  have HKx3 := Lib.hid (HKx2.out.drew.then hKx3 fun i hi e => by unfold Only at e; omega)
  clear h22 h122 hKx3 G3 S3
  go_upto_region 4 with fail
  have G4 := Lib.hid (get_refused (h1223.non (Keeps.refl _ _).drew))
  have S4 := Lib.hid (set_refused r (h223.non (Keeps.refl _ _).drew))
  go_region_with (first | (go_at_call 25; go_must (refine G4.out.mono ?_); rintro e w' ⟨rfl, rfl⟩) | (go_at_call 24; go_must (refine S4.out.mono ?_); rintro e x4 ⟨rfl, h2234, hKx4⟩))
  all_goals
  have h12234 := (h1223.non (Keeps.refl Non x3).drew).other ((h223.non (Keeps.refl Non x3).drew).down (by omega)) (hKx4.mono fun k e => .inl e) hgg HD.out
  have HKx4 := Lib.hid (HKx3.out.drew.then hKx4 fun i hi e => by unfold Only at e; omega)
  clear h223 h1223 hKx4 G4 S4
  go_wp2_with fail
  go_ret
  exact ⟨g', ok1, ok2, rfl, h12234, HE1.out, (h2234.down hz1).mono (fun k hk => by omega), HD.out, HKx4.out⟩
end Go.Proofs.Ytmlffigfhhoihac
