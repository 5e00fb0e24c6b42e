/- All. -/
import Derived.Test.YtmlffigfhhoihacS16
namespace Go.Proofs.Ytmlffigfhhoihac
open Go.RowKit Go.Uc

theorem own_types {w : World} {B B' size size' : Nat} {e e' : TypeId} {u v : Value} {n n' : Nat} {vs vs' : List Value} (h : w.ownsRow B e size u n vs) (h' : w.ownsRow B' e' size' v n' vs') (hne : e ≠ e') : ∀ g, v.ownBlock = some g → ¬ Owned u g := by
  intro g hg hu
  rcases h.2 with ⟨rfl, _⟩ | ⟨g1, c1, cu1, rfl, _, hh1, _⟩
  · cases hu
  · rcases h'.2 with ⟨rfl, _⟩ | ⟨g2, c2, cu2, rfl, _, hh2, _⟩
    · cases hg
    · simp [Value.ownBlock] at hg
      simp [Owned, Value.ownBlock] at hu
      subst hg hu
      rw [hh1] at hh2
      injection hh2 with hh2
      injection hh2 with _ hh2
      exact hne hh2
theorem RpO.keep {w w' : World} {S : Nat → Prop} {B : Nat} {l d : Value} {r : Rp} (h : RpO w B l d r) (hk : Keeps S w w') (hl : ∀ g, l.ownBlock = some g → ¬ S g) (hd : ∀ g, d.ownBlock = some g → ¬ S g) : RpO w' B l d r := ⟨h.1.keep hk hl, h.2.keep hk hd⟩
/-- One reply more in the row: what the append leaves. -/
theorem RowR.grow {w w3 : World} {B : Nat} {u v3 l d : Value} {o : Obj} {rs : List Rp} {r : Rp} {vss : List (List Value)} (h1 : w.ownsRow B 31 7 u rs.length vss.flatten) (h2 : vss.length = rs.length)
    (h3 : ∀ i (h : i < rs.length) (h' : i < vss.length), RepV (RpO w B) vss[i] rs[i]) (hd : RpO w B l d r) (hr : w3.ownsRow B 31 7 v3 (rs.length + 1) (vss.flatten ++ r.vals l d))
    (hk3 : Keeps (Owned u) (w.alloc o) w3) : RowR w3 B (RpO w3 B) v3 (rs ++ [r]) := by
  have hka := (Keeps.refl Non w).alloc o
  have h1' := row_keep h1 hka fun _ _ e => e
  have hkk : ∀ {l d : Value} {r : Rp}, RpO w B l d r → RpO w3 B l d r := fun h => by
    have h' := h.non hka
    exact h'.keep hk3 (own_types h1' h'.1 (by decide)) (own_types h1' h'.2 (by decide))
  refine RowR.snoc hr h2 (fun i a b => ?_) ⟨l, d, rfl, hd.rd.one, hkk hd⟩
  obtain ⟨l', d', e, ho, hd'⟩ := h3 i a b
  exact ⟨l', d', e, ho, hkk hd'⟩
theorem RowR.low {w : World} {B : Nat} {E : Value → Value → Rp → Prop} {v : Value} {rs : List Rp} (h : RowR w B E v rs) : ∀ k, v.ownBlock = some k → B ≤ k := fun k hk => by
  obtain ⟨vss, ho, -⟩ := h
  exact (World.ownsRow.lt ho k hk).1
theorem RowR.non_own {w w' : World} {B : Nat} {v : Value} {rs : List Rp} (h : RowR w B (RpO w B) v rs) (hk : Keeps Non w w') : RowR w' B (RpO w' B) v rs := (h.non hk).mono fun _ _ _ _ hr => hr.non hk

set_option maxRecDepth 100000 in
set_option maxHeartbeats 4000000 in
theorem all_tab {B g : Nat} {ok : Option Nat} {A : Nat → Prop} {K : Nat → Rp} {f a r : Int} (w : World) (h : Tab w B A g ok K f a r) (hB : B ≤ w.heap.size) :
    Calls Try.prog 23 #[.pointer (some ⟨g, 0, none⟩)] w fun e w' => ∃ v ok', e = .returned v ∧ RowR w' w.heap.size (RpO w' w.heap.size) v (listTo K 9) ∧ Tab w' B A g ok' K f a r ∧ Ext w ok ok' ∧ (∀ k, v.ownBlock = some k → ok' ≠ some k) ∧ Keeps (Only g) w w' := by
  have HP := Lib.hid (places_any w h hB)
  clear h
  go_enter Try.func23, Try.ntmps23
  go_wp2_with fail
  refine HP.out.mono ?_
  rintro e w1 ⟨gk, rfl, hT1, hE1, hK1⟩
  have hz1 := hK1.size
  clear HP
  go_upto_region 3 with fail
  go_loopw [3, 5, 9] (fun v _ i wr => ∃ k : Nat, k ≤ 9 ∧ i = .int .i64 k ∧ RowR wr w1.heap.size (RpO wr w1.heap.size) v (listTo K k) ∧ Keeps Non w1 wr) (fun _ _ i _ => 9 - (intOf i).toNat)
  case atStart => exact ⟨0, by omega, rfl, RowR.nil _ _ _, Keeps.refl _ _⟩
  case round =>
    obtain ⟨k, hk, rfl, hR, hK⟩ := hrel
    by_cases hlt : k < 9
    · obtain ⟨cur, hcb, hcz, hcv⟩ := (hT1.non hK).row
      obtain ⟨l, d, x0, x1, x2, x3, x4, x5, x6, hro, -, -⟩ := hcv k hlt
      have hrd := hro.rd
      obtain ⟨Al, cl, Ad, cd, el, ed, -⟩ := id hrd
      subst el ed
      have y0 : wr.cell? ⟨gk, k * 7, none⟩ = some (.int .i64 (K k).ses) := by rw [hcb.cell]; exact x0
      have y1 : wr.cell? ⟨gk, k * 7 + 1, none⟩ = some (.int .i64 (K k).id) := by rw [hcb.cell]; exact x1
      have y2 : wr.cell? ⟨gk, k * 7 + 2, none⟩ = some (.int .i64 (K k).err) := by rw [hcb.cell]; exact x2
      have y3 : wr.cell? ⟨gk, k * 7 + 3, none⟩ = some (.int .i64 (K k).num) := by rw [hcb.cell]; exact x3
      have y4 : wr.cell? ⟨gk, k * 7 + 4, none⟩ = some (.string (K k).text) := by rw [hcb.cell]; exact x4
      have y5 : wr.cell? ⟨gk, k * 7 + 5, none⟩ = some (.slice Al (K k).list.length cl) := by rw [hcb.cell]; exact x5
      have y6 : wr.cell? ⟨gk, k * 7 + 6, none⟩ = some (.slice Ad (K k).data.length cd) := by rw [hcb.cell]; exact x6
      have hi0 : (0 : Int) ≤ (k : Int) := by omega
      have hi9 : (k : Int) < 9 := by omega
      have HRD := Lib.hid hrd
      have HF := Lib.hid (hT1.fine k)
      clear hcb hcz hcv x0 x1 x2 x3 x4 x5 x6 hro hrd cur
      go_upto_region 5 with fail
      obtain ⟨w2, hw2⟩ : ∃ w2, w2 = wr.alloc (.cells #[.int .i64 (K k).ses, .int .i64 (K k).id, .int .i64 (K k).err, .int .i64 (K k).num, .string (K k).text, (.slice Al (K k).list.length cl), (.slice Ad (K k).data.length cd)] 31) := ⟨_, rfl⟩
      obtain ⟨q, hq⟩ : ∃ q, q = wr.heap.size := ⟨_, rfl⟩
      have hk2 : Keeps Non wr w2 := by rw [hw2]; exact (Keeps.refl _ _).alloc _
      have hQ2 : Blk w2 q 31 #[.int .i64 (K k).ses, .int .i64 (K k).id, .int .i64 (K k).err, .int .i64 (K k).num, .string (K k).text, (.slice Al (K k).list.length cl), (.slice Ad (K k).data.length cd)] := by rw [hw2, hq]; exact Blk.new _ _ _
      rw [← hw2, ← hq]
      clear hw2 hq y0 y1 y2 y3 y4 y5 y6
      have z0 : w2.cell? ⟨q, 0, none⟩ = some (.int .i64 (K k).ses) := hQ2.cell 0
      have z1 : w2.cell? ⟨q, 1, none⟩ = some (.int .i64 (K k).id) := hQ2.cell 1
      have z2 : w2.cell? ⟨q, 2, none⟩ = some (.int .i64 (K k).err) := hQ2.cell 2
      have z3 : w2.cell? ⟨q, 3, none⟩ = some (.int .i64 (K k).num) := hQ2.cell 3
      have z4 : w2.cell? ⟨q, 4, none⟩ = some (.string (K k).text) := hQ2.cell 4
      have z5 : w2.cell? ⟨q, 5, none⟩ = some (.slice Al (K k).list.length cl) := hQ2.cell 5
      have z6 : w2.cell? ⟨q, 6, none⟩ = some (.slice Ad (K k).data.length cd) := hQ2.cell 6
      have hls := listTo_succ K k
      have hK2 := hK.trans hk2
      have hR2 := hR.non_own hk2
      have HO := Lib.hid (own_any (K k) _ _ w2 (HRD.out.non hk2) HF.out)
      clear hk2 hR hK hQ2
      by_cases hp : 0 < (K k).id
      · rw [if_pos hp] at hls
        have HLS := Lib.hid hls
        clear hls
        go_upto_region 6 with fail
        go_wp2_with fail
        refine HO.out.mono ?_
        rintro e w3 ⟨l', d', rfl, hRo, hK3⟩
        obtain ⟨Al', cl', Ad', cd', el, ed, -⟩ := hRo.rd
        subst el ed
        have hR3 := hR2.non_own hK3
        have hk3 := hK2.trans hK3
        have hz3 := hk3.size
        have hz2 := hK2.size
        have hRo3 := hRo.mono (B' := w1.heap.size) (by omega)
        obtain ⟨vss, hv1, hv2, hv3⟩ := hR3
        have hln := listTo_length K k
        clear hRo hK3 hR2 hK2 HO z0 z1 z2 z3 z4 z5 z6
        go_wp2_with (at_builtin; go_must (refine wpList_append_reps rfl (.tmp 16) (.tmp 19) rfl w1.heap.size _ (listTo K k).length vss.flatten rfl (row_keep hv1 ((Keeps.refl Non _).alloc _) fun _ _ e => e) (some ⟨w3.heap.size, 0, none⟩) 1 1 ((K k).vals (.slice Al' (K k).list.length cl') (.slice Ad' (K k).data.length cd')) rfl rfl (Ats.seven _ _ _ _ _ _ _ _ _) (vals_one _ ⟨rfl, rfl⟩) (by omega) (by simp; omega) ?_); intro v4 w4 hO4 hK4 hat; clear hat; go_must (have hR4 := RowR.grow hv1 hv2 hv3 hRo3 hO4 hK4; have hk4 : Keeps Non w1 w4 := (hk3.alloc _).then hK4 fun i hi e => absurd (World.ownsRow.lt hv1 i e).1 (by omega)); clear hO4 hK4)
        go_roundw
        case rel => exact ⟨k + 1, by omega, by go_num, by rw [HLS.out]; exact hR4, hk4⟩
        case measure => simp [intOf]; omega
      · rw [if_neg hp, List.append_nil] at hls
        have HLS := Lib.hid hls
        clear hls
        go_wp2_with fail
        go_roundw
        case rel => exact ⟨k + 1, by omega, by go_num, by rw [HLS.out]; exact hR2, hK2⟩
        case measure => simp [intOf]; omega
    · obtain rfl : k = 9 := by omega
      have HSE := Lib.hid hR.low
      have hgl := hT1.tab.low gk rfl
      have FIN := Lib.hid (And.intro ((hR.down hz1).mono fun _ _ _ _ h => RpO.mono h hz1) (And.intro (hT1.non hK).tab (hK1.non hK)))
      clear hR hT1 hK1 hK
      go_wp2_with fail
      go_ret
      exact ⟨_, _, rfl, FIN.out.1, FIN.out.2.1, hE1, fun k hk e => (by injection e with e; subst e; have := HSE.out _ hk; omega), FIN.out.2.2⟩
end Go.Proofs.Ytmlffigfhhoihac
