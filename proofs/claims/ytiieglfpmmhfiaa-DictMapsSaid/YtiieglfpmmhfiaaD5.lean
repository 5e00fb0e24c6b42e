/- slices.Insert where there is no room; the whole. -/
import Derived.Test.YtiieglfpmmhfiaaD4
namespace Go.Proofs.Ytiieglfpmmhfiaa
set_option maxRecDepth 100000
open Go.RowKit Go.Uc

theorem grow_list (row : List Value) (l : List Ent) (x : Ent) (i : Nat) (hi : i < l.length) (ht : row.take (i * 2) = (l.take i).flatMap encE) (hs : (l.length + 1) * 2 ≤ row.length) (b1 b2 : List Value)
    (h1 : b1 = row.take (i * 2) ++ (encE x ++ row.drop (i * 2 + (encE x).length))) (h2 : b2 = b1.take ((i + 1) * 2) ++ ((l.drop i).flatMap encE ++ b1.drop ((i + 1) * 2 + ((l.drop i).flatMap encE).length))) :
    b1.length = row.length ∧ b2.length = row.length ∧ b2.take ((l.length + 1) * 2) = (l.take i ++ x :: l.drop i).flatMap encE := by
  have hF : ((l.drop i).flatMap encE).length = (l.length - i) * 2 := by rw [flat_len encE_len, List.length_drop]
  have hG : ((l.take i).flatMap encE).length = i * 2 := by rw [flat_len encE_len, List.length_take, Nat.min_eq_left (by omega)]
  rw [encE_len] at h1
  have hl1 : b1.length = row.length := by rw [h1, ht]; simp only [List.length_append, List.length_drop, hG, encE_len]; omega
  have e1 : b1.take ((i + 1) * 2) = (l.take i).flatMap encE ++ encE x := by
    rw [h1, ht, ← List.append_assoc, List.take_left']
    simp only [List.length_append, hG, encE_len]; omega
  refine ⟨hl1, ?_, ?_⟩
  · rw [h2, e1]; simp only [List.length_append, List.length_drop, hF, hG, encE_len, hl1]; omega
  · rw [h2, e1, flat_app, List.flatMap_cons, ← List.append_assoc, List.append_assoc _ _ ((l.drop i).flatMap encE), List.take_left']
    simp only [List.length_append, hF, hG, encE_len]; omega

set_option maxHeartbeats 2000000 in
theorem insert_grow (g cap : Nat) (l : List Ent) (hn : l.length ≤ 1000000000000) (x : Ent) (i vb : Nat) (hi : i < l.length) (hroom : cap < l.length + 1) (w : World) (h : RowE w (.slice (some ⟨g, 0, none⟩) l.length cap) l) (hx : RowE w (.slice (some ⟨vb, 0, none⟩) 1 1) [x]) :
    Calls Try.prog 30 #[.slice (some ⟨g, 0, none⟩) l.length cap, .int .i64 (i : Int), .slice (some ⟨vb, 0, none⟩) 1 1] w (InsP w (.slice (some ⟨g, 0, none⟩) l.length cap) l i x) := by
  obtain ⟨A, c, e1, hcap, hAl⟩ := h.ats encE_len
  injection e1 with e1 e1b e2
  clear e1b
  subst e1 e2
  have hAx := ats_one hx
  have hlo := h.lt g (by rw [own_slice]; simp)
  obtain ⟨i0, hi0, hz0, hzs, hzb⟩ := info_p info56
  have hsz2 : (Try.prog.info? 56).map (·.size) = some 2 := by kernel_rfl
  have hF : ((l.drop i).flatMap encE).length = (l.length - i) * 2 := by rw [flat_len encE_len, List.length_drop]
  have hG : ((l.take i).flatMap encE).length = i * 2 := by rw [flat_len encE_len, List.length_take, Nat.min_eq_left (by omega)]
  have hold : (Builtin.firstCells i0.size i (.slice (some ⟨g, 0, none⟩) i cap)).run Try.prog w.drew = .ok ((l.take i).flatMap encE).toArray w.drew := by
    rw [hzs]
    refine run_firstCells_some w.drew 2 i ⟨g, 0, none⟩ i cap ((l.take i).flatMap encE) hG fun j v hj => ?_
    obtain ⟨ad, e, hc⟩ := hAl (by rw [flat_len encE_len]; omega)
    injection e with e
    subst e
    refine hc j v ?_
    rw [← flat_take, List.getElem?_take] at hj
    split at hj
    · exact hj
    · cases hj
  obtain ⟨n, hnn⟩ : ∃ n, n = l.length := ⟨_, rfl⟩
  have hin0 : i + (n + 1 - i) = n + 1 := by omega
  obtain ⟨G, hGd⟩ : ∃ G, G = grownCap w (n + 1) cap 56 := ⟨_, rfl⟩
  obtain ⟨row, hrow⟩ : ∃ row : Array Value, row = ((l.take i).flatMap encE).toArray ++ Builtin.zeroCells (Value.agg #[.string ByteArray.empty, .int .i64 0]).cells (n + 1 - i) ++ Builtin.zeroCells (Value.agg #[.string ByteArray.empty, .int .i64 0]).cells (G - (n + 1)) := ⟨_, rfl⟩
  have hrun : ∀ ty, (Builtin.append_ #[32, 3] ty #[.slice (some ⟨g, 0, none⟩) i cap, .int .i64 ((n + 1 - i : Nat) : Int)]).run Try.prog w = .ok (.slice (some ⟨w.heap.size, 0, none⟩) (n + 1) G) (w.drew.alloc (.cells row 56)) := fun ty => by
    have h := Lib.run_append_grow_zeros w 32 3 ty 56 i0 _ .i64 .i64 Try.underlying32 Try.underlying3 hi0 hz0 (some ⟨g, 0, none⟩) i cap _ hold (n + 1 - i) (by omega) (by omega) (by omega) (by omega) (by rw [hzb]; omega) (by rw [hzb, hin0]; exact growslice_fits (by omega) (by omega))
    rw [hin0, ← hGd, ← hrow] at h
    exact h
  have hGn : n + 1 ≤ G := by rw [hGd]; exact grownCap_ge w _ _ _
  have hGm : G ≤ maxLen := by rw [hGd]; exact grownCap_le_maxLen w _ _ _ (by unfold maxLen; omega)
  have hrl : row.size = G * 2 := by
    rw [hrow]
    generalize (l.take i).flatMap encE = Fl at hG
    simp [Builtin.zeroCells, Value.cells]
    omega
  have hrt : row.toList.take (i * 2) = (l.take i).flatMap encE := by
    rw [hrow]
    simp only [Array.toList_append]
    rw [List.append_assoc, List.take_left' (by simpa using hG)]
  have HL := Lib.hid (grow_list row.toList l x i hi hrt (by simp [hrl]; omega) _ _ rfl rfl)
  obtain ⟨W1, hW1⟩ : ∃ W1 : World, W1 = w.drew.alloc (.cells row 56) := ⟨_, rfl⟩
  obtain ⟨N, hN⟩ : ∃ N, N = w.heap.size := ⟨_, rfl⟩
  have hB : Blk W1 N 56 row := by rw [hW1, hN]; exact Blk.new w.drew 56 row
  have hK : Keeps Non w W1 := by rw [hW1]; exact ((Keeps.refl _ _).drew).alloc _
  rw [← hW1, ← hN] at hrun
  have hAl1 := hAl.non hK
  have hAx1 := hAx.non hK
  have HB := Lib.hid hB
  have HK := Lib.hid hK
  have HAx1 : Hid (∀ j v, (encE x)[j]? = some v → W1.cell? ((⟨vb, 0, none⟩ : Addr).add j) = some v) := Lib.hid fun j v hj => by
    obtain ⟨ad, e, hc⟩ := hAx1 (by simp [encE])
    injection e with e
    subst e
    exact hc j v (by simpa using hj)
  have hgN : g ≠ N := by omega
  have HAl1 := Lib.hid hAl1
  have hmin : n - i = Nat.min (n - i) (n - i) := by simp
  rw [← hnn] at hi hroom hn hF HL ⊢
  have HS : Hid (n - i = Nat.min (n - i) (n - i) ∧ ((l.drop i).flatMap encE).length = (n - i) * 2) := Lib.hid ⟨hmin, hF⟩
  have HS2 : Hid (1 = Nat.min 1 (n + 1 - i) ∧ (encE x).length = 1 * 2) := Lib.hid ⟨by simp only [Nat.min_def]; split <;> omega, rfl⟩
  have HF1 : Hid (i * 2 + (encE x).length ≤ row.toList.length) := Lib.hid (by simp [hrl, encE_len]; omega)
  have HF2 : Hid ((i + 1) * 2 + ((l.drop i).flatMap encE).length ≤ (row.toList.take (i * 2) ++ (encE x ++ row.toList.drop (i * 2 + (encE x).length))).length) := Lib.hid (by
    rw [HL.out.1, hF]; simp [hrl]; omega)
  have HM := Lib.hid hGm
  have HR := Lib.hid hrl
  have HNn := Lib.hid hN
  have HN := Lib.hid hnn
  obtain ⟨Q, hQ⟩ : ∃ Q : Ending → World → Prop, Q = InsP w (.slice (some ⟨g, 0, none⟩) n cap) l i x := ⟨_, rfl⟩
  rw [← hQ]
  have HQ := Lib.hid hQ
  have hw1 : IntKind.i64.wrap ((i : Int) + 1) = (i : Int) + 1 := by rw [IntKind.wrap_i64]; omega
  have hw2 : IntKind.i64.wrap ((n : Int) + 1) = (n : Int) + 1 := by rw [IntKind.wrap_i64]; omega
  have hw3 : (n : Int) + 1 - (i : Int) = ((n + 1 - i : Nat) : Int) := by omega
  have hb1 : (0 : Int) ≤ (i : Int) + 1 := by omega
  have hin : (i : Int) ≤ (n : Int) := by omega
  have htn : ((i : Int) + 1).toNat = i + 1 := by omega
  have hb2 : ¬ (G = i + 1) := by omega
  have hb3 : (i : Int) ≤ (n : Int) + 1 := by omega
  have hb4 : ¬ (cap = i) := by omega
  have hb5 : (cap : Int) < (n : Int) + 1 := by omega
  have hb8 : ¬ (G = i) := by omega
  have hz2 : ¬ ((i : Int) = (n : Int)) := by omega
  have hb7 : (i : Int) + 1 ≤ (n : Int) + 1 := by omega
  have hic : (i : Int) ≤ (cap : Int) := by omega
  clear hnn hQ hAl hAx h hx hlo hi0 hz0 hzs hzb hsz2 hF hG hold hin0 hGd hrow hGm hrl hrt hW1 hN hB hK hAl1 hAx1 hmin hcap
  go_enter Try.func30, Try.ntmps30
  go_wp2_with (first
    | (at_builtin; refine Lib.wpList_append_run _ rfl _ _ _ _ rfl _ _ rfl rfl _ _ (hrun _) ?_)
    | ((with_reducible show wpList _ _ _ ({ dst := some 45, op := _, type := _, pos := _, after := _, guard := _ } :: _) _ _); go_must (refine wpList_copy_k 2 1 rfl (.tmp 43) (.tmp 44) 32 32 rfl 56 Try.underlying32 (by kernel_rfl) ⟨vb, 0, none⟩ (n + 1 - i) (G - i) 1 1 N (i * 2) rfl rfl row.toList 56 (by rw [Array.toArray_toList]; exact HB.out) (encE x) HS2.out.1 HS2.out.2 HAx1.out HF1.out (encE_one x) ?_; intro w2 hB2 hK2)))
  have hAl2 := (HAl1.out.keep hK2 (fun ad e => by injection e with e; subst e; exact hgN)).non (Keeps.refl Non w2).drew
  have HAd := Lib.hid (ats_drop hAl2 i)
  have HB2 := Lib.hid hB2.drew
  clear hAl2 hB2
  go_region_law (refine step_copy_k 2 (n - i) rfl (.tmp 50) (.tmp 53) 32 32 rfl 56 Try.underlying32 (by kernel_rfl) ⟨g, i * 2, none⟩ (n - i) (G - (i + 1)) (n - i) (cap - i) N ((i + 1) * 2) (by simp [Act.eval, Act.put]) (by simp [Act.eval, Act.put]) _ 56 HB2.out ((l.drop i).flatMap encE) HS.out.1 HS.out.2 HAd.out HF2.out (flat_one _) ?_; intro w3 hB3 hK3)
  go_wp2_with fail
  rw [HQ.out]
  obtain ⟨-, h1, h2⟩ := HL.out
  refine ⟨⟨some ⟨N, 0, none⟩, n + 1, G⟩, rfl, ?_, fun k hk => .inr ?_, ?_⟩
  · have hlen : (l.take i ++ x :: l.drop i).length = n + 1 := by
      have := HN.out
      simp only [List.length_append, List.length_cons, List.length_take, List.length_drop]; omega
    have h3 : RowE w3 (.slice (some ⟨N, 0, none⟩) (l.take i ++ x :: l.drop i).length G) (l.take i ++ x :: l.drop i) := by
      refine RowP.mk encE_len hB3 (by rw [hlen]; exact hGn) HM.out ?_ ?_
      · simpa [HR.out] using h1
      · rw [hlen]
        simpa using h2
    rw [hlen] at h3
    exact h3
  · simp [Sl.v, own_slice] at hk
    rw [hk, HNn.out]; exact Nat.le_refl _
  · have hN := HNn.out
    have k1 : Keeps Non w w2 := HK.out.then hK2 fun i hi e => by unfold Only at e; omega
    have k2 : Keeps Non w w3 := (k1.drew).then hK3 fun i hi e => by unfold Only at e; omega
    exact k2.of_non
theorem insert_any (v : Value) (l : List Ent) (hn : l.length ≤ 1000000000000) (x : Ent) (i vb : Nat) (hi : i ≤ l.length) (w : World) (h : RowE w v l) (hx : RowE w (.slice (some ⟨vb, 0, none⟩) 1 1) [x]) (hne : vb ∉ own v) :
    Calls Try.prog 30 #[v, .int .i64 (i : Int), .slice (some ⟨vb, 0, none⟩) 1 1] w (InsP w v l i x) := by
  rcases Nat.lt_or_ge i l.length with h1 | h1
  · rcases h.form with ⟨rfl, rfl⟩ | ⟨g, cap, cur, rfl, -⟩
    · simp at h1
    · rcases Nat.lt_or_ge cap (l.length + 1) with h2 | h2
      · exact insert_grow g cap l hn x i vb h1 h2 w h hx
      · exact insert_shift g cap l hn x i vb h1 h2 w h hx (by rw [own_slice] at hne; simpa using hne)
  · obtain rfl : i = l.length := by omega
    exact insert_end v l hn x vb w h hx
end Go.Proofs.Ytiieglfpmmhfiaa
