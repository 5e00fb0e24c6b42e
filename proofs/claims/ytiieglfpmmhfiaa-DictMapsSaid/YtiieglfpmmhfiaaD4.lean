/- slices.Insert in the middle. -/
import Derived.Test.YtiieglfpmmhfiaaD3
import Derived.Deep.RegionLaw
namespace Go.Proofs.Ytiieglfpmmhfiaa
set_option maxRecDepth 100000
open Go.RowKit Go.Uc

theorem zero56 (w : World) : (zeroValue 56).run Try.prog w = .ok (.agg #[.string ByteArray.empty, .int .i64 0]) w := by kernel_rfl
/-- Elements' cells, an element put in between. -/
theorem flat_app (a b : List Ent) : (a ++ b).flatMap encE = a.flatMap encE ++ b.flatMap encE := List.flatMap_append
theorem flat_take (l : List Ent) (i : Nat) : (l.flatMap encE).take (i * 2) = (l.take i).flatMap encE := by
  conv => lhs; rw [← List.take_append_drop i l]
  rw [flat_app]
  by_cases hi : i ≤ l.length
  · rw [List.take_left' (by rw [flat_len encE_len, List.length_take, Nat.min_eq_left hi])]
  · have h1 : l.drop i = [] := List.drop_of_length_le (by omega)
    rw [h1, List.take_of_length_le (by rw [List.length_append, flat_len encE_len, flat_len encE_len, List.length_take]; simp; omega)]
    simp
theorem flat_drop (l : List Ent) (i : Nat) : (l.flatMap encE).drop (i * 2) = (l.drop i).flatMap encE := by
  conv => lhs; rw [← List.take_append_drop i l]
  rw [flat_app]
  by_cases hi : i ≤ l.length
  · rw [List.drop_left' (by rw [flat_len encE_len, List.length_take, Nat.min_eq_left hi])]
  · have h1 : l.drop i = [] := List.drop_of_length_le (by omega)
    rw [h1, List.drop_of_length_le (by rw [List.length_append, flat_len encE_len, flat_len encE_len, List.length_take]; simp; omega)]
    simp
theorem flat_one (l : List Ent) : ∀ u ∈ l.flatMap encE, u.oneCell' = true := by
  intro u hu
  obtain ⟨x, _, hu⟩ := List.mem_flatMap.1 hu
  exact encE_one x u hu
theorem ats_drop {w : World} {g : Nat} {l : List Ent} (h : Ats w (some ⟨g, 0, none⟩) (l.flatMap encE)) (i : Nat) : ∀ j v, ((l.drop i).flatMap encE)[j]? = some v → w.cell? ((⟨g, i * 2, none⟩ : Addr).add j) = some v := by
  intro j v hj
  rw [← flat_drop, List.getElem?_drop] at hj
  have hp : 0 < (l.flatMap encE).length := by have := (List.getElem?_eq_some_iff.1 hj).1; omega
  obtain ⟨ad, e, hc⟩ := h hp
  injection e with e
  subst e
  have := hc _ v hj
  rw [show (⟨g, 0, none⟩ : Addr).add (i * 2 + j) = ⟨g, i * 2 + j, none⟩ from by unfold Addr.add; split <;> simp_all] at this
  rw [show (⟨g, i * 2, none⟩ : Addr).add j = ⟨g, i * 2 + j, none⟩ from by unfold Addr.add; split <;> simp_all]
  exact this

/-- The two copies, on the cells. -/
theorem shift_list (cur : List Value) (l : List Ent) (x : Ent) (i : Nat) (hi : i < l.length) (ht : cur.take (l.length * 2) = l.flatMap encE) (hs : (l.length + 1) * 2 ≤ cur.length) (b1 b2 : List Value)
    (h1 : b1 = cur.take ((i + 1) * 2) ++ ((l.drop i).flatMap encE ++ cur.drop ((i + 1) * 2 + ((l.drop i).flatMap encE).length))) (h2 : b2 = b1.take (i * 2) ++ (encE x ++ b1.drop (i * 2 + 2))) :
    b2.length = cur.length ∧ b2.take ((l.length + 1) * 2) = (l.take i ++ x :: l.drop i).flatMap encE := by
  have hF : ((l.drop i).flatMap encE).length = (l.length - i) * 2 := by rw [flat_len encE_len, List.length_drop]
  have hl1 : b1.length = cur.length := by rw [h1]; simp only [List.length_append, List.length_take, List.length_drop, hF]; omega
  have e1 : b1.take (i * 2) = (l.take i).flatMap encE := by
    rw [h1, List.take_append_of_le_length (by rw [List.length_take]; omega), List.take_take, Nat.min_eq_left (by omega), ← flat_take, ← ht, List.take_take, Nat.min_eq_left (by omega)]
  have e2 : b1.drop (i * 2 + 2) = (l.drop i).flatMap encE ++ cur.drop ((i + 1) * 2 + ((l.drop i).flatMap encE).length) := by
    rw [h1, List.drop_left' (by rw [List.length_take]; omega)]
  have hG : ((l.take i).flatMap encE).length = i * 2 := by rw [flat_len encE_len, List.length_take, Nat.min_eq_left (by omega)]
  rw [h2, e1, e2]
  refine ⟨?_, ?_⟩
  · simp only [List.length_append, List.length_drop, hF, hG, encE_len]; omega
  · rw [flat_app, List.flatMap_cons, ← List.append_assoc (encE x), ← List.append_assoc, List.take_left']
    simp only [List.length_append, hF, hG, encE_len]; omega

set_option maxHeartbeats 2000000 in
/-- There is room: what stands behind is moved on. -/
theorem insert_shift (g cap : Nat) (l : List Ent) (hn : l.length ≤ 1000000000000) (x : Ent) (i vb : Nat) (hi : i < l.length) (hroom : l.length + 1 ≤ cap) (w : World) (h : RowE w (.slice (some ⟨g, 0, none⟩) l.length cap) l) (hx : RowE w (.slice (some ⟨vb, 0, none⟩) 1 1) [x]) (hne : vb ≠ g) :
    Calls Try.prog 30 #[.slice (some ⟨g, 0, none⟩) l.length cap, .int .i64 (i : Int), .slice (some ⟨vb, 0, none⟩) 1 1] w (InsP w (.slice (some ⟨g, 0, none⟩) l.length cap) l i x) := by
  obtain ⟨A, c, e1, -, hAl⟩ := h.ats encE_len
  injection e1 with e1 e1b e2
  clear e1b
  subst e1 e2
  have hAx := ats_one hx
  rcases h.form with ⟨e1, _⟩ | ⟨g', cap', cur, e1, hB, hc, hm, hsz, htk⟩
  · cases e1
  injection e1 with e1 e1b e2
  clear e1b
  injection e1 with e1
  injection e1 with e1 e1b e1c
  clear e1b e1c
  subst e1 e2
  rcases hx.form with ⟨e1, _⟩ | ⟨g', cap', curx, e1, hBx, hcx, -, hszx, -⟩
  · cases e1
  injection e1 with e1 e1b e2
  clear e1b
  injection e1 with e1
  injection e1 with e1 e1b e1c
  clear e1b e1c
  subst e1 e2
  unfold maxLen at hm
  have hov : ∀ lb cb, (callFunc 55 #[.slice (some ⟨vb, 0, none⟩) 1 1, .slice (some ⟨g, (i + 1) * 2, none⟩) lb cb]).run Try.prog w = .ok (.value (.bool false)) w := fun lb cb => by
    rw [run_callFunc_extern Try.func55 (by kernel_rfl) (by kernel_rfl) (by kernel_rfl) (e := Extern.SlicesOverlaps.overlaps #[32, 32] #[4]) (by kernel_rfl),
      Lib.run_overlaps_apart w 32 4 56 Try.underlying32 2 (fun w => by kernel_rfl) ⟨vb, 0, none⟩ ⟨g, (i + 1) * 2, none⟩ 1 1 lb cb hne 56 56 curx.size cur.size (by simp [World.shape?, show w.heap[vb]? = _ from hBx]) (by simp [World.shape?, show w.heap[g]? = _ from hB]) (by omega) (hBx.frozen 0) (hBx.frozen _)]
    rfl
  have hF : ((l.drop i).flatMap encE).length = (l.length - i) * 2 := by rw [flat_len encE_len, List.length_drop]
  have hBL : Blk w.drew g 56 cur.toList.toArray := by rw [Array.toArray_toList]; exact hB
  have hsz2 : (Try.prog.info? 56).map (·.size) = some 2 := by kernel_rfl
  have hAd := ats_drop (hAl.non (Keeps.refl Non w).drew) i
  have hAxd := hAx.non (Keeps.refl Non w).drew
  have HL := Lib.hid (shift_list cur.toList l x i hi htk (by simp; omega) _ _ rfl rfl)
  obtain ⟨n, hnn⟩ : ∃ n, n = l.length := ⟨_, rfl⟩
  rw [← hnn] at hi hroom hn hF HL ⊢
  have HN := Lib.hid hnn
  obtain ⟨Q, hQ⟩ : ∃ Q : Ending → World → Prop, Q = InsP w (.slice (some ⟨g, 0, none⟩) n cap) l i x := ⟨_, rfl⟩
  rw [← hQ]
  have HQ := Lib.hid hQ
  have hcl : cur.toList.length = cap * 2 := by simp [hsz]
  have hw1 : IntKind.i64.wrap ((i : Int) + 1) = (i : Int) + 1 := by rw [IntKind.wrap_i64]; omega
  have hw2 : IntKind.i64.wrap ((n : Int) + 1) = (n : Int) + 1 := by rw [IntKind.wrap_i64]; omega
  have hb1 : (0 : Int) ≤ (i : Int) + 1 := by omega
  have hin : (i : Int) ≤ (n : Int) := by omega
  have htn : ((i : Int) + 1).toNat = i + 1 := by omega
  have htn2 : ((n : Int) + 1).toNat = n + 1 := by omega
  have hb2 : ¬ (cap = i + 1) := by omega
  have hb3 : (i : Int) ≤ (n : Int) + 1 := by omega
  have hb4 : ¬ (cap = i) := by omega
  have hb5 : ¬ ((cap : Int) < (n : Int) + 1) := by omega
  have hb6 : (n : Int) + 1 ≤ (cap : Int) := by omega
  have hz2 : ¬ ((i : Int) = (n : Int)) := by omega
  have hz3 : ((i : Int) == (n : Int)) = false := by simpa using hz2
  have hb7 : (i : Int) + 1 ≤ (n : Int) + 1 := by omega
  have HAd := Lib.hid hAd
  have HAxd := Lib.hid hAxd
  have HBL := Lib.hid hBL
  have hmin : n - i = Nat.min (n + 1 - i) (n - i) := by simp only [Nat.min_def]; split <;> omega
  have HS : Hid (n - i = Nat.min (n + 1 - i) (n - i) ∧ ((l.drop i).flatMap encE).length = (n - i) * 2 ∧ (i + 1) * 2 + ((l.drop i).flatMap encE).length ≤ cur.toList.length) := Lib.hid ⟨hmin, hF, by rw [hF, hcl]; omega⟩
  have HS2 : Hid (1 = Nat.min 1 (n + 1 - i) ∧ (encE x).length = 1 * 2) := Lib.hid ⟨by simp only [Nat.min_def]; split <;> omega, rfl⟩
  have HC := Lib.hid hcl
  have HM := Lib.hid hm
  clear hmin
  clear hnn hQ hAl hAx h hx hBx hB hsz htk hcx hszx hF hcl hAd hAxd hBL hsz2
  go_enter Try.func30, Try.ntmps30
  go_wp2_with (simp only [hov])
  go_region_law (refine step_copy_k 2 (n - i) rfl (.tmp 73) (.tmp 76) 32 32 rfl 56 Try.underlying32 (by kernel_rfl) ⟨g, i * 2, none⟩ (n - i) (cap - (i + 1)) (n + 1 - i) (cap - i) g ((i + 1) * 2) (by simp [Act.eval, Act.put]) (by simp [Act.eval, Act.put]) cur.toList 56 HBL.out ((l.drop i).flatMap encE) HS.out.1 HS.out.2.1 HAd.out HS.out.2.2 (flat_one _) ?_; intro w2 hB2 hK2)
  have hAx3 := (HAxd.out.keep hK2 (fun ad e => by injection e with e; subst e; exact hne))
  have HAx3 : Hid (∀ j v, (encE x)[j]? = some v → w2.cell? ((⟨vb, 0, none⟩ : Addr).add j) = some v) := Lib.hid fun j v hj => by
    obtain ⟨ad, e, hc⟩ := hAx3 (by simp [encE])
    injection e with e
    subst e
    exact hc j v (by simpa using hj)
  have HB2 := Lib.hid hB2
  have HF2 : Hid (i * 2 + (encE x).length ≤ (cur.toList.take ((i + 1) * 2) ++ ((l.drop i).flatMap encE ++ cur.toList.drop ((i + 1) * 2 + ((l.drop i).flatMap encE).length))).length) := Lib.hid (by
    have h1 := HS.out.2
    rw [HC.out] at h1
    simp only [List.length_append, List.length_take, List.length_drop, HC.out, h1.1, encE_len]
    omega)
  clear hAx3 hB2
  go_wp2_with ((with_reducible show wpList _ _ _ ({ dst := some 82, op := _, type := _, pos := _, after := _, guard := _ } :: _) _ _); go_must (refine wpList_copy_k 2 1 rfl (.tmp 80) (.tmp 81) 32 32 rfl 56 Try.underlying32 (by kernel_rfl) ⟨vb, 0, none⟩ (n + 1 - i) (cap - i) 1 1 g (i * 2) rfl rfl _ 56 HB2.out (encE x) HS2.out.1 HS2.out.2 HAx3.out HF2.out (encE_one x) ?_; intro w3 hB3 hK3))
  rw [HQ.out]
  obtain ⟨h1, h2⟩ := HL.out
  rw [encE_len] at hB3
  refine ⟨⟨some ⟨g, 0, none⟩, n + 1, cap⟩, rfl, ?_, fun k hk => .inl (by simpa [Sl.v, own_slice] using hk), ?_⟩
  · have hlen : (l.take i ++ x :: l.drop i).length = n + 1 := by
      have := HN.out
      simp only [List.length_append, List.length_cons, List.length_take, List.length_drop]; omega
    have h3 : RowE w3 (.slice (some ⟨g, 0, none⟩) (l.take i ++ x :: l.drop i).length cap) (l.take i ++ x :: l.drop i) := by
      refine RowP.mk encE_len hB3 (by rw [hlen]; exact hroom) ?_ ?_ ?_
      · unfold maxLen; have := HM.out; omega
      · simpa [HC.out] using h1
      · rw [hlen]
        simpa using h2
    rw [hlen] at h3
    exact h3
  · have hd : Keeps (Only g) w w.drew := (Keeps.refl _ _).drew
    exact ((hd.trans hK2).trans hK3).mono fun k hk => by rw [own_slice]; simpa [Only] using hk
end Go.Proofs.Ytiieglfpmmhfiaa
