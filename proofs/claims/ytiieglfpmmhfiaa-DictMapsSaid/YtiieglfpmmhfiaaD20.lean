/- Delete; Drop. -/
import Derived.Test.YtiieglfpmmhfiaaFi
import Derived.Test.YtiieglfpmmhfiaaD9
import Derived.Deep.RegionLaw
namespace Go.Proofs.Ytiieglfpmmhfiaa
set_option maxRecDepth 100000
open Go.RowKit Go.Uc

set_option maxHeartbeats 4000000 in
theorem delete_any (g cap : Nat) (l : List Ent) (N i : Nat) (hN : l.length = N + 1) (hi : i ≤ N) (hn : N ≤ 1000000000000) (w : World) (h : RowE w (.slice (some ⟨g, 0, none⟩) (N + 1) cap) l) :
    Calls Try.prog 46 #[.slice (some ⟨g, 0, none⟩) ((N + 1 : Nat)) cap, .int .i64 (i : Int), .int .i64 ((i : Int) + 1)] w fun e w' => e = .returned (.slice (some ⟨g, 0, none⟩) N cap) ∧ RowE w' (.slice (some ⟨g, 0, none⟩) N cap) (l.take i ++ l.drop (i + 1)) ∧ Keeps (Only g) w w' := by
  rw [← hN] at h
  obtain ⟨A0, c0, e0, hlc, hcm⟩ := h.val
  injection e0 with e01 e02 e03
  subst e03
  clear e01 e02
  unfold maxLen at hcm
  rw [hN] at hlc
  have hfr := (h.front encE_len i (by omega)).non (Keeps.refl Non w).drew
  obtain ⟨A1, c1, e1, -, hats⟩ := h.ats encE_len
  injection e1 with e11 e12 e13
  subst e11
  clear e12 e13
  have hdr := ats_drop (hats.non (Keeps.refl Non w).drew) (i + 1)
  have hit : (l.take i).length = i := by simp; omega
  have hdl : (l.drop (i + 1)).length = N - i := by simp; omega
  have HIT := Lib.hid hit
  have HDL := Lib.hid hdl
  have hne : ((i : Int) == (i : Int) + 1) = false := beq_eq_false_iff_ne.2 (by omega)
  have hz := zero56
  clear hit hdl hats
  have HNE := Lib.hid hN
  obtain ⟨i1, hi1⟩ : ∃ k, k = i + 1 := ⟨_, rfl⟩
  rw [← hi1] at hdr HDL ⊢
  rw [show (i : Int) + 1 = (i1 : Int) by omega] at hne ⊢
  have HI1 := Lib.hid hi1
  have hib : i1 ≤ N + 1 := by omega
  have hii : i ≤ i1 := by omega
  have hic : i ≤ cap := by omega
  have hibi : (i1 : Int) ≤ (N : Int) + 1 := by omega
  clear hN hi1
  have HA : Hid (Ats w.drew (if cap = i1 then some ⟨g, 0, none⟩ else some ⟨g, i1 * 2, none⟩) ((l.drop i1).flatMap encE)) := Lib.hid (by
    by_cases hc : cap = i1
    · rw [if_pos hc]
      have : l.drop i1 = [] := List.drop_eq_nil_of_le (by rw [HNE.out]; omega)
      rw [this]
      exact fun h => absurd h (by simp)
    · rw [if_neg hc]
      exact fun _ => ⟨_, rfl, hdr⟩)
  clear hdr h
  go_enter Try.func46, Try.ntmps46
  go_upto_region 5 with fail
  go_region_law (first
    | (go_loud (refine step_append_fit (o := ⟨some 26, _, _, _, _, _⟩) rfl (.tmp 22) (.tmp 25) 32 rfl 56 2 encE _ 24 Try.underlying32 info56 (by decide) encE_len encE_one g cap (l.take i) i HIT.out.symm rfl (by rw [HIT.out]; exact hfr) (if cap = i1 then some ⟨g, 0, none⟩ else some ⟨g, i1 * 2, none⟩) (N + 1 - i1) (cap - i1) (l.drop i1) rfl (by rw [HDL.out]; have := HI1.out; omega) HA.out (by rw [HIT.out, HDL.out]; omega) N (by rw [HIT.out, HDL.out]; omega) ?_; intro w2 hO hK2)))
  have hO' : RowE w2 (.slice (some ⟨g, 0, none⟩) N cap) (l.take i ++ l.drop i1) := hO
  have hlen : (l.take i ++ l.drop i1).length = N := by rw [List.length_append, HIT.out, HDL.out]; omega
  rcases hO'.form with ⟨e1, -⟩ | ⟨g', cap', cur, e1, hB, h4, h5, h6, h7⟩
  · cases e1
  injection e1 with e1 e2 e3
  injection e1 with e1
  injection e1 with e1
  subst e1 e3
  clear e2
  rw [hlen] at h7
  have h7' := Lib.hid h7
  have hK2' : Keeps (Only g) w w2 := ((Keeps.refl (Only g) w).drew).trans hK2
  have hcN : ¬ cap = N := by omega
  have hNc : N ≤ cap := by omega
  have hN1 : N ≤ N + 1 := by omega
  have HLEN := Lib.hid hlen
  clear h7 hlen hO hO' hfr hK2 h4 HA
  generalize (if cap = i1 then (some ⟨g, 0, none⟩ : Option Addr) else some ⟨g, i1 * 2, none⟩) = vA
  go_wp2_with ((with_reducible show wpList _ _ _ ({ dst := none, op := Op.call _, type := _, pos := _, after := _, guard := _ } :: _) _ _); go_loud (refine wpList_clear_one (o := ⟨none, _, _, _, _, _⟩) rfl (.tmp 31) 32 rfl 56 Try.underlying32 (.agg #[.string ByteArray.empty, .int .i64 0]) zero56 (by intro u hu; simp [Value.cells] at hu; rcases hu with rfl | rfl <;> rfl) g (N * 2) (cap - N) rfl cur 56 hB (by rw [h6]; show N * 2 + 2 ≤ cap * 2; omega) ?_); intro w3 hB3 hK3)
  go_ret
  have hl3 : (l.take i ++ l.drop i1).length = N := HLEN.out
  refine ⟨rfl, ?_, hK2'.trans hK3⟩
  have hsz : cur.size = cap * 2 := h6
  have := RowP.mk (xs := l.take i ++ l.drop i1) encE_len hB3 (by rw [hl3]; exact hNc) h5 ?_ ?_
  · rw [hl3] at this; exact this
  · simp [Value.cells]
    omega
  · rw [hl3, ← h7'.out]
    simp only
    exact List.take_left' (by simp; omega)
end Go.Proofs.Ytiieglfpmmhfiaa
