/- holds. -/
import Derived.Test.YtiieglfpmmhfiaaP8
import Derived.Test.YtiieglfpmmhfiaaD22
import Derived.WalkLawsBesides
import Derived.RegionTactic
namespace Go.Proofs.Ytiieglfpmmhfiaa
set_option maxRecDepth 100000
open Go.RowKit Go.Uc

theorem but_succ {l : List Ent} {k : Nat} (hk : k < l.length) (n : List UInt8) : (but (l.take (k + 1)) n).length = (but (l.take k) n).length + if l[k].name = n then 0 else 1 := by
  rw [List.take_succ_eq_append_getElem hk]
  unfold but
  rw [List.filter_append, List.length_append]
  congr 1
  by_cases h : l[k].name = n
  · rw [if_pos h]; simp [h]
  · rw [if_neg h]; simp [h]
theorem but_le (l : List Ent) (n : List UInt8) : (but l n).length ≤ l.length := List.length_filter_le _ _
set_option maxHeartbeats 8000000 in
theorem holds_any {w : World} {g : Nat} {d : Dic} {t l : Sl} {ps : List (Nat × Sl)} (h : DictM 69 66 w g d t l ps) (hi : Inv d) {vA : Option Addr} {vc : Nat} {L : List Ent} (hL : RowE w (.slice vA L.length vc) L) (hLn : L.length ≤ 1600) (hLm : ∀ e ∈ L, e.name.length ≤ 24) (n : List UInt8) (_hn : n.length ≤ 9223372036854775807) (hH : Held d L n) :
    Calls Try.prog 24 #[.pointer (some ⟨g, 0, none⟩), .slice vA L.length vc, .string (str n)] w fun e w' => e = .returned (.bool true) ∧ Keeps Non w w' := by
  have HLs := Lib.hid (list_any h hi.toInv0)
  have HAl : Hid ((allE d.leaves).length = (but L n).length + (if n = [] then 0 else 1)) := Lib.hid hH.many
  have HVs := Lib.hid hH.vals
  have hal := all_le hi.toInv0
  go_enter Try.func24, Try.ntmps24
  go_upto_region 2 with ((go_at_call 12; go_must (refine HLs.out.mono ?_); rintro e w2 ⟨⟨rA, rn, rc⟩, R, he, hR, hIL, -, hK2⟩; change e = .returned (.slice rA rn rc) at he; subst he))
  have hrn : rn = R.length := by
    obtain ⟨_, _, e, -⟩ := hR.val
    injection e
  subst hrn
  have HRA : Hid (R.length = (allE d.leaves).length) := Lib.hid hIL.perm.length_eq
  have HRS := Lib.hid hIL.srt
  have hR16 : R.length ≤ 1600 := by rw [HRA.out]; exact hal
  have hD2 := h.non hK2
  have hL2 := hL.non hK2
  clear hIL hal
  go_upto_region 4 with fail
  go_loopw [8, 9] (fun m i wr => ∃ k : Nat, k ≤ L.length ∧ i = .int .i64 (k : Int) ∧ m = .int .i64 ((but (L.take k) n).length : Int) ∧ Keeps Non w2 wr) (fun _ i _ => L.length - (intOf i).toNat)
  case atStart => exact ⟨0, Nat.zero_le _, rfl, rfl, Keeps.refl _ _⟩
  case round =>
    obtain ⟨k, hk, rfl, rfl, hK⟩ := hrel
    obtain ⟨wx, rfl⟩ : ∃ W : World, W = wr := ⟨_, rfl⟩
    by_cases hlt : k < L.length
    · obtain ⟨eb, cap, e1, -, x0, x1, -, -⟩ := rowE_at (hL2.non hK) hlt
      injection e1 with e1 e2 e3
      clear e2
      subst e1 e3
      have hbs := but_succ hlt n
      have hbl := but_le (L.take k) n
      have htl : (L.take k).length ≤ 1600 := by rw [List.length_take]; omega
      have hmem : L[k] ∈ L := List.getElem_mem hlt
      have hvs := HVs.out L[k] hmem
      have hnl := hLm L[k] hmem
      generalize L[k] = x at x0 x1 hbs hvs hnl
      have HGt := Lib.hid (get_any (hD2.non hK) hi.ok x.name (by omega))
      by_cases hxn : x.name = n
      · rw [if_pos hxn, Nat.add_zero] at hbs
        have heq : ((str x.name).toList == (str n).toList) = true := by rw [hxn]; simp
        have HBS := Lib.hid hbs
        clear hbs hvs hxn hmem
        obtain ⟨r, hr⟩ : ∃ r, r = getR (val d x.name) := ⟨_, rfl⟩
        rw [← hr] at HGt
        clear hr
        obtain ⟨r1, r2⟩ := r
        go_upto_region 7 with ((go_at_call 25; go_must (refine HGt.out.mono ?_); rintro e w3 ⟨rfl, hK3⟩))
        have y0 : w3.cell? ⟨eb, k * 2, none⟩ = some (.string (str x.name)) := hK3.cell x0 id
        clear x0 x1
        go_wp2_with fail
        go_roundw
        case rel => exact ⟨k + 1, by omega, by go_num, by rw [HBS.out]; rfl, hK.non hK3⟩
        case measure => simp [intOf]; omega
      · rw [if_neg hxn] at hbs
        have hne : ¬ (str x.name).toList = (str n).toList := by rw [str_toList, str_toList]; exact hxn
        have heq : ((str x.name).toList == (str n).toList) = false := by simp [hne]
        have hv := hvs hxn
        have HBS := Lib.hid hbs
        rw [hv] at HGt
        have hvv : (x.val != x.val) = false := by simp
        clear hbs hvs hxn hne hv hmem
        go_upto_region 7 with ((go_at_call 25; go_must (refine HGt.out.mono ?_); rintro e w3 ⟨he, hK3⟩; change e = .returned (.tuple #[.int .i64 x.val, .bool true]) at he; subst he))
        have y0 : w3.cell? ⟨eb, k * 2, none⟩ = some (.string (str x.name)) := hK3.cell x0 id
        have y1 : w3.cell? ⟨eb, k * 2 + 1, none⟩ = some (.int .i64 x.val) := hK3.cell x1 id
        clear x0 x1
        go_wp2_with fail
        go_roundw
        case rel => exact ⟨k + 1, by omega, by go_num, by rw [HBS.out]; exact congrArg (Value.int IntKind.i64) (by omega), hK.non hK3⟩
        case measure => simp [intOf]; omega
    · obtain rfl : k = L.length := by omega
      have hcl : (but L n).length ≤ 1600 := by have := but_le L n; omega
      rw [List.take_of_length_le (Nat.le_refl _)]
      go_upto_region 11 with fail
      have HLe : Hid (Calls Try.prog 42 #[.pointer (some ⟨g, 0, none⟩)] wx fun e w' => e = .returned (.int .i64 ((allE d.leaves).length : Int)) ∧ Keeps Non wx w') := Lib.hid (len_any (hD2.non hK) hi.toInv0)
      have hRx := hR.non hK
      have hK0 := hK2.non hK
      rw [← HRA.out] at HLe HAl
      have key : (∃ s0 : n = [], True) ∨ n ≠ [] := by
        by_cases h : n = []
        · exact .inl ⟨h, trivial⟩
        · exact .inr h
      rcases key with ⟨hn0, -⟩ | hn0
      case' inl =>
        have HM : Hid (R.length = (but L n).length) := Lib.hid (by have := HAl.out; rw [if_pos hn0] at this; omega)
        have s1 : (str n).toList = [] := by rw [str_toList, hn0]
      case' inr =>
        have HM : Hid (R.length = (but L n).length + 1) := Lib.hid (by have := HAl.out; rw [if_neg hn0] at this; omega)
        have s1 : ¬ (str n).toList = [] := by rw [str_toList]; exact hn0
        have s2 : (str n).toList.isEmpty = false := by simpa using s1
      all_goals
        clear hn0 HAl
        go_upto_region 14 with fail
        go_loopw [12] (fun i wr => ∃ j : Nat, 1 ≤ j ∧ j ≤ R.length + 1 ∧ i = .int .i64 (j : Int) ∧ ∃ q, wr = wx.drewN q) (fun i _ => R.length + 1 - (intOf i).toNat)
        case atStart => exact ⟨1, by omega, by omega, rfl, 0, rfl⟩
        case round =>
          obtain ⟨j, hj1, hj2, rfl, q, hq⟩ := hrel
          obtain ⟨wy, rfl⟩ : ∃ W : World, W = wr := ⟨_, rfl⟩
          have hky : Keeps Non wx wy := by rw [hq]; exact (Keeps.refl _ _).drewN q
          have HQ := Lib.hid hq
          clear hq
          by_cases hjl : j < R.length
          · obtain ⟨jm, hjm⟩ : ∃ jm, jm = j - 1 := ⟨_, rfl⟩
            have hjml : jm < R.length := by omega
            have hRy : RowE wy (.slice rA R.length rc) R := hRx.non hky
            obtain ⟨b1, c1, e1, -, x0, -⟩ := rowE_at hRy hjl
            obtain ⟨b2, c2, e2, -, y0, -⟩ := rowE_at hRy hjml
            injection e1 with e1 e1b e1c
            injection e2 with e2 e2b e2c
            clear e1b e2b
            subst e1 e1c
            injection e2 with e2
            injection e2 with e2
            subst e2 e2c
            have hlts : lt R[jm].name R[j].name = true := List.pairwise_iff_getElem.1 HRS.out jm j hjml hjl (by omega)
            generalize R[j] = x at x0 hlts
            generalize R[jm] = y at y0 hlts
            have hcb : Op.bytesLess (str y.name).toList (str x.name).toList = true := by rw [str_toList, str_toList]; exact hlts
            have hsub : (j : Int) - 1 = (jm : Int) := by omega
            have hw3 : IntKind.i64.wrap ((j : Int) - 1) = (jm : Int) := by rw [IntKind.wrap_i64]; omega
            have hw4 : IntKind.i64.wrap (jm : Int) = (jm : Int) := by rw [IntKind.wrap_i64]; omega
            have hi1 : (jm : Int) < (R.length : Int) := by omega
            have hi2 : (j : Int) < (R.length : Int) := by omega
            clear hlts hjm
            go_upto_region 16 with fail
            go_quiet (fail)
            go_wp2_with fail
            go_roundw
            case rel => exact ⟨j + 1, by omega, by omega, by go_num, _, by rw [HQ.out]; exact World.drewN_drewN _ _ _⟩
            case measure => simp [intOf]; omega
          · have hK9 : Keeps Non w wy := hK0.non hky
            have HLe2 : Hid (Calls Try.prog 42 #[.pointer (some ⟨g, 0, none⟩)] wy fun e w' => e = .returned (.int .i64 (R.length : Int)) ∧ Keeps Non wy w') := Lib.hid (by have := len_any ((hD2.non hK).non hky) hi.toInv0; rw [← HRA.out] at this; exact this)
            go_upto_region 19 with ((go_at_call 42; go_must (refine HLe2.out.mono ?_); rintro e w9 ⟨rfl, hK10⟩))
            first
              | (have hEQ : ((R.length : Int) == ((but L n).length : Int)) = true := (by have := HM.out; simp; omega); go_wp2_with fail; go_ret; exact ⟨rfl, hK9.non hK10⟩)
              | (have hEQ : ((R.length : Int) == ((but L n).length : Int) + 1) = true := (by have := HM.out; simp; omega); go_wp2_with fail; go_ret; exact ⟨rfl, hK9.non hK10⟩)
end Go.Proofs.Ytiieglfpmmhfiaa
