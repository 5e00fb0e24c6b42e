/- The document's Content. -/
import Derived.Test.YtmlffigfhhoihabV19
namespace Go.Proofs.Ytmlffigfhhoihab
open Go.RowKit Go.Uc

set_option maxRecDepth 100000 in
set_option maxHeartbeats 4000000 in
theorem content_any (A : Option Addr) (c : Nat) (cs : List Cel) (w : World) (hA : Cels w A cs) (hn : cs.length ≤ 140737488351232) :
    Calls Try.prog 31 #[.slice A cs.length c] w fun e w' => e = .returned (.bool (mayB cs)) ∧ Keeps Non w w' := by
  have HA := Lib.hid hA
  clear hA
  by_cases hl : (240 : Int) < (cs.length : Int)
  · have hb := mayB_no (cs := cs) (fun h => by have := h.2; omega)
    have HB := Lib.hid hb
    clear hb
    go_enter Try.func31, Try.ntmps31
    go_wp2
    go_ret
    exact ⟨ret_bool HB.out.symm, Keeps.refl _ _⟩
  go_enter Try.func31, Try.ntmps31
  go_wp2
  go_loopw [3, 4] (fun i _ wr => ∃ k : Nat, k ≤ cs.length ∧ i = .int .i64 k ∧ Hid (mayTo cs k) ∧ Keeps Non w wr) (fun i _ _ => cs.length - (intOf i).toNat)
  case atStart => exact ⟨0, Nat.zero_le _, rfl, (fun i h h' => absurd h' (by omega)), Keeps.refl _ _⟩
  case round =>
    obtain ⟨k, hk, rfl, HM, hK⟩ := hrel
    by_cases hlt : k < cs.length
    · obtain ⟨b, off, Ai, ci, rfl, a1, a2, a3, a4, -, -⟩ := (HA.out.non hK) k hlt
      have HBAD := Lib.hid (fun (h : ¬ okC cs[k]) => mayB_no (cs := cs) fun hm => h (hm.1 k hlt hlt).1)
      have HBAD2 := Lib.hid (fun j (h' : j < cs.length) (e : j + 1 = k) (h : ¬ ltC cs[j] cs[k]) => mayB_no (cs := cs) fun hm => h ((hm.1 k hlt hlt).2 j h' e))
      have hstep : okC cs[k] → (∀ j (h' : j < cs.length), j + 1 = k → ltC cs[j] cs[k]) → mayTo cs (k + 1) := fun h1 h2 i hi hik => by
        rcases Nat.lt_or_ge i k with hl | hl
        · exact HM.out i hi hl
        · obtain rfl : i = k := by omega
          exact ⟨h1, h2⟩
      have HSTEP := Lib.hid hstep
      obtain ⟨cc, hcc⟩ : ∃ cc, cc = cs[k] := ⟨_, rfl⟩
      rw [← hcc] at a1 a2 a3 a4 HBAD
      have HCC := Lib.hid hcc
      clear hstep hcc
      by_cases hok : okC cc
      · have hok2 := hok
        unfold okC at hok2
        obtain ⟨o1, o2, o3, o4, o5, o6⟩ := hok2
        by_cases hk0 : k < 1
        · have hd : decide (0 < k) = false := by simp; omega
          go_wp2
          go_quiet (fail)
          go_wp2
          go_roundw
          case rel => exact ⟨k + 1, by omega, by go_num, HSTEP.out (by rw [← HCC.out]; exact hok) (fun j h' e => absurd e (by omega)), (hK.alloc _).drewN _⟩
          case measure => simp [intOf]; omega
        · obtain ⟨j, rfl⟩ : ∃ j, k = j + 1 := ⟨k - 1, by omega⟩
          have hj : j < cs.length := by omega
          obtain ⟨cj', hcj⟩ : ∃ c', c' = cs[j] := ⟨_, rfl⟩
          have HCJ := Lib.hid hcj
          clear hcj
          have hd : decide (0 < (j : Int) + 1) = true := by rw [decide_eq_true_eq]; omega
          have HOK := Lib.hid hok
          clear hok
          go_wp2
          obtain ⟨w5, hw5⟩ : ∃ w5, w5 = wr.alloc (.cells #[.int .i64 cc.obj, .int .i64 cc.at_, .int .i64 cc.birth, .slice Ai cc.data.length ci] 60) := ⟨_, rfl⟩
          have hka : Keeps Non wr w5 := by rw [hw5]; exact (Keeps.refl _ _).alloc _
          have hB5 : Blk w5 wr.heap.size 60 #[.int .i64 cc.obj, .int .i64 cc.at_, .int .i64 cc.birth, .slice Ai cc.data.length ci] := by rw [hw5]; exact Blk.new _ _ _
          rw [← hw5]
          obtain ⟨gO, hgO⟩ : ∃ g, g = wr.heap.size := ⟨_, rfl⟩
          rw [← hgO] at hB5 ⊢
          have hk5 := hK.trans hka
          have hCels := HA.out.non hk5 j hj
          rw [← HCJ.out] at hCels
          obtain ⟨b', off', Aj, cj, hA', p1, p2, p3, p4, -, -⟩ := hCels
          injection hA' with hA'
          injection hA' with e1 e2
          subst e1 e2
          clear hw5 hgO hka hK a1 a2 a3 a4 p3 p4
          have k0 : w5.cell? ⟨gO, 0, none⟩ = some (.int .i64 cc.obj) := hB5.cell 0
          have k1 : w5.cell? ⟨gO, 1, none⟩ = some (.int .i64 cc.at_) := hB5.cell 1
          have good : ltC cj' cc → mayTo cs (j + 1 + 1) := fun h => HSTEP.out (by rw [← HCC.out]; exact HOK.out) (fun i h' e => by
              obtain rfl : i = j := by omega
              rw [← HCC.out, ← HCJ.out]; exact h)
          have bad : ¬ ltC cj' cc → mayB cs = false := fun h => HBAD2.out j hj rfl (by rw [← HCC.out, ← HCJ.out]; exact h)
          have GOOD := Lib.hid good
          have BAD := Lib.hid bad
          clear good bad
          by_cases h1 : cc.obj < cj'.obj
          · have HB := Lib.hid (BAD.out (by unfold ltC; omega))
            have b1 : decide (cc.obj < cj'.obj) = true := by simpa using h1
            have W1 : IntKind.i64.wrap ((j : Int) + 1 - 1) = (j : Int) := by rw [IntWalk.i64_in _ (by omega)]; omega
            have W2 : IntKind.i64.wrap (j : Int) = (j : Int) := IntWalk.i64_in _ (by omega)
            go_quiet (fail)
            go_wp2
            go_ret
            exact ⟨ret_bool HB.out.symm, hk5.drewN _⟩
          · have b1 : decide (cc.obj < cj'.obj) = false := by simpa using h1
            by_cases h2 : cj'.obj = cc.obj
            · have b2 : (cj'.obj == cc.obj) = true := by simpa using h2
              by_cases h3 : cc.at_ ≤ cj'.at_
              · have HB := Lib.hid (BAD.out (by unfold ltC; omega))
                have b3 : decide (cc.at_ ≤ cj'.at_) = true := by simpa using h3
                have W1 : IntKind.i64.wrap ((j : Int) + 1 - 1) = (j : Int) := by rw [IntWalk.i64_in _ (by omega)]; omega
                have W2 : IntKind.i64.wrap (j : Int) = (j : Int) := IntWalk.i64_in _ (by omega)
                have H2 := Lib.hid h2
                clear h2
                go_quiet (fail)
                go_wp2
                go_ret
                exact ⟨ret_bool HB.out.symm, hk5.drewN _⟩
              · have HG := Lib.hid (GOOD.out (by unfold ltC; omega))
                have b3 : decide (cc.at_ ≤ cj'.at_) = false := by simpa using h3
                have W1 : IntKind.i64.wrap ((j : Int) + 1 - 1) = (j : Int) := by rw [IntWalk.i64_in _ (by omega)]; omega
                have W2 : IntKind.i64.wrap (j : Int) = (j : Int) := IntWalk.i64_in _ (by omega)
                have H2 := Lib.hid h2
                clear h2
                go_quiet (fail)
                clear W1 W2
                go_wp2
                go_roundw
                case rel => exact ⟨j + 1 + 1, by omega, by go_num, HG, hk5.drewN _⟩
                case measure => simp [intOf]; omega
            · have HG := Lib.hid (GOOD.out (by unfold ltC; omega))
              have b2 : (cj'.obj == cc.obj) = false := by simpa using h2
              have W1 : IntKind.i64.wrap ((j : Int) + 1 - 1) = (j : Int) := by rw [IntWalk.i64_in _ (by omega)]; omega
              have W2 : IntKind.i64.wrap (j : Int) = (j : Int) := IntWalk.i64_in _ (by omega)
              go_quiet (fail)
              clear W1 W2
              go_wp2
              go_roundw
              case rel => exact ⟨j + 1 + 1, by omega, by go_num, HG, hk5.drewN _⟩
              case measure => simp [intOf]; omega
      · have hb := HBAD.out hok
        unfold okC at hok
        have HB := Lib.hid hb
        clear hb
        go_wp2
        all_goals
          first
            | omega
            | (go_ret
               exact ⟨ret_bool HB.out.symm, hK.alloc _⟩)
    · obtain rfl : k = cs.length := by omega
      have hb := mayB_yes (cs := cs) ⟨HM.out, by omega⟩
      have HB := Lib.hid hb
      clear hb
      go_wp2
      go_ret
      exact ⟨ret_bool HB.out.symm, hK⟩
end Go.Proofs.Ytmlffigfhhoihab
