/- The document's Alike. -/
import Derived.Test.YtmlffigfhhoihabV20
namespace Go.Proofs.Ytmlffigfhhoihab
open Go.RowKit Go.Uc

theorem str_toList (a : List UInt8) : (str a).toList = a := by simp [str]
theorem str_ne {a b : List UInt8} (h : a ≠ b) : ((str a).toList == (str b).toList) = false := by
  rw [str_toList, str_toList, beq_eq_false_iff_ne]
  exact h

set_option maxRecDepth 100000 in
set_option maxHeartbeats 4000000 in
theorem alike_any (A B : Option Addr) (c d : Nat) (xs ys : List Cel) (w : World) (hA : Cels w A xs) (hB : Cels w B ys) (hn : xs.length ≤ 140737488351232) (hm : ys.length ≤ 140737488351232) :
    Calls Try.prog 32 #[.slice A xs.length c, .slice B ys.length d] w fun e w' => ∃ r : Bool, e = .returned (.bool r) ∧ (r = true ↔ eqL xs ys) ∧ Keeps Non w w' := by
  have HA := Lib.hid hA
  have HB := Lib.hid hB
  clear hA hB
  by_cases hl : xs.length = ys.length
  · have hl1 : ((xs.length : Int) != (ys.length : Int)) = false := by rw [bne_eq_false_iff_eq]; omega
    have HL := Lib.hid hl
    clear hl
    go_enter Try.func32, Try.ntmps32
    go_wp2
    go_loopw [5] (fun i wr => ∃ k : Nat, k ≤ xs.length ∧ i = .int .i64 k ∧ Hid (∀ i (h : i < xs.length) (h' : i < ys.length), i < k → eqC xs[i] ys[i]) ∧ Keeps Non w wr) (fun i _ => xs.length - (intOf i).toNat)
    case atStart => exact ⟨0, Nat.zero_le _, rfl, (fun i _ _ h => absurd h (by omega)), Keeps.refl _ _⟩
    case round =>
      obtain ⟨k, hk, rfl, HE, hK⟩ := hrel
      by_cases hlt : k < xs.length
      · have hlt2 : k < ys.length := by have := HL.out; omega
        obtain ⟨b, off, Ai, ci, rfl, a1, a2, a3, a4, a5, -⟩ := (HA.out.non hK) k hlt
        obtain ⟨b', off', Bi, di, rfl, b1, b2, b3, b4, b5, -⟩ := (HB.out.non hK) k hlt2
        have HSTEP := Lib.hid (show eqC xs[k] ys[k] → ∀ i (h : i < xs.length) (h' : i < ys.length), i < k + 1 → eqC xs[i] ys[i] from fun he i h h' hik => by
          rcases Nat.lt_or_ge i k with hl | hl
          · exact HE.out i h h' hl
          · obtain rfl : i = k := by omega
            exact he)
        have HNO := Lib.hid (show ¬ eqC xs[k] ys[k] → ¬ eqL xs ys from fun h he => h (he.2 k hlt hlt2))
        obtain ⟨x, hx⟩ : ∃ x, x = xs[k] := ⟨_, rfl⟩
        rw [← hx] at a1 a2 a3 a4 a5 HSTEP HNO
        obtain ⟨y, hy⟩ : ∃ y, y = ys[k] := ⟨_, rfl⟩
        rw [← hy] at b1 b2 b3 b4 b5 HSTEP HNO
        clear hx hy a3 b3
        have cv1 : ∀ nq, (convert 23 9 (.slice Ai x.data.length ci)).run Try.prog (wr.drewN nq) = .ok (.string (str x.data)) (wr.drewN nq) := fun nq =>
          run_convert_at 23 9 5 Try.underlying23 Try.underlying5 Try.underlying9 _ _ (a5.non ((Keeps.refl _ _).drewN nq)) _ _ rfl
        have cv2 : ∀ nq, (convert 23 9 (.slice Bi y.data.length di)).run Try.prog (wr.drewN nq) = .ok (.string (str y.data)) (wr.drewN nq) := fun nq =>
          run_convert_at 23 9 5 Try.underlying23 Try.underlying5 Try.underlying9 _ _ (b5.non ((Keeps.refl _ _).drewN nq)) _ _ rfl
        clear a5 b5
        by_cases h1 : x.obj = y.obj
        · have c1 : (x.obj != y.obj) = false := by rw [h1]; simp
          by_cases h2 : x.at_ = y.at_
          · have c2 : (x.at_ != y.at_) = false := by rw [h2]; simp
            by_cases h3 : x.data = y.data
            · have HS := Lib.hid (HSTEP.out ⟨h1, h2, h3⟩)
              rw [h1] at a1
              rw [h2] at a2
              rw [h3] at cv1 a4
              clear h1 h2 h3 c1 c2
              go_wp2
              go_quiet (fail)
              clear cv1 cv2
              go_wp2
              go_roundw
              case rel => exact ⟨k + 1, by omega, by go_num, HS, hK.drewN _⟩
              case measure => simp [intOf]; omega
            · have c3 := str_ne h3
              have HX := Lib.hid (HNO.out (fun e => h3 e.2.2))
              rw [h1] at a1
              rw [h2] at a2
              clear h1 h2 h3 c1 c2
              go_wp2
              go_quiet (fail)
              clear cv1 cv2
              go_wp2
              go_ret
              exact ⟨false, rfl, ⟨(fun h => by cases h), fun h => absurd h HX.out⟩, hK.drewN _⟩
          · have c2 : (x.at_ != y.at_) = true := by rw [bne_iff_ne]; exact h2
            have HX := Lib.hid (HNO.out (fun e => h2 e.2.1))
            rw [h1] at a1
            clear h1 h2 c1
            go_wp2
            go_quiet (fail)
            clear cv1 cv2
            go_wp2
            go_ret
            exact ⟨false, rfl, ⟨(fun h => by cases h), fun h => absurd h HX.out⟩, hK.drewN _⟩
        · have c1 : (x.obj != y.obj) = true := by rw [bne_iff_ne]; exact h1
          have HX := Lib.hid (HNO.out (fun e => h1 e.1))
          clear h1
          go_wp2
          go_quiet (fail)
          clear cv1 cv2
          go_wp2
          go_ret
          exact ⟨false, rfl, ⟨(fun h => by cases h), fun h => absurd h HX.out⟩, hK.drewN _⟩
      · obtain rfl : k = xs.length := by omega
        go_wp2
        go_ret
        exact ⟨true, rfl, ⟨fun _ => ⟨HL.out, fun i h h' => HE.out i h h' h⟩, fun _ => rfl⟩, hK⟩
  · have hl1 : ((xs.length : Int) != (ys.length : Int)) = true := by rw [bne_iff_ne]; omega
    go_enter Try.func32, Try.ntmps32
    go_wp2
    go_ret
    exact ⟨false, rfl, by simp [eqL, hl], Keeps.refl _ _⟩
end Go.Proofs.Ytmlffigfhhoihab
