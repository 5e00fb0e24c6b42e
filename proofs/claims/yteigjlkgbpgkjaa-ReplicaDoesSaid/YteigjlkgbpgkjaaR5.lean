/- goes; what replies do. -/
import Derived.Test.YteigjlkgbpgkjaaR4
namespace Go.Proofs.Yteigjlkgbpgkjaa
open Go.RowKit Go.Uc

def goesV (x : St) (tz : Nat) (e : Int) (m : Option Int) : St := if e = 0 ∨ m = some e then { x with at_ := tz } else if e = 222 ∧ 2 ≤ x.at_ ∧ x.at_ ≠ 3 then { x with at_ := 1 } else { x with how := 2, why := e }
/-- What may be, as a slice. -/
def MayS (w : World) (v : Value) : Option Int → Prop
  | none => v = .slice none 0 0
  | some m => ∃ q, v = .slice (some ⟨q, 0, none⟩) 1 1 ∧ w.cell? ⟨q, 0, none⟩ = some (.int .i64 m)
theorem contains_any {w : World} {v : Value} {m : Option Int} (h : MayS w v m) (e : Int) : Calls Try.prog 43 #[v, .int .i64 e] w fun en w' => en = .returned (.bool (decide (m = some e))) ∧ w' = w := by
  cases m with
  | none =>
    rw [show v = _ from h]
    refine (contains_nil e w).mono ?_
    rintro en w' ⟨rfl, rfl⟩
    exact ⟨ret_bool (by simp), rfl⟩
  | some m =>
    obtain ⟨q, rfl, hq⟩ := h
    refine (contains_one m e q w hq).mono ?_
    rintro en w' ⟨rfl, rfl⟩
    refine ⟨ret_bool ?_, rfl⟩
    by_cases h : e = m
    · simp [h]
    · have h2 : ¬ m = e := fun h' => h h'.symm
      simp [h, h2]

section
variable {g : Nat} {on : Option Nat} {j : Job} {x : St} {pv : Value}
set_option maxHeartbeats 2000000 in
theorem goes_any (n : Nat) (tz e : Int) (m : Option Int) (mv : Value) (hto : tz = (n : Int)) (w : World) (h : RepS w g on j x pv) (hm : MayS w mv m) :
    Calls Try.prog 37 #[.pointer (some ⟨g, 0, none⟩), .int .i64 tz, .int .i64 e, mv] w fun en w' => en = .returned (.tuple #[]) ∧ RepS w' g on j (goesV x n e m) pv ∧ Keeps (Only g) w w' := by
  obtain ⟨d, steps, hb, hc⟩ := h.blk
  have c12 : w.cell? ⟨g, 12, none⟩ = some (.int .i64 x.at_) := hb.cell 12
  have f12 := hb.frozen 12
  have HCO := Lib.hid (contains_any hm e)
  have HFA := Lib.hid (fails_any e w h)
  have hk : ∀ v, Keeps (Only g) w (w.setCell ⟨g, 12, none⟩ v) := fun v => (Keeps.refl (Only g) w).set (p := ⟨g, 12, none⟩) rfl v
  have FTO := Lib.hid (And.intro (hc _ { x with at_ := n } pv (hk (.int .i64 n)) (hb.set 12 (.int .i64 n))) (hk (.int .i64 n)))
  have FTA := Lib.hid (And.intro (hc _ { x with at_ := 1 } pv (hk (.int .i64 1)) (hb.set 12 (.int .i64 1))) (hk (.int .i64 1)))
  have HTO := Lib.hid hto
  clear hb h hc hk hm
  obtain ⟨bm, hbm⟩ : ∃ bm, bm = decide (m = some e) := ⟨_, rfl⟩
  rw [← hbm] at HCO
  have HBM := Lib.hid hbm
  clear hbm
  obtain ⟨y, hy⟩ : ∃ y, y = goesV x n e m := ⟨_, rfl⟩
  rw [← hy]
  have HY := Lib.hid hy
  clear hy
  by_cases h0 : e = 0
  · have hb0 : (e == 0) = true := by rw [h0]; rfl
    have H0 := Lib.hid h0
    clear h0
    rw [hto]
    clear hto
    go_enter Try.func37, Try.ntmps37
    go_wp2_with fail
    go_end0
    rw [HY.out]; unfold goesV; rw [if_pos (.inl H0.out)]
    exact ⟨rfl, FTO.out⟩
  · have hb0 : (e == 0) = false := by rw [beq_eq_false_iff_ne]; exact h0
    have H0 := Lib.hid h0
    clear h0
    rw [hto]
    clear hto
    cases bm with
    | true =>
      have HME : Hid (m = some e) := by show _ = _; have := HBM.out; simpa using this.symm
      go_enter Try.func37, Try.ntmps37
      go_wp2_with (go_at_call 43; go_must (refine HCO.out.mono ?_); rintro en w2 ⟨rfl, hw2⟩; subst w2)
      go_end0
      rw [HY.out]; unfold goesV; rw [if_pos (.inr HME.out)]
      exact ⟨rfl, FTO.out⟩
    | false =>
      have hme : ¬ m = some e := by have := HBM.out; simpa using this.symm
      have HME := Lib.hid hme
      clear hme
      by_cases h1 : e = 222 ∧ 2 ≤ x.at_ ∧ x.at_ ≠ 3
      · have hb1 : (e == 222) = true := by rw [h1.1]; rfl
        have ha : (2 : Int) ≤ (x.at_ : Int) := by omega
        have hb3 : ((x.at_ : Int) != 3) = true := by rw [bne_iff_ne]; omega
        have hb3' : ((x.at_ : Int) == 3) = false := by rw [beq_eq_false_iff_ne]; omega
        have H1 := Lib.hid h1
        clear h1
        go_enter Try.func37, Try.ntmps37
        go_wp2_with (go_at_call 43; go_must (refine HCO.out.mono ?_); rintro en w2 ⟨rfl, hw2⟩; subst w2)
        go_end0
        rw [HY.out]; unfold goesV; rw [if_neg (fun h => h.elim H0.out HME.out), if_pos H1.out]
        exact ⟨rfl, FTA.out⟩
      · have H1 := Lib.hid h1
        by_cases h2 : e = 222
        · have hb1 : (e == 222) = true := by rw [h2]; rfl
          by_cases h3 : 2 ≤ x.at_
          · have h4 : x.at_ = 3 := by omega
            have ha : (2 : Int) ≤ (x.at_ : Int) := by omega
            have hb3 : ((x.at_ : Int) != 3) = false := by rw [h4]; rfl
            have hb3' : ((x.at_ : Int) == 3) = true := by rw [h4]; rfl
            clear h1 h2 h3 h4
            go_enter Try.func37, Try.ntmps37
            go_wp2_with (first | (go_at_call 43; go_must (refine HCO.out.mono ?_); rintro en w2 ⟨rfl, hw2⟩; subst w2) | (go_at_call 15; go_must (refine HFA.out.mono ?_); rintro en w3 ⟨rfl, h3, hK3⟩))
            go_end0
            rw [HY.out]; unfold goesV; rw [if_neg (fun h => h.elim H0.out HME.out), if_neg H1.out]
            exact ⟨rfl, h3, hK3⟩
          · have ha : ¬ (2 : Int) ≤ (x.at_ : Int) := by omega
            clear h1 h2 h3
            go_enter Try.func37, Try.ntmps37
            go_wp2_with (first | (go_at_call 43; go_must (refine HCO.out.mono ?_); rintro en w2 ⟨rfl, hw2⟩; subst w2) | (go_at_call 15; go_must (refine HFA.out.mono ?_); rintro en w3 ⟨rfl, h3, hK3⟩))
            go_end0
            rw [HY.out]; unfold goesV; rw [if_neg (fun h => h.elim H0.out HME.out), if_neg H1.out]
            exact ⟨rfl, h3, hK3⟩
        · have hb1 : (e == 222) = false := by rw [beq_eq_false_iff_ne]; exact h2
          clear h1 h2
          go_enter Try.func37, Try.ntmps37
          go_wp2_with (first | (go_at_call 43; go_must (refine HCO.out.mono ?_); rintro en w2 ⟨rfl, hw2⟩; subst w2) | (go_at_call 15; go_must (refine HFA.out.mono ?_); rintro en w3 ⟨rfl, h3, hK3⟩))
          go_end0
          rw [HY.out]; unfold goesV; rw [if_neg (fun h => h.elim H0.out HME.out), if_neg H1.out]
          exact ⟨rfl, h3, hK3⟩
end
end Go.Proofs.Yteigjlkgbpgkjaa
