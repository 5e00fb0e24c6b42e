/- slices.EqualFunc on cells; Open. -/
import Derived.Test.YtmlffigfhhoihabV8
namespace Go.Proofs.Ytmlffigfhhoihab
open Go.RowKit Go.Uc

/-- Alike but for the birth. -/
def eqC (a b : Cel) : Prop := a.obj = b.obj ∧ a.at_ = b.at_ ∧ a.data = b.data
def eqL (xs ys : List Cel) : Prop := xs.length = ys.length ∧ ∀ i (h : i < xs.length) (h' : i < ys.length), eqC xs[i] ys[i]

set_option maxHeartbeats 1000000 in
theorem cl_any (a b : Cel) (A B : Option Addr) (n m : Nat) (w : World) (hA : At w A a.data) (hB : At w B b.data) :
    Calls Try.prog 28 #[.agg #[.int .i64 a.obj, .int .i64 a.at_, .int .i64 a.birth, .slice A a.data.length n], .agg #[.int .i64 b.obj, .int .i64 b.at_, .int .i64 b.birth, .slice B b.data.length m]] w fun e w' => ∃ r : Bool, e = .returned (.bool r) ∧ (r = true ↔ eqC a b) ∧ Keeps Non w w' := by
  have hk : Keeps Non w ((w.alloc (.cells #[.int .i64 a.obj, .int .i64 a.at_, .int .i64 a.birth, .slice A a.data.length n] 60)).alloc (.cells #[.int .i64 b.obj, .int .i64 b.at_, .int .i64 b.birth, .slice B b.data.length m] 60)) := ((Keeps.refl _ _).alloc _).alloc _
  have HEQ := Lib.hid (fun W hAW hBW => equal_any A B n m a.data.length b.data.length a.data b.data W hAW hBW rfl rfl)
  have HA := Lib.hid (hA.non hk)
  have HB := Lib.hid (hB.non hk)
  clear hA hB
  by_cases h1 : a.obj = b.obj
  · have b1 : (a.obj == b.obj) = true := by simpa using h1
    by_cases h2 : a.at_ = b.at_
    · have b2 : (a.at_ == b.at_) = true := by simpa using h2
      have H1 := Lib.hid h1
      have H2 := Lib.hid h2
      clear h1 h2
      go_enter Try.func28, Try.ntmps28
      go_wp2_with (go_at_call 25; go_must (refine (HEQ.out _ HA.out HB.out).mono ?_); rintro e w2 ⟨rfl, rfl⟩)
      go_ret
      exact ⟨_, rfl, by simp [eqC, H1.out, H2.out], hk⟩
    · have b2 : (a.at_ == b.at_) = false := by simpa using h2
      go_enter Try.func28, Try.ntmps28
      go_wp2
      go_ret
      refine ⟨false, rfl, by simp [eqC, h2], ?_⟩
      rw [h1] at hk
      exact hk
  · have b1 : (a.obj == b.obj) = false := by simpa using h1
    go_enter Try.func28, Try.ntmps28
    go_wp2
    go_ret
    exact ⟨false, rfl, by simp [eqC, h1], hk⟩

set_option maxRecDepth 100000 in
set_option maxHeartbeats 4000000 in
theorem equalFunc_any (A B : Option Addr) (c d : Nat) (xs ys : List Cel) (w : World) (hA : Cels w A xs) (hB : Cels w B ys) (hn : xs.length ≤ 140737488351232) (hm : ys.length ≤ 140737488351232) :
    Calls Try.prog 29 #[.slice A xs.length c, .slice B ys.length d, .func (.func 28) #[] #[]] w fun e w' => ∃ r : Bool, e = .returned (.bool r) ∧ (r = true ↔ eqL xs ys) ∧ Keeps Non w w' := by
  have HA := Lib.hid hA
  have HB := Lib.hid hB
  clear hA hB
  by_cases hl : xs.length = ys.length
  · have hl1 : ((xs.length : Int) != (ys.length : Int)) = false := by rw [bne_eq_false_iff_eq]; omega
    have HL := Lib.hid hl
    clear hl
    go_enter Try.func29, Try.ntmps29
    go_wp2
    go_loopw [7, 8, 9, 17] (fun _ _ _ i wr => ∃ k : Nat, k ≤ xs.length ∧ i = .int .i64 k ∧ Hid (∀ i (h : i < xs.length) (h' : i < ys.length), i < k → eqC xs[i] ys[i]) ∧ Keeps Non w wr) (fun _ _ _ i _ => xs.length - (intOf i).toNat)
    case atStart => exact ⟨0, Nat.zero_le _, rfl, (fun i _ _ h => absurd h (by omega)), Keeps.refl _ _⟩
    case round =>
      obtain ⟨k, hk, rfl, HE, hK⟩ := hrel
      by_cases hlt : k < xs.length
      · have hlt2 : k < ys.length := by have := HL.out; omega
        obtain ⟨b, off, Ai, ci, rfl, a1, a2, a3, a4, a5, -⟩ := (HA.out.non hK) k hlt
        obtain ⟨x, hx⟩ : ∃ x, x = xs[k] := ⟨_, rfl⟩
        rw [← hx] at a1 a2 a3 a4 a5
        have HX := Lib.hid hx
        have hka := (Keeps.refl Non wr).alloc (.cells #[.int .i64 x.obj, .int .i64 x.at_, .int .i64 x.birth, .slice Ai x.data.length ci] 60)
        obtain ⟨b', off', Bi, di, rfl, b1, b2, b3, b4, b5, -⟩ := (HB.out.non (hK.trans hka)) k hlt2
        obtain ⟨y, hy⟩ : ∃ y, y = ys[k] := ⟨_, rfl⟩
        rw [← hy] at b1 b2 b3 b4 b5
        have HY := Lib.hid hy
        have hkb := hka.alloc (.cells #[.int .i64 y.obj, .int .i64 y.at_, .int .i64 y.birth, .slice Bi y.data.length di] 60)
        have HA5 := Lib.hid (a5.non hkb)
        have HB5 := Lib.hid (b5.non ((Keeps.refl Non _).alloc (.cells #[.int .i64 y.obj, .int .i64 y.at_, .int .i64 y.birth, .slice Bi y.data.length di] 60)))
        clear hx hy a5 b5
        go_wp2_with fail
        refine (cl_any x y Ai Bi ci di _ HA5.out HB5.out).mono ?_
        rintro e w2 ⟨r, rfl, hr, hK2⟩
        have hk2 := (hK.trans hkb).trans hK2
        have HR := Lib.hid hr
        clear hr a1 a2 a3 a4 b1 b2 b3 b4
        cases r with
        | true =>
          go_wp2_with fail
          go_roundw
          case rel =>
            refine ⟨k + 1, by omega, by go_num, fun i h h' hik => ?_, hk2⟩
            rcases Nat.lt_or_ge i k with hl | hl
            · exact HE.out i h h' hl
            · obtain rfl : i = k := by omega
              rw [← HX.out, ← HY.out]
              exact HR.out.1 trivial
          case measure => simp [intOf]; omega
        | false =>
          go_wp2_with fail
          go_ret
          refine ⟨false, rfl, ⟨fun h => (by cases h), fun h => ?_⟩, hk2⟩
          have := h.2 k hlt hlt2
          rw [← HX.out, ← HY.out] at this
          exact HR.out.2 this
      · obtain rfl : k = xs.length := by omega
        go_wp2
        go_ret
        exact ⟨true, rfl, ⟨fun _ => ⟨HL.out, fun i h h' => HE.out i h h' h⟩, fun _ => rfl⟩, hK⟩
  · have hl1 : ((xs.length : Int) != (ys.length : Int)) = true := by rw [bne_iff_ne]; omega
    go_enter Try.func29, Try.ntmps29
    go_wp2
    go_ret
    exact ⟨false, rfl, by simp [eqL, hl], Keeps.refl _ _⟩
end Go.Proofs.Ytmlffigfhhoihab
