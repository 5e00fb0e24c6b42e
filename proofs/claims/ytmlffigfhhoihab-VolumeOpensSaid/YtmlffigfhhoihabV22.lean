/- The document's Open. -/
import Derived.Test.YtmlffigfhhoihabV21
namespace Go.Proofs.Ytmlffigfhhoihab
open Go.RowKit Go.Uc

def OpenRf (cs : List Cel) (w : World) (e : Ending) (w' : World) : Prop := Keeps Non w w' ∧
  ((∃ X g gb, e = .returned (.tuple #[.pointer (some ⟨g, 0, none⟩), .int .i64 0]) ∧ AlikeV X cs ∧ VolB w' g gb 67 X ∧ w.heap.size ≤ gb ∧ w.heap.size ≤ g) ∨
   ((∀ X, ¬ AlikeV X cs) ∧ e = .returned (.tuple #[.pointer none, .int .i64 190])))
theorem OpenRf.no {cs : List Cel} {w w' : World} (h : ∀ X, ¬ AlikeV X cs) (hk : Keeps Non w w') : OpenRf cs w (.returned (.tuple #[.pointer none, .int .i64 190])) w' := ⟨hk, .inr ⟨h, rfl⟩⟩

set_option maxHeartbeats 2000000 in
theorem refOpen_short (c : Nat) (A : Option Addr) (cs : List Cel) (w : World) (hA : Cels w A cs) (hn : cs.length ≤ 140737488351232)
    (h : ¬ MayP cs ∨ cs.length = 0 ∨ ∃ h0 : 0 < cs.length, cs[0].data.length ≠ 4) :
    Calls Try.prog 20 #[.slice A cs.length c] w (OpenRf cs w) := by
  have HA := Lib.hid hA
  by_cases hm : MayP cs
  · have hmb := mayB_yes hm
    have HMB := Lib.hid hmb
    clear hmb
    by_cases h0 : cs.length = 0
    · have hno : ∀ X, ¬ AlikeV X cs := fun X hx => by obtain ⟨a, _⟩ := hx.head; omega
      have HNO := Lib.hid hno
      obtain rfl : cs = [] := List.eq_nil_of_length_eq_zero h0
      have hMa := content_any A c [] w HA.out hn
      rw [HMB.out] at hMa
      simp only [List.length_nil] at hMa ⊢
      have HMa := Lib.hid hMa
      clear hno hA h hm hMa h0
      go_enter Try.func20, Try.ntmps20
      go_wp2_with (go_at_call 31; go_must (refine HMa.out.mono ?_); rintro e w1 ⟨rfl, hK1⟩)
      go_ret2
      exact OpenRf.no HNO.out hK1
    · have h0' : 0 < cs.length := by omega
      have h0b : ¬ (cs.length : Int) < 1 := by omega
      rcases h with h | h | ⟨_, h⟩
      · exact absurd hm h
      · exact absurd h h0
      obtain ⟨x, hx⟩ : ∃ x, x = cs[0] := ⟨_, rfl⟩
      rw [← hx] at h
      have HX := Lib.hid hx
      clear hx hA hm
      have h2b : ((x.data.length : Int) != 4) = true := by rw [bne_iff_ne]; omega
      have hno : ∀ X, ¬ AlikeV X cs := fun X hX => by
        obtain ⟨_, _, b, _⟩ := hX.head
        rw [← HX.out] at b
        exact h b
      have HNO := Lib.hid hno
      clear hno h
      go_enter Try.func20, Try.ntmps20
      go_wp2_with (go_at_call 31; go_must (refine (content_any A c cs _ HA.out hn).mono ?_); rw [HMB.out]; rintro e w1 ⟨rfl, hK1⟩; obtain ⟨b, off, Ai, ci, rfl, a1, a2, a3, a4, a5, a6⟩ := (HA.out.non hK1) 0 h0'; rw [← HX.out] at a1 a2 a3 a4 a5 a6; simp only [Nat.zero_mul, Nat.add_zero] at a1 a2 a3 a4)
      go_ret2
      exact OpenRf.no HNO.out hK1
  · have hmb := mayB_no hm
    have HMB := Lib.hid hmb
    have HNO : Hid (∀ X, ¬ AlikeV X cs) := fun X hx => hm hx.may
    clear hmb hm h hA
    go_enter Try.func20, Try.ntmps20
    go_wp2_with (go_at_call 31; go_must (refine (content_any A c cs _ HA.out hn).mono ?_); rw [HMB.out]; rintro e w1 ⟨rfl, hK1⟩)
    go_ret2
    exact OpenRf.no HNO.out hK1
end Go.Proofs.Ytmlffigfhhoihab
