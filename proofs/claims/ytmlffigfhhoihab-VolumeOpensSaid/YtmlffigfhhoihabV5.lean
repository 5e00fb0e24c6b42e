import Derived.Test.YtmlffigfhhoihabV4
import Derived.StillTailTactics
namespace Go.Proofs.Ytmlffigfhhoihab
open Go.RowKit Go.Uc

/-- A slice of cells, wherever it lies. -/
def Cels (w : World) (A : Option Addr) (cs : List Cel) : Prop := ∀ i (h : i < cs.length), ∃ b off Ai ci, A = some ⟨b, off, none⟩ ∧ w.cell? ⟨b, off + i * 4, none⟩ = some (.int .i64 cs[i].obj) ∧ w.cell? ⟨b, off + i * 4 + 1, none⟩ = some (.int .i64 cs[i].at_) ∧
  w.cell? ⟨b, off + i * 4 + 2, none⟩ = some (.int .i64 cs[i].birth) ∧ w.cell? ⟨b, off + i * 4 + 3, none⟩ = some (.slice Ai cs[i].data.length ci) ∧ At w Ai cs[i].data ∧ cs[i].data.length ≤ ci
theorem Cels.non {w w' : World} {A : Option Addr} {cs : List Cel} (h : Cels w A cs) (hk : Keeps Non w w') : Cels w' A cs := fun i hi => by
  obtain ⟨b, off, Ai, ci, h0, h1, h2, h3, h4, h5, h6⟩ := h i hi
  exact ⟨b, off, Ai, ci, h0, hk.cell h1 id, hk.cell h2 id, hk.cell h3 id, hk.cell h4 id, h5.non hk, h6⟩

set_option maxHeartbeats 1000000 in
theorem one_same (a b c : Int) (u v : Value) (w : World) (hu : u.oneCell' = true) (hv : v.oneCell' = true) :
    Calls Try.prog 24 #[.agg #[.int .i64 a, .int .i64 b, .int .i64 c, u], .agg #[.int .i64 a, .int .i64 b, .int .i64 c, v]] w fun e w' => e = .returned (.bool true) ∧ Keeps Non w w' := by
  go_enter Try.func24, Try.ntmps24
  go_wp2
  go_ret
  exact ⟨rfl, ((Keeps.refl _ _).alloc _).alloc _⟩

set_option maxHeartbeats 1000000 in
theorem same_any (A B : Option Addr) (c d : Nat) (cs : List Cel) (w : World) (hA : Cels w A cs) (hB : Cels w B cs) (h1 : cs.length ≤ 140737488351232) :
    Calls Try.prog 12 #[.slice A cs.length c, .slice B cs.length d] w fun e w' => e = .returned (.bool true) ∧ Keeps Non w w' := by
  have HA := Lib.hid hA
  have HB := Lib.hid hB
  clear hA hB
  go_enter Try.func12, Try.ntmps12
  go_wp2
  go_loopw [5, 6] (fun i _ wr => ∃ k : Nat, k ≤ cs.length ∧ i = .int .i64 k ∧ Keeps Non w wr) (fun i _ _ => cs.length - (intOf i).toNat)
  case atStart => exact ⟨0, by omega, rfl, Keeps.refl _ _⟩
  case round =>
    obtain ⟨k, hk, rfl, hK⟩ := hrel
    by_cases hlt : k < cs.length
    · obtain ⟨b, off, Ai, ci, rfl, a1, a2, a3, a4, a5, a6⟩ := (HA.out.non hK) k hlt
      obtain ⟨b', off', Bi, di, rfl, b1, b2, b3, b4, b5, b6⟩ := (HB.out.non hK) k hlt
      go_wp2
      go_still_tail 8, (by kernel_rfl)
      go_wp2_with (go_at_call 24; go_must (refine (one_same cs[k].obj cs[k].at_ cs[k].birth _ _ _ rfl rfl).mono ?_); rintro e w2 ⟨rfl, hK2⟩)
      have hk2 : Keeps Non wr w2 := ((Keeps.refl _ _).drew).trans hK2
      have a4' := hk2.cell a4 id
      have b4' := hk2.cell b4 id
      have cv1 : ∀ nq, (convert 23 9 (.slice Ai cs[k].data.length ci)).run Try.prog (w2.drewN nq) = .ok (.string (str cs[k].data)) (w2.drewN nq) := fun nq =>
        run_convert_at 23 9 5 Try.underlying23 Try.underlying5 Try.underlying9 _ _ (a5.non (hk2.drewN nq)) _ _ rfl
      have cv2 : ∀ nq, (convert 23 9 (.slice Bi cs[k].data.length di)).run Try.prog (w2.drewN nq) = .ok (.string (str cs[k].data)) (w2.drewN nq) := fun nq =>
        run_convert_at 23 9 5 Try.underlying23 Try.underlying5 Try.underlying9 _ _ (b5.non (hk2.drewN nq)) _ _ rfl
      clear a1 a2 a3 a4 a5 b1 b2 b3 b4 b5
      go_quiet (fail)
      go_wp2
      go_roundw
      case rel => exact ⟨k + 1, by omega, by go_num, (hK.trans hk2).drewN _⟩
      case measure => simp [intOf]; omega
    · go_wp2
      go_ret
      exact ⟨rfl, hK⟩
end Go.Proofs.Ytmlffigfhhoihab
