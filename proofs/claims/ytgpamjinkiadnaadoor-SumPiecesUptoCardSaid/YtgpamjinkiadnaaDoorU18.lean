/- lent, still. -/
import Derived.Test.YtgpamjinkiadnaaDoorU5
import Derived.Test.YtgpamjinkiadnaaDoorBaseb
namespace Go.Proofs.YtgpamjinkiadnaaDoor
open Go.RowKit Go.Uc

set_option maxRecDepth 100000 in
set_option maxHeartbeats 1000000 in
theorem lent_any (A : Option Addr) (c : Nat) (bs : List UInt8) (w : World) (hA : At w A bs) (hn : bs.length ≤ 140737488351240) :
    Calls Tryd.prog 8 #[.slice A bs.length c] w fun e w' => ∃ g cap, e = .returned (.slice (some ⟨g, 0, none⟩) bs.length cap) ∧ OwnB w' w.heap.size 5 (.slice (some ⟨g, 0, none⟩) (bs.length + 2) cap) (bs ++ [77, 78]) ∧ bs.length + 2 ≤ cap ∧ Keeps Non w w' := by
  go_enter Tryd.func8, Tryd.ntmps8
  go_wp2_with (first
    | (at_builtin; refine wpList_append_bytes rfl (.const (.slice none 0 0)) (.tmp 4) 22 rfl w.heap.size 5 Tryd.underlying22 info5 (.slice none 0 0) [] rfl (OwnB.nil _ _ _) A bs.length c bs rfl rfl hA (by simp; omega) (Nat.le_refl _) ?_; intro v1 w1 hO1 hK1 hat1; have hKn : Keeps Non w w1 := hK1.mono (fun k e => by simp [Owned, Value.ownBlock] at e); rw [List.nil_append] at hO1; clear hK1 hat1)
    | (at_builtin; go_must (refine wpList_append_bytes rfl (.tmp 6) (.tmp 7) 22 rfl w.heap.size 5 Tryd.underlying22 info5 v1 bs rfl (hO1.non ((Keeps.refl Non _).alloc _)) (some ⟨w1.heap.size, 0, none⟩) 2 2 [77, 78] rfl rfl (At.lit w1 5 (0, 0) #[.int .u8 77, .int .u8 78] [77, 78] rfl) (by simp; omega) (by have := hKn.size; simp; omega) ?_); intro v2 w2 hO2 hK2 hat2; have hK3 : Keeps Non w w2 := (hKn.alloc _).then hK2 (fun i hi e => by have := hO1.new i e; omega); clear hO1 hKn hK2 hat2; obtain ⟨g, cap, cur, rfl, hgb, hBg, hcap, hcm, hcs, hcur⟩ := (hO2.form).resolve_left (fun h => by have := congrArg List.length h.2; simp at this); have hc2 : bs.length + 2 ≤ cap := (by rw [List.length_append] at hcap; exact hcap); have hbc : (bs.length : Int) ≤ (cap : Int) := (by omega); rw [List.length_append] at hO2; have hO3 : OwnB w2 w.heap.size 5 (.slice (some ⟨g, 0, none⟩) (bs.length + 2) cap) (bs ++ [77, 78]) := hO2))
  go_ret
  exact ⟨g, cap, rfl, hO3, hc2, hK3⟩

set_option maxRecDepth 100000 in
set_option maxHeartbeats 1000000 in
theorem still_any (A : Option Addr) (c g cap B : Nat) (bs : List UInt8) (w : World) (hA : At w A bs) (hO : OwnB w B 5 (.slice (some ⟨g, 0, none⟩) (bs.length + 2) cap) (bs ++ [77, 78])) (hcap : bs.length + 2 ≤ cap) (hcn : bs.length ≤ c) (hn : bs.length ≤ 140737488351240) :
    Calls Tryd.prog 11 #[.slice (some ⟨g, 0, none⟩) bs.length cap, .slice A bs.length c] w fun e w' => e = .returned (.bool true) ∧ Keeps Non w w' := by
  obtain ⟨A1, c1, e1, -, hA1, -⟩ := hO.open
  injection e1 with e1 _ e2
  subst e1 e2
  have hAl : At w (some ⟨g, 0, none⟩) bs := by
    have := hA1.take bs.length
    rw [List.take_left' rfl] at this
    exact this
  have h77 : w.cell? ⟨g, bs.length, none⟩ = some (.int .u8 77) := by
    obtain ⟨b, off, e, h⟩ := hA1.at_ (k := bs.length) (by simp)
    injection e with e
    injection e with e1 e2
    subst e1 e2
    rw [Nat.zero_add] at h
    rw [h]
    simp [bv]
  have h78 : w.cell? ⟨g, bs.length + 1, none⟩ = some (.int .u8 78) := by
    obtain ⟨b, off, e, h⟩ := hA1.at_ (k := bs.length + 1) (by simp)
    injection e with e
    injection e with e1 e2
    subst e1 e2
    rw [Nat.zero_add] at h
    rw [h]
    simp [bv, List.getElem_append_right]
  have cv1 : ∀ nq, (convert 22 9 (.slice (some ⟨g, 0, none⟩) bs.length cap)).run Tryd.prog (w.drewN nq) = .ok (.string (str bs)) (w.drewN nq) := fun nq =>
    run_convert_at 22 9 5 Tryd.underlying22 Tryd.underlying5 Tryd.underlying9 _ _ (hAl.non ((Keeps.refl Non w).drewN nq)) _ _ rfl
  have cv2 : ∀ nq, (convert 22 9 (.slice A bs.length c)).run Tryd.prog (w.drewN nq) = .ok (.string (str bs)) (w.drewN nq) := fun nq =>
    run_convert_at 22 9 5 Tryd.underlying22 Tryd.underlying5 Tryd.underlying9 _ _ (hA.non ((Keeps.refl Non w).drewN nq)) _ _ rfl
  obtain ⟨n, hnn⟩ : ∃ n, n = bs.length := ⟨_, rfl⟩
  rw [← hnn] at h77 h78 cv1 cv2 hcap hn hcn ⊢
  have n0 : IntKind.i64.wrap ((n : Int) + 2) = (n : Int) + 2 := by rw [IntKind.wrap_i64]; omega
  have n1 : IntKind.i64.wrap ((n : Int) + 1) = (n : Int) + 1 := by rw [IntKind.wrap_i64]; omega
  have n2 : (n : Int) + 2 ≤ (cap : Int) := by omega
  have n3 : ((n : Int) + 2).toNat = n + 2 := by omega
  have n4 : ((n : Int) + 1).toNat = n + 1 := by omega
  have n5 : (n : Int) ≤ (cap : Int) := by omega
  have n6 : (0 : Int) ≤ (n : Int) := by omega
  have n7 : (0 : Int) ≤ (n : Int) + 2 := by omega
  have n8 : (0 : Int) ≤ (n : Int) + 1 := by omega
  have n9 : (n : Int) < (n : Int) + 2 := by omega
  have n10 : (n : Int) + 1 < (n : Int) + 2 := by omega
  have n11 : (n : Int) ≤ (c : Int) := by omega
  clear hA hO hA1 hAl hnn
  go_enter Tryd.func11, Tryd.ntmps11
  go_wp2_with fail
  go_quiet (fail)
  go_wp2_with fail
  go_ret
  exact ⟨rfl, (Keeps.refl Non w).drewN _⟩
#print axioms lent_any
#print axioms still_any
end Go.Proofs.YtgpamjinkiadnaaDoor
