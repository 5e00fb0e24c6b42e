/- The walk of IlogScans, the law. -/
import Derived.Test.YtmlffigfhhoihaaT19
namespace Go.Proofs.Ytmlffigfhhoihaa
open Go.RowKit Go.Uc

theorem At.own' {w : World} {g : Nat} {t : TypeId} {bs xs : List UInt8} (h : Blk w g t (pc (bs ++ xs))) : At w (some ⟨g, 0, none⟩) bs := by
  have := (At.blk h).take bs.length
  simpa using this

set_option maxRecDepth 100000 in
set_option maxHeartbeats 4000000 in
theorem ilogScans_bad (base : Int) (A1 A2 : Option Addr) (c1 c2 : Nat) (bs more : List UInt8) (w : World) (hA1 : At w A1 bs) (hl1 : bs.length ≤ 140737488351232) (hbad : base < 0 ∨ 281474976710656 < base) :
    Calls Try.prog 5 #[.int .i64 base, .slice A1 bs.length c1, .slice A2 more.length c2] w fun e w' => e = .returned (.bool true) ∧ Keeps Non w w' := by
  have HB := Lib.hid hbad
  have HA := Lib.hid hA1
  clear hbad hA1
  have hR := regB_length bs
  obtain ⟨R, hRR⟩ : ∃ R, R = regB bs := ⟨_, rfl⟩
  rw [← hRR] at hR
  have HRR := Lib.hid hRR
  have HRl := Lib.hid hR
  clear hRR hR
  go_enter Try.func5, Try.ntmps5
  go_wp2_with (first
    | (go_at_call 7; go_must (refine (awake_any _).mono ?_); rintro e w1 ⟨rfl, hK1⟩)
    | (go_at_call 17; go_must (refine (scan_bad base _ _ _ _ HB.out).mono ?_); rintro e w2 ⟨rfl, rfl⟩)
    | (go_at_call 21; go_must (refine (refScan_bad base _ _ _ _ HB.out).mono ?_); rintro e w3 ⟨rfl, rfl⟩)
    | (go_at_call 18; go_must (refine (same_any none none 0 0 [] [] _ (fun i h => absurd h (by simp)) (fun i h => absurd h (by simp)) (by simp) (by simp) rfl).mono ?_); rintro e w4 ⟨rfl, hK4⟩; have hk4 := hK1.trans hK4)
    | (go_at_call 22; go_must (refine (region_any A1 c1 bs _ (HA.out.non hk4) hl1).mono ?_); rintro e w5 ⟨rfl, hB5, hK5⟩; rw [← HRR.out] at hB5; have hk5 := hk4.trans hK5)
    | fail)
  obtain ⟨gR, hgR⟩ : ∃ g, g = w4.heap.size := ⟨_, rfl⟩
  rw [← hgR] at hB5 ⊢
  have hgr : w.heap.size ≤ gR := by have := hk4.size; omega
  have hL := lent_any (some ⟨gR, 0, none⟩) 22528 R w5 (At.blk hB5) (by have := HRl.out; omega)
  rw [HRl.out] at hL
  refine hL.mono ?_
  rintro e w6 ⟨rfl, hB6, hK6⟩
  have hB5' := hB5.non hK6
  have hk6 := hk5.trans hK6
  obtain ⟨gO, hgO⟩ : ∃ g, g = w5.heap.size := ⟨_, rfl⟩
  rw [← hgO] at hB6 ⊢
  have hne : gR ≠ gO := by have := hB5.lt; omega
  have hgo : w.heap.size ≤ gO := by have := hk5.size; omega
  clear hL hgR hgO hB5 hK6 hk5 hk4 hK1 hK4 hK5
  go_wp2_with (go_at_call 17; go_must (refine (scan_bad base _ _ _ _ HB.out).mono ?_); rintro e w2 ⟨rfl, rfl⟩)
  have cv1 : ∀ nq, (convert 31 9 (.slice (some ⟨gO, 0, none⟩) 22528 22529)).run Try.prog (w6.drewN nq) = .ok (.string (str R)) (w6.drewN nq) := fun nq =>
    run_convert_at 31 9 5 Try.underlying31 Try.underlying5 Try.underlying9 _ _ ((At.own' hB6).non ((Keeps.refl Non _).drewN nq)) _ _ HRl.out.symm
  have cv2 : ∀ nq, (convert 31 9 (.slice (some ⟨gR, 0, none⟩) 22528 22528)).run Try.prog (w6.drewN nq) = .ok (.string (str R)) (w6.drewN nq) := fun nq =>
    run_convert_at 31 9 5 Try.underlying31 Try.underlying5 Try.underlying9 _ _ ((At.blk hB5').non ((Keeps.refl Non _).drewN nq)) _ _ HRl.out.symm
  go_quiet (fail)
  clear cv1 cv2
  have hnq : Keeps Non w6 (w6.drewN nq) := (Keeps.refl Non _).drewN nq
  obtain ⟨wq, hwq⟩ : ∃ wq, wq = w6.drewN nq := ⟨_, rfl⟩
  rw [← hwq] at hnq ⊢
  have hOw := (OwnB.blk (bs := R) (xs := [200]) (hB6.non hnq) (Nat.zero_le _) (by have := HRl.out; simp [maxLen]; omega))
  have hkq := hk6.trans hnq
  clear hwq hk6
  rw [HRl.out] at hOw
  have hOw2 : wq.ownsRow 0 5 1 (.slice (some ⟨gO, 0, none⟩) 22528 22529) 22528 (R.map bv) := by have := hOw; unfold OwnB at this; rw [HRl.out] at this; exact this
  go_wp2_with (first
    | (go_at_call 12; go_must (refine (spoil_any (some ⟨gO, 0, none⟩) 22528 22529 0 (R.map bv) _ hOw2 (Nat.zero_le _) (by omega)).mono ?_); rintro e w7 ⟨rfl, hK7⟩)
    | (go_at_call 21; go_must (refine (refScan_bad base _ _ _ _ HB.out).mono ?_); rintro e w3 ⟨rfl, rfl⟩)
    | (go_at_call 18; go_must (refine (same_any none none 0 0 [] [] _ (fun i h => absurd h (by simp)) (fun i h => absurd h (by simp)) (by simp) (by simp) rfl).mono ?_); rintro e w8 ⟨rfl, hK8⟩))
  have hk7 := hkq.then hK7 (fun j hj e => by rw [owned_one] at e; omega)
  have hk8 := hk7.trans hK8
  clear hk7 hkq
  go_loopw [18] (fun i wr => i = .int .i64 0 ∧ wr = w8) (fun _ _ => 0)
  case atStart => exact ⟨rfl, rfl⟩
  case round =>
    obtain ⟨rfl, rfl⟩ := hrel
    go_wp2
    go_ret
    exact ⟨rfl, hk8⟩
end Go.Proofs.Ytmlffigfhhoihaa
