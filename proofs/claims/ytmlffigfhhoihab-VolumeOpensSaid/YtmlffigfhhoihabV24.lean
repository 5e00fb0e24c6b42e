/- The document's Open, any cells; Copied. -/
import Derived.Test.YtmlffigfhhoihabV23
namespace Go.Proofs.Ytmlffigfhhoihab
open Go.RowKit Go.Uc

theorem refOpen_any (c : Nat) (A : Option Addr) (cs : List Cel) (w : World) (hA : Cels w A cs) (hc : cs.length ≤ c) (hn : cs.length ≤ 140737488351232) : Calls Try.prog 20 #[.slice A cs.length c] w (OpenRf cs w) := by
  by_cases hm : MayP cs
  · by_cases h0 : 0 < cs.length
    · by_cases h2 : cs[0].data.length = 4
      · exact refOpen_main c A cs w hA hc hm h0 h2
      · exact refOpen_short c A cs w hA hn (.inr (.inr ⟨h0, h2⟩))
    · exact refOpen_short c A cs w hA hn (.inr (.inl (by omega)))
  · exact refOpen_short c A cs w hA hn (.inl hm)

set_option maxRecDepth 100000 in
set_option maxHeartbeats 4000000 in
theorem copied_any (A : Option Addr) (c : Nat) (cs : List Cel) (w : World) (hA : Cels w A cs) (hn : (cs.length + 1) * 48 ≤ 140737488355328) (h64 : ∀ i (h : i < cs.length), cs[i].data.length ≤ 140737488351232) :
    Calls Try.prog 18 #[.slice A cs.length c] w fun e w' => ∃ v, e = .returned v ∧ RowC w' w.heap.size (OwnB w' w.heap.size 5) v cs ∧ Keeps Non w w' := by
  have HA := Lib.hid hA
  have H64 := Lib.hid h64
  clear hA h64
  go_enter Try.func18, Try.ntmps18
  go_wp2
  go_loopw [3, 4, 5, 6] (fun v i _ _ wr => ∃ k : Nat, k ≤ cs.length ∧ i = .int .i64 k ∧ RowC wr w.heap.size (OwnB wr w.heap.size 5) v (cs.take k) ∧ Keeps Non w wr) (fun _ i _ _ _ => cs.length - (intOf i).toNat)
  case atStart => exact ⟨0, Nat.zero_le _, rfl, ⟨[], World.ownsRow_nil _ _ _ _, rfl, fun i h => absurd h (by simp)⟩, Keeps.refl _ _⟩
  case round =>
    obtain ⟨k, hk, rfl, hR, hK⟩ := hrel
    by_cases hlt : k < cs.length
    · obtain ⟨b, off, Ai, ci, rfl, a1, a2, a3, a4, a5, a6⟩ := (HA.out.non hK) k hlt
      have h6 := H64.out k hlt
      have HT : Hid (cs.take (k + 1) = cs.take k ++ [cs[k]]) := List.take_succ_eq_append_getElem hlt
      have hkl : (cs.take k).length = k := by simp; omega
      obtain ⟨y, hy⟩ : ∃ y, y = cs[k] := ⟨_, rfl⟩
      rw [← hy] at a1 a2 a3 a4 a5 a6 h6 HT
      clear hy
      have hsz := hK.size
      obtain ⟨w5, hw5⟩ : ∃ w5, w5 = wr.alloc (.cells #[.int .i64 y.obj, .int .i64 y.at_, .int .i64 y.birth, .slice Ai y.data.length ci] 60) := ⟨_, rfl⟩
      have hka : Keeps Non wr w5 := by rw [hw5]; exact (Keeps.refl _ _).alloc _
      have hB5 : Blk w5 wr.heap.size 60 #[.int .i64 y.obj, .int .i64 y.at_, .int .i64 y.birth, .slice Ai y.data.length ci] := by rw [hw5]; exact Blk.new _ _ _
      have hA5 := a5.non hka
      rw [hw5] at hA5
      obtain ⟨vss, r1, r2, r3⟩ := hR
      have R2 := Lib.hid r2
      have R3 := Lib.hid r3
      clear r2 r3
      go_wp2_with (first
        | (at_builtin; (refine wpList_append_bytes rfl (.tmp 17) (.tmp 19) 23 rfl w.heap.size 5 Try.underlying23 info5 (.slice none 0 0) [] rfl (OwnB.nil _ _ _) Ai y.data.length ci y.data rfl rfl hA5 (by simp; omega) (by simp; omega) ?_); go_must (intro vb w6 hO6 hK6 hat6; obtain ⟨A2, c2, rfl, hc2, hA2, -⟩ := hO6.open; have hk6 : Keeps Non w5 w6 := (by rw [hw5]; exact hK6.mono fun k e => by simp [Owned, Value.ownBlock] at e); have hB6 := hB5.non hk6; have k3 : w6.cell? ⟨wr.heap.size, 3, none⟩ = some (.slice Ai y.data.length ci) := hB6.cell 3; have f3 := hB6.frozen 3; obtain ⟨w7, hw7⟩ : ∃ w7, w7 = w6.setCell ⟨wr.heap.size, 3, none⟩ (.slice A2 y.data.length c2) := ⟨_, rfl⟩; have hB7 : Blk w7 wr.heap.size 60 #[.int .i64 y.obj, .int .i64 y.at_, .int .i64 y.birth, .slice A2 y.data.length c2] := (by rw [hw7]; exact hB6.set 3 _); have hO6' : OwnB w6 w.heap.size 5 (.slice A2 y.data.length c2) y.data := hO6; have hO7 : OwnB w7 w.heap.size 5 (.slice A2 y.data.length c2) y.data := (by rw [hw7]; exact hO6'.keep (S := Only wr.heap.size) ((Keeps.refl (Only wr.heap.size) w6).set (p := ⟨wr.heap.size, 3, none⟩) rfl _) (fun g hg e => Blk.apart hB6 hO6' (by decide) (by unfold Only at e; subst e; exact hg))); have hk7 : Keeps Non wr w7 := (by rw [hw7]; exact (hka.trans hk6).setNew (p := ⟨wr.heap.size, 3, none⟩) (Nat.le_refl _) _); have j0 : w7.cell? ⟨wr.heap.size, 0, none⟩ = some (.int .i64 y.obj) := hB7.cell 0; have j1 : w7.cell? ⟨wr.heap.size, 1, none⟩ = some (.int .i64 y.at_) := hB7.cell 1; have j2 : w7.cell? ⟨wr.heap.size, 2, none⟩ = some (.int .i64 y.birth) := hB7.cell 2; have j3 : w7.cell? ⟨wr.heap.size, 3, none⟩ = some (.slice A2 y.data.length c2) := hB7.cell 3; rw [hw7] at j0 j1 j2 j3; clear hA2 hc2 hO6 hO6' hK6 hat6 hB5 hB6 hA5 hka hk6 a1 a2 a3 a4 a5))
        | (at_builtin; subst hw7; go_must (refine wpList_append_cell rfl (.tmp 22) (.tmp 24) rfl w.heap.size u3 _ _ rfl (row_keep (row_keep r1 hk7 fun _ _ e => e) ((Keeps.refl Non _).alloc (.cells #[.int .i64 y.obj, .int .i64 y.at_, .int .i64 y.birth, .slice A2 y.data.length c2] 60)) fun _ _ e => e) _ 1 [.int .i64 y.obj, .int .i64 y.at_, .int .i64 y.birth, .slice A2 y.data.length c2] rfl rfl (by have h := Ats.four (w6.setCell ⟨wr.heap.size, 3, none⟩ (.slice A2 y.data.length c2)) (.int .i64 y.obj) (.int .i64 y.at_) (.int .i64 y.birth) (.slice A2 y.data.length c2) 60; simpa using h) (cel_one hO7) (by omega) (by have h1 := hk7.size; simp [World.setCell] at h1 ⊢; omega) ?_); intro v8 w8 hR8 hK8 hat8))
      go_roundw
      case rel =>
        have r5 := row_keep r1 hk7 fun _ _ e => e
        have hlow : ∀ g, Owned u3 g → w.heap.size ≤ g := fun g hg => (World.ownsRow.lt r1 g hg).1
        refine ⟨k + 1, by omega, by go_num, ?_, ((hK.trans hk7).alloc _).then hK8 fun i hi e => by have := hlow i e; omega⟩
        rw [HT.out]
        exact RowC.grow (c := y) r5 R2.out (fun i a b => by
          obtain ⟨d', e', hd'⟩ := R3.out i a b
          exact ⟨d', e', hd'.non hk7⟩) hO7 hR8 hK8
      case measure => simp [intOf]; omega
    · obtain rfl : k = cs.length := by omega
      rw [List.take_length] at hR
      go_wp2
      go_ret
      exact ⟨_, rfl, hR, hK⟩
end Go.Proofs.Ytmlffigfhhoihab
