/- New, twice. -/
import Derived.Test.YteigjlkgbpgkjaaR18
namespace Go.Proofs.Yteigjlkgbpgkjaa
open Go.RowKit Go.Uc

theorem run_max4 (k1 k2 k3 k4 : Nat) (ts : Array TypeId) (t : TypeId) (w : World) : (Builtin.max_ ts t #[.int .i64 (k1 : Int), .int .i64 (k2 : Int), .int .i64 (k3 : Int), .int .i64 (k4 : Int)]).run Try.prog w = .ok (.int .i64 ((max (max (max k1 k2) k3) k4 : Nat) : Int)) w := by
  simp [Builtin.max_, Builtin.max2]
  omega
/-- A job's cells. -/
def jobC (j : Job) : Array Value := #[.string j.name, .string j.snap, .string j.base, .bool j.deep, .string j.to_, .int .i64 j.ses, .int .i64 j.first, .bool j.anew]
/-- A job that may be. -/
def okJ (j : Job) : Prop := j.name.size ≤ 240 ∧ j.snap.size ≤ 240 ∧ j.base.size ≤ 240 ∧ j.to_.size ≤ 240 ∧ 1 ≤ j.ses ∧ j.ses ≤ 8 ∧ 1 ≤ j.first ∧ j.first ≤ 536870912
def startV (j : Job) : St := ⟨if j.anew = true then 0 else 1, j.first, 0, 0, [], 0, 0⟩
def NewP (j : Job) (w : World) (en : Ending) (w' : World) : Prop :=
  Keeps Non w w' ∧ ((¬ okJ j ∧ en = .returned (.tuple #[.pointer none, .int .i64 260])) ∨ (okJ j ∧ ∃ g, en = .returned (.tuple #[.pointer (some ⟨g, 0, none⟩), .int .i64 0]) ∧ w.heap.size ≤ g ∧ RepS w' g none j (startV j) (.slice none 0 0)))
def NewD (j : Job) (w : World) (en : Ending) (w' : World) : Prop :=
  Keeps Non w w' ∧ ((¬ okJ j ∧ en = .returned (.tuple #[.pointer none, .int .i64 260])) ∨ (okJ j ∧ ∃ q, en = .returned (.tuple #[.pointer (some ⟨q, 0, none⟩), .int .i64 0]) ∧ w.heap.size ≤ q ∧ Blk w' q 64 (docC j (startV j) (.slice none 0 0))))
set_option maxRecDepth 100000 in
set_option maxHeartbeats 8000000 in
theorem new_any (j : Job) (w : World) : Calls Try.prog 5 #[.agg (jobC j)] w (NewP j w) := by
  unfold NewP jobC
  obtain ⟨w1, hw1⟩ : ∃ w1, w1 = w.alloc (.cells #[.string j.name, .string j.snap, .string j.base, .bool j.deep, .string j.to_, .int .i64 j.ses, .int .i64 j.first, .bool j.anew] 23) := ⟨_, rfl⟩
  obtain ⟨b, hb⟩ : ∃ b, b = w.heap.size := ⟨_, rfl⟩
  have hk1 : Keeps Non w w1 := by rw [hw1]; exact (Keeps.refl _ _).alloc _
  have hX1 : Blk w1 b 23 #[.string j.name, .string j.snap, .string j.base, .bool j.deep, .string j.to_, .int .i64 j.ses, .int .i64 j.first, .bool j.anew] := by rw [hw1, hb]; exact Blk.new _ _ _
  have b0 : w1.cell? ⟨b, 0, none⟩ = some (.string j.name) := hX1.cell 0
  have b1 : w1.cell? ⟨b, 1, none⟩ = some (.string j.snap) := hX1.cell 1
  have b2 : w1.cell? ⟨b, 2, none⟩ = some (.string j.base) := hX1.cell 2
  have b3 : w1.cell? ⟨b, 3, none⟩ = some (.bool j.deep) := hX1.cell 3
  have b4 : w1.cell? ⟨b, 4, none⟩ = some (.string j.to_) := hX1.cell 4
  have b5 : w1.cell? ⟨b, 5, none⟩ = some (.int .i64 j.ses) := hX1.cell 5
  have b6 : w1.cell? ⟨b, 6, none⟩ = some (.int .i64 j.first) := hX1.cell 6
  have b7 : w1.cell? ⟨b, 7, none⟩ = some (.bool j.anew) := hX1.cell 7
  have HK1 := Lib.hid hk1
  have HX := Lib.hid hX1
  have hb1 := hk1.size
  clear hk1 hX1
  go_enter Try.func5, Try.ntmps5
  go_upto_region 1 with fail
  rw [← hw1, ← hb]
  clear hw1 hb
  obtain ⟨M, hM⟩ : ∃ M : Nat, M = max (max (max j.name.size j.snap.size) j.base.size) j.to_.size := ⟨_, rfl⟩
  have hmx := fun ts t W => run_max4 j.name.size j.snap.size j.base.size j.to_.size ts t W
  rw [← hM] at hmx
  have HM := Lib.hid hM
  clear hM
  by_cases hl : 240 < M
  · have HN : Hid (¬ okJ j) := fun o => by unfold okJ at o; have := HM.out; omega
    go_wp2_with fail
    go_ret2
    exact ⟨HK1.out, .inl ⟨HN.out, by first | rfl | trivial⟩⟩
  · by_cases h0 : j.ses < 1
    · have HN : Hid (¬ okJ j) := fun o => by unfold okJ at o; have := HM.out; omega
      go_wp2_with fail
      go_ret2
      exact ⟨HK1.out, .inl ⟨HN.out, by first | rfl | trivial⟩⟩
    · by_cases h1 : 8 < j.ses
      · have HN : Hid (¬ okJ j) := fun o => by unfold okJ at o; have := HM.out; omega
        go_wp2_with fail
        go_ret2
        exact ⟨HK1.out, .inl ⟨HN.out, by first | rfl | trivial⟩⟩
      · by_cases h2 : j.first < 1
        · have HN : Hid (¬ okJ j) := fun o => by unfold okJ at o; have := HM.out; omega
          go_wp2_with fail
          go_ret2
          exact ⟨HK1.out, .inl ⟨HN.out, by first | rfl | trivial⟩⟩
        · by_cases h3 : 536870912 < j.first
          · have HN : Hid (¬ okJ j) := fun o => by unfold okJ at o; have := HM.out; omega
            go_wp2_with fail
            go_ret2
            exact ⟨HK1.out, .inl ⟨HN.out, by first | rfl | trivial⟩⟩
          · have HO : Hid (okJ j) := by show _ ∧ _; have := HM.out; omega
            obtain ⟨g, hg⟩ : ∃ g, g = w1.heap.size := ⟨_, rfl⟩
            obtain ⟨w2, hw2⟩ : ∃ W, W = w1.alloc (.cells (repC 0 0 (.slice none 0 0) j ⟨1, j.first, 0, 0, [], 0, 0⟩ (.slice none 0 0)) 62) := ⟨_, rfl⟩
            have hX2 : Blk w2 g 62 (repC 0 0 (.slice none 0 0) j ⟨1, j.first, 0, 0, [], 0, 0⟩ (.slice none 0 0)) := by rw [hw2, hg]; exact Blk.new _ _ _
            have hk2 : Keeps Non w1 w2 := by rw [hw2]; exact (Keeps.refl _ _).alloc _
            have b7' : w2.cell? ⟨b, 7, none⟩ = some (.bool j.anew) := (HX.out.non hk2).cell 7
            have HK2 := Lib.hid (HK1.out.trans hk2)
            have HX2 := Lib.hid hX2
            have f12 := hX2.frozen 12
            have c12 : ∃ v, w2.cell? ⟨g, 12, none⟩ = some v := ⟨_, hX2.cell 12⟩
            obtain ⟨v12, c12⟩ := c12
            have hgw : w.heap.size ≤ g := by rw [hg]; exact HK1.out.size
            go_upto_region 5 with fail
            replace hw2 : w2 = w1.alloc (.cells #[.string j.name, .string j.snap, .string j.base, .bool j.deep, .string j.to_, .int .i64 j.ses, .int .i64 j.first, .bool j.anew, .int .u32 0, .int .i32 0, .int .u32 0, .slice none 0 0, .int .i64 1, .int .i64 j.first, .int .i64 0, .int .i64 0, .slice none 0 0, .int .i64 0, .int .i64 0] 62) := hw2
            rw [← hw2, ← hg]
            clear hw2 hg hX2 hk2 b0 b1 b2 b3 b4 b5 b6 b7
            cases han : j.anew with
            | true =>
              rw [han] at b7'
              have HA := Lib.hid han
              clear han
              go_wp2_with fail
              go_ret2
              refine ⟨HK2.out.setNew (p := ⟨g, 12, none⟩) hgw _, .inr ⟨HO.out, g, rfl, hgw, ?_⟩⟩
              have hst : startV j = ⟨0, j.first, 0, 0, [], 0, 0⟩ := by unfold startV; rw [HA.out]; rfl
              rw [hst]
              exact .inl ⟨rfl, HX2.out.set 12 (.int .i64 0)⟩
            | false =>
              rw [han] at b7'
              have HA := Lib.hid han
              clear han
              go_wp2_with fail
              go_ret2
              refine ⟨HK2.out, .inr ⟨HO.out, g, rfl, hgw, ?_⟩⟩
              have hst : startV j = ⟨1, j.first, 0, 0, [], 0, 0⟩ := by unfold startV; rw [HA.out]; rfl
              rw [hst]
              exact .inl ⟨rfl, HX2.out⟩
set_option maxRecDepth 100000 in
set_option maxHeartbeats 8000000 in
theorem rnew_any (j : Job) (w : World) : Calls Try.prog 6 #[.agg (jobC j)] w (NewD j w) := by
  unfold NewD jobC
  obtain ⟨w1, hw1⟩ : ∃ w1, w1 = w.alloc (.cells #[.string j.name, .string j.snap, .string j.base, .bool j.deep, .string j.to_, .int .i64 j.ses, .int .i64 j.first, .bool j.anew] 23) := ⟨_, rfl⟩
  obtain ⟨b, hb⟩ : ∃ b, b = w.heap.size := ⟨_, rfl⟩
  have hk1 : Keeps Non w w1 := by rw [hw1]; exact (Keeps.refl _ _).alloc _
  have hX1 : Blk w1 b 23 #[.string j.name, .string j.snap, .string j.base, .bool j.deep, .string j.to_, .int .i64 j.ses, .int .i64 j.first, .bool j.anew] := by rw [hw1, hb]; exact Blk.new _ _ _
  have b0 : w1.cell? ⟨b, 0, none⟩ = some (.string j.name) := hX1.cell 0
  have b1 : w1.cell? ⟨b, 1, none⟩ = some (.string j.snap) := hX1.cell 1
  have b2 : w1.cell? ⟨b, 2, none⟩ = some (.string j.base) := hX1.cell 2
  have b3 : w1.cell? ⟨b, 3, none⟩ = some (.bool j.deep) := hX1.cell 3
  have b4 : w1.cell? ⟨b, 4, none⟩ = some (.string j.to_) := hX1.cell 4
  have b5 : w1.cell? ⟨b, 5, none⟩ = some (.int .i64 j.ses) := hX1.cell 5
  have b6 : w1.cell? ⟨b, 6, none⟩ = some (.int .i64 j.first) := hX1.cell 6
  have b7 : w1.cell? ⟨b, 7, none⟩ = some (.bool j.anew) := hX1.cell 7
  have HM : Hid True := trivial
  have HK1 := Lib.hid hk1
  have HX := Lib.hid hX1
  have hb1 := hk1.size
  clear hk1 hX1
  go_enter Try.func6, Try.ntmps6
  go_upto_region 1 with fail
  rw [← hw1, ← hb]
  clear hw1 hb
  by_cases h0 : j.ses < 1
  · have HN : Hid (¬ okJ j) := fun o => by unfold okJ at o; have := HM.out; omega
    go_wp2_with fail
    go_ret2
    exact ⟨HK1.out, .inl ⟨HN.out, by first | rfl | trivial⟩⟩
  · by_cases h1 : 8 < j.ses
    · have HN : Hid (¬ okJ j) := fun o => by unfold okJ at o; have := HM.out; omega
      go_wp2_with fail
      go_ret2
      exact ⟨HK1.out, .inl ⟨HN.out, by first | rfl | trivial⟩⟩
    · by_cases h2 : j.first < 1
      · have HN : Hid (¬ okJ j) := fun o => by unfold okJ at o; have := HM.out; omega
        go_wp2_with fail
        go_ret2
        exact ⟨HK1.out, .inl ⟨HN.out, by first | rfl | trivial⟩⟩
      · by_cases h3 : 536870912 < j.first
        · have HN : Hid (¬ okJ j) := fun o => by unfold okJ at o; have := HM.out; omega
          go_wp2_with fail
          go_ret2
          exact ⟨HK1.out, .inl ⟨HN.out, by first | rfl | trivial⟩⟩
        · by_cases h4 : 240 < j.name.size
          · have HN : Hid (¬ okJ j) := fun o => by unfold okJ at o; have := HM.out; omega
            go_wp2_with fail
            go_ret2
            exact ⟨HK1.out, .inl ⟨HN.out, by first | rfl | trivial⟩⟩
          · by_cases h5 : 240 < j.snap.size
            · have HN : Hid (¬ okJ j) := fun o => by unfold okJ at o; have := HM.out; omega
              go_wp2_with fail
              go_ret2
              exact ⟨HK1.out, .inl ⟨HN.out, by first | rfl | trivial⟩⟩
            · by_cases h6 : 240 < j.base.size
              · have HN : Hid (¬ okJ j) := fun o => by unfold okJ at o; have := HM.out; omega
                go_wp2_with fail
                go_ret2
                exact ⟨HK1.out, .inl ⟨HN.out, by first | rfl | trivial⟩⟩
              · by_cases h7 : 240 < j.to_.size
                · have HN : Hid (¬ okJ j) := fun o => by unfold okJ at o; have := HM.out; omega
                  go_wp2_with fail
                  go_ret2
                  exact ⟨HK1.out, .inl ⟨HN.out, by first | rfl | trivial⟩⟩
                · have HO : Hid (okJ j) := by show _ ∧ _; have := HM.out; omega
                  obtain ⟨g, hg⟩ : ∃ g, g = w1.heap.size := ⟨_, rfl⟩
                  obtain ⟨w2, hw2⟩ : ∃ W, W = w1.alloc (.cells (docC j ⟨1, j.first, 0, 0, [], 0, 0⟩ (.slice none 0 0)) 64) := ⟨_, rfl⟩
                  have hX2 : Blk w2 g 64 (docC j ⟨1, j.first, 0, 0, [], 0, 0⟩ (.slice none 0 0)) := by rw [hw2, hg]; exact Blk.new _ _ _
                  have hk2 : Keeps Non w1 w2 := by rw [hw2]; exact (Keeps.refl _ _).alloc _
                  have b7' : w2.cell? ⟨b, 7, none⟩ = some (.bool j.anew) := (HX.out.non hk2).cell 7
                  have HK2 := Lib.hid (HK1.out.trans hk2)
                  have HX2 := Lib.hid hX2
                  have f8 := hX2.frozen 8
                  have c8 : ∃ v, w2.cell? ⟨g, 8, none⟩ = some v := ⟨_, hX2.cell 8⟩
                  obtain ⟨v8, c8⟩ := c8
                  have hgw : w.heap.size ≤ g := by rw [hg]; exact HK1.out.size
                  go_upto_region 4 with fail
                  replace hw2 : w2 = w1.alloc (.cells #[.string j.name, .string j.snap, .string j.base, .bool j.deep, .string j.to_, .int .i64 j.ses, .int .i64 j.first, .bool j.anew, .int .i64 1, .int .i64 j.first, .int .i64 0, .int .i64 0, .slice none 0 0, .int .i64 0, .int .i64 0] 64) := hw2
                  rw [← hw2, ← hg]
                  clear hw2 hg hX2 hk2 b0 b1 b2 b3 b4 b5 b6 b7
                  cases han : j.anew with
                  | true =>
                    rw [han] at b7'
                    have HA := Lib.hid han
                    clear han
                    go_wp2_with fail
                    go_ret2
                    refine ⟨HK2.out.setNew (p := ⟨g, 8, none⟩) hgw _, .inr ⟨HO.out, g, rfl, hgw, ?_⟩⟩
                    have hst : startV j = ⟨0, j.first, 0, 0, [], 0, 0⟩ := by unfold startV; rw [HA.out]; rfl
                    rw [hst]
                    exact HX2.out.set 8 (.int .i64 0)
                  | false =>
                    rw [han] at b7'
                    have HA := Lib.hid han
                    clear han
                    go_wp2_with fail
                    go_ret2
                    refine ⟨HK2.out, .inr ⟨HO.out, g, rfl, hgw, ?_⟩⟩
                    have hst : startV j = ⟨1, j.first, 0, 0, [], 0, 0⟩ := by unfold startV; rw [HA.out]; rfl
                    rw [hst]
                    exact HX2.out
end Go.Proofs.Yteigjlkgbpgkjaa
