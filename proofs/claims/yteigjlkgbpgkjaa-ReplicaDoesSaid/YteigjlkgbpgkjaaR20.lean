/- SameRequest, told of two that are. -/
import Derived.Test.YteigjlkgbpgkjaaR19
namespace Go.Proofs.Yteigjlkgbpgkjaa
open Go.RowKit Go.Uc

set_option maxRecDepth 100000 in
set_option maxHeartbeats 8000000 in
theorem sameReq (R : Rq) (A1 : Option Addr) (c1 : Nat) (A2 : Option Addr) (c2 : Nat) (w : World) (h1 : At w A1 R.data) (h2 : At w A2 R.data) :
    Calls Try.prog 13 #[.agg #[.int .i64 R.ses, .int .i64 R.id, .int .i64 R.verb, .string R.name, .string R.item, .string R.other, .string R.path, .int .i64 R.at_, .int .i64 R.many, .slice A1 R.data.length c1], .agg #[.int .i64 R.ses, .int .i64 R.id, .int .i64 R.verb, .string R.name, .string R.item, .string R.other, .string R.path, .int .i64 R.at_, .int .i64 R.many, .slice A2 R.data.length c2]] w fun en w' => en = .returned (.bool true) ∧ Keeps Non w w' := by
  obtain ⟨b, hb⟩ : ∃ b, b = w.heap.size := ⟨_, rfl⟩
  obtain ⟨w1, hw1⟩ : ∃ W, W = w.alloc (.cells #[.int .i64 R.ses, .int .i64 R.id, .int .i64 R.verb, .string R.name, .string R.item, .string R.other, .string R.path, .int .i64 R.at_, .int .i64 R.many, .slice A1 R.data.length c1] 41) := ⟨_, rfl⟩
  obtain ⟨c, hc⟩ : ∃ c, c = b + 1 := ⟨_, rfl⟩
  have hcz : c = w1.heap.size := by rw [hc, hb, hw1]; simp
  obtain ⟨w2, hw2⟩ : ∃ W, W = w1.alloc (.cells #[.int .i64 R.ses, .int .i64 R.id, .int .i64 R.verb, .string R.name, .string R.item, .string R.other, .string R.path, .int .i64 R.at_, .int .i64 R.many, .slice A2 R.data.length c2] 41) := ⟨_, rfl⟩
  have hk1 : Keeps Non w w1 := by rw [hw1]; exact (Keeps.refl _ _).alloc _
  have hk2 : Keeps Non w1 w2 := by rw [hw2]; exact (Keeps.refl _ _).alloc _
  have hB2 : Blk w2 b 41 #[.int .i64 R.ses, .int .i64 R.id, .int .i64 R.verb, .string R.name, .string R.item, .string R.other, .string R.path, .int .i64 R.at_, .int .i64 R.many, .slice A1 R.data.length c1] := Blk.non (by rw [hw1, hb]; exact Blk.new _ _ _) hk2
  have hC2 : Blk w2 c 41 #[.int .i64 R.ses, .int .i64 R.id, .int .i64 R.verb, .string R.name, .string R.item, .string R.other, .string R.path, .int .i64 R.at_, .int .i64 R.many, .slice A2 R.data.length c2] := by rw [hw2, hcz]; exact Blk.new _ _ _
  have bx0 : w2.cell? ⟨b, 0, none⟩ = some (.int .i64 R.ses) := hB2.cell 0
  have bx1 : w2.cell? ⟨b, 1, none⟩ = some (.int .i64 R.id) := hB2.cell 1
  have bx2 : w2.cell? ⟨b, 2, none⟩ = some (.int .i64 R.verb) := hB2.cell 2
  have bx3 : w2.cell? ⟨b, 3, none⟩ = some (.string R.name) := hB2.cell 3
  have bx4 : w2.cell? ⟨b, 4, none⟩ = some (.string R.item) := hB2.cell 4
  have bx5 : w2.cell? ⟨b, 5, none⟩ = some (.string R.other) := hB2.cell 5
  have bx6 : w2.cell? ⟨b, 6, none⟩ = some (.string R.path) := hB2.cell 6
  have bx7 : w2.cell? ⟨b, 7, none⟩ = some (.int .i64 R.at_) := hB2.cell 7
  have bx8 : w2.cell? ⟨b, 8, none⟩ = some (.int .i64 R.many) := hB2.cell 8
  have bx9 : w2.cell? ⟨b, 9, none⟩ = some (.slice A1 R.data.length c1) := hB2.cell 9
  have cx0 : w2.cell? ⟨c, 0, none⟩ = some (.int .i64 R.ses) := hC2.cell 0
  have cx1 : w2.cell? ⟨c, 1, none⟩ = some (.int .i64 R.id) := hC2.cell 1
  have cx2 : w2.cell? ⟨c, 2, none⟩ = some (.int .i64 R.verb) := hC2.cell 2
  have cx3 : w2.cell? ⟨c, 3, none⟩ = some (.string R.name) := hC2.cell 3
  have cx4 : w2.cell? ⟨c, 4, none⟩ = some (.string R.item) := hC2.cell 4
  have cx5 : w2.cell? ⟨c, 5, none⟩ = some (.string R.other) := hC2.cell 5
  have cx6 : w2.cell? ⟨c, 6, none⟩ = some (.string R.path) := hC2.cell 6
  have cx7 : w2.cell? ⟨c, 7, none⟩ = some (.int .i64 R.at_) := hC2.cell 7
  have cx8 : w2.cell? ⟨c, 8, none⟩ = some (.int .i64 R.many) := hC2.cell 8
  have cx9 : w2.cell? ⟨c, 9, none⟩ = some (.slice A2 R.data.length c2) := hC2.cell 9
  have e0 : (R.ses == R.ses) = true := by simp
  have e1 : (R.id == R.id) = true := by simp
  have e2 : (R.verb == R.verb) = true := by simp
  have e3 : (R.at_ == R.at_) = true := by simp
  have e4 : (R.many == R.many) = true := by simp
  have s0 : (R.name.toList == R.name.toList) = true := by simp
  have s1 : (R.item.toList == R.item.toList) = true := by simp
  have s2 : (R.other.toList == R.other.toList) = true := by simp
  have s3 : (R.path.toList == R.path.toList) = true := by simp
  have s4 : ((str R.data).toList == (str R.data).toList) = true := by simp
  have HK := Lib.hid (hk1.trans hk2)
  have cv1 : (convert 35 9 (.slice A1 R.data.length c1)).run Try.prog w2 = .ok (.string (str R.data)) w2 := run_convert_at 35 9 5 Try.underlying35 Try.underlying5 Try.underlying9 _ _ (h1.non HK.out) _ _ rfl
  have cv2 : (convert 35 9 (.slice A2 R.data.length c2)).run Try.prog w2 = .ok (.string (str R.data)) w2 := run_convert_at 35 9 5 Try.underlying35 Try.underlying5 Try.underlying9 _ _ (h2.non HK.out) _ _ rfl
  clear hB2 hC2 hk1 hk2 h1 h2
  go_enter Try.func13, Try.ntmps13
  go_upto_region 1 with fail
  rw [← hw1, ← hb, ← hc, ← hw2]
  clear hw1 hw2 hb hc hcz
  go_wp2_with fail
  go_ret
  exact ⟨rfl, HK.out⟩
end Go.Proofs.Yteigjlkgbpgkjaa
