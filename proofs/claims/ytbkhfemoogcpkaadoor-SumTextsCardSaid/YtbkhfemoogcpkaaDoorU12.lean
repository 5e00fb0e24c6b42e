/- The chapter's example of SHA-256, reckoned. -/
import Derived.Test.YtbkhfemoogcpkaaDoorU11
import Derived.Test.YtbkhfemoogcpkaaDoorBaseb
import Derived.Lib.SmallJoins
namespace Go.Proofs.YtbkhfemoogcpkaaDoor
set_option maxRecDepth 100000
open Go.RowKit Go.Uc

/-- The numbers k. -/
def roundsZ : List Int := [1116352408, 1899447441, 3049323471, 3921009573, 961987163, 1508970993, 2453635748, 2870763221, 3624381080, 310598401, 607225278, 1426881987, 1925078388, 2162078206, 2614888103, 3248222580, 3835390401, 4022224774, 264347078, 604807628, 770255983, 1249150122, 1555081692, 1996064986, 2554220882, 2821834349, 2952996808, 3210313671, 3336571891, 3584528711, 113926993, 338241895, 666307205, 773529912, 1294757372, 1396182291, 1695183700, 1986661051, 2177026350, 2456956037, 2730485921, 2820302411, 3259730800, 3345764771, 3516065817, 3600352804, 4094571909, 275423344, 430227734, 506948616, 659060556, 883997877, 958139571, 1322822218, 1537002063, 1747873779, 1955562222, 2024104815, 2227730452, 2361852424, 2428436474, 2756734187, 3204031479, 3329325298]
def roundsK : List (BitVec 32) := roundsZ.map (BitVec.ofInt 32)
set_option maxRecDepth 100000 in

theorem sha_abc : shaP roundsK [97, 98, 99] = ⟨13436514500253700074#64, 4702110809750118947#64, 12683088330831133340#64, 12975151322591401389#64⟩ := by kernel_rfl
def abcT : List UInt8 := ((text 13436514500253700074#64 ++ text 4702110809750118947#64) ++ text 12683088330831133340#64) ++ text 12975151322591401389#64
/-- What the laid tables give. -/
def Good (w : World) : Prop := Tab w 0 roundsK ∧ w.cell? ⟨6, 15, none⟩ = some (.int .u8 4)
theorem Good.keep {S : Nat → Prop} {w w' : World} (h : Good w) (hk : Keeps S w w') (h2 : ¬ S 0) (h6 : ¬ S 6) : Good w' := ⟨h.1.keep hk h2, hk.cell h.2 h6⟩
theorem Good.non {w w' : World} (h : Good w) (hk : Keeps Non w w') : Good w' := h.keep hk id id

theorem of_one (w : World) (hG : Good w) (p : Nat) (hA : At w (some ⟨p, 0, none⟩) [1, 0, 0, 0, 2]) :
    Calls Tryd.prog 9 #[.int .i64 1, .slice (some ⟨p, 0, none⟩) 5 5] w fun e w' => e = .returned (.tuple #[.agg #[.int .u64 3, .int .u64 4, .int .u64 5, .int .u64 6], .int .i64 0]) ∧ Keeps Non w w' := by
  refine (of_any roundsK rfl 1 _ 5 [1, 0, 0, 0, 2] w hA (by decide) (by decide) hG.1).mono ?_
  rintro e w' ⟨rfl, hK⟩
  exact ⟨by rw [show ofP roundsK 1 [1, 0, 0, 0, 2] = (⟨3, 4, 5, 6⟩, 0) from by kernel_rfl]; rfl, hK⟩
theorem of_abc (w : World) (hG : Good w) (p : Nat) (hA : At w (some ⟨p, 0, none⟩) [97, 98, 99]) :
    Calls Tryd.prog 9 #[.int .i64 2, .slice (some ⟨p, 0, none⟩) 3 3] w fun e w' => e = .returned (.tuple #[.agg #[.int .u64 13436514500253700074, .int .u64 4702110809750118947, .int .u64 12683088330831133340, .int .u64 12975151322591401389], .int .i64 0]) ∧ Keeps Non w w' := by
  refine (of_any roundsK rfl 2 _ 3 [97, 98, 99] w hA (by decide) (by decide) hG.1).mono ?_
  rintro e w' ⟨rfl, hK⟩
  refine ⟨?_, hK⟩
  rw [show ofP roundsK 2 [97, 98, 99] = (shaP roundsK [97, 98, 99], 0) from by unfold ofP; rw [if_neg (by decide), if_pos rfl], sha_abc]
  rfl
theorem check_one (w : World) (hG : Good w) (p : Nat) (hA : At w (some ⟨p, 0, none⟩) [1, 0, 0, 0, 2]) :
    Calls Tryd.prog 10 #[.int .i64 1, .agg #[.int .u64 3, .int .u64 4, .int .u64 5, .int .u64 6], .slice (some ⟨p, 0, none⟩) 5 5] w fun e w' => e = .returned (.bool true) ∧ Keeps Non w w' := by
  refine (check_any roundsK rfl 1 ⟨3, 4, 5, 6⟩ _ 5 [1, 0, 0, 0, 2] w hA (by decide) (by decide) hG.1).mono ?_
  rintro e w' ⟨rfl, hK⟩
  exact ⟨by rw [show ofP roundsK 1 [1, 0, 0, 0, 2] = (⟨3, 4, 5, 6⟩, 0) from by kernel_rfl]; rfl, hK⟩
theorem print_abc (w : World) (hG : Good w) :
    Calls Tryd.prog 5 #[.agg #[.int .u64 13436514500253700074, .int .u64 4702110809750118947, .int .u64 12683088330831133340, .int .u64 12975151322591401389]] w fun e w' => e = .returned (.string (str abcT)) ∧ Keeps Non w w' :=
  print_any ⟨13436514500253700074#64, 4702110809750118947#64, 12683088330831133340#64, 12975151322591401389#64⟩ (by unfold Full; decide) (by unfold Full; decide) (by unfold Full; decide) (by unfold Full; decide) w hG.2

set_option maxRecDepth 100000 in
set_option maxHeartbeats 1000000 in
theorem awake_any (w : World) (hG : Good w) : Calls Tryd.prog 4 #[] w fun e w' => e = .returned (.bool true) ∧ Keeps Non w w' := by
  go_enter Tryd.func4, Tryd.ntmps4
  go_wp2_with fail
  have hA1 := At.lit w 5 (0, 0) #[.int .u8 1, .int .u8 0, .int .u8 0, .int .u8 0, .int .u8 2] [1, 0, 0, 0, 2] rfl
  obtain ⟨w1, hw1⟩ : ∃ W : World, W = w.alloc (.cells #[.int .u8 1, .int .u8 0, .int .u8 0, .int .u8 0, .int .u8 2] 5) := ⟨_, rfl⟩
  have hK1 : Keeps Non w w1 := by rw [hw1]; exact (Keeps.refl _ _).alloc _
  rw [← hw1] at hA1 ⊢
  clear hw1
  refine (of_one w1 (hG.non hK1) _ hA1).mono ?_
  rintro e w2 ⟨rfl, hK2⟩
  replace hK2 := hK1.non hK2
  have hcv : (convert 32 32 (.slice (some ⟨w2.heap.size + 1, 0, none⟩) 3 3)).run Tryd.prog ((w2.alloc (.cells #[.int .u64 3, .int .u64 4, .int .u64 5, .int .u64 6] 24)).alloc (.cells #[.int .u8 97, .int .u8 98, .int .u8 99] 5)) = .ok (.slice (some ⟨w2.heap.size + 1, 0, none⟩) 3 3) ((w2.alloc (.cells #[.int .u64 3, .int .u64 4, .int .u64 5, .int .u64 6] 24)).alloc (.cells #[.int .u8 97, .int .u8 98, .int .u8 99] 5 (3, 4))) := Go.Joins.run_convert_bytes_const_at (w2.alloc (.cells #[.int .u64 3, .int .u64 4, .int .u64 5, .int .u64 6] 24)) 32 5 #[.int .u8 97, .int .u8 98, .int .u8 99] 3 3 _ (by simp) Tryd.underlying32 Tryd.underlying5
  clear hA1 hK1
  go_wp2_with fail
  obtain ⟨w3, hw3⟩ : ∃ W : World, W = (w2.alloc (.cells #[.int .u64 3, .int .u64 4, .int .u64 5, .int .u64 6] 24)).alloc (.cells #[.int .u8 97, .int .u8 98, .int .u8 99] 5 (3, 4)) := ⟨_, rfl⟩
  have hA3 : At w3 (some ⟨w2.heap.size + 1, 0, none⟩) [97, 98, 99] := by
    have := At.lit (w2.alloc (.cells #[.int .u64 3, .int .u64 4, .int .u64 5, .int .u64 6] 24)) 5 (3, 4) #[.int .u8 97, .int .u8 98, .int .u8 99] [97, 98, 99] rfl
    rw [hw3]; simpa using this
  have hX3 : Blk w3 w2.heap.size 24 #[.int .u64 3, .int .u64 4, .int .u64 5, .int .u64 6] := by rw [hw3]; exact (Blk.new w2 24 #[.int .u64 3, .int .u64 4, .int .u64 5, .int .u64 6]).alloc _
  have hK3 : Keeps Non w w3 := by rw [hw3]; exact (hK2.alloc _).alloc _
  clear hcv
  rw [← hw3]
  obtain ⟨x, hx⟩ : ∃ x, x = w2.heap.size := ⟨_, rfl⟩
  rw [← hx] at hA3 hX3 ⊢
  clear hw3 hx hK2
  refine (of_abc w3 (hG.non hK3) _ hA3).mono ?_
  rintro e w4 ⟨rfl, hK4⟩
  have hX4 := hX3.non hK4
  replace hK4 := hK3.non hK4
  have hxl := hX4.lt
  clear hA3 hX3 hK3
  have c0 := hX4.cell 0
  have c1 := hX4.cell 1
  have c2 := hX4.cell 2
  have c3 := hX4.cell 3
  go_wp2_with fail
  clear c0 c1 c2 c3
  obtain ⟨w6, hw6⟩ : ∃ W : World, W = (w4.alloc (.cells #[.int .u64 13436514500253700074, .int .u64 4702110809750118947, .int .u64 12683088330831133340, .int .u64 12975151322591401389] 24)).alloc (.cells #[.int .u8 1, .int .u8 0, .int .u8 0, .int .u8 0, .int .u8 2] 5) := ⟨_, rfl⟩
  have hA6 : At w6 (some ⟨w4.heap.size + 1, 0, none⟩) [1, 0, 0, 0, 2] := by
    have := At.lit (w4.alloc (.cells #[.int .u64 13436514500253700074, .int .u64 4702110809750118947, .int .u64 12683088330831133340, .int .u64 12975151322591401389] 24)) 5 (0, 0) #[.int .u8 1, .int .u8 0, .int .u8 0, .int .u8 0, .int .u8 2] [1, 0, 0, 0, 2] rfl
    rw [hw6]; simpa using this
  have hY6 : Blk w6 w4.heap.size 24 #[.int .u64 13436514500253700074, .int .u64 4702110809750118947, .int .u64 12683088330831133340, .int .u64 12975151322591401389] := by rw [hw6]; exact (Blk.new w4 24 #[.int .u64 13436514500253700074, .int .u64 4702110809750118947, .int .u64 12683088330831133340, .int .u64 12975151322591401389]).alloc _
  have hX6 : Blk w6 x 24 #[.int .u64 3, .int .u64 4, .int .u64 5, .int .u64 6] := by rw [hw6]; exact (hX4.alloc _).alloc _
  have hK6 : Keeps Non w w6 := by rw [hw6]; exact (hK4.alloc _).alloc _
  rw [← hw6]
  obtain ⟨y, hy⟩ : ∃ y, y = w4.heap.size := ⟨_, rfl⟩
  rw [← hy] at hA6 hY6 ⊢
  clear hw6 hy hK4 hX4 hxl
  refine (check_one w6 (hG.non hK6) _ hA6).mono ?_
  rintro e w7 ⟨rfl, hK7⟩
  have hX7 := hX6.non hK7
  have hY7 := hY6.non hK7
  replace hK7 := hK6.non hK7
  clear hA6 hY6 hX6 hK6
  have c0 := hX7.cell 0
  have c1 := hX7.cell 1
  have c2 := hX7.cell 2
  have c3 := hX7.cell 3
  have d0 := hY7.cell 0
  have d1 := hY7.cell 1
  have d2 := hY7.cell 2
  have d3 := hY7.cell 3
  go_wp2_with fail
  refine (print_abc w7 (hG.non hK7)).mono ?_
  rintro e w8 ⟨rfl, hK8⟩
  go_wp2_with fail
  go_ret
  refine ⟨ret_bool ?_, hK7.non hK8⟩
  kernel_rfl
end Go.Proofs.YtbkhfemoogcpkaaDoor
