/- Value, Clone, Of, Check. -/
import Derived.Test.YtbkhfemoogcpkaaDoorU7
namespace Go.Proofs.YtbkhfemoogcpkaaDoor
set_option maxRecDepth 100000
open Go.RowKit Go.Uc

set_option maxRecDepth 100000 in
set_option maxHeartbeats 1000000 in
theorem value_any (g : Nat) (x : Rn) (hx : x.k < 4) (w : World) (hB : RnB w g x) :
    Calls Tryd.prog 18 #[.pointer (some ⟨g, 0, none⟩)] w fun e w' => e = .returned x.value.v ∧ Keeps Non w w' := by
  obtain ⟨⟨SA, SB, SC, SD⟩, p, q, r, t, k⟩ := x
  have hg := Blk.lt hB
  have hne : g ≠ w.heap.size := by omega
  have c0 : w.cell? ⟨g, 0, none⟩ = some (.int .u64 (v64 SA)) := Blk.cell hB 0
  have c1 : w.cell? ⟨g, 1, none⟩ = some (.int .u64 (v64 SB)) := Blk.cell hB 1
  have c2 : w.cell? ⟨g, 2, none⟩ = some (.int .u64 (v64 SC)) := Blk.cell hB 2
  have c3 : w.cell? ⟨g, 3, none⟩ = some (.int .u64 (v64 SD)) := Blk.cell hB 3
  have c4 : w.cell? ⟨g, 4, none⟩ = some (.int .u8 (p.toNat : Int)) := Blk.cell hB 4
  have c5 : w.cell? ⟨g, 5, none⟩ = some (.int .u8 (q.toNat : Int)) := Blk.cell hB 5
  have c6 : w.cell? ⟨g, 6, none⟩ = some (.int .u8 (r.toNat : Int)) := Blk.cell hB 6
  have c7 : w.cell? ⟨g, 7, none⟩ = some (.int .u8 (t.toNat : Int)) := Blk.cell hB 7
  have c8 : w.cell? ⟨g, 8, none⟩ = some (.int .i64 (k : Int)) := Blk.cell hB 8
  by_cases hk : k = 0
  · subst hk
    rw [show ((0 : Nat) : Int) = 0 from rfl] at c8
    go_enter Tryd.func18, Tryd.ntmps18
    go_wp2_with fail
    exact bodyPost_ret (v := (⟨SA, SB, SC, SD⟩ : Sum4).v) (results_cell_blk (ty := 24) rfl _ w.heap.size 24 _ _ rfl (Blk.new w 24 #[.int .u64 (v64 SA), .int .u64 (v64 SB), .int .u64 (v64 SC), .int .u64 (v64 SD)]) Tryd.underlying24 rfl (by kernel_rfl)) rfl ⟨rfl, (Keeps.refl _ _).alloc _⟩
  · have hk0 : ¬ (k : Int) = 0 := by omega
    obtain ⟨T, hT⟩ : ∃ T, T = (⟨SA, SB, SC, SD⟩ : Sum4).plus (word4 p q r t) := ⟨_, rfl⟩
    have HP := Lib.hid (fun W => plus_any ⟨SA, SB, SC, SD⟩ p q r t W)
    rw [← hT] at HP
    have HT : Hid ((⟨⟨SA, SB, SC, SD⟩, p, q, r, t, k⟩ : Rn).value = T) := by
      show _ = _
      rw [hT]; unfold Rn.value; rw [if_neg hk]
    clear hT
    obtain ⟨TA, TB, TC, TD⟩ := T
    go_enter Tryd.func18, Tryd.ntmps18
    go_wp2_with fail
    obtain ⟨wx, hwx⟩ : ∃ W : World, W = w.alloc (.cells #[.int .u64 0, .int .u64 0, .int .u64 0, .int .u64 0] 24) := ⟨_, rfl⟩
    have hR : Blk wx w.heap.size 24 #[.int .u64 0, .int .u64 0, .int .u64 0, .int .u64 0] := by rw [hwx]; exact Blk.new _ _ _
    have hK : Keeps Non w wx := by rw [hwx]; exact (Keeps.refl _ _).alloc _
    rw [← hwx]
    obtain ⟨b, hb⟩ : ∃ b, b = w.heap.size := ⟨_, rfl⟩
    rw [← hb] at hR hne ⊢
    have hbL : w.heap.size ≤ b := by omega
    have hB1 := Blk.non hB hK
    clear hwx hb c0 c1 c2 c3 c4 c5 c6 c7 c8 hB hg
    have c0 : wx.cell? ⟨g, 0, none⟩ = some (.int .u64 (v64 SA)) := Blk.cell hB1 0
    have c1 : wx.cell? ⟨g, 1, none⟩ = some (.int .u64 (v64 SB)) := Blk.cell hB1 1
    have c2 : wx.cell? ⟨g, 2, none⟩ = some (.int .u64 (v64 SC)) := Blk.cell hB1 2
    have c3 : wx.cell? ⟨g, 3, none⟩ = some (.int .u64 (v64 SD)) := Blk.cell hB1 3
    have c4 : wx.cell? ⟨g, 4, none⟩ = some (.int .u8 (p.toNat : Int)) := Blk.cell hB1 4
    have c5 : wx.cell? ⟨g, 5, none⟩ = some (.int .u8 (q.toNat : Int)) := Blk.cell hB1 5
    have c6 : wx.cell? ⟨g, 6, none⟩ = some (.int .u8 (r.toNat : Int)) := Blk.cell hB1 6
    have c7 : wx.cell? ⟨g, 7, none⟩ = some (.int .u8 (t.toNat : Int)) := Blk.cell hB1 7
    have c8 : wx.cell? ⟨g, 8, none⟩ = some (.int .i64 (k : Int)) := Blk.cell hB1 8
    go_region_with (go_at_call 29; refine (HP.out _).mono ?_; rintro e w2 ⟨rfl, hKp⟩; have hR3 := (hR.drew).non hKp; have hK3 := (hK.drew).non hKp; have d0 := hR3.cell 0; have d1 := hR3.cell 1; have d2 := hR3.cell 2; have d3 := hR3.cell 3; have f0 := hR3.frozen 0; have f1 := hR3.frozen 1; have f2 := hR3.frozen 2; have f3 := hR3.frozen 3; simp only [Sum4.v, sv])
    all_goals
      obtain ⟨wz, hwz⟩ : ∃ W : World, W = ((((w2.setCell ⟨b, 0, none⟩ (.int .u64 (v64 TA))).setCell ⟨b, 1, none⟩ (.int .u64 (v64 TB))).setCell ⟨b, 2, none⟩ (.int .u64 (v64 TC))).setCell ⟨b, 3, none⟩ (.int .u64 (v64 TD))) := ⟨_, rfl⟩
      have hR4 : Blk wz b 24 #[.int .u64 (v64 TA), .int .u64 (v64 TB), .int .u64 (v64 TC), .int .u64 (v64 TD)] := by
        rw [hwz]; exact (((hR3.set 0 (.int .u64 (v64 TA))).set 1 (.int .u64 (v64 TB))).set 2 (.int .u64 (v64 TC))).set 3 (.int .u64 (v64 TD))
      have hK4 : Keeps Non w wz := by
        rw [hwz]; exact (((hK3.setNew (p := ⟨b, 0, none⟩) hbL _).setNew (p := ⟨b, 1, none⟩) hbL _).setNew (p := ⟨b, 2, none⟩) hbL _).setNew (p := ⟨b, 3, none⟩) hbL _
      rw [← hwz]
      clear hwz hR3 hK3 hKp hR hK d0 d1 d2 d3 f0 f1 f2 f3 c0 c1 c2 c3 c4 c5 c6 c7
      go_wp2_with fail
      exact bodyPost_ret (v := (⟨TA, TB, TC, TD⟩ : Sum4).v) (results_cell_blk (ty := 24) rfl _ b 24 _ _ rfl hR4 Tryd.underlying24 rfl (by kernel_rfl)) rfl ⟨by rw [HT.out], hK4⟩

end Go.Proofs.YtbkhfemoogcpkaaDoor
