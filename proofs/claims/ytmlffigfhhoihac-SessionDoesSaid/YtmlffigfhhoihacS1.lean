/- sync.Once and the counters, as package session uses them. -/
import Derived.Test.YtmlffigfhhoihacRows
import Derived.Test.YtmlffigfhhoihacBased
import Derived.Tactics
import Derived.Tactics2
import Derived.Defers
import Derived.Laws.Pointers
import Derived.Laws.LoneSync
import Derived.Laws.NewBlocks
import Derived.Laws.MakeOwn
import Derived.RegionTactic
import Derived.RegionCalls
import Derived.Deep.RegionHeld3
namespace Go.Proofs.Ytmlffigfhhoihac
open Go.RowKit Go.Uc

theorem disable (w : World) : (callFunc 51 #[]).run Try.prog w = .ok (.value (.tuple #[])) w := run_call_mark0 Try.func51 (by kernel_rfl) (by kernel_rfl) (by kernel_rfl) .disable (by kernel_rfl) w
theorem enable (w : World) : (callFunc 53 #[]).run Try.prog w = .ok (.value (.tuple #[])) w := run_call_mark0 Try.func53 (by kernel_rfl) (by kernel_rfl) (by kernel_rfl) .enable (by kernel_rfl) w
theorem acquire (a : Addr) (w : World) : (callFunc 54 #[.pointer (some a)]).run Try.prog w = .ok (.value (.tuple #[])) w := run_call_marked Try.func54 (by kernel_rfl) (by kernel_rfl) (by kernel_rfl) .acquire (by kernel_rfl) a w
theorem releaseMerge (a : Addr) (w : World) : (callFunc 56 #[.pointer (some a)]).run Try.prog w = .ok (.value (.tuple #[])) w := run_call_marked Try.func56 (by kernel_rfl) (by kernel_rfl) (by kernel_rfl) .releaseMerge (by kernel_rfl) a w

theorem store_deferred (a : Addr) (x : Value) (u : FrameMode) (w : World) (hc : w.cell? a = some x) (hz : w.frozen? a = false) :
    CallsD Try.prog 46 #[.pointer (some a), .bool true] u w fun e u' w' => u' = u ∧ (e = .returned (.tuple #[]) ∧ w' = w.drew.setCell a (.int .u32 1)) := by
  have hc' : w.drew.cell? a = some x := by go_simp
  have hz' : w.drew.frozen? a = false := by go_simp
  have hst := run_call_store (P := Try.prog) Try.func49 (by kernel_rfl) (by kernel_rfl) (by kernel_rfl) (by kernel_rfl) (k := .u32) (y := 1) hc' hz'
  go_enter_d Try.func46, Try.ntmps46
  go_wp2
  go_region_calls
  all_goals (go_end0; exact ⟨rfl, rfl⟩)

set_option maxRecDepth 100000 in
theorem unlock_deferred (a : Addr) (u : FrameMode) (w : World) (hc : w.cell? a = some (.int .i32 1)) (hz : w.frozen? a = false) :
    CallsD Try.prog 45 #[.pointer (some a)] u w fun e u' w' => u' = u ∧ (e = .returned (.tuple #[]) ∧ w' = w.setCell a (.int .i32 0)) := by
  have hd := disable
  have he := enable
  have hr := releaseMerge
  have hadd := run_call_add (P := Try.prog) Try.func57 (by kernel_rfl) (by kernel_rfl) (by kernel_rfl) .i32 (by kernel_rfl) (y := -1) (s := 0) hc hz (by simp [go_sem]; rfl)
  have hcv := run_convert_to_unsafe (P := Try.prog) (src := 101) (dst := 105) Try.underlying101 Try.underlying105 (by kernel_rfl) hc
  go_enter_d Try.func45, Try.ntmps45
  go_wp2
  go_end0
  go_wp2

set_option maxRecDepth 100000 in
theorem lock_free (a : Addr) (w : World) (hc : w.cell? a = some (.int .i32 0)) (hz : w.frozen? a = false) :
    Calls Try.prog 44 #[.pointer (some a)] w fun e w' => e = .returned (.tuple #[]) ∧ w' = w.setCell a (.int .i32 1) := by
  have hd := disable
  have he := enable
  have ha := acquire
  have hcas := run_call_cas_hit (P := Try.prog) Try.func52 (by kernel_rfl) (by kernel_rfl) (by kernel_rfl) .i32 (by kernel_rfl) (y := 1) hc hz
  have hc' : (w.setCell a (.int .i32 1)).cell? a = some (.int .i32 1) := World.cell?_setCell_same w a _ hc
  have hcv := run_convert_to_unsafe (P := Try.prog) (src := 101) (dst := 105) Try.underlying101 Try.underlying105 (by kernel_rfl) hc'
  go_enter Try.func44, Try.ntmps44
  go_wp2
  first | go_end0 | (simp only [Exit.inBlock, Exit.then]; refine bodyPost_ret (results_none rfl _ _ _) rfl ?_) | refine bodyPost_ret (results_none rfl _ _ _) rfl ?_
  go_wp2

/-- A reply's seven cells, none. -/
def zeroRep : List Value := [.int .i64 0, .int .i64 0, .int .i64 0, .int .i64 0, .string ByteArray.empty, .slice none 0 0, .slice none 0 0]
def zeroRow : Array Value := madeCells zeroRep.toArray 63
theorem info31 : (Try.prog.info? 31).map (fun i => (i.zero, i.size, i.bytes)) = some (some (.agg zeroRep.toArray), 7, 96) := by kernel_rfl
theorem run_make_row : ∀ W : World, (Instr.makeSlice 26 (.int .i64 9) (.int .i64 9)).run Try.prog W = .ok (.slice (some ⟨W.heap.size, 0, none⟩) 9 9) (W.alloc (.cells zeroRow 31)) := by
  intro W
  obtain ⟨i, hi0, hz0, hz1, hz2⟩ := info_parts info31
  have hrun := run_make (P := Try.prog) W 26 31 i _ Try.underlying26 hi0 hz0 .i64 .i64 9 9 (by omega) (by omega) (by rw [hz2]; omega) (by omega)
  rw [hz1] at hrun
  exact hrun
theorem zeroRow_size : zeroRow.size = 63 := by unfold zeroRow; rw [size_madeCells]

/-- A table's cells. -/
def tabC (d : Int) (s : Int) (kept : Value) (f a r : Int) : Array Value := #[.int .u32 d, .int .i32 s, .int .u32 0, kept, .int .i64 f, .int .i64 a, .int .i64 r]

set_option maxRecDepth 100000 in
set_option maxHeartbeats 1600000 in
/-- What the Once does: nine replies are made, and kept. -/
theorem places1_any (q g : Nat) (s : Int) (f a r : Int) (w : World) (hq : Blk w q 24 #[.pointer (some ⟨g, 0, none⟩)]) (hB : Blk w g 71 (tabC 0 s (.slice none 0 0) f a r)) :
    Calls Try.prog 34 #[.pointer (some ⟨q, 0, none⟩)] w fun e w' => e = .returned (.tuple #[]) ∧ Blk w' g 71 (tabC 0 s (.slice (some ⟨w.heap.size, 0, none⟩) 9 9) f a r) ∧ Blk w' w.heap.size 31 zeroRow ∧ Keeps (Only g) w w' := by
  have hmk := run_make_row
  have hp : w.cell? ⟨q, 0, none⟩ = some (.pointer (some ⟨g, 0, none⟩)) := hq.cell 0
  have h3 : w.cell? ⟨g, 3, none⟩ = some (.slice none 0 0) := hB.cell 3
  have f3 := hB.frozen 3
  have hlt := hB.lt
  have hne : q ≠ g := hq.ne hB (by decide)
  have hne2 : ¬ g = w.heap.size := by omega
  have hne3 : ¬ q = w.heap.size := by have := hq.lt; omega
  have H1 : Hid (Blk (w.setCell ⟨g, 3, none⟩ (.slice (some ⟨w.heap.size, 0, none⟩) 9 9)) g 71 (tabC 0 s (.slice (some ⟨w.heap.size, 0, none⟩) 9 9) f a r)) := hB.set 3 _
  have H2 : Hid (Keeps (Only g) w (w.setCell ⟨g, 3, none⟩ (.slice (some ⟨w.heap.size, 0, none⟩) 9 9))) := (Keeps.refl (Only g) w).set (p := ⟨g, 3, none⟩) rfl (.slice (some ⟨w.heap.size, 0, none⟩) 9 9)
  have hpE : ((w.setCell ⟨g, 3, none⟩ (.slice (some ⟨w.heap.size, 0, none⟩) 9 9)).alloc (.cells zeroRow 31)).drew.cell? ⟨q, 0, none⟩ = some (.pointer (some ⟨g, 0, none⟩)) := (((H2.out.alloc _).drew).cell hp hne)
  have hsz : (w.setCell ⟨g, 3, none⟩ (.slice (some ⟨w.heap.size, 0, none⟩) 9 9)).heap.size = w.heap.size := by simp [World.setCell]
  have HS := Lib.hid hsz
  clear hB hq hsz
  go_enter Try.func34, Try.ntmps34
  go_wp2
  go_region_held3 (fun w' => w'.cell? ⟨q, 0, none⟩ = some (.pointer (some ⟨g, 0, none⟩))) (go_keep) (fail)
  all_goals go_wp2
  all_goals go_end0
  all_goals
    refine ⟨rfl, (H1.out.alloc _).drew, ?_, (H2.out.alloc _).drew⟩
    have h5 := Blk.new (w.setCell ⟨g, 3, none⟩ (.slice (some ⟨w.heap.size, 0, none⟩) 9 9)) 31 zeroRow
    rw [HS.out] at h5
    exact h5.drew
end Go.Proofs.Ytmlffigfhhoihac
