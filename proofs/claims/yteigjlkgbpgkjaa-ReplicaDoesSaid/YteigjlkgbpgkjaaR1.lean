/- sync.Once's parts. -/
import Derived.Test.YteigjlkgbpgkjaaRows
import Derived.Test.YteigjlkgbpgkjaaBased
import Derived.Tactics
import Derived.Tactics2
import Derived.Defers
import Derived.Laws.Pointers
import Derived.Laws.LoneSync
import Derived.Laws.NewBlocks
import Derived.Laws.MakeOwn
import Derived.RegionTactic
import Derived.RegionCalls
import Derived.Deep.RegionHeld3
import Derived.Deep.Cut
import Derived.Deep.CutRange
import Derived.Laws.EntriesVeiled
import Derived.Deep.RegionWith
import Derived.Deep.DeepMust
import Derived.WalkSpells
import Derived.Laws.Rows
import Derived.Lib.SliceRun
import Derived.BigQuiet
import Derived.Deep.QuietTactic
import Derived.StillTailTactics
namespace Go.Proofs.Yteigjlkgbpgkjaa
open Go.RowKit Go.Uc

theorem disable (w : World) : (callFunc 44 #[]).run Try.prog w = .ok (.value (.tuple #[])) w := run_call_mark0 Try.func44 (by kernel_rfl) (by kernel_rfl) (by kernel_rfl) .disable (by kernel_rfl) w
theorem enable (w : World) : (callFunc 46 #[]).run Try.prog w = .ok (.value (.tuple #[])) w := run_call_mark0 Try.func46 (by kernel_rfl) (by kernel_rfl) (by kernel_rfl) .enable (by kernel_rfl) w
theorem acquire (a : Addr) (w : World) : (callFunc 47 #[.pointer (some a)]).run Try.prog w = .ok (.value (.tuple #[])) w := run_call_marked Try.func47 (by kernel_rfl) (by kernel_rfl) (by kernel_rfl) .acquire (by kernel_rfl) a w
theorem releaseMerge (a : Addr) (w : World) : (callFunc 49 #[.pointer (some a)]).run Try.prog w = .ok (.value (.tuple #[])) w := run_call_marked Try.func49 (by kernel_rfl) (by kernel_rfl) (by kernel_rfl) .releaseMerge (by kernel_rfl) a w

theorem store_deferred (a : Addr) (x : Value) (u : FrameMode) (w : World) (hc : w.cell? a = some x) (hz : w.frozen? a = false) :
    CallsD Try.prog 36 #[.pointer (some a), .bool true] u w fun e u' w' => u' = u ∧ (e = .returned (.tuple #[]) ∧ w' = w.drew.setCell a (.int .u32 1)) := by
  have hc' : w.drew.cell? a = some x := by go_simp
  have hz' : w.drew.frozen? a = false := by go_simp
  have hst := run_call_store (P := Try.prog) Try.func41 (by kernel_rfl) (by kernel_rfl) (by kernel_rfl) (by kernel_rfl) (k := .u32) (y := 1) hc' hz'
  go_enter_d Try.func36, Try.ntmps36
  go_wp2
  go_region_calls
  all_goals (go_end0; exact ⟨rfl, rfl⟩)

set_option maxRecDepth 100000 in
theorem unlock_deferred (a : Addr) (u : FrameMode) (w : World) (hc : w.cell? a = some (.int .i32 1)) (hz : w.frozen? a = false) :
    CallsD Try.prog 35 #[.pointer (some a)] u w fun e u' w' => u' = u ∧ (e = .returned (.tuple #[]) ∧ w' = w.setCell a (.int .i32 0)) := by
  have hd := disable
  have he := enable
  have hr := releaseMerge
  have hadd := run_call_add (P := Try.prog) Try.func50 (by kernel_rfl) (by kernel_rfl) (by kernel_rfl) .i32 (by kernel_rfl) (y := -1) (s := 0) hc hz (by simp [go_sem]; rfl)
  have hcv := run_convert_to_unsafe (P := Try.prog) (src := 89) (dst := 93) Try.underlying89 Try.underlying93 (by kernel_rfl) hc
  go_enter_d Try.func35, Try.ntmps35
  go_wp2
  go_end0
  go_wp2

set_option maxRecDepth 100000 in
theorem lock_free (a : Addr) (w : World) (hc : w.cell? a = some (.int .i32 0)) (hz : w.frozen? a = false) :
    Calls Try.prog 34 #[.pointer (some a)] w fun e w' => e = .returned (.tuple #[]) ∧ w' = w.setCell a (.int .i32 1) := by
  have hd := disable
  have he := enable
  have ha := acquire
  have hcas := run_call_cas_hit (P := Try.prog) Try.func45 (by kernel_rfl) (by kernel_rfl) (by kernel_rfl) .i32 (by kernel_rfl) (y := 1) hc hz
  have hc' : (w.setCell a (.int .i32 1)).cell? a = some (.int .i32 1) := World.cell?_setCell_same w a _ hc
  have hcv := run_convert_to_unsafe (P := Try.prog) (src := 89) (dst := 93) Try.underlying89 Try.underlying93 (by kernel_rfl) hc'
  go_enter Try.func34, Try.ntmps34
  go_wp2
  first | go_end0 | (simp only [Exit.inBlock, Exit.then]; refine bodyPost_ret (results_none rfl _ _ _) rfl ?_) | refine bodyPost_ret (results_none rfl _ _ _) rfl ?_
  go_wp2


/-- A job, as plain data. -/
structure Job where
  name : ByteArray
  snap : ByteArray
  base : ByteArray
  deep : Bool
  to_ : ByteArray
  ses : Int
  first : Int
  anew : Bool
/-- How a replication stands. -/
structure St where
  at_ : Nat
  id : Int
  has : Int
  tries : Int
  piece : List UInt8
  how : Int
  why : Int
/-- A replica's cells. -/
def repC (d s : Int) (steps : Value) (j : Job) (x : St) (pv : Value) : Array Value := #[.string j.name, .string j.snap, .string j.base, .bool j.deep, .string j.to_, .int .i64 j.ses, .int .i64 j.first, .bool j.anew, .int .u32 d, .int .i32 s, .int .u32 0, steps, .int .i64 x.at_, .int .i64 x.id, .int .i64 x.has, .int .i64 x.tries, pv, .int .i64 x.how, .int .i64 x.why]
/-- The cells of the steps. -/
def fnV (n : Nat) : Value := .func (.func n) #[] #[]
def stepC : Array Value := #[.int .i64 1, fnV 24, fnV 25, .int .i64 1, fnV 24, fnV 26, .int .i64 1, fnV 24, fnV 27, .int .i64 0, fnV 28, fnV 29, .int .i64 1, fnV 30, fnV 31, .int .i64 1, fnV 24, fnV 32]
theorem all_any (w : World) : Calls Try.prog 20 #[] w fun e w' => e = .returned (.slice (some ⟨w.heap.size, 0, none⟩) 6 6) ∧ w' = w.alloc (.cells stepC 69) := by
  go_enter Try.func20, Try.ntmps20
  go_wp2
  go_ret
  exact ⟨rfl, rfl⟩

set_option maxRecDepth 100000 in
set_option maxHeartbeats 1600000 in
/-- What the Once does. -/
theorem steps1_any (q g : Nat) (s : Int) (j : Job) (x : St) (pv : Value) (w : World) (hq : Blk w q 26 #[.pointer (some ⟨g, 0, none⟩)]) (hB : Blk w g 62 (repC 0 s (.slice none 0 0) j x pv)) :
    Calls Try.prog 19 #[.pointer (some ⟨q, 0, none⟩)] w fun e w' => e = .returned (.tuple #[]) ∧ Blk w' g 62 (repC 0 s (.slice (some ⟨w.heap.size, 0, none⟩) 6 6) j x pv) ∧ Blk w' w.heap.size 69 stepC ∧ Keeps (Only g) w w' := by
  have hp : w.cell? ⟨q, 0, none⟩ = some (.pointer (some ⟨g, 0, none⟩)) := hq.cell 0
  have hlt := hB.lt
  have hB2 := (hB.alloc (.cells stepC 69)).drew
  have hS2 : Blk (w.alloc (.cells stepC 69)).drew w.heap.size 69 stepC := (Blk.new w 69 stepC).drew
  have h3 : (w.alloc (.cells stepC 69)).drew.cell? ⟨g, 11, none⟩ = some (.slice none 0 0) := hB2.cell 11
  have f3 := hB2.frozen 11
  have hpd : w.drew.cell? ⟨q, 0, none⟩ = some (.pointer (some ⟨g, 0, none⟩)) := hp
  have hpa : (w.alloc (.cells stepC 69)).drew.cell? ⟨q, 0, none⟩ = some (.pointer (some ⟨g, 0, none⟩)) := (hq.alloc _).drew.cell 0
  have hne : q ≠ g := hq.ne hB (by decide)
  have hs1 : (w.setCell ⟨g, 11, none⟩ (.slice (some ⟨w.heap.size, 0, none⟩) 6 6)).heap.size = w.heap.size := by simp [World.setCell]
  have hpe : ((w.setCell ⟨g, 11, none⟩ (.slice (some ⟨w.heap.size, 0, none⟩) 6 6)).alloc (.cells stepC 69)).drew.cell? ⟨q, 0, none⟩ = some (.pointer (some ⟨g, 0, none⟩)) := (((hq.far (p := ⟨g, 11, none⟩) hne (.slice (some ⟨w.heap.size, 0, none⟩) 6 6)).alloc _).drew).cell 0
  have hS3 : Blk ((w.setCell ⟨g, 11, none⟩ (.slice (some ⟨w.heap.size, 0, none⟩) 6 6)).alloc (.cells stepC 69)).drew w.heap.size 69 stepC := by
    have h := Blk.new (w.setCell ⟨g, 11, none⟩ (.slice (some ⟨w.heap.size, 0, none⟩) 6 6)) 69 stepC
    rw [hs1] at h
    exact h.drew
  have FS1 := Lib.hid hpd
  have FS2 := Lib.hid hpa
  have FS3 := Lib.hid hpe
  have FIN := Lib.hid (And.intro (((hB.set 11 (.slice (some ⟨w.heap.size, 0, none⟩) 6 6)).alloc (.cells stepC 69)).drew) (And.intro hS3 ((((Keeps.refl (Only g) w).set (p := ⟨g, 11, none⟩) rfl (.slice (some ⟨w.heap.size, 0, none⟩) 6 6)).alloc (.cells stepC 69)).drew)))
  have HA := Lib.hid (all_any w.drew)
  clear hB hq hB2 hS2 hpd hpa hpe hS3 hs1
  go_enter Try.func19, Try.ntmps19
  go_upto_region 0 with fail
  go_region_held3 (fun w' => w'.cell? ⟨q, 0, none⟩ = some (.pointer (some ⟨g, 0, none⟩))) (with_reducible (first | exact FS1.out | exact FS2.out | exact FS3.out))
    (first | (go_at_call 20; go_must (refine HA.out.mono ?_); rintro e w' ⟨rfl, rfl⟩))
  all_goals
    go_wp2_with fail
    go_end0
    exact ⟨rfl, FIN.out⟩
end Go.Proofs.Yteigjlkgbpgkjaa
