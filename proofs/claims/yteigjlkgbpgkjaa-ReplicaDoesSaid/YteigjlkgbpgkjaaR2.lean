/- (*sync.Once).Do; now. -/
import Derived.Test.YteigjlkgbpgkjaaR1
namespace Go.Proofs.Yteigjlkgbpgkjaa
open Go.RowKit Go.Uc

theorem Blk.gne {w : World} {g q : Nat} {t t' : TypeId} {c c' : Array Value} (h : Blk w g t c) (h' : Blk w q t' c') (hne : t ≠ t') : ¬ q = g := fun e => h.ne h' hne e.symm
section
variable (q g : Nat) (j : Job) (x : St) (pv : Value)
set_option maxRecDepth 100000 in
set_option maxHeartbeats 1600000 in
theorem slow_any (w : World) (hq : Blk w q 26 #[.pointer (some ⟨g, 0, none⟩)]) (hB : Blk w g 62 (repC 0 0 (.slice none 0 0) j x pv)) :
    Calls Try.prog 23 #[.pointer (some ⟨g, 8, none⟩), .func (.func 19) #[] #[.pointer (some ⟨q, 0, none⟩)]] w fun e w' => e = .returned (.tuple #[]) ∧
      Blk w' g 62 (repC 1 0 (.slice (some ⟨w.heap.size, 0, none⟩) 6 6) j x pv) ∧ Blk w' w.heap.size 69 stepC ∧ Keeps (Only g) w w' := by
  have hne : q ≠ g := hq.ne hB (by decide)
  have m0 : w.cell? ⟨g, 9, none⟩ = some (.int .i32 0) := hB.cell 9
  have mf := hB.frozen 9
  have hK1 : Keeps (Only g) w (w.setCell ⟨g, 9, none⟩ (.int .i32 1)) := (Keeps.refl (Only g) w).set (p := ⟨g, 9, none⟩) rfl (.int .i32 1)
  have hB1 : Blk (w.setCell ⟨g, 9, none⟩ (.int .i32 1)) g 62 (repC 0 1 (.slice none 0 0) j x pv) := hB.set 9 _
  have hq1 := hq.one hK1 hne
  have hs1 : (w.setCell ⟨g, 9, none⟩ (.int .i32 1)).heap.size = w.heap.size := by simp [World.setCell]
  obtain ⟨w1, hw1⟩ : ∃ w1, w1 = w.setCell ⟨g, 9, none⟩ (.int .i32 1) := ⟨_, rfl⟩
  have HL := Lib.hid (lock_free ⟨g, 9, none⟩ w m0 mf)
  rw [← hw1] at hK1 hB1 hq1 hs1 HL
  have h0 : w1.cell? ⟨g, 8, none⟩ = some (.int .u32 0) := hB1.cell 8
  have hl := run_call_load (P := Try.prog) Try.func33 (by kernel_rfl) (by kernel_rfl) (by kernel_rfl) .u32 (by kernel_rfl) (w := w1) (a := ⟨g, 8, none⟩) (x := 0) h0
  have hnot : ∀ (x : Bool) (w : World), (Op.unary .not (.bool x)).run Try.prog w = .ok (.bool (!x)) w := fun _ _ => rfl
  have HP := Lib.hid (steps1_any q g 1 j x pv w1 hq1 hB1)
  clear hw1 hq hB hq1 hB1 m0 mf
  go_enter_defers Try.func23, Try.ntmps23
  go_wp2_with fail
  refine HL.out.mono ?_
  rintro e w' ⟨rfl, hw'⟩
  subst w'
  go_wp2_with (go_at_call 22; go_in)
  refine HP.out.mono ?_
  rintro e w2 ⟨rfl, hB2, hR2, hK2⟩
  rw [hs1] at hB2 hR2
  have hk2 := hK1.trans hK2
  have H2 := Lib.hid hB2
  have n0 : w2.cell? ⟨g, 8, none⟩ = some (.int .u32 0) := hB2.cell 8
  have nf := hB2.frozen 8
  clear hB2
  go_wp2_with fail
  refine leaves_cons (f := 36) (args := #[.pointer (some ⟨g, 8, none⟩), .bool true]) (by simp) (by simp [go_sem]) ?_
  refine (store_deferred ⟨g, 8, none⟩ (.int .u32 0) .returning _ n0 nf).mono ?_
  rintro e u' w'' ⟨rfl, rfl, rfl⟩
  have hB3 : Blk (w2.drew.setCell ⟨g, 8, none⟩ (.int .u32 1)) g 62 (repC 1 1 (.slice (some ⟨w.heap.size, 0, none⟩) 6 6) j x pv) := H2.out.drew.set 8 _
  refine leaves_cons (f := 35) (args := #[.pointer (some ⟨g, 9, none⟩)]) (by simp [settle]) (by simp [go_sem]) ?_
  refine (unlock_deferred ⟨g, 9, none⟩ _ _ (hB3.cell 9) (hB3.frozen 9)).mono ?_
  rintro e u' w'' ⟨rfl, rfl, rfl⟩
  have hB4 : Blk ((w2.drew.setCell ⟨g, 8, none⟩ (.int .u32 1)).setCell ⟨g, 9, none⟩ (.int .i32 0)) g 62 (repC 1 0 (.slice (some ⟨w.heap.size, 0, none⟩) 6 6) j x pv) := hB3.set 9 _
  have hk4 : Keeps (Only g) w ((w2.drew.setCell ⟨g, 8, none⟩ (.int .u32 1)).setCell ⟨g, 9, none⟩ (.int .i32 0)) := ((hk2.drew).set (p := ⟨g, 8, none⟩) rfl _).set (p := ⟨g, 9, none⟩) rfl _
  have hne2 : w.heap.size ≠ g := (hR2.ne H2.out (by decide))
  have hR4 : Blk ((w2.drew.setCell ⟨g, 8, none⟩ (.int .u32 1)).setCell ⟨g, 9, none⟩ (.int .i32 0)) w.heap.size 69 stepC := ((hR2.drew).far (p := ⟨g, 8, none⟩) hne2 _).far (p := ⟨g, 9, none⟩) hne2 _
  have FIN := Lib.hid (And.intro hB4 (And.intro hR4 hk4))
  clear hB4 hR4 hk4
  simp [Leaves, settle, results, Try.results23]
  exact FIN.out

set_option maxRecDepth 100000 in
set_option maxHeartbeats 1600000 in
/-- Do, not yet done. -/
theorem do_first (w : World) (hq : Blk w q 26 #[.pointer (some ⟨g, 0, none⟩)]) (hB : Blk w g 62 (repC 0 0 (.slice none 0 0) j x pv)) :
    Calls Try.prog 18 #[.pointer (some ⟨g, 8, none⟩), .func (.func 19) #[] #[.pointer (some ⟨q, 0, none⟩)]] w fun e w' => e = .returned (.tuple #[]) ∧
      Blk w' g 62 (repC 1 0 (.slice (some ⟨w.heap.size, 0, none⟩) 6 6) j x pv) ∧ Blk w' w.heap.size 69 stepC ∧ Keeps (Only g) w w' := by
  have h0 : w.cell? ⟨g, 8, none⟩ = some (.int .u32 0) := hB.cell 8
  have hl := run_call_load (P := Try.prog) Try.func33 (by kernel_rfl) (by kernel_rfl) (by kernel_rfl) .u32 (by kernel_rfl) h0
  have hnot : ∀ (x : Bool) (w : World), (Op.unary .not (.bool x)).run Try.prog w = .ok (.bool (!x)) w := fun _ _ => rfl
  have HS := Lib.hid (slow_any q g j x pv w hq hB)
  clear hB hq
  go_enter Try.func18, Try.ntmps18
  go_wp2_with (go_at_call 22; go_in)
  refine HS.out.mono ?_
  rintro e w2 ⟨rfl, hB2, hR2, hK2⟩
  have FIN := Lib.hid (And.intro hB2 (And.intro hR2 hK2))
  clear hB2 hR2 hK2
  go_wp2_with fail
  go_end0
  exact ⟨rfl, FIN.out⟩

/-- Do, done already. -/
theorem do_done (steps fv : Value) (w : World) (hB : Blk w g 62 (repC 1 0 steps j x pv)) :
    Calls Try.prog 18 #[.pointer (some ⟨g, 8, none⟩), fv] w fun e w' => e = .returned (.tuple #[]) ∧ w' = w := by
  have h0 : w.cell? ⟨g, 8, none⟩ = some (.int .u32 1) := hB.cell 8
  have hl := run_call_load (P := Try.prog) Try.func33 (by kernel_rfl) (by kernel_rfl) (by kernel_rfl) .u32 (by kernel_rfl) h0
  have hnot : ∀ (x : Bool) (w : World), (Op.unary .not (.bool x)).run Try.prog w = .ok (.bool (!x)) w := fun _ _ => rfl
  go_enter Try.func18, Try.ntmps18
  go_wp2
  go_end0
  exact ⟨rfl, rfl⟩
end

/-- A replica, whether its steps are there or not. -/
def RepS (w : World) (g : Nat) (on : Option Nat) (j : Job) (x : St) (pv : Value) : Prop :=
  (on = none ∧ Blk w g 62 (repC 0 0 (.slice none 0 0) j x pv)) ∨ ∃ gs, on = some gs ∧ Blk w g 62 (repC 1 0 (.slice (some ⟨gs, 0, none⟩) 6 6) j x pv) ∧ Blk w gs 69 stepC
/-- Whom step k asks; what it asks with, what it hears with. -/
def whoK (k : Nat) : Int := if k = 3 then 0 else 1
def askK (k : Nat) : Nat := if k = 3 then 28 else if k = 4 then 30 else 24
def hearK (k : Nat) : Nat := match k with
  | 0 => 25
  | 1 => 26
  | 2 => 27
  | 3 => 29
  | 4 => 31
  | _ => 32
theorem step_at {k : Nat} (h : k < 6) : stepC[k * 3]? = some (.int .i64 (whoK k)) ∧ stepC[k * 3 + 1]? = some (fnV (askK k)) ∧ stepC[k * 3 + 2]? = some (fnV (hearK k)) := by
  match k, h with
  | 0, _ => exact ⟨rfl, rfl, rfl⟩
  | 1, _ => exact ⟨rfl, rfl, rfl⟩
  | 2, _ => exact ⟨rfl, rfl, rfl⟩
  | 3, _ => exact ⟨rfl, rfl, rfl⟩
  | 4, _ => exact ⟨rfl, rfl, rfl⟩
  | 5, _ => exact ⟨rfl, rfl, rfl⟩
end Go.Proofs.Yteigjlkgbpgkjaa
