/- (*sync.Once).Do, places, the counters. -/
import Derived.Test.YtmlffigfhhoihacS1
namespace Go.Proofs.Ytmlffigfhhoihac
open Go.RowKit Go.Uc

set_option maxRecDepth 100000 in
set_option maxHeartbeats 1600000 in
theorem slow_any (q g : Nat) (f a r : Int) (w : World) (hq : Blk w q 24 #[.pointer (some ⟨g, 0, none⟩)]) (hB : Blk w g 71 (tabC 0 0 (.slice none 0 0) f a r)) :
    Calls Try.prog 42 #[.pointer (some ⟨g, 0, none⟩), .func (.func 34) #[] #[.pointer (some ⟨q, 0, none⟩)]] w fun e w' => e = .returned (.tuple #[]) ∧
      Blk w' g 71 (tabC 1 0 (.slice (some ⟨w.heap.size, 0, none⟩) 9 9) f a r) ∧ Blk w' w.heap.size 31 zeroRow ∧ Keeps (Only g) w w' := by
  have hne : q ≠ g := hq.ne hB (by decide)
  have m0 : w.cell? ⟨g, 1, none⟩ = some (.int .i32 0) := hB.cell 1
  have mf := hB.frozen 1
  have hK1 : Keeps (Only g) w (w.setCell ⟨g, 1, none⟩ (.int .i32 1)) := (Keeps.refl (Only g) w).set (p := ⟨g, 1, none⟩) rfl (.int .i32 1)
  have hB1 : Blk (w.setCell ⟨g, 1, none⟩ (.int .i32 1)) g 71 (tabC 0 1 (.slice none 0 0) f a r) := hB.set 1 _
  have hq1 := hq.one hK1 hne
  have hs1 : (w.setCell ⟨g, 1, none⟩ (.int .i32 1)).heap.size = w.heap.size := by simp [World.setCell]
  obtain ⟨w1, hw1⟩ : ∃ w1, w1 = w.setCell ⟨g, 1, none⟩ (.int .i32 1) := ⟨_, rfl⟩
  have HL := Lib.hid (lock_free ⟨g, 1, none⟩ w m0 mf)
  rw [← hw1] at hK1 hB1 hq1 hs1 HL
  have h0 : w1.cell? ⟨g, 0, none⟩ = some (.int .u32 0) := hB1.cell 0
  have hl := run_call_load (P := Try.prog) Try.func43 (by kernel_rfl) (by kernel_rfl) (by kernel_rfl) .u32 (by kernel_rfl) (w := w1) (a := ⟨g, 0, none⟩) (x := 0) h0
  have hnot : ∀ (x : Bool) (w : World), (Op.unary .not (.bool x)).run Try.prog w = .ok (.bool (!x)) w := fun _ _ => rfl
  have HP := Lib.hid (places1_any q g 1 f a r w1 hq1 hB1)
  clear hw1 hq hB hq1 hB1 m0 mf
  go_enter_defers Try.func42, Try.ntmps42
  go_wp2_with fail
  refine HL.out.mono ?_
  rintro e w' ⟨rfl, hw'⟩
  subst w'
  go_wp2_with (go_at_call 41; go_in)
  refine HP.out.mono ?_
  rintro e w2 ⟨rfl, hB2, hR2, hK2⟩
  rw [hs1] at hB2 hR2
  have hk2 := hK1.trans hK2
  have H2 := Lib.hid hB2
  have n0 : w2.cell? ⟨g, 0, none⟩ = some (.int .u32 0) := hB2.cell 0
  have nf := hB2.frozen 0
  clear hB2
  go_wp2_with fail
  -- the door: two deferred calls, the last laid first
  refine leaves_cons (f := 46) (args := #[.pointer (some ⟨g, 0, none⟩), .bool true]) (by simp) (by simp [go_sem]) ?_
  refine (store_deferred ⟨g, 0, none⟩ (.int .u32 0) .returning _ n0 nf).mono ?_
  rintro e u' w'' ⟨rfl, rfl, rfl⟩
  have hB3 : Blk (w2.drew.setCell ⟨g, 0, none⟩ (.int .u32 1)) g 71 (tabC 1 1 (.slice (some ⟨w.heap.size, 0, none⟩) 9 9) f a r) := H2.out.drew.set 0 _
  refine leaves_cons (f := 45) (args := #[.pointer (some ⟨g, 1, none⟩)]) (by simp [settle]) (by simp [go_sem]) ?_
  refine (unlock_deferred ⟨g, 1, none⟩ _ _ (hB3.cell 1) (hB3.frozen 1)).mono ?_
  rintro e u' w'' ⟨rfl, rfl, rfl⟩
  have hB4 : Blk ((w2.drew.setCell ⟨g, 0, none⟩ (.int .u32 1)).setCell ⟨g, 1, none⟩ (.int .i32 0)) g 71 (tabC 1 0 (.slice (some ⟨w.heap.size, 0, none⟩) 9 9) f a r) := hB3.set 1 _
  have hk4 : Keeps (Only g) w ((w2.drew.setCell ⟨g, 0, none⟩ (.int .u32 1)).setCell ⟨g, 1, none⟩ (.int .i32 0)) := ((hk2.drew).set (p := ⟨g, 0, none⟩) rfl _).set (p := ⟨g, 1, none⟩) rfl _
  have hne2 : w.heap.size ≠ g := (hR2.ne H2.out (by decide))
  have hR4 : Blk ((w2.drew.setCell ⟨g, 0, none⟩ (.int .u32 1)).setCell ⟨g, 1, none⟩ (.int .i32 0)) w.heap.size 31 zeroRow := ((hR2.drew).far (p := ⟨g, 0, none⟩) hne2 _).far (p := ⟨g, 1, none⟩) hne2 _
  have FIN := Lib.hid (And.intro hB4 (And.intro hR4 hk4))
  clear hB4 hR4 hk4
  simp [Leaves, settle, results, Try.results42]
  exact FIN.out

set_option maxRecDepth 100000 in
set_option maxHeartbeats 1600000 in
/-- Do, not yet done. -/
theorem do_first (q g : Nat) (f a r : Int) (w : World) (hq : Blk w q 24 #[.pointer (some ⟨g, 0, none⟩)]) (hB : Blk w g 71 (tabC 0 0 (.slice none 0 0) f a r)) :
    Calls Try.prog 33 #[.pointer (some ⟨g, 0, none⟩), .func (.func 34) #[] #[.pointer (some ⟨q, 0, none⟩)]] w fun e w' => e = .returned (.tuple #[]) ∧
      Blk w' g 71 (tabC 1 0 (.slice (some ⟨w.heap.size, 0, none⟩) 9 9) f a r) ∧ Blk w' w.heap.size 31 zeroRow ∧ Keeps (Only g) w w' := by
  have h0 : w.cell? ⟨g, 0, none⟩ = some (.int .u32 0) := hB.cell 0
  have hl := run_call_load (P := Try.prog) Try.func43 (by kernel_rfl) (by kernel_rfl) (by kernel_rfl) .u32 (by kernel_rfl) h0
  have hnot : ∀ (x : Bool) (w : World), (Op.unary .not (.bool x)).run Try.prog w = .ok (.bool (!x)) w := fun _ _ => rfl
  have HS := Lib.hid (slow_any q g f a r w hq hB)
  clear hB hq
  go_enter Try.func33, Try.ntmps33
  go_wp2_with (go_at_call 41; go_in)
  refine HS.out.mono ?_
  rintro e w2 ⟨rfl, hB2, hR2, hK2⟩
  have FIN := Lib.hid (And.intro hB2 (And.intro hR2 hK2))
  clear hB2 hR2 hK2
  go_wp2_with fail
  go_end0
  exact ⟨rfl, FIN.out⟩

/-- Do, done already. -/
theorem do_done (g : Nat) (kept : Value) (f a r : Int) (fv : Value) (w : World) (hB : Blk w g 71 (tabC 1 0 kept f a r)) :
    Calls Try.prog 33 #[.pointer (some ⟨g, 0, none⟩), fv] w fun e w' => e = .returned (.tuple #[]) ∧ w' = w := by
  have h0 : w.cell? ⟨g, 0, none⟩ = some (.int .u32 1) := hB.cell 0
  have hl := run_call_load (P := Try.prog) Try.func43 (by kernel_rfl) (by kernel_rfl) (by kernel_rfl) .u32 (by kernel_rfl) h0
  have hnot : ∀ (x : Bool) (w : World), (Op.unary .not (.bool x)).run Try.prog w = .ok (.bool (!x)) w := fun _ _ => rfl
  go_enter Try.func33, Try.ntmps33
  go_wp2
  go_end0
  exact ⟨rfl, rfl⟩

/-- places: the row, made if it is not there. -/
theorem places_new (g : Nat) (f a r : Int) (w : World) (hB : Blk w g 71 (tabC 0 0 (.slice none 0 0) f a r)) :
    Calls Try.prog 19 #[.pointer (some ⟨g, 0, none⟩)] w fun e w' => ∃ gk, e = .returned (.slice (some ⟨gk, 0, none⟩) 9 9) ∧ w.heap.size ≤ gk ∧ Blk w' g 71 (tabC 1 0 (.slice (some ⟨gk, 0, none⟩) 9 9) f a r) ∧ Blk w' gk 31 zeroRow ∧ Keeps (Only g) w w' := by
  have hmf : ∀ (fn : Fn) (first cap : Array Value) (w : World), (Instr.makeFunc fn first cap).run Try.prog w = .ok (.func fn first cap) w := fun _ _ _ _ => rfl
  have hlt := hB.lt
  obtain ⟨w1, hw1⟩ : ∃ w1, w1 = w.alloc (.cells #[.pointer (some ⟨g, 0, none⟩)] 24) := ⟨_, rfl⟩
  obtain ⟨q, hq⟩ : ∃ q, q = w.heap.size := ⟨_, rfl⟩
  have hQ1 : Blk w1 q 24 #[.pointer (some ⟨g, 0, none⟩)] := by rw [hw1, hq]; exact Blk.new _ _ _
  have hB1 : Blk w1 g 71 (tabC 0 0 (.slice none 0 0) f a r) := by rw [hw1]; exact hB.alloc _
  have hk1 : Keeps (Only g) w w1 := by rw [hw1]; exact (Keeps.refl _ _).alloc _
  have hqne : q ≠ g := hQ1.ne hB1 (by decide)
  have HD := Lib.hid (do_first q g f a r w1 hQ1 hB1)
  have p0 : w1.cell? ⟨q, 0, none⟩ = some (.pointer (some ⟨g, 0, none⟩)) := hQ1.cell 0
  have hz := hk1.size
  clear hB hB1
  go_enter Try.func19, Try.ntmps19
  go_wp2_with fail
  rw [← hw1, ← hq]
  clear hq hw1
  refine HD.out.mono ?_
  rintro e w2 ⟨rfl, hB2, hR2, hK2⟩
  have hQ2 := hQ1.one hK2 hqne
  have p2 : w2.cell? ⟨q, 0, none⟩ = some (.pointer (some ⟨g, 0, none⟩)) := hQ2.cell 0
  have t2 : w2.cell? ⟨g, 3, none⟩ = some (.slice (some ⟨w1.heap.size, 0, none⟩) 9 9) := hB2.cell 3
  have FIN := Lib.hid (And.intro hB2 (And.intro hR2 (hk1.trans hK2)))
  clear hB2 hR2 hK2 hQ2 hQ1 hk1
  go_wp2_with fail
  go_ret
  exact ⟨_, rfl, by omega, FIN.out⟩

theorem places_old (g gk : Nat) (f a r : Int) (w : World) (hB : Blk w g 71 (tabC 1 0 (.slice (some ⟨gk, 0, none⟩) 9 9) f a r)) :
    Calls Try.prog 19 #[.pointer (some ⟨g, 0, none⟩)] w fun e w' => e = .returned (.slice (some ⟨gk, 0, none⟩) 9 9) ∧ Keeps Non w w' := by
  have hmf : ∀ (fn : Fn) (first cap : Array Value) (w : World), (Instr.makeFunc fn first cap).run Try.prog w = .ok (.func fn first cap) w := fun _ _ _ _ => rfl
  obtain ⟨w1, hw1⟩ : ∃ w1, w1 = w.alloc (.cells #[.pointer (some ⟨g, 0, none⟩)] 24) := ⟨_, rfl⟩
  obtain ⟨q, hq⟩ : ∃ q, q = w.heap.size := ⟨_, rfl⟩
  have hQ1 : Blk w1 q 24 #[.pointer (some ⟨g, 0, none⟩)] := by rw [hw1, hq]; exact Blk.new _ _ _
  have hB1 : Blk w1 g 71 (tabC 1 0 (.slice (some ⟨gk, 0, none⟩) 9 9) f a r) := by rw [hw1]; exact hB.alloc _
  have hk1 : Keeps Non w w1 := by rw [hw1]; exact (Keeps.refl _ _).alloc _
  have HD := Lib.hid (fun fv => do_done g _ f a r fv w1 hB1)
  have p0 : w1.cell? ⟨q, 0, none⟩ = some (.pointer (some ⟨g, 0, none⟩)) := hQ1.cell 0
  have t2 : w1.cell? ⟨g, 3, none⟩ = some (.slice (some ⟨gk, 0, none⟩) 9 9) := hB1.cell 3
  clear hB hB1 hQ1
  go_enter Try.func19, Try.ntmps19
  go_wp2_with fail
  rw [← hw1, ← hq]
  clear hq hw1
  refine (HD.out _).mono ?_
  rintro e w2 ⟨rfl, rfl⟩
  go_wp2_with fail
  go_ret
  exact ⟨rfl, hk1⟩

/-- A counter goes up. -/
theorem add_any (a : Addr) (x y : Int) (w : World) (hc : w.cell? a = some (.int .i64 x)) (hz : w.frozen? a = false) :
    Calls Try.prog 20 #[.pointer (some a), .int .i64 y] w fun e w' => e = .returned (.int .i64 (wrap64 (x + y))) ∧ w' = w.setCell a (.int .i64 (wrap64 (x + y))) := by
  have hadd := run_call_add (P := Try.prog) Try.func35 (by kernel_rfl) (by kernel_rfl) (by kernel_rfl) .i64 (by kernel_rfl) (y := y) (s := wrap64 (x + y)) hc hz (by simp [go_sem]; first | rfl | (rw [IntKind.wrap_i64]; rfl) | (unfold wrap64; rw [IntKind.wrap_i64]))
  go_enter Try.func20, Try.ntmps20
  go_wp2
  go_ret
  exact ⟨rfl, rfl⟩
theorem load_any (a : Addr) (x : Int) (w : World) (hc : w.cell? a = some (.int .i64 x)) :
    Calls Try.prog 25 #[.pointer (some a)] w fun e w' => e = .returned (.int .i64 x) ∧ w' = w := by
  have hl := run_call_load (P := Try.prog) Try.func39 (by kernel_rfl) (by kernel_rfl) (by kernel_rfl) .i64 (by kernel_rfl) hc
  go_enter Try.func25, Try.ntmps25
  go_wp2
  go_ret
  exact ⟨rfl, rfl⟩
theorem store_any (a : Addr) (x : Value) (y : Int) (w : World) (hc : w.cell? a = some x) (hz : w.frozen? a = false) :
    Calls Try.prog 24 #[.pointer (some a), .int .i64 y] w fun e w' => e = .returned (.tuple #[]) ∧ w' = w.setCell a (.int .i64 y) := by
  have hst := run_call_store (P := Try.prog) Try.func38 (by kernel_rfl) (by kernel_rfl) (by kernel_rfl) (by kernel_rfl) (k := .i64) (y := y) hc hz
  go_enter Try.func24, Try.ntmps24
  go_wp2
  go_end0
  exact ⟨rfl, rfl⟩

/-- Is it a session, and a number? -/
def isB (s i : Int) : Bool := decide (1 ≤ s) && decide (s ≤ 8) && decide (1 ≤ i) && decide (i ≤ 1073741824)
theorem is_any (s i : Int) (w : World) : Calls Try.prog 18 #[.int .i64 s, .int .i64 i] w fun e w' => e = .returned (.bool (isB s i)) ∧ w' = w := by
  unfold isB
  by_cases h1 : 1 ≤ s
  · by_cases h2 : s ≤ 8
    · by_cases h3 : 1 ≤ i
      · go_enter Try.func18, Try.ntmps18
        go_wp2
        go_ret
        exact ⟨ret_bool (by simp [h1, h2, h3]), rfl⟩
      · go_enter Try.func18, Try.ntmps18
        go_wp2
        go_ret
        exact ⟨ret_bool (by simp; omega), rfl⟩
    · go_enter Try.func18, Try.ntmps18
      go_wp2
      go_ret
      exact ⟨ret_bool (by simp; omega), rfl⟩
  · go_enter Try.func18, Try.ntmps18
    go_wp2
    go_ret
    exact ⟨ret_bool (by simp; omega), rfl⟩
end Go.Proofs.Ytmlffigfhhoihac
