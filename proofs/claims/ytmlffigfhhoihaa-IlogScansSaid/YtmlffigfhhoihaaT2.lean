import Derived.Test.YtmlffigfhhoihaaProg
import Derived.Test.YtmlffigfhhoihaaBase
namespace Go.Proofs.Ytmlffigfhhoihaa
open Go.RowKit Go.Uc

/-- The log's struct behind a pointer (type 53: the program's, 55: the document's). -/
def LogB (w : World) (g : Nat) (t : TypeId) (base at_ next : Nat) : Prop := Blk w g t #[.int .i64 base, .int .i64 at_, .int .i64 next]
def pieces (m : Nat) : Nat := max 1 ((m + 67) / 68)
def roomB (at_ : Nat) (many : Int) : Bool := decide (0 ≤ many) && decide (many ≤ 4096) && decide (pieces many.toNat * 88 + at_ ≤ 22528)
theorem pieces_le (m : Nat) (h : m ≤ 4096) : 1 ≤ pieces m ∧ pieces m ≤ 61 := by unfold pieces; omega

theorem pieces_any (m : Nat) (w : World) (h : m ≤ 4096) : Calls Try.prog 25 #[.int .i64 m] w fun e w' => e = .returned (.int .i64 (pieces m)) ∧ w' = w := by
  go_enter Try.func25, Try.ntmps25
  go_wp2
  all_goals
    go_ret
    exact ⟨ret_int (by unfold pieces; omega), rfl⟩

theorem refPieces_any (m : Nat) (w : World) (h : m ≤ 4096) : Calls Try.prog 32 #[.int .i64 m] w fun e w' => e = .returned (.int .i64 (pieces m)) ∧ w' = w := by
  go_enter Try.func32, Try.ntmps32
  go_wp2
  go_loop [3] (fun n => ∃ k : Nat, 1 ≤ k ∧ k ≤ pieces m ∧ n = .int .i64 k) (fun n => 61 - (intOf n).toNat)
  case atStart => exact ⟨1, by omega, by unfold pieces; omega, rfl⟩
  case round =>
    obtain ⟨k, h1, h2, rfl⟩ := hrel
    have hp := pieces_le m h
    by_cases hlt : k < pieces m
    · have : 68 * k < m := by unfold pieces at hlt; omega
      have hx : (68 : Int) * (k : Int) < (m : Int) := by omega
      go_wp2
      go_round
      case rel => exact ⟨k + 1, by omega, by omega, by go_num⟩
      case measure => simp [intOf]; omega
    · have : ¬ 68 * k < m := by unfold pieces at hlt; omega
      have hx : ¬ (68 : Int) * (k : Int) < (m : Int) := by omega
      obtain rfl : k = pieces m := by omega
      go_wp2
      go_ret
      exact ⟨rfl, rfl⟩

theorem at_any (g base at_ next : Nat) (w : World) (hb : LogB w g 53 base at_ next) : Calls Try.prog 19 #[.pointer (some ⟨g, 0, none⟩)] w fun e w' => e = .returned (.int .i64 at_) ∧ w' = w := by
  have c1 : w.cell? ⟨g, 1, none⟩ = some (.int .i64 at_) := hb.cell 1
  go_enter Try.func19, Try.ntmps19
  go_wp2
  go_ret
  exact ⟨rfl, rfl⟩
theorem next_any (g base at_ next : Nat) (w : World) (hb : LogB w g 53 base at_ next) : Calls Try.prog 20 #[.pointer (some ⟨g, 0, none⟩)] w fun e w' => e = .returned (.int .i64 next) ∧ w' = w := by
  have c1 : w.cell? ⟨g, 2, none⟩ = some (.int .i64 next) := hb.cell 2
  go_enter Try.func20, Try.ntmps20
  go_wp2
  go_ret
  exact ⟨rfl, rfl⟩
theorem base_any (g base at_ next : Nat) (w : World) (hb : LogB w g 53 base at_ next) : Calls Try.prog 23 #[.pointer (some ⟨g, 0, none⟩)] w fun e w' => e = .returned (.int .i64 base) ∧ w' = w := by
  have c1 : w.cell? ⟨g, 0, none⟩ = some (.int .i64 base) := hb.cell 0
  go_enter Try.func23, Try.ntmps23
  go_wp2
  go_ret
  exact ⟨rfl, rfl⟩

theorem room_any (g base at_ next : Nat) (m : Int) (w : World) (hb : LogB w g 53 base at_ next) (ha : at_ ≤ 22528) :
    Calls Try.prog 24 #[.pointer (some ⟨g, 0, none⟩), .int .i64 m] w fun e w' => e = .returned (.bool (roomB at_ m)) ∧ ∃ n, w' = w.drewN n := by
  have c1 : w.cell? ⟨g, 1, none⟩ = some (.int .i64 at_) := hb.cell 1
  by_cases h0 : 0 ≤ m
  · by_cases h1 : m ≤ 4096
    · obtain ⟨k, rfl⟩ := Int.eq_ofNat_of_zero_le h0
      have hp := pieces_le k (by omega)
      go_enter Try.func24, Try.ntmps24
      go_wp2
      go_quiet ((go_at_call 25; exact Calls.quiet_of_same (pieces_any _ _ (by omega))))
      go_wp2
      go_ret
      refine ⟨ret_bool ?_, nq, rfl⟩
      refine bool_iff ?_
      simp only [roomB, Int.toNat_natCast, Bool.and_eq_true, decide_eq_true_eq]
      omega
    · have hd : decide (m ≤ 4096) = false := by simpa using h1
      go_enter Try.func24, Try.ntmps24
      go_wp2
      go_quiet (fail)
      go_wp2
      go_ret
      refine ⟨ret_bool ?_, nq, rfl⟩
      simp [roomB]; omega
  · have hd : decide (0 ≤ m) = false := by simpa using h0
    go_enter Try.func24, Try.ntmps24
    go_wp2
    go_quiet (fail)
    go_wp2
    go_ret
    refine ⟨ret_bool ?_, nq, rfl⟩
    simp [roomB]; omega

theorem refRoom_any (g base at_ next : Nat) (m : Int) (w : World) (hb : LogB w g 55 base at_ next) (ha : at_ ≤ 22528) :
    Calls Try.prog 27 #[.pointer (some ⟨g, 0, none⟩), .int .i64 m] w fun e w' => e = .returned (.bool (roomB at_ m)) ∧ ∃ n, w' = w.drewN n := by
  have c1 : w.cell? ⟨g, 1, none⟩ = some (.int .i64 at_) := hb.cell 1
  by_cases h0 : 0 ≤ m
  · by_cases h1 : m ≤ 4096
    · obtain ⟨k, rfl⟩ := Int.eq_ofNat_of_zero_le h0
      have hp := pieces_le k (by omega)
      go_enter Try.func27, Try.ntmps27
      go_wp2
      go_quiet ((go_at_call 32; exact Calls.quiet_of_same (refPieces_any _ _ (by omega))))
      go_wp2
      go_ret
      refine ⟨ret_bool ?_, nq, rfl⟩
      refine bool_iff ?_
      simp only [roomB, Int.toNat_natCast, Bool.and_eq_true, decide_eq_true_eq]
      omega
    · go_enter Try.func27, Try.ntmps27
      go_wp2
      go_ret
      exact ⟨ret_bool (by simp [roomB]; omega), 0, rfl⟩
  · go_enter Try.func27, Try.ntmps27
    go_wp2
    go_ret
    exact ⟨ret_bool (by simp [roomB]; omega), 0, rfl⟩

theorem new_ok (base : Nat) (w : World) (h : base ≤ 281474976710656) : Calls Try.prog 8 #[.int .i64 base] w fun e w' =>
    e = .returned (.tuple #[.pointer (some ⟨w.heap.size, 0, none⟩), .int .i64 0]) ∧ LogB w' w.heap.size 53 base 0 1 ∧ Keeps Non w w' := by
  go_enter Try.func8, Try.ntmps8
  go_wp2
  go_ret2
  exact ⟨rfl, Blk.new _ _ _, (Keeps.refl _ _).alloc _⟩
theorem new_no (base : Int) (w : World) (h : base < 0 ∨ 281474976710656 < base) : Calls Try.prog 8 #[.int .i64 base] w fun e w' =>
    e = .returned (.tuple #[.pointer none, .int .i64 1]) ∧ w = w' := by
  rcases h with h | h
  all_goals
    go_enter Try.func8, Try.ntmps8
    go_wp2
    go_ret2
    exact ⟨rfl, rfl⟩
theorem refNew_ok (base : Nat) (w : World) (h : base ≤ 281474976710656) : Calls Try.prog 9 #[.int .i64 base] w fun e w' =>
    e = .returned (.tuple #[.pointer (some ⟨w.heap.size, 0, none⟩), .int .i64 0]) ∧ LogB w' w.heap.size 55 base 0 1 ∧ Keeps Non w w' := by
  go_enter Try.func9, Try.ntmps9
  go_wp2
  go_ret2
  exact ⟨rfl, Blk.new _ _ _, (Keeps.refl _ _).alloc _⟩
theorem refNew_no (base : Int) (w : World) (h : base < 0 ∨ 281474976710656 < base) : Calls Try.prog 9 #[.int .i64 base] w fun e w' =>
    e = .returned (.tuple #[.pointer none, .int .i64 1]) ∧ w = w' := by
  rcases h with h | h
  all_goals
    go_enter Try.func9, Try.ntmps9
    go_wp2
    go_ret2
    exact ⟨rfl, rfl⟩
theorem pick_any (c n : Int) (w : World) (h1 : 0 < n) (h2 : n ≤ 1000000) (h3 : -9223372036854775808 ≤ c) (h4 : c ≤ 9223372036854775807) :
    Calls Try.prog 15 #[.int .i64 c, .int .i64 n] w fun e w' => (∃ r : Nat, (r : Int) < n ∧ e = .returned (.int .i64 r)) ∧ w = w' := by
  go_enter Try.func15, Try.ntmps15
  go_wp2
  all_goals go_ret
  · refine ⟨⟨((-(c+1)).tmod n).toNat, ?_, ret_int ?_⟩, rfl⟩ <;>
      (have a := Int.tmod_nonneg n (show 0 ≤ -(c+1) by omega); have b := Int.tmod_lt_of_pos (-(c+1)) h1; rw [Int.neg_tmod] at a b ⊢; omega)
  · refine ⟨⟨(c % n).toNat, ?_, ret_int ?_⟩, rfl⟩ <;>
      (have a := Int.emod_nonneg c (show n ≠ 0 by omega); have b := Int.emod_lt_of_pos c h1; omega)

theorem stands_any (gx gy base at_ next : Nat) (m : Int) (w : World) (hx : LogB w gx 53 base at_ next) (hy : LogB w gy 55 base at_ next) (ha : at_ ≤ 22528) :
    Calls Try.prog 14 #[.pointer (some ⟨gx, 0, none⟩), .pointer (some ⟨gy, 0, none⟩), .int .i64 m] w fun e w' => e = .returned (.bool true) ∧ ∃ n, w' = w.drewN n := by
  have c0 : w.cell? ⟨gy, 0, none⟩ = some (.int .i64 base) := hy.cell 0
  have c1 : w.cell? ⟨gy, 1, none⟩ = some (.int .i64 at_) := hy.cell 1
  have c2 : w.cell? ⟨gy, 2, none⟩ = some (.int .i64 next) := hy.cell 2
  go_enter Try.func14, Try.ntmps14
  go_wp2_with (first
    | (go_at_call 19; refine (at_any _ _ _ _ _ hx).mono ?_; rintro e w' ⟨rfl, rfl⟩)
    | (go_at_call 20; refine (next_any _ _ _ _ _ hx).mono ?_; rintro e w' ⟨rfl, rfl⟩)
    | (go_at_call 23; refine (base_any _ _ _ _ _ hx).mono ?_; rintro e w' ⟨rfl, rfl⟩)
    | (go_at_call 24; refine (room_any _ _ _ _ _ _ hx ha).mono ?_; rintro e w' ⟨rfl, n1, rfl⟩)
    | (go_at_call 27; refine (refRoom_any _ _ _ _ _ _ (hy.drewN _) ha).mono ?_; rintro e w' ⟨rfl, n2, rfl⟩))
  go_ret
  exact ⟨rfl, _, rfl⟩
end Go.Proofs.Ytmlffigfhhoihaa
