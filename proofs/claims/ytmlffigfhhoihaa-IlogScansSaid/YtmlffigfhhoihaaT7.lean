import Derived.Test.YtmlffigfhhoihaaT6
import Derived.Test.YtmlffigfhhoihaaBaseb
import Derived.Deep.DeepMust
namespace Go.Proofs.Ytmlffigfhhoihaa
open Go.RowKit Go.Uc

theorem refAppend_long (g c : Nat) (bs : List UInt8) (A : Option Addr) (w : World) (hn : 4096 < bs.length) (h64 : bs.length ≤ 140737488351232) :
    Calls Try.prog 13 #[.pointer (some ⟨g, 0, none⟩), .slice A bs.length c] w fun e w' => e = .returned (.tuple #[.int .i64 0, .slice none 0 0, .int .i64 2]) ∧ w = w' := by
  go_enter Try.func13, Try.ntmps13
  go_wp2
  go_ret3
  exact ⟨rfl, rfl⟩
theorem refAppend_full (g c base at_ next : Nat) (bs : List UInt8) (A : Option Addr) (w : World) (hb : LogB w g 55 base at_ next) (ha : at_ ≤ 22528) (hn : bs.length ≤ 4096) (hr : roomB at_ bs.length = false) :
    Calls Try.prog 13 #[.pointer (some ⟨g, 0, none⟩), .slice A bs.length c] w fun e w' => e = .returned (.tuple #[.int .i64 0, .slice none 0 0, .int .i64 161]) ∧ Keeps Non w w' := by
  go_enter Try.func13, Try.ntmps13
  go_wp2_with (go_at_call 27; refine (refRoom_any _ _ _ _ _ _ hb ha).mono ?_; rintro e w' ⟨rfl, n1, rfl⟩)
  go_ret3
  exact ⟨rfl, (Keeps.refl _ _).drewN _⟩
set_option maxHeartbeats 400000 in
theorem refAppend_ok (g c base at_ next : Nat) (bs : List UInt8) (A : Option Addr) (w : World) (hb : LogB w g 55 base at_ next) (ha : at_ ≤ 22528) (hn : bs.length ≤ 4096) (hr : roomB at_ bs.length = true)
    (hA : At w A bs) (hc : bs.length ≤ c) (hbase : base ≤ 281474976710656) (hnext : next ≤ 100000) :
    Calls Try.prog 13 #[.pointer (some ⟨g, 0, none⟩), .slice A bs.length c] w fun e w' => ∃ v, e = .returned (.tuple #[.int .i64 at_, v, .int .i64 0]) ∧ OwnB w' w.heap.size 5 v (recB base next bs) ∧
      LogB w' g 55 base (at_ + 88 * pieces bs.length) (next + 1) ∧ Keeps (Only g) w w' := by
  have hp := pieces_le bs.length hn
  have hg := Blk.lt hb
  go_enter Try.func13, Try.ntmps13
  go_wp2_with (first
    | (go_at_call 27; refine (refRoom_any _ _ _ _ _ _ hb ha).mono ?_; rintro e w1 ⟨rfl, n1, rfl⟩)
    | (go_at_call 28; refine (record_any g c base at_ next bs A _ (Blk.drewN hb n1) hn (hA.non ((Keeps.refl Non _).drewN n1)) hc hbase hnext).mono ?_; rintro e w2 ⟨v, rfl, hO, hK⟩; obtain ⟨A2, c2, rfl, hc2, _, hA2⟩ := hO.open; rw [recB_length] at *; have hbr := Blk.non (Blk.drewN hb n1) hK; have c1 : w2.cell? ⟨g, 1, none⟩ = some (.int .i64 at_) := hbr.cell 1; have c2 : w2.cell? ⟨g, 2, none⟩ = some (.int .i64 next) := hbr.cell 2; have f1 := Blk.frozen hbr 1; have f2 := Blk.frozen hbr 2))
  go_ret3
  refine ⟨_, rfl, ?_, log_two hbr (by omega) (by omega), (((Keeps.refl Non w).drewN n1).trans hK).of_non.trans (set_two _ _ _ _)⟩
  rw [← recB_length base next bs] at hO ⊢
  exact hO.keep (set_two _ _ _ _) fun i e => by have := hO.new i e; unfold Only; simp at this; omega

theorem OwnB.open88 {w : World} {v : Value} {B n : Nat} {R : List UInt8} (h : OwnB w B 5 v R) (hl : R.length = n) : ∃ A c, v = .slice A n c ∧ n ≤ c ∧ At w A R := by
  obtain ⟨A, c, h1, h2, h3, _⟩ := h.open
  exact ⟨A, c, by rw [h1, hl], by omega, h3⟩
theorem head22 : ∃ R : List UInt8, R = recB 7 1 [97, 98] ∧ R.length = 88 ∧ str (R.take 22) = ⟨#[7, 0, 0, 0, 0, 0, 0, 0, 1, 0, 0, 0, 0, 0, 1, 0, 2, 0, 0, 0, 97, 98]⟩ :=
  ⟨_, rfl, recB_length _ _ _, by rfl⟩
set_option maxHeartbeats 400000 in
theorem awake_any (w : World) : Calls Try.prog 7 #[] w fun e w' => e = .returned (.bool true) ∧ Keeps Non w w' := by
  obtain ⟨R, hR, hRl, hRs⟩ := head22
  have HS := Lib.hid hRs
  have HR := Lib.hid hR
  clear hRs hR
  have kc := fun (w : World) (C : Array Value) (n c : Nat) => Lib.run_convert_bytes_const (P := Try.prog) w 31 5 C n c Try.underlying31 Try.underlying5
  go_enter Try.func7, Try.ntmps7
  go_wp2_with (first
    | (go_at_call 8; refine (new_ok 7 _ (by omega)).mono ?_; rintro e w1 ⟨rfl, hb1, hK1⟩)
    | (go_at_call 11; go_must (refine (append_ok w.heap.size 2 7 0 1 [97, 98] _ _ (Blk.alloc hb1 _) (by omega) (by decide) (by decide) (At.lit _ _ _ _ _ rfl) (by decide) (by omega) (by omega)).mono ?_); rintro e w2 ⟨v, rfl, hO, hb2, hK2⟩; obtain ⟨A2, c2, rfl, hc2, hA2⟩ := OwnB.open88 (HR.out ▸ hO) hRl; clear hO; have hcv := run_convert_at (P := Try.prog) (w := w2) 31 9 5 Try.underlying31 Try.underlying5 Try.underlying9 A2 (R.take 22) (hA2.take 22) 22 c2 (by simp; omega); rw [HS.out] at hcv)
    | (go_at_call 20; refine (next_any _ _ _ _ _ hb2).mono ?_; rintro e w3 ⟨rfl, rfl⟩))
  go_ret
  exact ⟨rfl, (hK1.alloc _).then hK2 fun i hi e => by unfold Only at e; omega⟩

def okB (at_ : Nat) (bs : List UInt8) : Bool := decide (bs.length ≤ 4096) && roomB at_ bs.length
def apAt (at_ : Nat) (bs : List UInt8) : Nat := if okB at_ bs then at_ else 0
def apErr (at_ : Nat) (bs : List UInt8) : Nat := if 4096 < bs.length then 2 else if okB at_ bs then 0 else 161
def apOut (base at_ next : Nat) (bs : List UInt8) : List UInt8 := if okB at_ bs then recB base next bs else []
def apEnd (at_ : Nat) (bs : List UInt8) : Nat := if okB at_ bs then at_ + 88 * pieces bs.length else at_
def apNext (at_ next : Nat) (bs : List UInt8) : Nat := if okB at_ bs then next + 1 else next
theorem room_of {at_ n : Nat} (h : roomB at_ n = true) : at_ + 88 * pieces n ≤ 22528 := by
  simp [roomB] at h; omega
theorem apEnd_le (at_ next : Nat) (bs : List UInt8) (h : at_ ≤ 22528) (hn : 88 * next ≤ at_ + 88) : apEnd at_ bs ≤ 22528 ∧ 88 * apNext at_ next bs ≤ apEnd at_ bs + 88 ∧ at_ ≤ apEnd at_ bs := by
  unfold apEnd apNext
  split
  · rename_i h1
    simp only [okB, Bool.and_eq_true, decide_eq_true_eq] at h1
    have h2 := room_of h1.2
    have h3 := pieces_le bs.length h1.1
    omega
  · omega
theorem apOut_len (base at_ next : Nat) (bs : List UInt8) (h : at_ ≤ 22528) : (apOut base at_ next bs).length ≤ 22528 := by
  unfold apOut
  split
  · rename_i h1
    simp only [okB, Bool.and_eq_true, decide_eq_true_eq] at h1
    have h2 := room_of h1.2
    rw [recB_length]; omega
  · simp
theorem append_all (g c base at_ next : Nat) (bs : List UInt8) (A : Option Addr) (w : World) (hb : LogB w g 53 base at_ next) (ha : at_ ≤ 22528)
    (hA : At w A bs) (hc : bs.length ≤ c) (h64 : bs.length ≤ 140737488351232) (hbase : base ≤ 281474976710656) (hnext : next ≤ 100000) :
    Calls Try.prog 11 #[.pointer (some ⟨g, 0, none⟩), .slice A bs.length c] w fun e w' => ∃ v, e = .returned (.tuple #[.int .i64 (apAt at_ bs), v, .int .i64 (apErr at_ bs)]) ∧ OwnB w' w.heap.size 5 v (apOut base at_ next bs) ∧
      LogB w' g 53 base (apEnd at_ bs) (apNext at_ next bs) ∧ Keeps (Only g) w w' := by
  by_cases h1 : 4096 < bs.length
  · refine (append_long g c bs A w h1 h64).mono ?_
    rintro e w' ⟨rfl, rfl⟩
    have e1 : okB at_ bs = false := by simp [okB]; omega
    exact ⟨.slice none 0 0, by simp [apAt, apErr, e1, h1], by simpa [apOut, e1] using OwnB.nil _ _ _, by simpa [apEnd, apNext, e1] using hb, Keeps.refl _ _⟩
  · by_cases h2 : roomB at_ bs.length = true
    · refine (append_ok g c base at_ next bs A w hb ha (by omega) h2 hA hc hbase hnext).mono ?_
      rintro e w' ⟨v, rfl, hO, hb', hK⟩
      have e1 : okB at_ bs = true := by simp [okB, h2]; omega
      exact ⟨v, by simp [apAt, apErr, e1, h1], by simpa [apOut, e1] using hO, by simpa [apEnd, apNext, e1] using hb', hK⟩
    · have h2' : roomB at_ bs.length = false := by simpa using h2
      refine (append_full g c base at_ next bs A w hb ha (by omega) h2').mono ?_
      rintro e w' ⟨rfl, hK⟩
      have e1 : okB at_ bs = false := by simp [okB, h2']
      exact ⟨.slice none 0 0, by simp [apAt, apErr, e1, h1], by simpa [apOut, e1] using OwnB.nil _ _ _, by simpa [apEnd, apNext, e1, LogB] using Blk.non hb hK, hK.of_non⟩
theorem refAppend_all (g c base at_ next : Nat) (bs : List UInt8) (A : Option Addr) (w : World) (hb : LogB w g 55 base at_ next) (ha : at_ ≤ 22528)
    (hA : At w A bs) (hc : bs.length ≤ c) (h64 : bs.length ≤ 140737488351232) (hbase : base ≤ 281474976710656) (hnext : next ≤ 100000) :
    Calls Try.prog 13 #[.pointer (some ⟨g, 0, none⟩), .slice A bs.length c] w fun e w' => ∃ v, e = .returned (.tuple #[.int .i64 (apAt at_ bs), v, .int .i64 (apErr at_ bs)]) ∧ OwnB w' w.heap.size 5 v (apOut base at_ next bs) ∧
      LogB w' g 55 base (apEnd at_ bs) (apNext at_ next bs) ∧ Keeps (Only g) w w' := by
  by_cases h1 : 4096 < bs.length
  · refine (refAppend_long g c bs A w h1 h64).mono ?_
    rintro e w' ⟨rfl, rfl⟩
    have e1 : okB at_ bs = false := by simp [okB]; omega
    exact ⟨.slice none 0 0, by simp [apAt, apErr, e1, h1], by simpa [apOut, e1] using OwnB.nil _ _ _, by simpa [apEnd, apNext, e1] using hb, Keeps.refl _ _⟩
  · by_cases h2 : roomB at_ bs.length = true
    · refine (refAppend_ok g c base at_ next bs A w hb ha (by omega) h2 hA hc hbase hnext).mono ?_
      rintro e w' ⟨v, rfl, hO, hb', hK⟩
      have e1 : okB at_ bs = true := by simp [okB, h2]; omega
      exact ⟨v, by simp [apAt, apErr, e1, h1], by simpa [apOut, e1] using hO, by simpa [apEnd, apNext, e1] using hb', hK⟩
    · have h2' : roomB at_ bs.length = false := by simpa using h2
      refine (refAppend_full g c base at_ next bs A w hb ha (by omega) h2').mono ?_
      rintro e w' ⟨rfl, hK⟩
      have e1 : okB at_ bs = false := by simp [okB, h2']
      exact ⟨.slice none 0 0, by simp [apAt, apErr, e1, h1], by simpa [apOut, e1] using OwnB.nil _ _ _, by simpa [apEnd, apNext, e1, LogB] using Blk.non hb hK, hK.of_non⟩
end Go.Proofs.Ytmlffigfhhoihaa
