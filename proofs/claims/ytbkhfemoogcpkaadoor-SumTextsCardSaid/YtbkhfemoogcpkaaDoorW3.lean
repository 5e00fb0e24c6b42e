/- Print of any sum. -/
import Derived.Test.YtbkhfemoogcpkaaDoorW2
import Derived.Test.YtbkhfemoogcpkaaDoorShelf
import Derived.Outline
namespace Go.Proofs.YtbkhfemoogcpkaaDoor
set_option maxRecDepth 100000
open Go.RowKit Go.Uc

theorem Below.keeps {w w' : World} (h : Below w.heap.size w w') : Keeps Non w w' := ⟨h.os, h.tape, h.output, h.size, fun k hk _ => h.block k hk⟩
/-- How many digits a number wants, less one. -/
theorem digits_of (n : Nat) (h : n < 16 ^ 16) : ∃ q, q ≤ 15 ∧ (16 ^ q ≤ n ∨ q = 0) ∧ n < 16 ^ (q + 1) := by
  have aux : ∀ k, n < 16 ^ (k + 1) → ∃ q, q ≤ k ∧ (16 ^ q ≤ n ∨ q = 0) ∧ n < 16 ^ (q + 1) := by
    intro k
    induction k with
    | zero => intro h; exact ⟨0, Nat.le_refl _, .inr rfl, h⟩
    | succ k ih =>
      intro h
      rcases Nat.lt_or_ge n (16 ^ (k + 1)) with h1 | h1
      · obtain ⟨q, a, b, c⟩ := ih h1
        exact ⟨q, by omega, b, c⟩
      · exact ⟨k + 1, Nat.le_refl _, .inl h1, h⟩
  exact aux 15 h
theorem rep_zeros (k : Nat) (hk : k ≤ 16) (w : World) : Calls Tryd.prog 12 #[.string ⟨#[48]⟩, .int .i64 (k : Int)] w fun e w' => e = .returned (.string (str (List.replicate k 48))) ∧ Keeps Non w w' := by
  refine (Tryd.strings_Repeat ⟨#[48]⟩ k w (by omega) ?_).mono ?_
  · show 1 * k ≤ _; omega
  rintro e w' ⟨rfl, hb⟩
  refine ⟨?_, Below.keeps hb⟩
  have e : ∀ k, Lib.repeatL [48] k = List.replicate k 48 := by
    intro k
    induction k with
    | zero => rfl
    | succ k ih => rw [Lib.repeatL, ih]; rfl
  rw [show Lib.repeatL ((⟨#[48]⟩ : ByteArray)).data.toList k = List.replicate k 48 from e k]
  rfl
theorem format_all (x : BitVec 64) (q : Nat) (hq : q ≤ 15) (hl : 16 ^ q ≤ x.toNat ∨ q = 0) (hu : x.toNat < 16 ^ (q + 1)) (w : World) (h : w.cell? ⟨6, 15, none⟩ = some (.int .u8 4)) :
    Calls Tryd.prog 20 #[.int .u64 (v64 x), .int .i64 16] w fun e w' => e = .returned (.string (str (lows x.toNat (q + 1)))) ∧ Keeps Non w w' := by
  go_enter Tryd.func20, Tryd.ntmps20
  go_wp2_with fail
  refine (formatBits_all x.toNat q hq hl hu w h).mono ?_
  rintro e w' ⟨rfl, hK⟩
  go_wp2_with fail
  go_ret
  exact ⟨rfl, hK⟩
theorem formatu_all (x : BitVec 64) (q : Nat) (hq : q ≤ 15) (hl : 16 ^ q ≤ x.toNat ∨ q = 0) (hu : x.toNat < 16 ^ (q + 1)) (w : World) (h : w.cell? ⟨6, 15, none⟩ = some (.int .u8 4)) :
    Calls Tryd.prog 11 #[.int .u64 (v64 x), .int .i64 16] w fun e w' => e = .returned (.string (str (lows x.toNat (q + 1)))) ∧ Keeps Non w w' := by
  go_enter Tryd.func11, Tryd.ntmps11
  go_wp2_with fail
  refine (format_all x q hq hl hu w h).mono ?_
  rintro e w' ⟨rfl, hK⟩
  go_wp2_with fail
  go_ret
  exact ⟨rfl, hK⟩

set_option maxHeartbeats 1000000 in
theorem print_all (s : Sum4) (w : World) (h : w.cell? ⟨6, 15, none⟩ = some (.int .u8 4)) :
    Calls Tryd.prog 5 #[s.v] w fun e w' => e = .returned (.string (str (text4 s.a s.b s.c s.d))) ∧ Keeps Non w w' := by
  obtain ⟨A, B, C, D⟩ := s
  rw [show (⟨A, B, C, D⟩ : Sum4).v = .agg #[.int .u64 (v64 A), .int .u64 (v64 B), .int .u64 (v64 C), .int .u64 (v64 D)] from rfl]
  go_enter Tryd.func5, Tryd.ntmps5
  go_wp2_with fail
  obtain ⟨wx, hwx⟩ : ∃ W : World, W = w.alloc (.cells #[.int .u64 (v64 A), .int .u64 (v64 B), .int .u64 (v64 C), .int .u64 (v64 D)] 24) := ⟨_, rfl⟩
  have hK : Keeps Non w wx := by rw [hwx]; exact (Keeps.refl _ _).alloc _
  rw [← hwx]
  go_loopw [16, 3] (fun i o wr => ∃ (k : Nat) (L : List UInt8), k ≤ 4 ∧ i = .int .i64 k ∧ o = .string (str L) ∧ L = (([A, B, C, D].take k).map text64).flatten ∧ Keeps Non w wr) (fun i _ _ => 4 - (intOf i).toNat)
  case atStart => exact ⟨0, [], by omega, rfl, rfl, rfl, hK⟩
  case round =>
    obtain ⟨k, L, hk, rfl, rfl, hL, hK1⟩ := hrel
    have h6 := hK1.cell h id
    by_cases hlt : k < 4
    · obtain ⟨X, hX⟩ : ∃ X, X = [A, B, C, D].getD k 0 := ⟨_, rfl⟩
      have hLn : L ++ text64 X = (([A, B, C, D].take (k + 1)).map text64).flatten := by
        rw [hL, hX]
        match k, hlt with
        | 0, _ => simp
        | 1, _ => simp
        | 2, _ => simp
        | 3, _ => simp
      have hin : ∀ w : World, (Instr.index 34 (.agg #[.int .u64 (v64 A), .int .u64 (v64 B), .int .u64 (v64 C), .int .u64 (v64 D)]) (.int .i64 (k : Int))).run Tryd.prog w = .ok (.int .u64 (v64 X)) w := by
        intro w
        rw [hX]
        match k, hlt with
        | 0, _ => rfl
        | 1, _ => rfl
        | 2, _ => rfl
        | 3, _ => rfl
      have HL := Lib.hid hLn
      clear hL hX hLn
      have k0 : (k : Int) < 4 := by omega
      obtain ⟨q, hq, hql, hqu⟩ := digits_of X.toNat (by have := X.isLt; omega)
      obtain ⟨wy, rfl⟩ : ∃ W : World, W = wr := ⟨_, rfl⟩
      go_wp2_with fail
      refine (formatu_all X q hq hql hqu wy h6).mono ?_
      rintro e w2 ⟨rfl, hK2⟩
      have hK3 := hK1.non hK2
      clear h6 hK1 hK2
      obtain ⟨T, hT⟩ : ∃ T, T = lows X.toNat (q + 1) := ⟨_, rfl⟩
      have hTl : T.length = q + 1 := by rw [hT, lows_length]
      have hTT : List.replicate (15 - q) 48 ++ T = text64 X := by
        rw [hT, ← lows_pad X.toNat (q + 1) hqu (15 - q), show q + 1 + (15 - q) = 16 by omega]; rfl
      rw [← hT]
      have HTl := Lib.hid hTl
      have HTT := Lib.hid hTT
      clear hT hTl hTT hql hqu
      have hsz : ((str T).size : Int) = (q : Int) + 1 := by rw [str_size, HTl.out]; rfl
      have hw15 : IntKind.i64.wrap (16 - ((q : Int) + 1)) = ((15 - q : Nat) : Int) := by rw [IntKind.wrap_i64]; omega
      go_wp2_with fail
      have hLl : L.length ≤ 64 := by
        have h1 := congrArg List.length HL.out
        rw [List.length_append] at h1
        have h2 : ((([A, B, C, D].take (k + 1)).map text64).flatten).length ≤ 64 := by
          match k, hlt with
          | 0, _ => simp [text64_length]
          | 1, _ => simp [text64_length]
          | 2, _ => simp [text64_length]
          | 3, _ => simp [text64_length]
        omega
      have l1 : (str (List.replicate (15 - q) 48)).size + (str T).size = 16 := by rw [str_size, str_size, HTl.out, List.length_replicate]; omega
      have s1 : (str (List.replicate (15 - q) 48)).size + (str T).size ≤ 9223372036854775807 := by rw [l1]; decide
      have s2 : (str L).size + (str (text64 X)).size ≤ 9223372036854775807 := by rw [str_size, str_size, text64_length]; omega
      have r1 : ∀ w : World, (Op.stringOp .add (str (List.replicate (15 - q) 48)) (str T)).run Tryd.prog w = .ok (.string (str (text64 X))) w := fun w => by rw [run_string_add_sum w _ _ s1, str_append, HTT.out]
      have r2 : ∀ w : World, (Op.stringOp .add (str L) (str (text64 X))).run Tryd.prog w = .ok (.string (str (L ++ text64 X))) w := fun w => by rw [run_string_add_sum w _ _ s2, str_append]
      clear s1 s2 l1
      refine (rep_zeros (15 - q) (by omega) w2).mono ?_
      rintro e w3 ⟨rfl, hK4⟩
      have hK5 := hK3.non hK4
      clear hK3 hK4
      go_wp2_with fail
      go_roundw
      case rel =>
        exact ⟨k + 1, L ++ text64 X, by omega, by go_num, rfl, HL.out, hK5⟩
      case measure => simp [intOf]; omega
    · obtain rfl : k = 4 := by omega
      go_wp2_with fail
      go_ret
      refine ⟨?_, hK1⟩
      rw [hL]
      show Ending.returned (Value.string (str _)) = _
      simp [text4]
end Go.Proofs.YtbkhfemoogcpkaaDoor
