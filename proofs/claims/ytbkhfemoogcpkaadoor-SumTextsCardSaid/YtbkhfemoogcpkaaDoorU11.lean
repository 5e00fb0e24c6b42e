/- Print. -/
import Derived.Test.YtbkhfemoogcpkaaDoorU10
import Derived.Test.YtbkhfemoogcpkaaDoorU9
import Derived.Laws.Concat
namespace Go.Proofs.YtbkhfemoogcpkaaDoor
set_option maxRecDepth 100000
open Go.RowKit Go.Uc

/-- Sixteen digits, the first of them no nought. -/
def Full (x : BitVec 64) : Prop := 16 ^ 15 ≤ x.toNat
theorem format_any (x : BitVec 64) (hx : Full x) (w : World) (h : w.cell? ⟨6, 15, none⟩ = some (.int .u8 4)) :
    Calls Tryd.prog 20 #[.int .u64 (v64 x), .int .i64 16] w fun e w' => e = .returned (.string (str (lows x.toNat 16))) ∧ Keeps Non w w' := by
  go_enter Tryd.func20, Tryd.ntmps20
  go_wp2_with fail
  refine (formatBits_any x.toNat hx (by have := x.isLt; omega) w h).mono ?_
  rintro e w' ⟨rfl, hK⟩
  go_wp2_with fail
  go_ret
  exact ⟨rfl, hK⟩
theorem formatu_any (x : BitVec 64) (hx : Full x) (w : World) (h : w.cell? ⟨6, 15, none⟩ = some (.int .u8 4)) :
    Calls Tryd.prog 11 #[.int .u64 (v64 x), .int .i64 16] w fun e w' => e = .returned (.string (str (lows x.toNat 16))) ∧ Keeps Non w w' := by
  go_enter Tryd.func11, Tryd.ntmps11
  go_wp2_with fail
  refine (format_any x hx w h).mono ?_
  rintro e w' ⟨rfl, hK⟩
  go_wp2_with fail
  go_ret
  exact ⟨rfl, hK⟩
theorem str_size (L : List UInt8) : (str L).size = L.length := by simp [str, ByteArray.size]
theorem str_append (a b : List UInt8) : str a ++ str b = str (a ++ b) := by
  apply ByteArray.ext
  simp [str]
def text (x : BitVec 64) : List UInt8 := lows x.toNat 16
theorem text_length (x : BitVec 64) : (text x).length = 16 := lows_length _ _

set_option maxRecDepth 100000 in
set_option maxHeartbeats 1000000 in
theorem print_any (s : Sum4) (ha : Full s.a) (hb : Full s.b) (hc : Full s.c) (hd : Full s.d) (w : World) (h : w.cell? ⟨6, 15, none⟩ = some (.int .u8 4)) :
    Calls Tryd.prog 5 #[s.v] w fun e w' => e = .returned (.string (str (((text s.a ++ text s.b) ++ text s.c) ++ text s.d))) ∧ Keeps Non w w' := by
  obtain ⟨A, B, C, D⟩ := s
  rw [show (⟨A, B, C, D⟩ : Sum4).v = .agg #[.int .u64 (v64 A), .int .u64 (v64 B), .int .u64 (v64 C), .int .u64 (v64 D)] from rfl]
  go_enter Tryd.func5, Tryd.ntmps5
  go_wp2_with fail
  obtain ⟨wx, hwx⟩ : ∃ W : World, W = w.alloc (.cells #[.int .u64 (v64 A), .int .u64 (v64 B), .int .u64 (v64 C), .int .u64 (v64 D)] 24) := ⟨_, rfl⟩
  have hK : Keeps Non w wx := by rw [hwx]; exact (Keeps.refl _ _).alloc _
  rw [← hwx]
  go_loopw [16, 3] (fun i o wr => ∃ (k : Nat) (L : List UInt8), k ≤ 4 ∧ i = .int .i64 k ∧ o = .string (str L) ∧ L = (([A, B, C, D].take k).map text).flatten ∧ Keeps Non w wr) (fun i _ _ => 4 - (intOf i).toNat)
  case atStart => exact ⟨0, [], by omega, rfl, rfl, rfl, hK⟩
  case round =>
    obtain ⟨k, L, hk, rfl, rfl, hL, hK1⟩ := hrel
    have h6 := hK1.cell h id
    by_cases hlt : k < 4
    · obtain ⟨X, hX⟩ : ∃ X, X = [A, B, C, D].getD k 0 := ⟨_, rfl⟩
      have hF : Full X := by
        rw [hX]
        match k, hlt with
        | 0, _ => exact ha
        | 1, _ => exact hb
        | 2, _ => exact hc
        | 3, _ => exact hd
      have hLn : L ++ text X = (([A, B, C, D].take (k + 1)).map text).flatten := by
        rw [hL, hX]
        match k, hlt with
        | 0, _ => simp
        | 1, _ => simp
        | 2, _ => simp
        | 3, _ => simp
      have hin : ∀ w : World, (Instr.index 34 (.agg #[.int .u64 (v64 A), .int .u64 (v64 B), .int .u64 (v64 C), .int .u64 (v64 D)]) (.int .i64 (k : Int))).run Tryd.prog w = .ok (.int .u64 (v64 X)) w := by
        intro w
        rw [hX]
        match k, hlt with
        | 0, _ => rfl
        | 1, _ => rfl
        | 2, _ => rfl
        | 3, _ => rfl
      have HL := Lib.hid hLn
      clear hL hX hLn
      have k0 : (k : Int) < 4 := by omega
      obtain ⟨wy, rfl⟩ : ∃ W : World, W = wr := ⟨_, rfl⟩
      go_wp2_with fail
      refine (formatu_any X hF wy h6).mono ?_
      rintro e w2 ⟨rfl, hK2⟩
      have hK3 := hK1.non hK2
      clear h6 hK1 hK2
      have hsz : ((str (lows X.toNat 16)).size : Int) = 16 := by rw [str_size, lows_length]; rfl
      go_wp2_with fail
      have hLl : L.length ≤ 64 := by
        have h1 := congrArg List.length HL.out
        rw [List.length_append] at h1
        have h2 : ((([A, B, C, D].take (k + 1)).map text).flatten).length ≤ 64 := by
          match k, hlt with
          | 0, _ => simp [text_length]
          | 1, _ => simp [text_length]
          | 2, _ => simp [text_length]
          | 3, _ => simp [text_length]
        omega
      have e1 : (⟨#[]⟩ : ByteArray) ++ str (lows X.toNat 16) = str (lows X.toNat 16) := str_append [] _
      have s1 : ((⟨#[]⟩ : ByteArray)).size + (str (lows X.toNat 16)).size ≤ 9223372036854775807 := by rw [str_size, lows_length]; decide
      have s2 : (str L).size + (str (lows X.toNat 16)).size ≤ 9223372036854775807 := by rw [str_size, str_size, lows_length]; omega
      have r1 : ∀ w : World, (Op.stringOp .add ⟨#[]⟩ (str (lows X.toNat 16))).run Tryd.prog w = .ok (.string (str (lows X.toNat 16))) w := fun w => by rw [run_string_add_sum w _ _ s1, e1]
      have r2 : ∀ w : World, (Op.stringOp .add (str L) (str (lows X.toNat 16))).run Tryd.prog w = .ok (.string (str (L ++ text X))) w := fun w => by rw [run_string_add_sum w _ _ s2, str_append]; rfl
      clear e1 s1 s2
      refine (rep0 _ w2).mono ?_
      rintro e w3 ⟨rfl, rfl⟩
      go_wp2_with fail
      go_roundw
      case rel =>
        exact ⟨k + 1, L ++ text X, by omega, by go_num, rfl, HL.out, hK3⟩
      case measure => simp [intOf]; omega
    · obtain rfl : k = 4 := by omega
      go_wp2_with fail
      go_ret
      refine ⟨?_, hK1⟩
      rw [hL]
      show Ending.returned (Value.string (str _)) = _
      simp
end Go.Proofs.YtbkhfemoogcpkaaDoor
