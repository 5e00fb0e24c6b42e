/- Hash, power, isName, room, fit, fits. -/
import Derived.Test.YtiieglfpmmhfiaaP1
import Derived.Test.YtiieglfpmmhfiaaRw
import Derived.Lib.Strings
namespace Go.Proofs.Ytiieglfpmmhfiaa
set_option maxRecDepth 100000
open Go.RowKit Go.Uc

theorem str_size (L : List UInt8) : (str L).size = L.length := by simp [str, ByteArray.size]
theorem str_toList (L : List UInt8) : (str L).toList = L := by rw [Lib.toList_data]; rfl
theorem str_data (s : ByteArray) : str s.data.toList = s := by cases s; simp [str]
theorem index_str (L : List UInt8) (k : Nat) (hk : k < L.length) (w : World) : (Instr.index 9 (.string (str L)) (.int .i64 (k : Int))).run Try.prog w = .ok (.int .u8 (L[k].toNat : Int)) w := by
  have h1 : 0 ≤ (k : Int) ∧ (k : Int) < ((str L).size : Int) := by rw [str_size]; omega
  rw [run_index_string w 9 (str L) .i64 k Try.underlying9, dif_pos h1]
  rfl
theorem mul32c (x y : BitVec 32) : IntKind.u32.wrap (v32 x * v32 y) = v32 (x * y) := by
  rw [IntKind.wrap_u32]; unfold v32; rw [BitVec.toNat_mul]; simp
theorem hash_step (L : List UInt8) (k : Nat) (hk : k < L.length) : hash0 (L.take (k + 1)) = hashS (hash0 (L.take k)) L[k] := by
  unfold hash0; rw [List.take_succ_eq_append_getElem hk, List.foldl_append]; rfl

set_option maxHeartbeats 1000000 in
theorem hash_any (L : List UInt8) (hn : L.length ≤ 9223372036854775807) (w : World) : Calls Try.prog 16 #[.string (str L)] w fun e w' => e = .returned (.int .u32 (v32 (hashB L))) ∧ w' = w := by
  have hsz : ((str L).size : Int) = (L.length : Int) := by rw [str_size]
  have hx := xor32
  have l0 := v32_nonneg
  have l1 := v32_le
  go_enter Try.func16, Try.ntmps16
  go_wp2_with fail
  go_loop [3, 7] (fun v i => ∃ k : Nat, k ≤ L.length ∧ i = .int .i64 k ∧ v = .int .u32 (v32 (hash0 (L.take k)))) (fun _ i => L.length - (intOf i).toNat)
  case atStart => exact ⟨0, by omega, rfl, rfl⟩
  case round =>
    obtain ⟨k, hk, rfl, rfl⟩ := hrel
    by_cases hlt : k < L.length
    · have hi := index_str L k hlt
      have HS := Lib.hid (hash_step L k hlt)
      generalize L[k] = c at hi HS
      have hc := c.toNat_lt
      have hm : IntKind.u32.wrap (v32 (hash0 (L.take k) ^^^ BitVec.ofNat 32 c.toNat) * 16777619) = v32 (hashS (hash0 (L.take k)) c) := mul32c _ 16777619#32
      have hcv : ((c.toNat : Nat) : Int) = v32 (BitVec.ofNat 32 c.toNat) := by unfold v32; rw [BitVec.toNat_ofNat, Nat.mod_eq_of_lt (by omega)]
      have hxx : bits .xor .u32 (v32 (hash0 (L.take k))) (c.toNat : Int) = v32 (hash0 (L.take k) ^^^ BitVec.ofNat 32 c.toNat) := by rw [hcv]; exact xor32 _ _
      clear hcv hx
      generalize hash0 (L.take k) = h at hxx hm HS ⊢
      go_wp2_with fail
      go_round
      case rel => exact ⟨k + 1, by omega, by go_num, by rw [HS.out]⟩
      case measure => simp [intOf]; omega
    · obtain rfl : k = L.length := by omega
      have hs : v32 (hash0 (L.take L.length)) / (65536 : Int) = v32 (hash0 (L.take L.length) >>> 16) := shr32 _ 16
      have HB : Hid (hashB L = hash0 (L.take L.length) ^^^ (hash0 (L.take L.length) >>> 16)) := by show _ = _; rw [List.take_of_length_le (Nat.le_refl _)]; rfl
      generalize hash0 (L.take L.length) = h at hs HB ⊢
      go_wp2_with fail
      go_ret
      exact ⟨by rw [HB.out]; rfl, rfl⟩
set_option maxHeartbeats 1000000 in
theorem refhash_any (L : List UInt8) (hn : L.length ≤ 9223372036854775807) (w : World) : Calls Try.prog 17 #[.string (str L)] w fun e w' => e = .returned (.int .u32 (v32 (hashB L))) ∧ w' = w := by
  have hsz : ((str L).size : Int) = (L.length : Int) := by rw [str_size]
  have hx := xor32
  have l0 := v32_nonneg
  have l1 := v32_le
  go_enter Try.func17, Try.ntmps17
  go_wp2_with fail
  go_loop [3, 4] (fun v i => ∃ k : Nat, k ≤ L.length ∧ i = .int .i64 k ∧ v = .int .u32 (v32 (hash0 (L.take k)))) (fun _ i => L.length - (intOf i).toNat)
  case atStart => exact ⟨0, by omega, rfl, rfl⟩
  case round =>
    obtain ⟨k, hk, rfl, rfl⟩ := hrel
    by_cases hlt : k < L.length
    · have hi := index_str L k hlt
      have HS := Lib.hid (hash_step L k hlt)
      generalize L[k] = c at hi HS
      have hc := c.toNat_lt
      have hm : IntKind.u32.wrap (v32 (hash0 (L.take k) ^^^ BitVec.ofNat 32 c.toNat) * 16777619) = v32 (hashS (hash0 (L.take k)) c) := mul32c _ 16777619#32
      have hcv : ((c.toNat : Nat) : Int) = v32 (BitVec.ofNat 32 c.toNat) := by unfold v32; rw [BitVec.toNat_ofNat, Nat.mod_eq_of_lt (by omega)]
      have hxx : bits .xor .u32 (v32 (hash0 (L.take k))) (c.toNat : Int) = v32 (hash0 (L.take k) ^^^ BitVec.ofNat 32 c.toNat) := by rw [hcv]; exact xor32 _ _
      clear hcv hx
      generalize hash0 (L.take k) = h at hxx hm HS ⊢
      go_wp2_with fail
      go_round
      case rel => exact ⟨k + 1, by omega, by go_num, by rw [HS.out]⟩
      case measure => simp [intOf]; omega
    · obtain rfl : k = L.length := by omega
      have hs : v32 (hash0 (L.take L.length)) / (65536 : Int) = v32 (hash0 (L.take L.length) >>> 16) := shr32 _ 16
      have HB : Hid (hashB L = hash0 (L.take L.length) ^^^ (hash0 (L.take L.length) >>> 16)) := by show _ = _; rw [List.take_of_length_le (Nat.le_refl _)]; rfl
      generalize hash0 (L.take L.length) = h at hs HB ⊢
      have b0 := v32_nonneg h
      have b1 := v32_le h
      go_wp2_with fail
      go_ret
      exact ⟨by rw [HB.out]; rfl, rfl⟩

set_option maxHeartbeats 1000000 in
theorem power_any (d : Nat) (hd : d ≤ 8) (w : World) : Calls Try.prog 82 #[.int .i64 (d : Int)] w fun e w' => e = .returned (.int .i64 ((2 ^ d : Nat) : Int)) ∧ w' = w := by
  go_enter Try.func82, Try.ntmps82
  go_wp2_with fail
  go_loop [3, 4] (fun v i => ∃ k p : Nat, k ≤ d ∧ i = .int .i64 k ∧ v = .int .i64 p ∧ Hid (p = 2 ^ k)) (fun _ i => d - (intOf i).toNat)
  case atStart => exact ⟨0, 1, by omega, rfl, rfl, rfl⟩
  case round =>
    obtain ⟨k, p, hk, rfl, rfl, hp⟩ := hrel
    by_cases hlt : k < d
    · have hb : p ≤ 256 := by rw [hp.out]; calc 2 ^ k ≤ 2 ^ 8 := Nat.pow_le_pow_right (by omega) (by omega)
                                              _ = 256 := rfl
      go_wp2_with fail
      go_round
      case rel => exact ⟨k + 1, 2 * p, by omega, by go_num, by go_num, by show _ = _; rw [hp.out, Nat.pow_succ, Nat.mul_comm]⟩
      case measure => simp [intOf]; omega
    · obtain rfl : k = d := by omega
      go_wp2_with fail
      go_ret
      exact ⟨by rw [hp.out]; rfl, rfl⟩

/-- May a name be one? -/
def nameB (L : List UInt8) : Bool := decide (1 ≤ L.length) && decide (L.length ≤ 24)
theorem isName_any (L : List UInt8) (hn : L.length ≤ 9223372036854775807) (w : World) : Calls Try.prog 26 #[.string (str L)] w fun e w' => e = .returned (.bool (nameB L)) ∧ w' = w := by
  have hsz : ((str L).size : Int) = (L.length : Int) := by rw [str_size]
  by_cases h1 : 1 ≤ L.length
  · have h1' : (1 : Int) ≤ (L.length : Int) := by omega
    by_cases h2 : L.length ≤ 24
    · have h2' : (L.length : Int) ≤ 24 := by omega
      have HD : Hid (nameB L = true) := by show _ = _; simp [nameB, h1, h2]
      go_enter Try.func26, Try.ntmps26
      go_wp2_with fail
      go_ret
      exact ⟨by rw [HD.out]; rfl, rfl⟩
    · have h2' : ¬ (L.length : Int) ≤ 24 := by omega
      have HD : Hid (nameB L = false) := by show _ = _; simp [nameB, h1, h2]
      go_enter Try.func26, Try.ntmps26
      go_wp2_with fail
      go_ret
      exact ⟨by rw [HD.out]; rfl, rfl⟩
  · have h1' : ¬ (1 : Int) ≤ (L.length : Int) := by omega
    have HD : Hid (nameB L = false) := by show _ = _; simp [nameB, h1]
    go_enter Try.func26, Try.ntmps26
    go_wp2_with fail
    go_ret
    exact ⟨by rw [HD.out]; rfl, rfl⟩
end Go.Proofs.Ytiieglfpmmhfiaa
