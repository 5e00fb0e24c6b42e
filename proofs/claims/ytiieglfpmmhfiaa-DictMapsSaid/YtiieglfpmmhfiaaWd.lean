/- Words of 32 and of 64 bits. -/
import Derived.Test.YtiieglfpmmhfiaaRows
import Derived.Test.YtiieglfpmmhfiaaBased
import Derived.Tactics
import Derived.Tactics2
import Derived.WalkSpells
import Derived.Laws.Rows
import Derived.BigQuiet
import Derived.Deep.QuietTactic
import Derived.StillTailTactics
namespace Go.Proofs.Ytiieglfpmmhfiaa
open Go.RowKit Go.Uc

/-- A word of 32 bits, as the number in its cell. -/
def v32 (x : BitVec 32) : Int := x.toNat
/-- A word of 64 bits, as the number in its cell. -/
def v64 (x : BitVec 64) : Int := x.toNat

theorem ofInt_v32 (x : BitVec 32) : BitVec.ofInt IntKind.u32.bits (v32 x) = x := by
  show BitVec.ofInt 32 (x.toNat : Int) = x
  rw [BitVec.ofInt_natCast, BitVec.ofNat_toNat, BitVec.setWidth_eq]
theorem ofInt_v64 (x : BitVec 64) : BitVec.ofInt IntKind.u64.bits (v64 x) = x := by
  show BitVec.ofInt 64 (x.toNat : Int) = x
  rw [BitVec.ofInt_natCast, BitVec.ofNat_toNat, BitVec.setWidth_eq]
theorem v32_nonneg (x : BitVec 32) : 0 ≤ v32 x := by unfold v32; omega
theorem v32_le (x : BitVec 32) : v32 x ≤ 4294967295 := by have := x.isLt; unfold v32; omega
theorem v64_nonneg (x : BitVec 64) : 0 ≤ v64 x := by unfold v64; omega
theorem v64_le (x : BitVec 64) : v64 x ≤ 18446744073709551615 := by have := x.isLt; unfold v64; omega
theorem add32 (x y : BitVec 32) : IntKind.u32.wrap (v32 x + v32 y) = v32 (x + y) := by
  rw [IntKind.wrap_u32]; unfold v32; rw [BitVec.toNat_add]; omega
theorem add64 (x y : BitVec 64) : IntKind.u64.wrap (v64 x + v64 y) = v64 (x + y) := by
  rw [IntKind.wrap_u64]; unfold v64; rw [BitVec.toNat_add]; omega
theorem wrap32_nat {n : Nat} (h : n < 4294967296) : IntKind.u32.wrap (n : Int) = n := by rw [IntKind.wrap_u32]; omega
theorem wrap64_nat {n : Nat} (h : n < 18446744073709551616) : IntKind.u64.wrap (n : Int) = n := by rw [IntKind.wrap_u64]; omega
theorem xor32 (x y : BitVec 32) : bits .xor .u32 (v32 x) (v32 y) = v32 (x ^^^ y) := by
  unfold bits
  simp only [ofInt_v32]
  exact wrap32_nat (x ^^^ y).isLt
theorem and32 (x y : BitVec 32) : bits .and .u32 (v32 x) (v32 y) = v32 (x &&& y) := by
  unfold bits
  simp only [ofInt_v32]
  exact wrap32_nat (x &&& y).isLt
theorem or32 (x y : BitVec 32) : bits .or .u32 (v32 x) (v32 y) = v32 (x ||| y) := by
  unfold bits
  simp only [ofInt_v32]
  exact wrap32_nat (x ||| y).isLt
theorem or64 (x y : BitVec 64) : bits .or .u64 (v64 x) (v64 y) = v64 (x ||| y) := by
  unfold bits
  simp only [ofInt_v64]
  exact wrap64_nat (x ||| y).isLt
theorem shl32 (x : BitVec 32) (k : Nat) : IntKind.u32.wrap (v32 x * 2 ^ k) = v32 (x <<< k) := by
  rw [IntKind.wrap_u32]; unfold v32; rw [BitVec.toNat_shiftLeft, Nat.shiftLeft_eq, Int.natCast_emod, Int.natCast_mul, Int.natCast_pow, Int.natCast_pow]; rfl
theorem shl64 (x : BitVec 64) (k : Nat) : IntKind.u64.wrap (v64 x * 2 ^ k) = v64 (x <<< k) := by
  rw [IntKind.wrap_u64]; unfold v64; rw [BitVec.toNat_shiftLeft, Nat.shiftLeft_eq, Int.natCast_emod, Int.natCast_mul, Int.natCast_pow, Int.natCast_pow]; rfl
theorem shr32 (x : BitVec 32) (k : Nat) : v32 x / 2 ^ k = v32 (x >>> k) := by
  unfold v32; rw [BitVec.toNat_ushiftRight, Nat.shiftRight_eq_div_pow, Int.natCast_ediv, Int.natCast_pow]; rfl
theorem shr64 (x : BitVec 64) (k : Nat) : v64 x / 2 ^ k = v64 (x >>> k) := by
  unfold v64; rw [BitVec.toNat_ushiftRight, Nat.shiftRight_eq_div_pow, Int.natCast_ediv, Int.natCast_pow]; rfl

end Go.Proofs.Ytiieglfpmmhfiaa
