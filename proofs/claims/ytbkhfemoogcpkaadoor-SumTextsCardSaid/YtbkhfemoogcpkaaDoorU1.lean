/- Words of 32 and of 64 bits; turns of words. -/
import Derived.Test.YtbkhfemoogcpkaaDoorRows
import Derived.Test.YtbkhfemoogcpkaaDoorBased
import Derived.Tactics
import Derived.Tactics2
import Derived.WalkSpells
import Derived.Laws.Rows
import Derived.BigQuiet
import Derived.Deep.QuietTactic
import Derived.StillTailTactics
namespace Go.Proofs.YtbkhfemoogcpkaaDoor
open Go.RowKit Go.Uc

/-- A word of 32 bits, as the number in its cell. -/
def v32 (x : BitVec 32) : Int := x.toNat
/-- A word of 64 bits, as the number in its cell. -/
def v64 (x : BitVec 64) : Int := x.toNat

theorem ofInt_v32 (x : BitVec 32) : BitVec.ofInt IntKind.u32.bits (v32 x) = x := by
  show BitVec.ofInt 32 (x.toNat : Int) = x
  rw [BitVec.ofInt_natCast, BitVec.ofNat_toNat, BitVec.setWidth_eq]
theorem ofInt_v64 (x : BitVec 64) : BitVec.ofInt IntKind.u64.bits (v64 x) = x := by
  show BitVec.ofInt 64 (x.toNat : Int) = x
  rw [BitVec.ofInt_natCast, BitVec.ofNat_toNat, BitVec.setWidth_eq]
theorem v32_nonneg (x : BitVec 32) : 0 ≤ v32 x := by unfold v32; omega
theorem v32_le (x : BitVec 32) : v32 x ≤ 4294967295 := by have := x.isLt; unfold v32; omega
theorem v64_nonneg (x : BitVec 64) : 0 ≤ v64 x := by unfold v64; omega
theorem v64_le (x : BitVec 64) : v64 x ≤ 18446744073709551615 := by have := x.isLt; unfold v64; omega
theorem add32 (x y : BitVec 32) : IntKind.u32.wrap (v32 x + v32 y) = v32 (x + y) := by
  rw [IntKind.wrap_u32]; unfold v32; rw [BitVec.toNat_add]; omega
theorem add64 (x y : BitVec 64) : IntKind.u64.wrap (v64 x + v64 y) = v64 (x + y) := by
  rw [IntKind.wrap_u64]; unfold v64; rw [BitVec.toNat_add]; omega
theorem wrap32_nat {n : Nat} (h : n < 4294967296) : IntKind.u32.wrap (n : Int) = n := by rw [IntKind.wrap_u32]; omega
theorem wrap64_nat {n : Nat} (h : n < 18446744073709551616) : IntKind.u64.wrap (n : Int) = n := by rw [IntKind.wrap_u64]; omega
theorem xor32 (x y : BitVec 32) : bits .xor .u32 (v32 x) (v32 y) = v32 (x ^^^ y) := by
  unfold bits
  simp only [ofInt_v32]
  exact wrap32_nat (x ^^^ y).isLt
theorem and32 (x y : BitVec 32) : bits .and .u32 (v32 x) (v32 y) = v32 (x &&& y) := by
  unfold bits
  simp only [ofInt_v32]
  exact wrap32_nat (x &&& y).isLt
theorem or32 (x y : BitVec 32) : bits .or .u32 (v32 x) (v32 y) = v32 (x ||| y) := by
  unfold bits
  simp only [ofInt_v32]
  exact wrap32_nat (x ||| y).isLt
theorem or64 (x y : BitVec 64) : bits .or .u64 (v64 x) (v64 y) = v64 (x ||| y) := by
  unfold bits
  simp only [ofInt_v64]
  exact wrap64_nat (x ||| y).isLt
theorem shl32 (x : BitVec 32) (k : Nat) : IntKind.u32.wrap (v32 x * 2 ^ k) = v32 (x <<< k) := by
  rw [IntKind.wrap_u32]; unfold v32; rw [BitVec.toNat_shiftLeft, Nat.shiftLeft_eq, Int.natCast_emod, Int.natCast_mul, Int.natCast_pow, Int.natCast_pow]; rfl
theorem shl64 (x : BitVec 64) (k : Nat) : IntKind.u64.wrap (v64 x * 2 ^ k) = v64 (x <<< k) := by
  rw [IntKind.wrap_u64]; unfold v64; rw [BitVec.toNat_shiftLeft, Nat.shiftLeft_eq, Int.natCast_emod, Int.natCast_mul, Int.natCast_pow, Int.natCast_pow]; rfl
theorem shr32 (x : BitVec 32) (k : Nat) : v32 x / 2 ^ k = v32 (x >>> k) := by
  unfold v32; rw [BitVec.toNat_ushiftRight, Nat.shiftRight_eq_div_pow, Int.natCast_ediv, Int.natCast_pow]; rfl
theorem shr64 (x : BitVec 64) (k : Nat) : v64 x / 2 ^ k = v64 (x >>> k) := by
  unfold v64; rw [BitVec.toNat_ushiftRight, Nat.shiftRight_eq_div_pow, Int.natCast_ediv, Int.natCast_pow]; rfl

/-- A word turned to the right. -/
def ror (x : BitVec 32) (k : Nat) : BitVec 32 := x >>> k ||| x <<< (32 - k)

theorem rot (k : Nat) (hk : k < 32) (h0 : 0 < k) (m : Int) (hm : bits .and .u64 (IntKind.u64.wrap m) 31 = ((32 - k : Nat) : Int)) (x : BitVec 32) (w : World) :
    Calls Tryd.prog 59 #[.int .u32 (v32 x), .int .i64 m] w fun e w' => e = .returned (.int .u32 (v32 (ror x k))) ∧ w' = w := by
  have h1 : (0 : Int) ≤ ((32 - k : Nat) : Int) := by omega
  have h2 : ((32 - k : Nat) : Int) ≤ 32 := by omega
  have e1 : (((32 - k : Nat) : Int)).toNat = 32 - k := by omega
  have h3 : (0 : Int) ≤ 32 - ((32 - k : Nat) : Int) := by omega
  have h5 : IntKind.u64.wrap (32 - ((32 - k : Nat) : Int)) = (k : Int) := by rw [IntKind.wrap_u64]; omega
  have h6 : (0 : Int) ≤ (k : Int) := by omega
  have h7 : (k : Int) ≤ 32 := by omega
  have ek : ((k : Int)).toNat = k := by omega
  have hs1 := shl32 x (32 - k)
  have hs2 := shr32 x k
  have ho := or32
  go_enter Tryd.func59, Tryd.ntmps59
  go_wp2
  go_ret
  exact ⟨by rw [BitVec.or_comm]; rfl, rfl⟩

theorem rr2 (x : BitVec 32) (w : World) :
    Calls Tryd.prog 48 #[.int .u32 (v32 x), .int .i64 2] w fun e w' => e = .returned (.int .u32 (v32 (ror x 2))) ∧ w' = w := by
  have h := rot 2 (by decide) (by decide) (-2) (by kernel_rfl) x w
  have hn : IntKind.i64.wrap (-2) = -2 := by kernel_rfl
  go_enter Tryd.func48, Tryd.ntmps48
  go_wp2_with fail
  refine h.mono ?_
  rintro e w' ⟨rfl, rfl⟩
  go_wp2
  go_ret
  exact ⟨rfl, rfl⟩
theorem rr6 (x : BitVec 32) (w : World) :
    Calls Tryd.prog 48 #[.int .u32 (v32 x), .int .i64 6] w fun e w' => e = .returned (.int .u32 (v32 (ror x 6))) ∧ w' = w := by
  have h := rot 6 (by decide) (by decide) (-6) (by kernel_rfl) x w
  have hn : IntKind.i64.wrap (-6) = -6 := by kernel_rfl
  go_enter Tryd.func48, Tryd.ntmps48
  go_wp2_with fail
  refine h.mono ?_
  rintro e w' ⟨rfl, rfl⟩
  go_wp2
  go_ret
  exact ⟨rfl, rfl⟩
theorem rr7 (x : BitVec 32) (w : World) :
    Calls Tryd.prog 48 #[.int .u32 (v32 x), .int .i64 7] w fun e w' => e = .returned (.int .u32 (v32 (ror x 7))) ∧ w' = w := by
  have h := rot 7 (by decide) (by decide) (-7) (by kernel_rfl) x w
  have hn : IntKind.i64.wrap (-7) = -7 := by kernel_rfl
  go_enter Tryd.func48, Tryd.ntmps48
  go_wp2_with fail
  refine h.mono ?_
  rintro e w' ⟨rfl, rfl⟩
  go_wp2
  go_ret
  exact ⟨rfl, rfl⟩
theorem rr11 (x : BitVec 32) (w : World) :
    Calls Tryd.prog 48 #[.int .u32 (v32 x), .int .i64 11] w fun e w' => e = .returned (.int .u32 (v32 (ror x 11))) ∧ w' = w := by
  have h := rot 11 (by decide) (by decide) (-11) (by kernel_rfl) x w
  have hn : IntKind.i64.wrap (-11) = -11 := by kernel_rfl
  go_enter Tryd.func48, Tryd.ntmps48
  go_wp2_with fail
  refine h.mono ?_
  rintro e w' ⟨rfl, rfl⟩
  go_wp2
  go_ret
  exact ⟨rfl, rfl⟩
theorem rr13 (x : BitVec 32) (w : World) :
    Calls Tryd.prog 48 #[.int .u32 (v32 x), .int .i64 13] w fun e w' => e = .returned (.int .u32 (v32 (ror x 13))) ∧ w' = w := by
  have h := rot 13 (by decide) (by decide) (-13) (by kernel_rfl) x w
  have hn : IntKind.i64.wrap (-13) = -13 := by kernel_rfl
  go_enter Tryd.func48, Tryd.ntmps48
  go_wp2_with fail
  refine h.mono ?_
  rintro e w' ⟨rfl, rfl⟩
  go_wp2
  go_ret
  exact ⟨rfl, rfl⟩
theorem rr17 (x : BitVec 32) (w : World) :
    Calls Tryd.prog 48 #[.int .u32 (v32 x), .int .i64 17] w fun e w' => e = .returned (.int .u32 (v32 (ror x 17))) ∧ w' = w := by
  have h := rot 17 (by decide) (by decide) (-17) (by kernel_rfl) x w
  have hn : IntKind.i64.wrap (-17) = -17 := by kernel_rfl
  go_enter Tryd.func48, Tryd.ntmps48
  go_wp2_with fail
  refine h.mono ?_
  rintro e w' ⟨rfl, rfl⟩
  go_wp2
  go_ret
  exact ⟨rfl, rfl⟩
theorem rr18 (x : BitVec 32) (w : World) :
    Calls Tryd.prog 48 #[.int .u32 (v32 x), .int .i64 18] w fun e w' => e = .returned (.int .u32 (v32 (ror x 18))) ∧ w' = w := by
  have h := rot 18 (by decide) (by decide) (-18) (by kernel_rfl) x w
  have hn : IntKind.i64.wrap (-18) = -18 := by kernel_rfl
  go_enter Tryd.func48, Tryd.ntmps48
  go_wp2_with fail
  refine h.mono ?_
  rintro e w' ⟨rfl, rfl⟩
  go_wp2
  go_ret
  exact ⟨rfl, rfl⟩
theorem rr19 (x : BitVec 32) (w : World) :
    Calls Tryd.prog 48 #[.int .u32 (v32 x), .int .i64 19] w fun e w' => e = .returned (.int .u32 (v32 (ror x 19))) ∧ w' = w := by
  have h := rot 19 (by decide) (by decide) (-19) (by kernel_rfl) x w
  have hn : IntKind.i64.wrap (-19) = -19 := by kernel_rfl
  go_enter Tryd.func48, Tryd.ntmps48
  go_wp2_with fail
  refine h.mono ?_
  rintro e w' ⟨rfl, rfl⟩
  go_wp2
  go_ret
  exact ⟨rfl, rfl⟩
theorem rr22 (x : BitVec 32) (w : World) :
    Calls Tryd.prog 48 #[.int .u32 (v32 x), .int .i64 22] w fun e w' => e = .returned (.int .u32 (v32 (ror x 22))) ∧ w' = w := by
  have h := rot 22 (by decide) (by decide) (-22) (by kernel_rfl) x w
  have hn : IntKind.i64.wrap (-22) = -22 := by kernel_rfl
  go_enter Tryd.func48, Tryd.ntmps48
  go_wp2_with fail
  refine h.mono ?_
  rintro e w' ⟨rfl, rfl⟩
  go_wp2
  go_ret
  exact ⟨rfl, rfl⟩
theorem rr25 (x : BitVec 32) (w : World) :
    Calls Tryd.prog 48 #[.int .u32 (v32 x), .int .i64 25] w fun e w' => e = .returned (.int .u32 (v32 (ror x 25))) ∧ w' = w := by
  have h := rot 25 (by decide) (by decide) (-25) (by kernel_rfl) x w
  have hn : IntKind.i64.wrap (-25) = -25 := by kernel_rfl
  go_enter Tryd.func48, Tryd.ntmps48
  go_wp2_with fail
  refine h.mono ?_
  rintro e w' ⟨rfl, rfl⟩
  go_wp2
  go_ret
  exact ⟨rfl, rfl⟩
end Go.Proofs.YtbkhfemoogcpkaaDoor
