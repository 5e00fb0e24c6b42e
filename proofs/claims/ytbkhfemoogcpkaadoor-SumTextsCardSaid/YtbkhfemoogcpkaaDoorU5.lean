/- The padding (the document's padded). -/
import Derived.Test.YtbkhfemoogcpkaaDoorU4
namespace Go.Proofs.YtbkhfemoogcpkaaDoor
open Go.RowKit Go.Uc

theorem info5 : (Tryd.prog.info? 5).map (fun i => (i.zero, i.size, i.bytes)) = some (some (.int .u8 0), 1, 1) := by kernel_rfl
/-- How many noughts. -/
def gaps (n : Nat) : Nat := (119 - n % 64) % 64
/-- The first j bytes of a number, the highest ahead. -/
def beU (n j : Nat) : List UInt8 := (List.range j).map fun i => UInt8.ofNat (n / 256 ^ (7 - i) % 256)
theorem beU_length (n j : Nat) : (beU n j).length = j := by simp [beU]
theorem beU_succ (n j : Nat) : beU n (j + 1) = beU n j ++ [UInt8.ofNat (n / 256 ^ (7 - j) % 256)] := by simp [beU, List.range_succ]
/-- Bytes with the padding of SHA-256. -/
def padP (bs : List UInt8) : List UInt8 := ((bs ++ [128]) ++ zeros (gaps bs.length)) ++ beU (8 * bs.length) 8
theorem padP_length (bs : List UInt8) : (padP bs).length = bs.length + gaps bs.length + 9 := by
  simp only [padP, List.length_append, zeros_length, beU_length, List.length_cons, List.length_nil]; omega
theorem padP_mod (bs : List UInt8) : (padP bs).length % 64 = 0 := by rw [padP_length]; unfold gaps; omega
theorem gaps_mod (n j : Nat) (h : j ≤ gaps n) : (n + 1 + j) % 64 = 56 ↔ j = gaps n := by unfold gaps at *; omega
theorem gaps_lt (n : Nat) : gaps n < 64 := by unfold gaps; omega
theorem zeros_snoc (n : Nat) : zeros n ++ [0] = zeros (n + 1) := by unfold zeros; rw [List.replicate_succ']

def lenV : Value → Nat
  | .slice _ n _ => n
  | _ => 0

end Go.Proofs.YtbkhfemoogcpkaaDoor
