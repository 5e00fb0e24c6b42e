import Derived.Test.YtmlffigfhhoihaaProg
import Derived.Test.YtmlffigfhhoihaaBase
namespace Go.Proofs.Ytmlffigfhhoihaa
open Go.RowKit Go.Uc

def put (bs : List UInt8) (at_ size n : Nat) : List UInt8 := bs.take at_ ++ le size n ++ bs.drop (at_ + size)
theorem put_length (bs : List UInt8) (at_ size n : Nat) (h : at_ + size ≤ bs.length) : (put bs at_ size n).length = bs.length := by
  simp [put, le_length]; omega
theorem put88 {bs : List UInt8} (at_ size n : Nat) (hl : bs.length = 88) (h : at_ + size ≤ 88) : (put bs at_ size n).length = 88 := by rw [put_length _ _ _ _ (by omega), hl]
/-- put: bytes at..at+size of a piece become the number's. -/
theorem put_any (g : Nat) (t : TypeId) (bs : List UInt8) (at_ size n : Nat) (w : World) (hb : Blk w g t (pc bs)) (hl : bs.length = 88) (h1 : at_ + size ≤ 88) (h2 : size ≤ 8) (_hn : n < 9223372036854775808) :
    Calls Try.prog 31 #[.pointer (some ⟨g, 0, none⟩), .int .i64 at_, .int .i64 size, .int .i64 n] w fun e w' =>
      e = .returned (.tuple #[]) ∧ Blk w' g t (pc (put bs at_ size n)) ∧ Keeps (Only g) w w' := by
  go_enter Try.func31, Try.ntmps31
  go_wp2
  go_loopw [10] (fun i wr => ∃ k : Nat, k ≤ size ∧ i = .int .i64 k ∧ Blk wr g t (pc (bs.take at_ ++ le k n ++ bs.drop (at_ + k))) ∧ Keeps (Only g) w wr) (fun i _ => size - (intOf i).toNat)
  case atStart => exact ⟨0, Nat.zero_le _, rfl, by simpa [le] using hb, Keeps.refl _ _⟩
  case round =>
    obtain ⟨k, hk, rfl, hB, hK⟩ := hrel
    by_cases hlt : k < size
    · have hf := hB.frozen (at_ + k)
      have hc : ∃ v, wr.cell? ⟨g, at_ + k, none⟩ = some v := by
        rw [hB.cell]
        exact ⟨_, Array.getElem?_eq_getElem (by simp only [pc_size, List.length_append, List.length_take, List.length_drop, le_length, hl]; omega)⟩
      obtain ⟨v, hc⟩ := hc
      go_wp2
      go_region
      all_goals
        go_wp2
        go_roundw
      case rel =>
        rw [shr_byte]
        have hB' := (hB.set (at_ + k) (bv (UInt8.ofNat (n / 256 ^ k % 256)))).drew
        rw [set_pc, put_step bs at_ k n (by omega)] at hB'
        exact ⟨k + 1, by omega, by go_num, hB', (hK.set (p := ⟨g, at_ + k, none⟩) rfl _).drew⟩
      case measure => simp [intOf]; omega
    · obtain rfl : k = size := by omega
      go_wp2
      go_end0
      exact ⟨rfl, hB, hK⟩
end Go.Proofs.Ytmlffigfhhoihaa
