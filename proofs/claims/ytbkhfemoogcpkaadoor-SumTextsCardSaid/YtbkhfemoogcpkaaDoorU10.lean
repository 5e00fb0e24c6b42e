/- Numbers as text, base 16. -/
import Derived.Test.YtbkhfemoogcpkaaDoorU5
import Derived.Lib.LaidTab
namespace Go.Proofs.YtbkhfemoogcpkaaDoor
set_option maxRecDepth 100000
open Go.RowKit Go.Uc

set_option maxRecDepth 100000 in
theorem rep0 (s : ByteArray) (w : World) : Calls Tryd.prog 12 #[.string s, .int .i64 0] w fun e w' => e = .returned (.string ⟨#[]⟩) ∧ w' = w := by
  go_enter Tryd.func12, Tryd.ntmps12
  go_wp2_with fail
  go_ret
  exact ⟨rfl, rfl⟩
theorem pow16 (w : World) : Calls Tryd.prog 52 #[.int .i64 16] w fun e w' => e = .returned (.bool true) ∧ w' = w := by
  have h15 : IntKind.i64.wrap (16 - 1) = 15 := by kernel_rfl
  have hb : bits .and .i64 16 15 = 0 := by kernel_rfl
  go_enter Tryd.func52, Tryd.ntmps52
  go_wp2_with fail
  go_ret
  exact ⟨rfl, rfl⟩
theorem tz64 (w : World) (h : w.cell? ⟨6, 15, none⟩ = some (.int .u8 4)) : Calls Tryd.prog 61 #[.int .u64 16] w fun e w' => e = .returned (.int .i64 4) ∧ w' = w := by
  have hb : bits .and .u64 16 (IntKind.u64.wrap (-16)) = 16 := by kernel_rfl
  go_enter Tryd.func61, Tryd.ntmps61
  go_wp2_with fail
  go_ret
  exact ⟨rfl, rfl⟩
theorem tz (w : World) (h : w.cell? ⟨6, 15, none⟩ = some (.int .u8 4)) : Calls Tryd.prog 53 #[.int .u64 16] w fun e w' => e = .returned (.int .i64 4) ∧ w' = w := by
  go_enter Tryd.func53, Tryd.ntmps53
  go_wp2_with fail
  refine (tz64 w h).mono ?_
  rintro e w' ⟨rfl, rfl⟩
  go_wp2_with fail
  go_ret
  exact ⟨rfl, rfl⟩

/-- A digit. -/
def dig (n : Nat) : UInt8 := if n < 10 then UInt8.ofNat (48 + n) else UInt8.ofNat (87 + n)
/-- The lowest k digits. -/
def lows (n : Nat) : Nat → List UInt8
  | 0 => []
  | k + 1 => dig (n / 16 ^ k % 16) :: lows n k
theorem lows_length (n k : Nat) : (lows n k).length = k := by
  induction k with
  | zero => rfl
  | succ k ih => simp [lows, ih]
theorem digs (d : Nat) (hd : d < 16) (w : World) :
    (Instr.index 9 (.string { data := #[48, 49, 50, 51, 52, 53, 54, 55, 56, 57, 97, 98, 99, 100, 101, 102, 103, 104, 105, 106, 107, 108, 109, 110, 111, 112, 113, 114, 115, 116, 117, 118, 119, 120, 121, 122] }) (.int .u64 (d : Int))).run Tryd.prog w = .ok (.int .u8 ((dig d).toNat : Int)) w := by
  have h : d = 0 ∨ d = 1 ∨ d = 2 ∨ d = 3 ∨ d = 4 ∨ d = 5 ∨ d = 6 ∨ d = 7 ∨ d = 8 ∨ d = 9 ∨ d = 10 ∨ d = 11 ∨ d = 12 ∨ d = 13 ∨ d = 14 ∨ d = 15 := by omega
  rcases h with rfl | rfl | rfl | rfl | rfl | rfl | rfl | rfl | rfl | rfl | rfl | rfl | rfl | rfl | rfl | rfl <;> rfl
theorem and15 (m : Nat) (hm : m < 16 ^ 16) : bits .and .u64 (m : Int) 15 = ((m % 16 : Nat) : Int) := by
  have h1 : (m : Int) = v64 (BitVec.ofNat 64 m) := by unfold v64; rw [BitVec.toNat_ofNat, Nat.mod_eq_of_lt (by omega)]
  have h2 : (15 : Int) = v64 15#64 := rfl
  have h3 : bits .and .u64 (v64 (BitVec.ofNat 64 m)) (v64 15#64) = v64 (BitVec.ofNat 64 m &&& 15#64) := by
    unfold bits
    simp only [ofInt_v64]
    exact wrap64_nat (BitVec.ofNat 64 m &&& 15#64).isLt
  rw [h1, h2, h3]
  unfold v64
  rw [BitVec.toNat_and, BitVec.toNat_ofNat, Nat.mod_eq_of_lt (show m < 2 ^ 64 by omega)]
  have : m &&& 15 = m % 16 := Nat.and_two_pow_sub_one_eq_mod m 4
  exact congrArg _ this
theorem zeros_set (p : Nat) (L : List UInt8) (x : UInt8) : (zeros (p + 1) ++ L).set p x = zeros p ++ (x :: L) := by
  have h : zeros (p + 1) = zeros p ++ [0] := (zeros_snoc p).symm
  rw [h, List.append_assoc, List.set_append_right _ _ (by simp [zeros_length])]
  simp [zeros_length]
theorem zero95 (w : World) : (zeroValue 95).run Tryd.prog w = .ok (.agg (pc (zeros 65))) w := by kernel_rfl

set_option maxRecDepth 100000 in
set_option maxHeartbeats 1000000 in
theorem formatBits_any (n : Nat) (hl : 16 ^ 15 ≤ n) (hu : n < 16 ^ 16) (w : World) (h : w.cell? ⟨6, 15, none⟩ = some (.int .u8 4)) :
    Calls Tryd.prog 36 #[.slice none 0 0, .int .u64 n, .int .i64 16, .bool false, .bool false] w fun e w' => e = .returned (.tuple #[.slice none 0 0, .string (str (lows n 16))]) ∧ Keeps Non w w' := by
  have hz := zero95
  have hp := pow16
  go_enter Tryd.func36, Tryd.ntmps36
  go_wp2_with fail
  refine (pow16 _).mono ?_
  rintro e w' ⟨rfl, rfl⟩
  obtain ⟨wx, hwx⟩ : ∃ W : World, W = w.alloc (.cells (pc (zeros 65)) 95) := ⟨_, rfl⟩
  have hR : Blk wx w.heap.size 95 (pc (zeros 65)) := by rw [hwx]; exact Blk.new _ _ _
  have hK : Keeps Non w wx := by rw [hwx]; exact (Keeps.refl _ _).alloc _
  rw [← hwx]
  have h6 := hK.cell h id
  obtain ⟨b, hb⟩ : ∃ b, b = w.heap.size := ⟨_, rfl⟩
  rw [← hb] at hR ⊢
  have hbL : w.heap.size ≤ b := by omega
  clear hwx hb h hz hp
  go_wp2_with fail
  refine (tz wx h6).mono ?_
  rintro e w' ⟨rfl, rfl⟩
  clear h6
  go_wp2_with fail
  go_loopw [1, 13] (fun u i wr => ∃ (k m : Nat), k ≤ 15 ∧ m = n / 16 ^ k ∧ u = .int .u64 m ∧ i = .int .i64 ((65 - k : Nat) : Int) ∧ Blk wr b 95 (pc (zeros (65 - k) ++ lows n k)) ∧ Keeps Non w wr) (fun _ i _ => (intOf i).toNat)
  case atStart => exact ⟨0, n, by omega, by simp, rfl, rfl, by simpa [lows] using hR, hK⟩
  case round =>
    obtain ⟨k, m, hk, hm, rfl, rfl, hB, hK1⟩ := hrel
    have hmu : m < 16 ^ 16 := by rw [hm]; exact Nat.lt_of_le_of_lt (Nat.div_le_self _ _) hu
    obtain ⟨p, hp⟩ : ∃ p, p + k = 64 := ⟨64 - k, by omega⟩
    rw [show 65 - k = p + 1 by omega] at hB ⊢
    have p0 : (0 : Int) ≤ (p : Int) := by omega
    have p1 : (p : Int) < 65 := by omega
    have p2 : ((p : Int)).toNat = p := by omega
    have p3 : IntKind.i64.wrap (((p + 1 : Nat) : Int) - 1) = (p : Int) := by rw [IntKind.wrap_i64]; omega
    obtain ⟨d, hd⟩ : ∃ d, d = m % 16 := ⟨_, rfl⟩
    have hd16 : d < 16 := by omega
    have hdig := digs d hd16
    have hand : bits .and .u64 (m : Int) 15 = (d : Int) := by rw [hd]; exact and15 m hmu
    have hf := hB.frozen p
    have hc : ∃ v, wr.cell? ⟨b, p, none⟩ = some v := by
      rw [hB.cell, pc_get]
      exact ⟨_, by rw [List.getElem?_eq_getElem (by simp [zeros_length, lows_length]; omega)]; rfl⟩
    obtain ⟨v, hc⟩ := hc
    have HM := Lib.hid (And.intro hm hd)
    clear hm hd
    obtain ⟨wx, rfl⟩ : ∃ W : World, W = wr := ⟨_, rfl⟩
    obtain ⟨P1, hP1⟩ : ∃ P1 : Int, P1 = ((p + 1 : Nat) : Int) := ⟨_, rfl⟩
    rw [← hP1] at p3 ⊢
    have HP1 := Lib.hid hP1
    clear hP1
    by_cases hlt : k < 15
    · have hm16 : (16 : Int) ≤ (m : Int) := by
        have h1 := HM.out.1
        have : 16 ≤ n / 16 ^ k := by
          rw [Nat.le_div_iff_mul_le (Nat.pow_pos (by omega))]
          calc 16 * 16 ^ k = 16 ^ (k + 1) := by rw [Nat.pow_succ]; omega
            _ ≤ 16 ^ 15 := Nat.pow_le_pow_right (by omega) (by omega)
            _ ≤ n := hl
        omega
      go_wp2_with fail
      go_roundw
      case rel =>
        obtain ⟨hm, hd⟩ := HM.out
        have h1 : m / 16 = n / 16 ^ (k + 1) := by rw [hm, Nat.pow_succ, Nat.div_div_eq_div_mul]
        have hB' := hB.set p (bv (dig d))
        rw [set_pc, zeros_set] at hB'
        have h2 : dig d :: lows n k = lows n (k + 1) := by rw [hd, hm]; rfl
        rw [h2] at hB'
        exact ⟨k + 1, m / 16, by omega, h1, by go_num, by rw [show 65 - (k + 1) = p by omega], by rw [show 65 - (k + 1) = p by omega]; exact hB', hK1.setNew (p := ⟨b, p, none⟩) hbL _⟩
      case measure =>
        have := HP1.out
        simp [intOf]; omega
    · obtain rfl : k = 15 := by omega
      obtain rfl : p = 49 := by omega
      have hm16 : m < 16 := by
        have h1 := HM.out.1
        have : n / 16 ^ 15 < 16 := by rw [Nat.div_lt_iff_lt_mul (Nat.pow_pos (by omega))]; omega
        omega
      have hmi : (m : Int) < 16 := by omega
      have hmd : d = m := by have := HM.out.2; omega
      subst hmd
      have hB' := hB.set 49 (bv (dig d))
      rw [set_pc, zeros_set] at hB'
      have h2 : dig d :: lows n 15 = lows n 16 := by
        have h := HM.out.1
        have : lows n 16 = dig (n / 16 ^ 15 % 16) :: lows n 15 := rfl
        rw [this, ← h, Nat.mod_eq_of_lt hm16]
      rw [h2] at hB'
      have hAt : At (wx.setCell ⟨b, 49, none⟩ (bv (dig d))) (some ⟨b, 49, none⟩) (lows n 16) := by
        have h := (At.blk hB').drop 49
        rw [List.drop_left' (by simp [zeros_length])] at h
        exact h
      have hcv := run_convert_at (P := Tryd.prog) 32 9 5 Tryd.underlying32 Tryd.underlying5 Tryd.underlying9 _ _ hAt 16 16 (by rw [lows_length])
      have hcv' : (convert 32 9 (.slice (some ⟨b, 49, none⟩) 16 16)).run Tryd.prog (wx.setCell ⟨b, 49, none⟩ (.int .u8 ((dig d).toNat : Int))) = .ok (.string (str (lows n 16))) (wx.setCell ⟨b, 49, none⟩ (.int .u8 ((dig d).toNat : Int))) := hcv
      have HK2 := Lib.hid (hK1.setNew (p := ⟨b, 49, none⟩) hbL (.int .u8 ((dig d).toNat : Int)))
      clear hcv hAt h2 hB'
      go_wp2_with fail
      go_ret2
      exact ⟨rfl, HK2.out⟩
end Go.Proofs.YtbkhfemoogcpkaaDoor
