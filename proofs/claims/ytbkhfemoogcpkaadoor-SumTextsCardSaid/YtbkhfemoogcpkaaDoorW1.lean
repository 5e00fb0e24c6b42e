/- Numbers as text, base 16, of any length. -/
import Derived.Test.YtbkhfemoogcpkaaDoorU12
import Derived.Test.YtbkhfemoogcpkaaDoorP4
namespace Go.Proofs.YtbkhfemoogcpkaaDoor
set_option maxRecDepth 100000
open Go.RowKit Go.Uc

set_option maxRecDepth 100000 in
set_option maxHeartbeats 1000000 in
theorem formatBits_all (n q : Nat) (hq : q ≤ 15) (hl : 16 ^ q ≤ n ∨ q = 0) (hu : n < 16 ^ (q + 1)) (w : World) (h : w.cell? ⟨6, 15, none⟩ = some (.int .u8 4)) :
    Calls Tryd.prog 36 #[.slice none 0 0, .int .u64 n, .int .i64 16, .bool false, .bool false] w fun e w' => e = .returned (.tuple #[.slice none 0 0, .string (str (lows n (q + 1)))]) ∧ Keeps Non w w' := by
  have hz := zero95
  have hp := pow16
  go_enter Tryd.func36, Tryd.ntmps36
  go_wp2_with fail
  refine (pow16 _).mono ?_
  rintro e w' ⟨rfl, rfl⟩
  obtain ⟨wx, hwx⟩ : ∃ W : World, W = w.alloc (.cells (pc (zeros 65)) 95) := ⟨_, rfl⟩
  have hR : Blk wx w.heap.size 95 (pc (zeros 65)) := by rw [hwx]; exact Blk.new _ _ _
  have hK : Keeps Non w wx := by rw [hwx]; exact (Keeps.refl _ _).alloc _
  rw [← hwx]
  have h6 := hK.cell h id
  obtain ⟨b, hb⟩ : ∃ b, b = w.heap.size := ⟨_, rfl⟩
  rw [← hb] at hR ⊢
  have hbL : w.heap.size ≤ b := by omega
  clear hwx hb h hz hp
  go_wp2_with fail
  refine (tz wx h6).mono ?_
  rintro e w' ⟨rfl, rfl⟩
  clear h6
  go_wp2_with fail
  go_loopw [1, 13] (fun u i wr => ∃ (k m : Nat), k ≤ q ∧ m = n / 16 ^ k ∧ u = .int .u64 m ∧ i = .int .i64 ((65 - k : Nat) : Int) ∧ Blk wr b 95 (pc (zeros (65 - k) ++ lows n k)) ∧ Keeps Non w wr) (fun _ i _ => (intOf i).toNat)
  case atStart => exact ⟨0, n, by omega, by simp, rfl, rfl, by simpa [lows] using hR, hK⟩
  case round =>
    obtain ⟨k, m, hk, hm, rfl, rfl, hB, hK1⟩ := hrel
    have hmu : m < 16 ^ 16 := by rw [hm]; exact Nat.lt_of_le_of_lt (Nat.div_le_self _ _) (Nat.lt_of_lt_of_le hu (Nat.pow_le_pow_right (by omega) (by omega)))
    obtain ⟨p, hp⟩ : ∃ p, p + k = 64 := ⟨64 - k, by omega⟩
    rw [show 65 - k = p + 1 by omega] at hB ⊢
    have p0 : (0 : Int) ≤ (p : Int) := by omega
    have p1 : (p : Int) < 65 := by omega
    have p2 : ((p : Int)).toNat = p := by omega
    have p3 : IntKind.i64.wrap (((p + 1 : Nat) : Int) - 1) = (p : Int) := by rw [IntKind.wrap_i64]; omega
    obtain ⟨d, hd⟩ : ∃ d, d = m % 16 := ⟨_, rfl⟩
    have hd16 : d < 16 := by omega
    have hdig := digs d hd16
    have hand : bits .and .u64 (m : Int) 15 = (d : Int) := by rw [hd]; exact and15 m hmu
    have hf := hB.frozen p
    have hc : ∃ v, wr.cell? ⟨b, p, none⟩ = some v := by
      rw [hB.cell, pc_get]
      exact ⟨_, by rw [List.getElem?_eq_getElem (by simp [zeros_length, lows_length]; omega)]; rfl⟩
    obtain ⟨v, hc⟩ := hc
    have HM := Lib.hid (And.intro hm hd)
    clear hm hd
    obtain ⟨wx, rfl⟩ : ∃ W : World, W = wr := ⟨_, rfl⟩
    obtain ⟨P1, hP1⟩ : ∃ P1 : Int, P1 = ((p + 1 : Nat) : Int) := ⟨_, rfl⟩
    rw [← hP1] at p3 ⊢
    have HP1 := Lib.hid hP1
    clear hP1
    by_cases hlt : k < q
    · have hm16 : (16 : Int) ≤ (m : Int) := by
        have h1 := HM.out.1
        have : 16 ≤ n / 16 ^ k := by
          rw [Nat.le_div_iff_mul_le (Nat.pow_pos (by omega))]
          calc 16 * 16 ^ k = 16 ^ (k + 1) := by rw [Nat.pow_succ]; omega
            _ ≤ 16 ^ q := Nat.pow_le_pow_right (by omega) (by omega)
            _ ≤ n := hl.resolve_right (by omega)
        omega
      go_wp2_with fail
      go_roundw
      case rel =>
        obtain ⟨hm, hd⟩ := HM.out
        have h1 : m / 16 = n / 16 ^ (k + 1) := by rw [hm, Nat.pow_succ, Nat.div_div_eq_div_mul]
        have hB' := hB.set p (bv (dig d))
        rw [set_pc, zeros_set] at hB'
        have h2 : dig d :: lows n k = lows n (k + 1) := by rw [hd, hm]; rfl
        rw [h2] at hB'
        exact ⟨k + 1, m / 16, by omega, h1, by go_num, by rw [show 65 - (k + 1) = p by omega], by rw [show 65 - (k + 1) = p by omega]; exact hB', hK1.setNew (p := ⟨b, p, none⟩) hbL _⟩
      case measure =>
        have := HP1.out
        simp [intOf]; omega
    · obtain rfl : k = q := by omega
      have hm16 : m < 16 := by
        have h1 := HM.out.1
        have : n / 16 ^ k < 16 := by rw [Nat.div_lt_iff_lt_mul (Nat.pow_pos (by omega))]; rw [Nat.pow_succ] at hu; omega
        omega
      have hmi : (m : Int) < 16 := by omega
      have hmd : d = m := by have := HM.out.2; omega
      subst hmd
      have hB' := hB.set p (bv (dig d))
      rw [set_pc, zeros_set] at hB'
      have h2 : dig d :: lows n k = lows n (k + 1) := by
        have h := HM.out.1
        have : lows n (k + 1) = dig (n / 16 ^ k % 16) :: lows n k := rfl
        rw [this, ← h, Nat.mod_eq_of_lt hm16]
      rw [h2] at hB'
      have hAt : At (wx.setCell ⟨b, p, none⟩ (bv (dig d))) (some ⟨b, p, none⟩) (lows n (k + 1)) := by
        have h := (At.blk hB').drop p
        rw [List.drop_left' (by simp [zeros_length])] at h
        have e : (some (⟨b, 0, none⟩ : Addr)).map (·.add p) = some ⟨b, p, none⟩ := by
          unfold Addr.add
          by_cases h0 : p = 0 <;> simp [h0]
        rw [e] at h
        exact h
      have hcv := run_convert_at (P := Tryd.prog) 32 9 5 Tryd.underlying32 Tryd.underlying5 Tryd.underlying9 _ _ hAt (65 - p) (65 - p) (by rw [lows_length]; omega)
      have hcv' : (convert 32 9 (.slice (some ⟨b, p, none⟩) (65 - p) (65 - p))).run Tryd.prog (wx.setCell ⟨b, p, none⟩ (.int .u8 ((dig d).toNat : Int))) = .ok (.string (str (lows n (k + 1)))) (wx.setCell ⟨b, p, none⟩ (.int .u8 ((dig d).toNat : Int))) := hcv
      have HK2 := Lib.hid (hK1.setNew (p := ⟨b, p, none⟩) hbL (.int .u8 ((dig d).toNat : Int)))
      clear hcv hAt h2 hB'
      have p4 : (p : Int) ≤ 65 := by omega
      go_wp2_with fail
      go_ret2
      exact ⟨rfl, HK2.out⟩
end Go.Proofs.YtbkhfemoogcpkaaDoor
