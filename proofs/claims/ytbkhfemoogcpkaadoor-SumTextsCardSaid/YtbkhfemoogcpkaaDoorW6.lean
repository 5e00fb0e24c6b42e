/- The document's Print. -/
import Derived.Test.YtbkhfemoogcpkaaDoorW5
import Derived.Deep.RegionHeld3
namespace Go.Proofs.YtbkhfemoogcpkaaDoor
set_option maxRecDepth 100000
open Go.RowKit Go.Uc

set_option maxHeartbeats 1000000 in
theorem hex_any (x : BitVec 64) (w : World) : Calls Tryd.prog 15 #[.int .u64 (v64 x)] w fun e w' => e = .returned (.string (str (text64 x))) ∧ Keeps Non w w' := by
  rw [show v64 x = ((x.toNat : Nat) : Int) from rfl]
  obtain ⟨X, hX⟩ : ∃ X, X = x.toNat := ⟨_, rfl⟩
  have HT : Hid (lows X 16 = text64 x) := by show _ = _; rw [hX]; rfl
  have HXL := Lib.hid (show X < 18446744073709551616 by rw [hX]; exact x.isLt)
  rw [← hX]
  clear hX
  go_enter Tryd.func15, Tryd.ntmps15
  go_wp2_with fail
  go_loopw [0, 3, 4] (fun v s i wr => ∃ k m : Nat, k ≤ 16 ∧ Hid (m = X / 16 ^ k) ∧ v = .int .u64 m ∧ s = .string (str (lows X k)) ∧ i = .int .i64 k ∧ Keeps Non w wr) (fun _ _ i _ => 16 - (intOf i).toNat)
  case atStart => exact ⟨0, X, by omega, by show _ = _; simp, rfl, rfl, rfl, Keeps.refl _ _⟩
  case round =>
    obtain ⟨k, m, hk, hm, rfl, rfl, rfl, hK⟩ := hrel
    by_cases hlt : k < 16
    · obtain ⟨d, hd⟩ : ∃ d, d = m % 16 := ⟨_, rfl⟩
      have hmd : (m : Int) % 16 = (d : Int) := by omega
      have hd16 : d < 16 := by omega
      have hq : IntKind.u64.wrap ((m : Int) / 16) = (m : Int) / 16 := by
        have := hm.out
        have := Nat.div_le_self X (16 ^ k)
        have := HXL.out
        rw [IntKind.wrap_u64]
        omega
      have hlow : dig d :: lows X k = lows X (k + 1) := by rw [hd, hm.out]; rfl
      have HM : Hid (m / 16 = X / 16 ^ (k + 1)) := by show _ = _; rw [hm.out, Nat.pow_succ, Nat.div_div_eq_div_mul]
      have HLow := Lib.hid hlow
      have hsl : (str [dig d]).size + (str (lows X k)).size ≤ 9223372036854775807 := by rw [str_size, str_size, lows_length]; simp; omega
      have r1 : ∀ w : World, (Op.stringOp .add (str [dig d]) (str (lows X k))).run Tryd.prog w = .ok (.string (str (lows X (k + 1)))) w := fun w => by rw [run_string_add_sum w _ _ hsl, str_append, ← HLow.out]; rfl
      clear hlow hsl hd
      obtain ⟨wy, rfl⟩ : ∃ W : World, W = wr := ⟨_, rfl⟩
      have hK2 := hK.alloc (.cells #[bv (dig d)] 5)
      have hcv : (convert 32 9 (.slice (some ⟨wy.heap.size, 0, none⟩) 1 1)).run Tryd.prog (wy.alloc (.cells #[bv (dig d)] 5)) = .ok (.string (str [dig d])) (wy.alloc (.cells #[bv (dig d)] 5)) :=
        run_convert_at 32 9 5 Tryd.underlying32 Tryd.underlying5 Tryd.underlying9 _ _ (At.lit wy 5 (0, 0) #[bv (dig d)] [dig d] rfl) _ _ rfl
      by_cases h9 : d < 10
      · have hg9 : ¬ (9 : Int) < (d : Int) := by omega
        have hbv : bv (dig d) = .int .u8 (48 + (d : Int)) := by
          unfold dig; rw [if_pos h9, bv_ofNat _ (by omega)]; congr 1
        rw [hbv] at hcv hK2
        clear hbv
        go_wp2_with fail
        go_roundw
        case rel => exact ⟨k + 1, m / 16, by omega, HM, by go_num, rfl, by go_num, hK2⟩
        case measure => simp [intOf]; omega
      · have hg9 : (9 : Int) < (d : Int) := by omega
        have hbv : bv (dig d) = .int .u8 (97 + (d : Int) - 10) := by
          unfold dig; rw [if_neg h9, bv_ofNat _ (by omega)]; congr 1; omega
        rw [hbv] at hcv hK2
        clear hbv
        go_wp2_with fail
        go_roundw
        case rel => exact ⟨k + 1, m / 16, by omega, HM, by go_num, rfl, by go_num, hK2⟩
        case measure => simp [intOf]; omega
    · obtain rfl : k = 16 := by omega
      go_wp2_with fail
      go_ret
      exact ⟨by rw [HT.out]; rfl, hK⟩

set_option maxHeartbeats 1000000 in
theorem refprint_any (s : Sum4) (w : World) : Calls Tryd.prog 8 #[s.v] w fun e w' => e = .returned (.string (str (text4 s.a s.b s.c s.d))) ∧ Keeps Non w w' := by
  obtain ⟨A, B, C, D⟩ := s
  rw [show (⟨A, B, C, D⟩ : Sum4).v = .agg #[.int .u64 (v64 A), .int .u64 (v64 B), .int .u64 (v64 C), .int .u64 (v64 D)] from rfl]
  have l2 : (str (text64 A)).size + (str (text64 B)).size ≤ 9223372036854775807 := by rw [str_size, str_size, text64_length, text64_length]; decide
  have l3 : (str (text64 A ++ text64 B)).size + (str (text64 C)).size ≤ 9223372036854775807 := by rw [str_size, str_size, text64_length, List.length_append, text64_length, text64_length]; decide
  have l4 : (str (text64 A ++ text64 B ++ text64 C)).size + (str (text64 D)).size ≤ 9223372036854775807 := by rw [str_size, str_size, text64_length, List.length_append, List.length_append, text64_length, text64_length, text64_length]; decide
  obtain ⟨T2, hT2⟩ : ∃ T, T = text64 A ++ text64 B := ⟨_, rfl⟩
  obtain ⟨T3, hT3⟩ : ∃ T, T = T2 ++ text64 C := ⟨_, rfl⟩
  have r2 : ∀ w : World, (Op.stringOp .add (str (text64 A)) (str (text64 B))).run Tryd.prog w = .ok (.string (str T2)) w := fun w => by rw [run_string_add_sum w _ _ l2, str_append, hT2]
  have r3 : ∀ w : World, (Op.stringOp .add (str T2) (str (text64 C))).run Tryd.prog w = .ok (.string (str T3)) w := fun w => by rw [hT3, hT2, run_string_add_sum w _ _ l3, str_append]
  have r4 : ∀ w : World, (Op.stringOp .add (str T3) (str (text64 D))).run Tryd.prog w = .ok (.string (str (text4 A B C D))) w := fun w => by rw [hT3, hT2, run_string_add_sum w _ _ l4, str_append]; rfl
  clear hT2 hT3
  clear l2 l3 l4
  go_enter Tryd.func8, Tryd.ntmps8
  go_upto_region 1 with fail
  have hB := Blk.new w 24 #[.int .u64 (v64 A), .int .u64 (v64 B), .int .u64 (v64 C), .int .u64 (v64 D)]
  have hK := (Keeps.refl Non w).alloc (.cells #[.int .u64 (v64 A), .int .u64 (v64 B), .int .u64 (v64 C), .int .u64 (v64 D)] 24)
  obtain ⟨wx, hwx⟩ : ∃ W : World, W = w.alloc (.cells #[.int .u64 (v64 A), .int .u64 (v64 B), .int .u64 (v64 C), .int .u64 (v64 D)] 24) := ⟨_, rfl⟩
  rw [← hwx] at hB hK ⊢
  obtain ⟨b, hb⟩ : ∃ b, b = w.heap.size := ⟨_, rfl⟩
  rw [← hb] at hB ⊢
  clear hwx hb
  have hBd := hB.drew
  have hKd := hK.drew
  have FS : Hid (wx.drew.cell? ⟨b, 0, none⟩ = some (.int .u64 (v64 A)) ∧ wx.drew.cell? ⟨b, 1, none⟩ = some (.int .u64 (v64 B)) ∧ wx.drew.cell? ⟨b, 2, none⟩ = some (.int .u64 (v64 C)) ∧ wx.drew.cell? ⟨b, 3, none⟩ = some (.int .u64 (v64 D))) := ⟨hBd.cell 0, hBd.cell 1, hBd.cell 2, hBd.cell 3⟩
  clear hB hK
  go_region_held3 (fun w' : World => w'.cell? ⟨b, 0, none⟩ = some (.int .u64 (v64 A)) ∧ w'.cell? ⟨b, 1, none⟩ = some (.int .u64 (v64 B)) ∧ w'.cell? ⟨b, 2, none⟩ = some (.int .u64 (v64 C)) ∧ w'.cell? ⟨b, 3, none⟩ = some (.int .u64 (v64 D)))
    (with_reducible (exact FS.out))
    (first | (go_at_call 15; refine (hex_any _ _).mono ?_; rintro e w2 ⟨rfl, hK2⟩; go_must (replace hBd := hBd.non hK2; replace hKd := hKd.non hK2; clear hK2; replace FS : Hid (w2.cell? ⟨b, 0, none⟩ = some (.int .u64 (v64 A)) ∧ w2.cell? ⟨b, 1, none⟩ = some (.int .u64 (v64 B)) ∧ w2.cell? ⟨b, 2, none⟩ = some (.int .u64 (v64 C)) ∧ w2.cell? ⟨b, 3, none⟩ = some (.int .u64 (v64 D))) := ⟨hBd.cell 0, hBd.cell 1, hBd.cell 2, hBd.cell 3⟩)))
  go_wp2_with fail
  go_ret
  exact ⟨rfl, hKd⟩
end Go.Proofs.YtbkhfemoogcpkaaDoor
