/- The padding (the document's padded). -/
import Derived.Test.YtgpamjinkiadnaaDoorU4
namespace Go.Proofs.YtgpamjinkiadnaaDoor
open Go.RowKit Go.Uc

theorem info5 : (Tryd.prog.info? 5).map (fun i => (i.zero, i.size, i.bytes)) = some (some (.int .u8 0), 1, 1) := by kernel_rfl
/-- How many noughts. -/
def gaps (n : Nat) : Nat := (119 - n % 64) % 64
/-- The first j bytes of a number, the highest ahead. -/
def beU (n j : Nat) : List UInt8 := (List.range j).map fun i => UInt8.ofNat (n / 256 ^ (7 - i) % 256)
theorem beU_length (n j : Nat) : (beU n j).length = j := by simp [beU]
theorem beU_succ (n j : Nat) : beU n (j + 1) = beU n j ++ [UInt8.ofNat (n / 256 ^ (7 - j) % 256)] := by simp [beU, List.range_succ]
/-- Bytes with the padding of SHA-256. -/
def padP (bs : List UInt8) : List UInt8 := ((bs ++ [128]) ++ zeros (gaps bs.length)) ++ beU (8 * bs.length) 8
theorem padP_length (bs : List UInt8) : (padP bs).length = bs.length + gaps bs.length + 9 := by
  simp only [padP, List.length_append, zeros_length, beU_length, List.length_cons, List.length_nil]; omega
theorem padP_mod (bs : List UInt8) : (padP bs).length % 64 = 0 := by rw [padP_length]; unfold gaps; omega
theorem gaps_mod (n j : Nat) (h : j ≤ gaps n) : (n + 1 + j) % 64 = 56 ↔ j = gaps n := by unfold gaps at *; omega
theorem gaps_lt (n : Nat) : gaps n < 64 := by unfold gaps; omega
theorem zeros_snoc (n : Nat) : zeros n ++ [0] = zeros (n + 1) := by unfold zeros; rw [List.replicate_succ']

def lenV : Value → Nat
  | .slice _ n _ => n
  | _ => 0

set_option maxRecDepth 100000 in
set_option maxHeartbeats 1000000 in
theorem padded_any (A : Option Addr) (c : Nat) (bs : List UInt8) (w : World) (hA : At w A bs) (hn : bs.length ≤ 140737488351240) :
    Calls Tryd.prog 28 #[.slice A bs.length c] w fun e w' => ∃ v, e = .returned v ∧ OwnB w' w.heap.size 5 v (padP bs) ∧ Keeps Non w w' := by
  go_enter Tryd.func28, Tryd.ntmps28
  go_wp2_with (first
    | (at_builtin; refine wpList_append_bytes rfl (.const (.slice none 0 0)) (.tmp 6) 22 rfl w.heap.size 5 Tryd.underlying22 info5 (.slice none 0 0) [] rfl (OwnB.nil _ _ _) A bs.length c bs rfl rfl hA (by simp; omega) (Nat.le_refl _) ?_; intro v1 w1 hO1 hK1 hat1; have hKn : Keeps Non w w1 := hK1.mono (fun k e => by simp [Owned, Value.ownBlock] at e); rw [List.nil_append] at hO1; clear hK1 hat1)
    | (at_builtin; go_must (refine wpList_append_bytes rfl (.tmp 8) (.tmp 9) 22 rfl w.heap.size 5 Tryd.underlying22 info5 v1 bs rfl (hO1.non ((Keeps.refl Non _).alloc _)) (some ⟨w1.heap.size, 0, none⟩) 1 1 [128] rfl rfl (At.one _ _ _ _ rfl) (by simp; omega) (by have := hKn.size; simp; omega) ?_); intro v2 w2 hO2 hK2 hat2; have hK3 : Keeps Non w w2 := (hKn.alloc _).then hK2 (fun i hi e => by have := hO1.new i e; omega); clear hO1 hKn hK2 hat2))
  go_loopw [3] (fun v wr => ∃ j, j ≤ gaps bs.length ∧ OwnB wr w.heap.size 5 v ((bs ++ [128]) ++ zeros j) ∧ Keeps Non w wr) (fun v _ => bs.length + 1 + gaps bs.length - lenV v)
  case atStart => exact ⟨0, Nat.zero_le _, by simpa [zeros] using hO2, hK3⟩
  case round =>
    obtain ⟨j, hj, hO, hK⟩ := hrel
    have hg := gaps_lt bs.length
    obtain ⟨L, hL⟩ : ∃ L, L = ((bs ++ [128]) ++ zeros j).length := ⟨_, rfl⟩
    have hL2 : L = bs.length + 1 + j := by rw [hL]; simp [zeros_length]; omega
    obtain ⟨A1, c1, rfl, hc1, hA1, hb1⟩ := id hO.open
    have hm0 := gaps_mod bs.length j hj
    rw [← hL2] at hm0
    rw [← hL] at hc1 hb1 hO ⊢
    have HL := Lib.hid (And.intro hL hL2)
    have hLn : L ≤ 140737488351304 := by omega
    clear hL hL2 hm0
    obtain ⟨wx, rfl⟩ : ∃ W : World, W = wr := ⟨_, rfl⟩
    by_cases hlt : j = gaps bs.length
    · have hm2 : (L : Int) % 64 = 56 := by have := (gaps_mod bs.length j hj).2 hlt; have := HL.out.2; omega
      have hm1 : ((L : Int) % 64 != 56) = false := by rw [hm2]; rfl
      rw [hlt] at hO
      clear hA1 hb1 hc1 hO2 hK3 hm2
      go_wp2_with fail
      obtain ⟨N, hN⟩ : ∃ N : Nat, N = 8 * bs.length := ⟨_, rfl⟩
      rw [show ((bs.length : Int) * 8) = (N : Int) by omega]
      have hNl : (N : Int) ≤ 9223372036854775807 := by omega
      have HN := Lib.hid hN
      have hO0 : OwnB wx w.heap.size 5 (.slice A1 L c1) (((bs ++ [128]) ++ zeros (gaps bs.length)) ++ beU N 0) := by simpa [beU] using hO
      clear hO hN
      obtain ⟨wa, rfl⟩ : ∃ W : World, W = wx := ⟨_, rfl⟩
      go_loopw [3, 5] (fun v i wr => ∃ k : Nat, k ≤ 8 ∧ i = .int .i64 (7 - (k : Int)) ∧ OwnB wr w.heap.size 5 v (((bs ++ [128]) ++ zeros (gaps bs.length)) ++ beU N k) ∧ Keeps Non w wr) (fun _ i _ => (intOf i + 1).toNat)
      case atStart => exact ⟨0, by omega, rfl, hO0, hK⟩
      case round =>
        obtain ⟨k, hk, rfl, hO, hK⟩ := hrel
        by_cases hlt : k < 8
        · obtain ⟨m, hm⟩ : ∃ m : Nat, m + k = 7 := ⟨7 - k, by omega⟩
          rw [show (7 - (k : Int)) = (m : Int) by omega]
          have m0 : (0 : Int) ≤ (m : Int) := by omega
          have m1 : IntKind.u64.wrap (m : Int) = (m : Int) := by rw [IntKind.wrap_u64]; omega
          have m2 : IntKind.u64.wrap (8 * (m : Int)) = 8 * (m : Int) := by rw [IntKind.wrap_u64]; omega
          have m3 : (8 * (m : Int)).toNat = 8 * m := by omega
          have m4 : (0 : Int) ≤ 8 * (m : Int) := by omega
          have m5 : 8 * (m : Int) ≤ 64 := by omega
          have hsz : (((bs ++ [128]) ++ zeros (gaps bs.length)) ++ beU N k).length ≤ 140737488351320 := by simp [zeros_length, beU_length]; omega
          obtain ⟨wx, rfl⟩ : ∃ W : World, W = wr := ⟨_, rfl⟩
          go_wp2_with (at_builtin; go_must (refine wpList_append_bytes rfl (.tmp 26) (.tmp 33) 22 rfl w.heap.size 5 Tryd.underlying22 info5 _ (((bs ++ [128]) ++ zeros (gaps bs.length)) ++ beU N k) rfl (hO.non ((Keeps.refl Non wx).alloc _)) (some ⟨wx.heap.size, 0, none⟩) 1 1 [UInt8.ofNat (N / 256 ^ m % 256)] rfl rfl (At.one _ _ _ _ (shr_byte N m)) (by simp only [List.length_cons, List.length_nil]; omega) (by have := hK.size; simp; omega) ?_); intro v3 w3 hO3 hK3 hat3; have hK4 : Keeps Non w w3 := (hK.alloc _).then hK3 (fun i hi e => by have := hO.new i e; omega); clear hO hK hK3 hat3)
          go_roundw
          case rel =>
            rw [List.append_assoc _ (beU N k), show m = 7 - k by omega, ← beU_succ] at hO3
            exact ⟨k + 1, by omega, by go_num, hO3, hK4⟩
          case measure => simp [intOf]
        · obtain rfl : k = 8 := by omega
          go_wp2_with fail
          go_ret
          exact ⟨_, rfl, by rw [HN.out] at hO; exact hO, hK⟩
    · have hm2 : ¬ (L : Int) % 64 = 56 := by have h3 : ¬ (bs.length + 1 + j) % 64 = 56 := fun h => hlt ((gaps_mod bs.length j hj).1 h); have := HL.out.2; omega
      have hm1 : ((L : Int) % 64 != 56) = true := by simpa using hm2
      go_wp2_with (at_builtin; go_must (refine wpList_append_bytes rfl (.tmp 15) (.tmp 16) 22 rfl w.heap.size 5 Tryd.underlying22 info5 (.slice A1 L c1) ((bs ++ [128]) ++ zeros j) rfl (hO.non ((Keeps.refl Non wx).alloc (.cells #[.int .u8 0] 5))) (some ⟨wx.heap.size, 0, none⟩) 1 1 [0] rfl rfl (At.one _ _ _ _ rfl) (by have := HL.out.1; simp only [List.length_cons, List.length_nil]; omega) (by have := hK.size; simp; omega) ?_); intro v3 w3 hO3 hK3 hat3; have hK4 : Keeps Non w w3 := (hK.alloc _).then hK3 (fun i hi e => by have := hO.new i e; omega); clear hO hK hK3 hat3)
      go_roundw
      case rel =>
        rw [List.append_assoc (bs ++ [128]), zeros_snoc] at hO3
        exact ⟨j + 1, by omega, hO3, hK4⟩
      case measure =>
        obtain ⟨A3, c3, rfl, -⟩ := id hO3.open
        have := HL.out.1
        have := HL.out.2
        simp [lenV, zeros_length]
        omega
#print axioms padded_any
end Go.Proofs.YtgpamjinkiadnaaDoor
