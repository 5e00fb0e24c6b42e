import Derived.Test.YtmlffigfhhoihaaT2
namespace Go.Proofs.Ytmlffigfhhoihaa
open Go.RowKit Go.Uc

theorem info5 : (Try.prog.info? 5).map (fun i => (i.zero, i.size, i.bytes)) = some (some (.int .u8 0), 1, 1) := by kernel_rfl

theorem toNat_lt (x : UInt8) : (x.toNat : Int) < 256 := by have := x.toNat_lt; omega

set_option maxHeartbeats 400000 in
theorem lent_any (A : Option Addr) (c : Nat) (bs : List UInt8) (w : World) (hA : At w A bs) (hn : bs.length ≤ 140737488355327) :
    Calls Try.prog 10 #[.slice A bs.length c] w fun e w' => e = .returned (.slice (some ⟨w.heap.size, 0, none⟩) (bs.length + 1) (bs.length + 1)) ∧ Blk w' w.heap.size 5 (pc (bs ++ [200])) ∧ Keeps Non w w' := by
  have HA := Lib.hid hA
  clear hA
  go_enter Try.func10, Try.ntmps10
  go_wp2_with (at_make; refine wpList_make_bytes rfl _ _ 31 rfl 5 Try.underlying31 info5 .i64 .i64 _ _ (bs.length + 1) rfl rfl (by omega) (by omega) (by omega) ?_; intro w1 hB1 hK1)
  go_loopw [4] (fun i wr => ∃ k : Nat, k ≤ bs.length ∧ i = .int .i64 k ∧ Blk wr w.heap.size 5 (pc (bs.take k ++ zeros (bs.length + 1 - k))) ∧ Keeps Non w wr) (fun i _ => bs.length - (intOf i).toNat)
  case atStart => exact ⟨0, Nat.zero_le _, rfl, by simpa using hB1, hK1⟩
  case round =>
    obtain ⟨k, hk, rfl, hB, hK⟩ := hrel
    by_cases hlt : k < bs.length
    · obtain ⟨b, off, rfl, hc0⟩ := HA.out.at_ hlt
      have hc : wr.cell? ⟨b, off + k, none⟩ = some (.int .u8 bs[k].toNat) := hK.cell hc0 id
      have hc2 : ∃ v, wr.cell? ⟨w.heap.size, k, none⟩ = some v := ⟨_, hB.byte (by simp [zeros_length]; omega)⟩
      obtain ⟨v, hc2⟩ := hc2
      have hf := hB.frozen k
      clear hc0
      go_wp2
      go_roundw
      case rel =>
        have hB' := hB.set k (bv bs[k])
        rw [set_pc] at hB'
        have e := set_zeros (bs.take k) k (bs.length + 1) bs[k] (by omega)
        rw [List.length_take, Nat.min_eq_left (by omega), take_snoc _ _ hlt] at e
        rw [e] at hB'
        exact ⟨k + 1, by omega, by go_num, hB', hK.setNew (p := ⟨w.heap.size, k, none⟩) (Nat.le_refl _) _⟩
      case measure => simp [intOf]; omega
    · obtain rfl : k = bs.length := by omega
      have hc2 : wr.cell? ⟨w.heap.size, bs.length, none⟩ = some (.int .u8 0) := by
        have := hB.byte (i := bs.length) (by simp [zeros_length])
        rw [this]
        simp [zeros, bv]
      have hf := hB.frozen bs.length
      go_wp2
      go_ret
      refine ⟨rfl, ?_, hK.setNew (p := ⟨w.heap.size, bs.length, none⟩) (Nat.le_refl _) _⟩
      have hB' := hB.set bs.length (bv 200)
      rw [set_pc, List.take_of_length_le (Nat.le_refl _)] at hB'
      have e := set_zeros bs bs.length (bs.length + 1) 200 (by omega)
      rw [e] at hB'
      simpa [zeros, bv] using hB'

theorem owned_one {g n cap k : Nat} : Owned (.slice (some ⟨g, 0, none⟩) n cap) k ↔ k = g := by
  unfold Owned Value.ownBlock; constructor <;> (intro h; simpa using h.symm) 

theorem spoil_end {A : Option Addr} {n cap B : Nat} {w wr w2 : World} {v' : Value} {o : Obj} {xs : List Value} (hK : Keeps (Owned (.slice A n cap)) w wr) (hO2 : w2.ownsRow B 5 1 v' (n + 1) xs)
    (hK2 : Keeps (Owned (.slice A n cap)) (wr.alloc o) w2) (hat : v'.ownBlock = (Value.slice A n cap).ownBlock ∨ v'.ownBlock = some (wr.alloc o).heap.size) :
    ∃ g cap' v, v' = .slice (some ⟨g, 0, none⟩) (n + 1) cap' ∧ w2.cell? ⟨g, n, none⟩ = some v ∧ w2.frozen? ⟨g, n, none⟩ = false ∧ Keeps (Owned (.slice A n cap)) w (w2.setCell ⟨g, n, none⟩ (.int .u8 97)) := by
  obtain ⟨g, cap', cur, rfl, h2, h3, h4, h5, h6, h7⟩ := row_form hO2 (by omega)
  refine ⟨g, cap', _, rfl, by rw [h3.cell]; exact Array.getElem?_eq_getElem (by omega), h3.frozen n, ?_⟩
  have hK3 : Keeps (Owned (.slice A n cap)) w w2 := (hK.alloc _).then hK2 fun i _ e => e
  rcases hat with e | e
  · exact hK3.set (p := ⟨g, n, none⟩) (show Owned _ g from e.symm) _
  · refine hK3.setNew (p := ⟨g, n, none⟩) ?_ _
    simp [Value.ownBlock] at e
    have := hK.size
    show w.heap.size ≤ g
    omega

set_option maxHeartbeats 400000 in
theorem spoil_any (A : Option Addr) (n cap B : Nat) (xs : List Value) (w : World) (hO : w.ownsRow B 5 1 (.slice A n cap) n xs) (hB0 : B ≤ w.heap.size) (hb : n + 1 ≤ 140737488355328) :
    Calls Try.prog 12 #[.slice A n cap] w fun e w' => e = .returned (.tuple #[]) ∧ Keeps (Owned (.slice A n cap)) w w' := by
  go_enter Try.func12, Try.ntmps12
  go_wp2
  go_loopw [2] (fun i wr => ∃ (k : Nat) (xs : List Value), k ≤ n ∧ i = .int .i64 k ∧ wr.ownsRow B 5 1 (.slice A n cap) n xs ∧ Keeps (Owned (.slice A n cap)) w wr) (fun i _ => n - (intOf i).toNat)
  case atStart => exact ⟨0, xs, Nat.zero_le _, rfl, hO, Keeps.refl _ _⟩
  case round =>
    obtain ⟨k, cu, hk, rfl, hOr, hK⟩ := hrel
    by_cases hlt : k < n
    · obtain ⟨g, cap', cur, e1, h2, h3, h4, h5, h6, h7⟩ := row_form hOr (by omega)
      injection e1 with e1 _ e2
      subst e1 e2
      obtain ⟨v, hc2⟩ : ∃ v, wr.cell? ⟨g, k, none⟩ = some v := ⟨_, by rw [h3.cell]; exact Array.getElem?_eq_getElem (by omega)⟩
      have hf := h3.frozen k
      have hO' := row_set hOr hlt (.int .u8 99)
      have hK' := hK.set (p := ⟨g, k, none⟩) (owned_one.2 rfl) (.int .u8 99)
      clear h7 h6 h3 hOr hK
      have H6 := Lib.hid hO
      go_wp2
      go_roundw
      case rel => exact ⟨k + 1, _, by omega, by go_num, hO', hK'⟩
      case measure => simp [intOf]; omega
    · have hw := hK.size
      go_wp2_with (at_builtin; refine wpList_append_vals rfl (.tmp 13) (.tmp 14) 31 rfl B 5 (.int .u8 0) 1 Try.underlying31 info5 rfl (.slice A n cap) n cu rfl (row_keep hOr ((Keeps.refl Non _).alloc _) (fun _ _ e => e)) (some ⟨wr.heap.size, 0, none⟩) 1 1 [.int .u8 98] rfl rfl (Ats.one _ _ _) (by intro u hu; simp at hu; subst hu; rfl) (by simp [maxLen]; omega) (by simp; omega) (by simp; omega) ?_; intro v' w2 hO2 hK2 hat; obtain ⟨g, cap', v, rfl, hc2, hf, hK4⟩ := spoil_end hK hO2 hK2 hat; clear hO2 hK2 hat hK hOr)
      go_end0
      exact ⟨rfl, hK4⟩

/-- number: the bytes of a number, the lowest first, in a row of its own. -/
theorem number_any (n size : Nat) (w : World) (hs : size ≤ 8) (hn : n < 9223372036854775808) :
    Calls Try.prog 33 #[.int .i64 n, .int .i64 size] w fun e w' => ∃ v, e = .returned v ∧ OwnB w' w.heap.size 5 v (le size n) ∧ Keeps Non w w' := by
  go_enter Try.func33, Try.ntmps33
  go_wp2
  go_loopw [0, 5, 6] (fun m v i wr => ∃ k : Nat, k ≤ size ∧ i = .int .i64 k ∧ m = .int .i64 ((n / 256 ^ k : Nat) : Int) ∧ OwnB wr w.heap.size 5 v (le k n) ∧ Keeps Non w wr) (fun _ _ i _ => size - (intOf i).toNat)
  case atStart => exact ⟨0, Nat.zero_le _, rfl, by simp, OwnB.nil _ _ _, Keeps.refl _ _⟩
  case round =>
    obtain ⟨k, hk, rfl, rfl, hO, hK⟩ := hrel
    obtain ⟨q, hq⟩ : ∃ q, q = n / 256 ^ k := ⟨_, rfl⟩
    have hq0 : q < 9223372036854775808 := by rw [hq]; exact Nat.lt_of_le_of_lt (Nat.div_le_self _ _) hn
    rw [← hq]
    have HQ := Lib.hid hq
    clear hq
    by_cases hlt : k < size
    · have hw := hK.size
      have hl := le_length k n
      have HE : Hid (bv (UInt8.ofNat (q % 256)) = .int .u8 ((q : Int) % 256)) := by
        show _ = _
        rw [bv_ofNat _ (Nat.mod_lt _ (by decide))]; rfl
      go_wp2_with (at_builtin; refine wpList_append_bytes rfl (.tmp 12) (.tmp 16) 31 rfl w.heap.size 5 Try.underlying31 info5 _ (le k n) rfl (hO.non ((Keeps.refl Non _).alloc _)) (some ⟨wr.heap.size, 0, none⟩) 1 1 [UInt8.ofNat (q % 256)] rfl rfl (At.one _ _ _ _ HE.out.symm) (by simp; omega) (by simp; omega) ?_; intro v' w2 hO2 hK2 hat)
      go_wp2
      go_roundw
      case rel =>
        refine ⟨k + 1, by omega, by go_num, ?_, ?_, (hK.alloc _).then hK2 fun i hi e => ?_⟩
        · rw [HQ.out, Nat.pow_succ, ← Nat.div_div_eq_div_mul]; rfl
        · rw [le_snoc, ← HQ.out]; exact hO2
        · have := hO.new i e; omega
      case measure => simp [intOf]; omega
    · obtain rfl : k = size := by omega
      go_wp2
      go_ret
      exact ⟨_, rfl, hO, hK⟩
end Go.Proofs.Ytmlffigfhhoihaa
