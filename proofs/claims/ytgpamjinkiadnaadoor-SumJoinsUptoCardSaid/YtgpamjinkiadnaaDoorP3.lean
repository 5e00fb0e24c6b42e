/- Fletcher's sum of two pieces; a byte turned. -/
import Derived.Test.YtgpamjinkiadnaaDoorP2
namespace Go.Proofs.YtgpamjinkiadnaaDoor
open Go.RowKit Go.Uc

theorem getD_left (a b : List UInt8) (i : Nat) (h : i < a.length) : (a ++ b).getD i 0 = a.getD i 0 := by
  rw [List.getD_eq_getElem?_getD, List.getElem?_append_left h, ← List.getD_eq_getElem?_getD]
theorem getD_right (a b : List UInt8) (i : Nat) : (a ++ b).getD (a.length + i) 0 = b.getD i 0 := by
  rw [List.getD_eq_getElem?_getD, List.getElem?_append_right (by omega), Nat.add_sub_cancel_left, ← List.getD_eq_getElem?_getD]
theorem wordN_left (a b : List UInt8) (i : Nat) (h : 4 * i + 3 < a.length) : wordN (a ++ b) i = wordN a i := by
  unfold wordN
  rw [getD_left _ _ _ (by omega), getD_left _ _ _ (by omega), getD_left _ _ _ (by omega), getD_left _ _ _ (by omega)]
theorem wordN_right (a b : List UInt8) (m i : Nat) (h : a.length = 4 * m) : wordN (a ++ b) (m + i) = wordN b i := by
  unfold wordN
  have e : ∀ j, 4 * (m + i) + j = a.length + (4 * i + j) := fun j => by omega
  have e0 := getD_right a b (4 * i)
  rw [show a.length + 4 * i = 4 * (m + i) by omega] at e0
  rw [e0, e 1, e 2, e 3, getD_right, getD_right, getD_right]
theorem fsum_left (a b : List UInt8) : ∀ n, 4 * n ≤ a.length → fsum (a ++ b) n = fsum a n := by
  intro n
  induction n with
  | zero => intro _; rfl
  | succ n ih => intro h; rw [fsum_succ, fsum_succ, ih (by omega), wordN_left _ _ _ (by omega)]
theorem plus_a (s : Sum4) (x : BitVec 64) : (s.plus x).a = s.a + x := rfl
theorem plus_b (s : Sum4) (x : BitVec 64) : (s.plus x).b = s.b + (s.a + x) := rfl
theorem fsum_joins (a b : List UInt8) (m : Nat) (h : a.length = 4 * m) : ∀ k, (fsum (a ++ b) (m + k)).a = (fsum a m).a + (fsum b k).a ∧ (fsum (a ++ b) (m + k)).b = (fsum a m).b + BitVec.ofNat 64 k * (fsum a m).a + (fsum b k).b := by
  intro k
  induction k with
  | zero =>
    rw [Nat.add_zero, fsum_left a b m (by omega)]
    have e1 : (fsum b 0).a = 0#64 := rfl
    have e2 : (fsum b 0).b = 0#64 := rfl
    rw [e1, e2]
    simp
  | succ k ih =>
    obtain ⟨h1, h2⟩ := ih
    rw [show m + (k + 1) = (m + k) + 1 by omega, fsum_succ, fsum_succ, wordN_right a b m k h, plus_a, plus_b, plus_a, plus_b, h1, h2]
    refine ⟨by rw [BitVec.add_assoc], ?_⟩
    have e : BitVec.ofNat 64 (k + 1) * (fsum a m).a = BitVec.ofNat 64 k * (fsum a m).a + (fsum a m).a := by
      rw [BitVec.ofNat_add, BitVec.add_mul, BitVec.one_mul]
    rw [e]
    ac_rfl
theorem sumF_joins (a b : List UInt8) (h : a.length % 4 = 0) : (sumF (a ++ b)).a = (sumF a).a + (sumF b).a ∧ (sumF (a ++ b)).b = (sumF a).b + BitVec.ofNat 64 ((b.length + 3) / 4) * (sumF a).a + (sumF b).b := by
  obtain ⟨m, hm⟩ : ∃ m, a.length = 4 * m := ⟨a.length / 4, by omega⟩
  rw [sumF_words, sumF_words, sumF_words, show (a.length + 3) / 4 = m by omega, List.length_append, show (a.length + b.length + 3) / 4 = m + (b.length + 3) / 4 by omega]
  exact fsum_joins a b m hm _
theorem getD_set (L : List UInt8) (i j : Nat) (x : UInt8) (hi : i < L.length) : (L.set i x).getD j 0 = if j = i then x else L.getD j 0 := by
  rw [List.getD_eq_getElem?_getD, List.getElem?_set]
  by_cases h : j = i
  · subst h; simp [hi]
  · rw [if_neg (fun e => h e.symm), if_neg h, ← List.getD_eq_getElem?_getD]
theorem wordN_other (L : List UInt8) (i n : Nat) (x : UInt8) (hi : i < L.length) (h : n ≠ i / 4) : wordN (L.set i x) n = wordN L n := by
  unfold wordN
  rw [getD_set _ _ _ _ hi, getD_set _ _ _ _ hi, getD_set _ _ _ _ hi, getD_set _ _ _ _ hi, if_neg (by omega), if_neg (by omega), if_neg (by omega), if_neg (by omega)]
theorem wordN_turned (L : List UInt8) (i : Nat) (x : UInt8) (hi : i < L.length) (hx : x ≠ L.getD i 0) : wordN (L.set i x) (i / 4) ≠ wordN L (i / 4) := by
  intro h
  have h1 := congrArg BitVec.toNat h
  unfold wordN at h1
  rw [word4_toNat, word4_toNat, getD_set _ _ _ _ hi, getD_set _ _ _ _ hi, getD_set _ _ _ _ hi, getD_set _ _ _ _ hi] at h1
  apply hx
  apply UInt8.toNat_inj.1
  rcases (show i % 4 = 0 ∨ i % 4 = 1 ∨ i % 4 = 2 ∨ i % 4 = 3 by omega) with e | e | e | e
  · rw [if_pos (by omega), if_neg (by omega), if_neg (by omega), if_neg (by omega), show 4 * (i / 4) = i by omega] at h1
    omega
  · rw [if_neg (by omega), if_pos (by omega), if_neg (by omega), if_neg (by omega), show 4 * (i / 4) + 1 = i by omega] at h1
    omega
  · rw [if_neg (by omega), if_neg (by omega), if_pos (by omega), if_neg (by omega), show 4 * (i / 4) + 2 = i by omega] at h1
    omega
  · rw [if_neg (by omega), if_neg (by omega), if_neg (by omega), if_pos (by omega), show 4 * (i / 4) + 3 = i by omega] at h1
    omega
theorem fsum_turned (L : List UInt8) (i : Nat) (x : UInt8) (hi : i < L.length) : ∀ n, (n ≤ i / 4 → (fsum (L.set i x) n).a = (fsum L n).a) ∧ (i / 4 < n → (fsum (L.set i x) n).a + wordN L (i / 4) = (fsum L n).a + wordN (L.set i x) (i / 4)) := by
  intro n
  induction n with
  | zero => exact ⟨fun _ => rfl, fun h => by omega⟩
  | succ n ih =>
    refine ⟨fun h => ?_, fun h => ?_⟩
    · rw [fsum_succ, fsum_succ, plus_a, plus_a, ih.1 (by omega), wordN_other L i n x hi (by omega)]
    · rw [fsum_succ, fsum_succ, plus_a, plus_a]
      by_cases e : n = i / 4
      · subst e
        rw [ih.1 (by omega)]
        ac_rfl
      · have := ih.2 (by omega)
        rw [wordN_other L i n x hi e]
        calc (fsum (L.set i x) n).a + wordN L n + wordN L (i / 4) = ((fsum (L.set i x) n).a + wordN L (i / 4)) + wordN L n := by ac_rfl
          _ = ((fsum L n).a + wordN (L.set i x) (i / 4)) + wordN L n := by rw [this]
          _ = _ := by ac_rfl
/-- A byte turned alone turns A. -/
theorem sumF_turned (L : List UInt8) (i : Nat) (x : UInt8) (hi : i < L.length) (hx : x ≠ L.getD i 0) : (sumF (L.set i x)).a ≠ (sumF L).a := by
  rw [sumF_words, sumF_words, List.length_set]
  intro h
  have h2 := (fsum_turned L i x hi ((L.length + 3) / 4)).2 (by omega)
  rw [h] at h2
  exact wordN_turned L i x hi hx ((BitVec.add_right_inj _).1 h2).symm
#print axioms sumF_turned
#print axioms sumF_joins
end Go.Proofs.YtgpamjinkiadnaaDoor
