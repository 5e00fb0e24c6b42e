/- Fletcher's sum, word by word. -/
import Derived.Test.YtgpamjinkiadnaaDoorP1
namespace Go.Proofs.YtgpamjinkiadnaaDoor
open Go.RowKit Go.Uc

theorem b64_toNat (x : UInt8) : (b64 x).toNat = x.toNat := by unfold b64; have := x.toNat_lt; rw [BitVec.toNat_ofNat, Nat.mod_eq_of_lt (by omega)]
theorem or_shift (a b : BitVec 64) (k : Nat) (ha : a.toNat < 2 ^ k) (hb : b.toNat * 2 ^ k < 2 ^ 64) : (a ||| b <<< k).toNat = a.toNat + b.toNat * 2 ^ k := by
  rw [BitVec.toNat_or, BitVec.toNat_shiftLeft, Nat.shiftLeft_eq, Nat.mod_eq_of_lt hb, Nat.or_comm, ← Nat.shiftLeft_eq, ← Nat.shiftLeft_add_eq_or_of_lt ha]
  omega
theorem word4_toNat (p q r s : UInt8) : (word4 p q r s).toNat = p.toNat + q.toNat * 256 + r.toNat * 65536 + s.toNat * 16777216 := by
  have hp := p.toNat_lt; have hq := q.toNat_lt; have hr := r.toNat_lt; have hs := s.toNat_lt
  unfold word4
  have e1 := or_shift (b64 p) (b64 q) 8 (by rw [b64_toNat]; omega) (by rw [b64_toNat]; omega)
  have e2 := or_shift (b64 p ||| b64 q <<< 8) (b64 r) 16 (by rw [e1, b64_toNat, b64_toNat]; omega) (by rw [b64_toNat]; omega)
  have e3 := or_shift (b64 p ||| b64 q <<< 8 ||| b64 r <<< 16) (b64 s) 24 (by rw [e2, e1, b64_toNat, b64_toNat, b64_toNat]; omega) (by rw [b64_toNat]; omega)
  rw [e3, e2, e1, b64_toNat, b64_toNat, b64_toNat, b64_toNat]
/-- By Horner's rule. -/
theorem horner (p q r s : UInt8) : 256#64 * (256#64 * (256#64 * (256#64 * 0#64 + b64 s) + b64 r) + b64 q) + b64 p = word4 p q r s := by
  have hp := p.toNat_lt; have hq := q.toNat_lt; have hr := r.toNat_lt; have hs := s.toNat_lt
  apply BitVec.eq_of_toNat_eq
  rw [word4_toNat]
  simp only [BitVec.toNat_add, BitVec.toNat_mul, b64_toNat, BitVec.toNat_ofNat]
  omega
/-- Word n of bytes, noughts behind them. -/
def wordN (bs : List UInt8) (n : Nat) : BitVec 64 := word4 (bs.getD (4 * n) 0) (bs.getD (4 * n + 1) 0) (bs.getD (4 * n + 2) 0) (bs.getD (4 * n + 3) 0)
/-- The sum of the first n words. -/
def fsum (bs : List UInt8) : Nat → Sum4
  | 0 => sum0
  | n + 1 => (fsum bs n).plus (wordN bs n)
theorem add_four (s : Sum4) (a b c d : UInt8) : (⟨s, 0, 0, 0, 0, 0⟩ : Rn).add [a, b, c, d] = ⟨s.plus (word4 a b c d), 0, 0, 0, 0, 0⟩ := rfl
theorem getD_at (bs : List UInt8) (i : Nat) (h : i < bs.length) : bs.getD i 0 = bs[i] := by rw [List.getD_eq_getElem?_getD, List.getElem?_eq_getElem h]; rfl
theorem fsum_succ (bs : List UInt8) (n : Nat) : fsum bs (n + 1) = (fsum bs n).plus (wordN bs n) := rfl
theorem four (M : List UInt8) (h : M.length = 4) : M = [M.getD 0 0, M.getD 1 0, M.getD 2 0, M.getD 3 0] := by
  match M, h with
  | [a, b, c, d], _ => rfl
theorem getD_mid (bs : List UInt8) (m i : Nat) (h : i < 4) : ((bs.drop m).take 4).getD i 0 = bs.getD (m + i) 0 := by
  rw [List.getD_eq_getElem?_getD, List.getElem?_take, if_pos h, List.getElem?_drop, ← List.getD_eq_getElem?_getD]
theorem take_words (bs : List UInt8) : ∀ n, 4 * n ≤ bs.length → rn0.add (bs.take (4 * n)) = ⟨fsum bs n, 0, 0, 0, 0, 0⟩ := by
  intro n
  induction n with
  | zero => intro _; rfl
  | succ n ih =>
    intro h
    rw [show 4 * (n + 1) = 4 * n + 4 by omega, List.take_add, ← Rn.add_append, ih (by omega), four ((bs.drop (4 * n)).take 4) (by simp; omega), add_four, fsum_succ]
    unfold wordN
    rw [getD_mid _ _ _ (by omega), getD_mid _ _ _ (by omega), getD_mid _ _ _ (by omega), getD_mid _ _ _ (by omega)]
    rfl
theorem getD_drop (bs : List UInt8) (m i : Nat) : (bs.drop m).getD i 0 = bs.getD (m + i) 0 := by simp [List.getD_eq_getElem?_getD]
theorem sumF_words (bs : List UInt8) : sumF bs = fsum bs ((bs.length + 3) / 4) := by
  obtain ⟨n, hn⟩ : ∃ n, n = bs.length / 4 := ⟨_, rfl⟩
  have h1 := take_words bs n (by omega)
  have h2 : sumF bs = ((⟨fsum bs n, 0, 0, 0, 0, 0⟩ : Rn).add (bs.drop (4 * n))).value := by
    unfold sumF
    rw [← h1, Rn.add_append, List.take_append_drop]
  have hw : wordN bs n = word4 ((bs.drop (4 * n)).getD 0 0) ((bs.drop (4 * n)).getD 1 0) ((bs.drop (4 * n)).getD 2 0) ((bs.drop (4 * n)).getD 3 0) := by
    unfold wordN; rw [getD_drop, getD_drop, getD_drop, getD_drop]; rfl
  rw [h2]
  obtain ⟨L, hL⟩ : ∃ L, L = bs.drop (4 * n) := ⟨_, rfl⟩
  have hl : L.length = bs.length - 4 * n := by rw [hL]; simp
  rw [← hL] at hw ⊢
  have h3 : (bs.length + 3) / 4 = if L.length = 0 then n else n + 1 := by split <;> omega
  rw [h3]
  have hl4 : L.length < 4 := by omega
  match L, hl4 with
  | [], _ => rfl
  | [a], _ => simp only [List.length_cons, List.length_nil]; rw [if_neg (by omega)]; rw [fsum_succ, hw]; rfl
  | [a, b], _ => simp only [List.length_cons, List.length_nil]; rw [if_neg (by omega)]; rw [fsum_succ, hw]; rfl
  | [a, b, c], _ => simp only [List.length_cons, List.length_nil]; rw [if_neg (by omega)]; rw [fsum_succ, hw]; rfl
#print axioms sumF_words
#print axioms horner
end Go.Proofs.YtgpamjinkiadnaaDoor
