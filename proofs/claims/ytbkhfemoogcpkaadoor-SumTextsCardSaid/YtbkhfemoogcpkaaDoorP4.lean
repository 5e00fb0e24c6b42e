/- Numbers as text, base 16, and read again: plain laws. -/
import Derived.Test.YtbkhfemoogcpkaaDoorU10
namespace Go.Proofs.YtbkhfemoogcpkaaDoor
open Go.Uc
theorem lows_pad (n m : Nat) (h : n < 16 ^ m) : ∀ k, lows n (m + k) = List.replicate k 48 ++ lows n m := by
  intro k
  induction k with
  | zero => simp
  | succ k ih =>
    show dig (n / 16 ^ (m + k) % 16) :: lows n (m + k) = _
    have h1 : n / 16 ^ (m + k) = 0 := Nat.div_eq_of_lt (Nat.lt_of_lt_of_le h (Nat.pow_le_pow_right (by omega) (by omega)))
    rw [h1, ih, List.replicate_succ]
    rfl
/-- What a sign says: a digit, small or great. -/
def hv (c : UInt8) : Option Nat := if 48 ≤ c.toNat ∧ c.toNat ≤ 57 then some (c.toNat - 48) else if 97 ≤ (c ||| 32).toNat ∧ (c ||| 32).toNat ≤ 102 then some ((c ||| 32).toNat - 87) else none
def hexS (acc : Option Nat) (c : UInt8) : Option Nat := acc.bind fun n => (hv c).map (16 * n + ·)
def hexN (s : List UInt8) : Option Nat := s.foldl hexS (some 0)
theorem dig_hv : ∀ d, d < 16 → hv (dig d) = some d := by decide
theorem hv_lt (c : UInt8) (d : Nat) (h : hv c = some d) : d < 16 := by
  unfold hv at h
  split at h
  · injection h; omega
  · split at h
    · injection h; omega
    · cases h
theorem hex_none (s : List UInt8) : s.foldl hexS none = none := by
  induction s with
  | nil => rfl
  | cons c s ih => exact ih
theorem hexN_snoc (s : List UInt8) (c : UInt8) : hexN (s ++ [c]) = hexS (hexN s) c := by simp [hexN, List.foldl_append]
theorem hexN_lt : ∀ (s : List UInt8) (a n : Nat), s.foldl hexS (some a) = some n → n < 16 ^ s.length * (a + 1) := by
  intro s
  induction s with
  | nil => intro a n h; simp at h; simp; omega
  | cons c s ih =>
    intro a n h
    simp only [List.foldl_cons] at h
    cases hc : hv c with
    | none => rw [show hexS (some a) c = none by simp [hexS, hc], hex_none] at h; cases h
    | some d =>
      rw [show hexS (some a) c = some (16 * a + d) by simp [hexS, hc]] at h
      have h1 := ih _ _ h
      have h2 := hv_lt c d hc
      rw [List.length_cons, Nat.pow_succ, Nat.mul_assoc]
      refine Nat.lt_of_lt_of_le h1 (Nat.mul_le_mul_left _ (by omega))
theorem hexN_bound (s : List UInt8) (n : Nat) (h : hexN s = some n) : n < 16 ^ s.length := by
  have := hexN_lt s 0 n h
  simpa using this
theorem hex_lows : ∀ (k a n : Nat), (lows n k).foldl hexS (some a) = some (16 ^ k * a + n % 16 ^ k) := by
  intro k
  induction k with
  | zero => intro a n; simp [lows, Nat.mod_one]
  | succ k ih =>
    intro a n
    rw [lows, List.foldl_cons, show hexS (some a) (dig (n / 16 ^ k % 16)) = some (16 * a + n / 16 ^ k % 16) by simp [hexS, dig_hv _ (Nat.mod_lt _ (by decide))], ih]
    congr 1
    rw [Nat.pow_succ, Nat.mod_mul]
    rw [Nat.mul_add, Nat.mul_assoc]
    omega
theorem hexN_text (x : BitVec 64) : hexN (lows x.toNat 16) = some x.toNat := by
  rw [hexN, hex_lows, Nat.mod_eq_of_lt (by have := x.isLt; omega)]
  simp
/-- The document's number. -/
def dS (c : UInt8) : BitVec 64 := if 97 ≤ c.toNat then BitVec.ofNat 64 c.toNat - 97 + 10 else BitVec.ofNat 64 c.toNat - 48
def numS (s : List UInt8) : BitVec 64 := s.foldl (fun n c => 16 * n + dS c) 0
theorem numS_snoc (s : List UInt8) (c : UInt8) : numS (s ++ [c]) = 16 * numS s + dS c := by simp [numS, List.foldl_append]
theorem dig_dS : ∀ d, d < 16 → dS (dig d) = BitVec.ofNat 64 d := by decide
theorem num_lows : ∀ (k : Nat) (a : BitVec 64) (n : Nat), (lows n k).foldl (fun n c => 16 * n + dS c) a = BitVec.ofNat 64 (16 ^ k) * a + BitVec.ofNat 64 (n % 16 ^ k) := by
  intro k
  induction k with
  | zero => intro a n; simp [lows, Nat.mod_one]
  | succ k ih =>
    intro a n
    rw [lows, List.foldl_cons, ih, dig_dS _ (Nat.mod_lt _ (by decide))]
    rw [Nat.pow_succ, Nat.mod_mul]
    rw [BitVec.ofNat_add, BitVec.ofNat_mul, BitVec.ofNat_mul, BitVec.mul_add, BitVec.mul_assoc, show (BitVec.ofNat 64 16) = 16#64 from rfl, BitVec.add_assoc]
    congr 1
    exact BitVec.add_comm _ _
theorem numS_text (x : BitVec 64) : numS (lows x.toNat 16) = x := by
  rw [numS, num_lows, Nat.mod_eq_of_lt (by have := x.isLt; omega)]
  simp
/-- The four parts of a text. -/
def parts (s : List UInt8) : List (List UInt8) := [s.take 16, (s.drop 16).take 16, (s.drop 32).take 16, (s.drop 48).take 16]
def text64 (x : BitVec 64) : List UInt8 := lows x.toNat 16
def text4 (a b c d : BitVec 64) : List UInt8 := ((text64 a ++ text64 b) ++ text64 c) ++ text64 d
theorem text64_length (x : BitVec 64) : (text64 x).length = 16 := lows_length _ _
theorem parts4 (a b c d : BitVec 64) : parts (text4 a b c d) = [text64 a, text64 b, text64 c, text64 d] := by
  have la := text64_length a; have lb := text64_length b; have lc := text64_length c; have ld := text64_length d
  unfold parts text4
  generalize text64 a = A at *; generalize text64 b = B at *; generalize text64 c = C at *; generalize text64 d = D at *
  congr 1
  · rw [List.append_assoc, List.append_assoc, List.take_left' la]
  congr 1
  · rw [List.append_assoc, List.append_assoc, List.drop_left' la, List.take_left' lb]
  congr 1
  · rw [List.append_assoc, List.drop_left' (by simp [la, lb]), List.take_left' lc]
  congr 1
  · rw [List.drop_left' (by simp [la, lb, lc]), List.take_of_length_le (by omega)]
/-- The program's: read, and told again. -/
def parseP (s : List UInt8) : Option (BitVec 64 × BitVec 64 × BitVec 64 × BitVec 64) :=
  match (parts s).map hexN with
  | [some a, some b, some c, some d] => if text4 (BitVec.ofNat 64 a) (BitVec.ofNat 64 b) (BitVec.ofNat 64 c) (BitVec.ofNat 64 d) = s then some (BitVec.ofNat 64 a, BitVec.ofNat 64 b, BitVec.ofNat 64 c, BitVec.ofNat 64 d) else none
  | _ => none
def refP (s : List UInt8) : Option (BitVec 64 × BitVec 64 × BitVec 64 × BitVec 64) :=
  match (parts s).map numS with
  | [a, b, c, d] => if text4 a b c d = s then some (a, b, c, d) else none
  | _ => none
theorem refP_text (a b c d : BitVec 64) : refP (text4 a b c d) = some (a, b, c, d) := by
  unfold refP
  rw [parts4]
  simp only [List.map_cons, List.map_nil, text64, numS_text]
  rw [if_pos trivial]
theorem parseP_text (a b c d : BitVec 64) : parseP (text4 a b c d) = some (a, b, c, d) := by
  unfold parseP
  rw [parts4]
  simp only [List.map_cons, List.map_nil, text64, hexN_text]
  simp only [BitVec.ofNat_toNat, BitVec.setWidth_eq]
  rw [if_pos trivial]
theorem refP_some {s : List UInt8} {x : BitVec 64 × BitVec 64 × BitVec 64 × BitVec 64} (h : refP s = some x) : s = text4 x.1 x.2.1 x.2.2.1 x.2.2.2 := by
  unfold refP parts at h
  simp only [List.map_cons, List.map_nil] at h
  split at h
  · rename_i e; injection h with h; subst h; exact e.symm
  · cases h
theorem parseP_some {s : List UInt8} {x : BitVec 64 × BitVec 64 × BitVec 64 × BitVec 64} (h : parseP s = some x) : s = text4 x.1 x.2.1 x.2.2.1 x.2.2.2 := by
  unfold parseP at h
  split at h
  · split at h
    · rename_i e; injection h with h; subst h; exact e.symm
    · cases h
  · cases h
theorem parse_ref (s : List UInt8) : parseP s = refP s := by
  cases h : parseP s with
  | some x =>
    have := parseP_some h
    rw [this, refP_text]
  | none =>
    cases h' : refP s with
    | none => rfl
    | some x =>
      have := refP_some h'
      rw [this, parseP_text] at h
      cases h
end Go.Proofs.YtbkhfemoogcpkaaDoor
