/- The plain law of the log: what Scan finds in a region, and what was written there. -/
import Derived.Test.YtmlffigfhhoihaaT7
namespace Go.Proofs.Ytmlffigfhhoihaa
open Go.RowKit Go.Uc

/-- The number that stands in bytes, the lowest first. -/
def leVal : List UInt8 → Nat
  | [] => 0
  | x :: r => x.toNat + 256 * leVal r
theorem leVal_le (k n : Nat) : leVal (le k n) = n % 256 ^ k := by
  induction k generalizing n with
  | zero => simp [leVal, le, Nat.mod_one]
  | succ k ih =>
    rw [le, leVal, ih, ofNat_toNat _ (Nat.mod_lt _ (by decide)), Nat.pow_succ, Nat.mul_comm (256 ^ k) 256, Nat.mod_mul]
theorem leVal_lt (xs : List UInt8) : leVal xs < 256 ^ xs.length := by
  induction xs with
  | nil => simp [leVal]
  | cons x r ih =>
    have := x.toNat_lt
    rw [leVal, List.length_cons, Nat.pow_succ]
    omega
theorem leVal_snoc (xs : List UInt8) (x : UInt8) : leVal (xs ++ [x]) = leVal xs + x.toNat * 256 ^ xs.length := by
  induction xs with
  | nil => simp [leVal]
  | cons y r ih =>
    rw [List.cons_append, leVal, ih, leVal, List.length_cons, Nat.pow_succ, Nat.mul_add, Nat.add_assoc, Nat.mul_comm (256 ^ r.length) 256, ← Nat.mul_assoc, ← Nat.mul_assoc, Nat.mul_comm 256 x.toNat]
theorem le_inj {k a b : Nat} (ha : a < 256 ^ k) (hb : b < 256 ^ k) (h : le k a = le k b) : a = b := by
  have := congrArg leVal h
  rwa [leVal_le, leVal_le, Nat.mod_eq_of_lt ha, Nat.mod_eq_of_lt hb] at this

def sub (reg : List UInt8) (at_ n : Nat) : List UInt8 := (reg.drop at_).take n
theorem sub_length (reg : List UInt8) (at_ n : Nat) (h : at_ + n ≤ reg.length) : (sub reg at_ n).length = n := by simp [sub]; omega
theorem sub_add (reg : List UInt8) (at_ a b : Nat) : sub reg at_ (a + b) = sub reg at_ a ++ sub reg (at_ + a) b := by
  simp [sub, List.take_add, List.drop_drop]
theorem sub_sub (reg : List UInt8) (at_ n o m : Nat) (h : o + m ≤ n) : sub (sub reg at_ n) o m = sub reg (at_ + o) m := by
  simp only [sub, List.drop_take, List.drop_drop, List.take_take]
  rw [Nat.min_eq_left (by omega)]
/-- The bytes that a record's pieces hold, one behind the other. -/
def bodyTo (reg : List UInt8) (at_ : Nat) : Nat → List UInt8
  | 0 => []
  | k + 1 => bodyTo reg at_ k ++ sub reg (at_ + 88 * k + 20) 68
theorem bodyTo_length (reg : List UInt8) (at_ k : Nat) (h : at_ + 88 * k ≤ reg.length) : (bodyTo reg at_ k).length = 68 * k := by
  induction k with
  | zero => rfl
  | succ k ih => rw [bodyTo, List.length_append, ih (by omega), sub_length _ _ _ (by omega)]; omega
def manyAt (reg : List UInt8) (at_ : Nat) : Nat := leVal (sub reg (at_ + 16) 4)
def bytesAt (reg : List UInt8) (at_ : Nat) : List UInt8 := (bodyTo reg at_ (pieces (manyAt reg at_))).take (manyAt reg at_)
/-- The record that stands at a place of a region (of 22528 bytes). -/
def recOf (reg : List UInt8) (base at_ next : Nat) : Option (List UInt8) :=
  if 22528 < at_ + 88 then none
  else if roomB at_ (manyAt reg at_) = false then none
  else if recB base next (bytesAt reg at_) = sub reg at_ (88 * pieces (manyAt reg at_)) then some (bytesAt reg at_) else none

theorem pieces_mul (m : Nat) : m ≤ 68 * pieces m := by unfold pieces; omega
theorem bytesAt_length {reg : List UInt8} {at_ : Nat} (hl : reg.length = 22528) (hr : roomB at_ (manyAt reg at_) = true) : (bytesAt reg at_).length = manyAt reg at_ := by
  have h1 := room_of hr
  have h2 := pieces_mul (manyAt reg at_)
  rw [bytesAt, List.length_take, bodyTo_length _ _ _ (by omega)]
  omega
theorem room_le {at_ n : Nat} (h : roomB at_ n = true) : n ≤ 4096 := by simp [roomB] at h; omega

/-- What recOf asks, in one. -/
theorem recOf_some {reg : List UInt8} {base at_ next : Nat} {b : List UInt8} (hl : reg.length = 22528) (h : recOf reg base at_ next = some b) :
    b.length ≤ 4096 ∧ at_ + 88 * pieces b.length ≤ 22528 ∧ sub reg at_ (88 * pieces b.length) = recB base next b := by
  unfold recOf at h
  split at h
  · cases h
  · split at h
    · cases h
    · rename_i h1 h2
      have h2' : roomB at_ (manyAt reg at_) = true := by simpa using h2
      split at h
      · rename_i h3
        injection h with h
        have h4 := bytesAt_length hl h2'
        rw [h] at h3 h4
        have h5 := room_of h2'
        have h6 := room_le h2'
        rw [← h4] at h5 h6 h3
        exact ⟨h6, h5, h3.symm⟩
      · cases h

theorem sub_at_zero {l : List UInt8} {n : Nat} (h : l.length = n) : sub l 0 n = l := by simp [sub, ← h]
theorem sub_append_left (a b : List UInt8) (o n : Nat) (h : o + n ≤ a.length) : sub (a ++ b) o n = sub a o n := by
  simp only [sub]
  rw [List.drop_append_of_le_length (by omega), List.take_append_of_le_length (by simp; omega)]
theorem sub_append_right (a b : List UInt8) (o n : Nat) : sub (a ++ b) (a.length + o) n = sub b o n := by
  rw [sub, List.drop_append, List.drop_eq_nil_of_le (by omega), Nat.add_sub_cancel_left]
  rfl

/-- Piece k of a record's bytes. -/
theorem recsTo_sub (base next : Nat) (bs : List UInt8) (n k : Nat) (h : k < n) : sub (recsTo base next bs n) (88 * k) 88 = pieceB base next k bs := by
  induction n with
  | zero => omega
  | succ n ih =>
    rw [recsTo]
    rcases Nat.lt_or_ge k n with hk | hk
    · rw [sub_append_left _ _ _ _ (by rw [recsTo_length]; omega), ih hk]
    · obtain rfl : k = n := by omega
      have := sub_append_right (recsTo base next bs k) (pieceB base next k bs) 0 88
      rw [recsTo_length] at this
      rw [show 88 * k = 88 * k + 0 by omega, this, sub_at_zero (pieceB_length _ _ _ _)]
theorem pieceB_head (base next k : Nat) (bs : List UInt8) : sub (pieceB base next k bs) 0 8 = le 8 base := by
  have e : pieceB base next k bs = le 8 base ++ (le 4 next ++ (le 2 k ++ (le 2 (pieces bs.length) ++ (le 4 bs.length ++ (chunk bs k ++ zeros (68 - (chunk bs k).length)))))) := by simp [pieceB, headB]
  rw [e, sub_append_left _ _ _ _ (by rw [le_length]; omega), sub_at_zero (le_length _ _)]
theorem pieceB_many (base next k : Nat) (bs : List UInt8) : sub (pieceB base next k bs) 16 4 = le 4 bs.length := by
  have e : pieceB base next k bs = (le 8 base ++ (le 4 next ++ (le 2 k ++ le 2 (pieces bs.length)))) ++ (le 4 bs.length ++ (chunk bs k ++ zeros (68 - (chunk bs k).length))) := by simp [pieceB, headB]
  have := sub_append_right (le 8 base ++ (le 4 next ++ (le 2 k ++ le 2 (pieces bs.length)))) (le 4 bs.length ++ (chunk bs k ++ zeros (68 - (chunk bs k).length))) 0 4
  simp only [List.length_append, le_length] at this
  rw [e, show (16 : Nat) = 8 + (4 + (2 + 2)) + 0 from rfl, this, sub_append_left _ _ _ _ (by rw [le_length]; omega), sub_at_zero (le_length _ _)]
theorem pieceB_body (base next k : Nat) (bs : List UInt8) : sub (pieceB base next k bs) 20 68 = padC bs k := by
  have := sub_append_right (headB base next k bs.length) (chunk bs k ++ zeros (68 - (chunk bs k).length)) 0 68
  rw [headB_length] at this
  rw [pieceB, show (20 : Nat) = 20 + 0 from rfl, this]
  exact sub_at_zero (padC_length bs k)

/-- The pieces' bodies make up the record's bytes. -/
theorem pads (bs : List UInt8) : ∀ n, (List.range n).flatMap (padC bs) = (bs.take (68 * n)) ++ zeros (68 * n - bs.length)
  | 0 => by simp [zeros]
  | n + 1 => by
    rw [List.range_succ, List.flatMap_append, pads bs n]
    simp only [List.flatMap_cons, List.flatMap_nil, List.append_nil, padC, chunk]
    rcases Nat.lt_or_ge (68 * n) bs.length with h | h
    · rw [show 68 * n - bs.length = 0 by omega, show zeros 0 = [] from rfl, List.append_nil, ← List.append_assoc]
      rw [show 68 * (n + 1) = 68 * n + 68 by omega, List.take_add]
      congr 2
      simp
      omega
    · rw [List.drop_eq_nil_of_le h]
      rw [List.take_of_length_le h, List.take_of_length_le (show bs.length ≤ 68 * (n + 1) by omega)]
      simp only [List.take_nil, List.nil_append, List.length_nil, Nat.sub_zero, List.append_assoc, zeros_add]
      congr 2
      omega
theorem bodyTo_recs {reg : List UInt8} {base at_ next : Nat} {bs : List UInt8} {n : Nat} (h : sub reg at_ (88 * n) = recsTo base next bs n) : ∀ k, k ≤ n → bodyTo reg at_ k = (List.range k).flatMap (padC bs)
  | 0, _ => rfl
  | k + 1, hk => by
    rw [bodyTo, bodyTo_recs h k (by omega), List.range_succ, List.flatMap_append]
    simp only [List.flatMap_cons, List.flatMap_nil, List.append_nil]
    congr 1
    rw [← pieceB_body base next k bs, ← recsTo_sub base next bs n k (by omega), ← h, sub_sub _ _ _ _ _ (by omega), sub_sub _ _ _ _ _ (by omega), Nat.add_assoc]

/-- A record that stands there whole is found. -/
theorem recOf_written {reg : List UInt8} {base at_ next : Nat} {b : List UInt8} (hb : b.length ≤ 4096) (hr : at_ + 88 * pieces b.length ≤ 22528)
    (h : sub reg at_ (88 * pieces b.length) = recB base next b) : recOf reg base at_ next = some b := by
  have hp := pieces_le b.length hb
  have hm : manyAt reg at_ = b.length := by
    unfold manyAt
    have := recsTo_sub base next b (pieces b.length) 0 (by omega)
    have e : sub reg at_ 88 = pieceB base next 0 b := by
      rw [← this, show recsTo base next b (pieces b.length) = recB base next b from rfl, ← h, sub_sub _ _ _ _ _ (by omega)]; rfl
    have e2 : sub reg (at_ + 16) 4 = le 4 b.length := by rw [← pieceB_many base next 0 b, ← e, sub_sub _ _ _ _ _ (by omega)]
    rw [e2, leVal_le, Nat.mod_eq_of_lt (by omega)]
  have hbs : bytesAt reg at_ = b := by
    unfold bytesAt
    rw [hm, bodyTo_recs (n := pieces b.length) h _ (Nat.le_refl _), pads]
    have := pieces_mul b.length
    rw [List.take_of_length_le this, List.take_left]
  unfold recOf
  rw [if_neg (by omega), hbs, hm, if_neg (by simp [roomB]; omega), if_pos h.symm]

/-- Each piece of a record that is found begins with its base. -/
theorem recOf_base {reg : List UInt8} {base at_ next : Nat} {b : List UInt8} (hl : reg.length = 22528) (h : recOf reg base at_ next = some b) (k : Nat) (hk : k < pieces b.length) : sub reg (at_ + 88 * k) 8 = le 8 base := by
  obtain ⟨h1, h2, h3⟩ := recOf_some hl h
  rw [← pieceB_head base next k b, ← recsTo_sub base next b (pieces b.length) k hk, show recsTo base next b (pieces b.length) = recB base next b from rfl, ← h3, sub_sub _ _ _ _ _ (by omega), sub_sub _ _ _ _ _ (by omega)]
  rfl
theorem recOf_none_at {reg : List UInt8} {base at_ next : Nat} (hl : reg.length = 22528) (h : at_ + 88 ≤ 22528 → sub reg at_ 8 ≠ le 8 base) : recOf reg base at_ next = none := by
  cases hb : recOf reg base at_ next with
  | none => rfl
  | some b =>
    obtain ⟨h1, h2, h3⟩ := recOf_some hl hb
    have hp := pieces_le b.length h1
    exact absurd (recOf_base hl hb 0 (by omega)) (h (by omega))

/-- The records of a region, from a place on; how far; with so much fuel. -/
def scanF (reg : List UInt8) (base : Nat) : Nat → Nat → Nat → List (List UInt8) × Nat × Nat
  | 0, at_, next => ([], at_, next)
  | f + 1, at_, next =>
    match recOf reg base at_ next with
    | none => ([], at_, next)
    | some b => let r := scanF reg base f (at_ + 88 * pieces b.length) (next + 1); (b :: r.1, r.2)
theorem scanF_stop {reg : List UInt8} {base at_ next : Nat} (h : recOf reg base at_ next = none) : ∀ f, scanF reg base f at_ next = ([], at_, next)
  | 0 => rfl
  | f + 1 => by rw [scanF, h]
end Go.Proofs.Ytmlffigfhhoihaa
