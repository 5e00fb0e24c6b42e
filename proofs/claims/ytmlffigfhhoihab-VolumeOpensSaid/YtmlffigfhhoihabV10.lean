/- The plain law of volumes: the cells of a volume tell it. -/
import Derived.Test.YtmlffigfhhoihabV9
namespace Go.Proofs.Ytmlffigfhhoihab
open Go.RowKit Go.Uc

/-- The number that stands in bytes, the lowest first. -/
def leVal : List UInt8 → Nat
  | [] => 0
  | x :: r => x.toNat + 256 * leVal r
theorem leVal_le (k n : Nat) : leVal (le k n) = n % 256 ^ k := by
  induction k generalizing n with
  | zero => simp [leVal, le, Nat.mod_one]
  | succ k ih =>
    rw [le, leVal, ih, ofNat_toNat _ (Nat.mod_lt _ (by decide)), Nat.pow_succ, Nat.mul_comm (256 ^ k) 256, Nat.mod_mul]
theorem le_leVal : ∀ d : List UInt8, le d.length (leVal d) = d
  | [] => rfl
  | x :: r => by
    rw [List.length_cons, le, leVal]
    have hx := x.toNat_lt
    have h1 : (x.toNat + 256 * leVal r) % 256 = x.toNat := by omega
    have h2 : (x.toNat + 256 * leVal r) / 256 = leVal r := by omega
    rw [h1, h2, le_leVal r]
    simp
def key (c : Cel) : Int × Int × List UInt8 := (c.obj, c.at_, c.data)
theorem eqL_iff (xs ys : List Cel) : eqL xs ys ↔ xs.map key = ys.map key := by
  constructor
  · rintro ⟨hl, h⟩
    apply List.ext_getElem (by simp [hl])
    intro i h1 h2
    simp at h1 h2
    obtain ⟨a, b, c⟩ := h i h1 h2
    simp [key, a, b, c]
  · intro h
    have hl : xs.length = ys.length := by simpa using congrArg List.length h
    refine ⟨hl, fun i h1 h2 => ?_⟩
    have e : (xs.map key)[i]'(by simpa using h1) = (ys.map key)[i]'(by simpa using h2) := by simp only [h]
    simp [key] at e
    exact e
def layC (Y : List UInt8) (c : Cel) : List UInt8 := lay Y (c.at_.toNat * 256) c.data
def foldC (Y : List UInt8) (l : List Cel) : List UInt8 := l.foldl layC Y
theorem foldC_eq (Y : List UInt8) : ∀ xs ys : List Cel, xs.map key = ys.map key → foldC Y xs = foldC Y ys := by
  intro xs
  induction xs generalizing Y with
  | nil => intro ys h; simp at h; rw [h]
  | cons x xs ih =>
    intro ys h
    cases ys with
    | nil => simp at h
    | cons y ys =>
      simp only [List.map_cons, List.cons.injEq] at h
      obtain ⟨h1, h2⟩ := h
      have e : layC Y x = layC Y y := by
        simp only [key, Prod.mk.injEq] at h1
        obtain ⟨-, a, b⟩ := h1
        unfold layC
        rw [a, b]
      show foldC (layC Y x) xs = foldC (layC Y y) ys
      rw [e]
      exact ih _ _ h2
def tailTo (xs : List UInt8) : Nat → List Cel
  | 0 => []
  | k + 1 => if sub xs (256 * k) 256 = zeros 256 then tailTo xs k else tailTo xs k ++ [⟨1, k, 0, sub xs (256 * k) 256⟩]
theorem cellsTo_cons (xs : List UInt8) (k : Nat) : cellsTo xs k = ⟨1, -1, 0, le 4 xs.length⟩ :: tailTo xs k := by
  induction k with
  | zero => rfl
  | succ k ih =>
    rw [cellsTo, tailTo]
    split
    · exact ih
    · rw [ih]; rfl
theorem foldC_tail (X : List UInt8) (k : Nat) (h : 256 * k ≤ X.length) : foldC (zeros X.length) (tailTo X k) = X.take (256 * k) ++ zeros (X.length - 256 * k) := by
  induction k with
  | zero => simp [tailTo, foldC]
  | succ k ih =>
    have ih' := ih (by omega)
    have e1 : X.take (256 * (k + 1)) = X.take (256 * k) ++ sub X (256 * k) 256 := by
      rw [show 256 * (k + 1) = 256 * k + 256 by omega, List.take_add]
      rfl
    rw [tailTo]
    split
    · rename_i hz
      have e2 : 256 + (X.length - 256 * (k + 1)) = X.length - 256 * k := by omega
      rw [ih', e1, hz, List.append_assoc, zeros_add, e2]
    · have hl : (X.take (256 * k)).length = 256 * k := by simp; omega
      have hs : (sub X (256 * k) 256).length = 256 := by simp [sub]; omega
      unfold foldC at ih' ⊢
      rw [List.foldl_append, ih']
      show lay _ (((k : Int)).toNat * 256) _ = _
      rw [e1, Int.toNat_natCast, Nat.mul_comm k 256]
      unfold lay
      rw [List.take_append_of_le_length (by omega), List.take_of_length_le (by omega), hs, List.drop_append, hl]
      rw [List.drop_eq_nil_of_le (by omega), List.nil_append, zeros_drop, List.append_assoc]
      have e2 : X.length - 256 * k - (256 * k + 256 - 256 * k) = X.length - 256 * (k + 1) := by omega
      rw [e2]

/-- What holds of a volume's cells. -/
structure Fine (X : List UInt8) (k : Nat) (xs : List Cel) : Prop where
  each : ∀ i (h : i < xs.length), okC xs[i] ∧ xs[i].obj = 1 ∧ xs[i].at_ < k ∧ (1 ≤ i → 0 ≤ xs[i].at_ ∧ xs[i].data.length = 256)
  up : ∀ i j (h : i < xs.length) (h' : j < xs.length), i < j → xs[i].at_ < xs[j].at_
  len : xs.length ≤ k + 1
  head : ∃ r, xs = ⟨1, -1, 0, le 4 X.length⟩ :: r
theorem fine_cells (X : List UInt8) (h256 : 256 ≤ X.length) (hmax : X.length ≤ 16384) (k : Nat) (h : 256 * k ≤ X.length) : Fine X k (cellsTo X k) := by
  induction k with
  | zero =>
    refine ⟨fun i hi => ?_, fun i j hi hj hij => ?_, by simp [cellsTo], ⟨[], rfl⟩⟩
    · obtain rfl : i = 0 := by simp [cellsTo] at hi; exact hi
      simp [cellsTo, okC, le_length]
    · simp [cellsTo] at hi hj; omega
  | succ k ih =>
    have F := ih (by omega)
    rw [cellsTo]
    split
    · exact ⟨fun i hi => by obtain ⟨a, b, c, d⟩ := F.each i hi; exact ⟨a, b, by omega, d⟩, F.up, by have := F.len; omega, F.head⟩
    · have hs : (sub X (256 * k) 256).length = 256 := by simp [sub]; omega
      have hkk : k ≤ 63 := by omega
      refine ⟨fun i hi => ?_, fun i j hi hj hij => ?_, by have := F.len; simp; omega, ?_⟩
      · rcases Nat.lt_or_ge i (cellsTo X k).length with hl | hl
        · rw [List.getElem_append_left hl]
          obtain ⟨a, b, c, d⟩ := F.each i hl
          exact ⟨a, b, by omega, d⟩
        · rw [List.getElem_append_right hl]
          simp [okC, hs]
          omega
      · simp at hi hj
        rw [List.getElem_append_left (show i < (cellsTo X k).length by omega)]
        rcases Nat.lt_or_ge j (cellsTo X k).length with hl | hl
        · rw [List.getElem_append_left hl]; exact F.up i j (by omega) hl hij
        · rw [List.getElem_append_right hl]
          have := (F.each i (by omega)).2.2.1
          simpa using this
      · obtain ⟨r, hr⟩ := F.head
        exact ⟨r ++ [⟨1, k, 0, sub X (256 * k) 256⟩], by rw [hr]; rfl⟩

/-- Cells that tell of a volume. -/
def AlikeV (X : List UInt8) (cs : List Cel) : Prop := szB (X.length : Int) = true ∧ eqL (cellsTo X (X.length / 256)) cs
theorem szB_of {n : Nat} (h : szB (n : Int) = true) : 256 ≤ n ∧ n ≤ 16384 ∧ n % 256 = 0 := by simp [szB] at h; omega
theorem AlikeV.fine {X : List UInt8} {cs : List Cel} (h : AlikeV X cs) : Fine X (X.length / 256) (cellsTo X (X.length / 256)) := by
  obtain ⟨h1, h2, h3⟩ := szB_of h.1
  exact fine_cells X h1 h2 _ (by omega)
theorem okC_eq {a b : Cel} (h : eqC a b) (ha : okC a) : okC b := by
  obtain ⟨h1, h2, h3⟩ := h
  unfold okC at ha ⊢
  rw [← h1, ← h2, ← h3]
  exact ha
theorem AlikeV.may {X : List UInt8} {cs : List Cel} (h : AlikeV X cs) : MayP cs := by
  have F := h.fine
  obtain ⟨hs, hl, he⟩ := h
  have hz := szB_of hs
  refine ⟨fun i hi _ => ⟨okC_eq (he i (by omega) hi) (F.each i (by omega)).1, fun j hj hji => ?_⟩, by have := F.len; omega⟩
  have a := he i (by omega) hi
  have b := he j (by omega) hj
  refine .inr ⟨?_, ?_⟩
  · rw [← a.1, ← b.1, (F.each i (by omega)).2.1, (F.each j (by omega)).2.1]
  · rw [← a.2.1, ← b.2.1]
    exact F.up j i (by omega) (by omega) (by omega)
theorem AlikeV.head {X : List UInt8} {cs : List Cel} (h : AlikeV X cs) : ∃ h0 : 0 < cs.length, cs[0].at_ = -1 ∧ cs[0].data.length = 4 ∧ leVal cs[0].data = X.length := by
  have F := h.fine
  obtain ⟨hs, hl, he⟩ := h
  have hz := szB_of hs
  obtain ⟨r, hr⟩ := F.head
  have h0 : 0 < (cellsTo X (X.length / 256)).length := by rw [hr]; simp
  have a := he 0 h0 (by omega)
  have e0 : (cellsTo X (X.length / 256))[0] = ⟨1, -1, 0, le 4 X.length⟩ := by simp only [hr, List.getElem_cons_zero]
  rw [e0] at a
  obtain ⟨-, a2, a3⟩ := a
  simp only at a2 a3
  refine ⟨by omega, a2.symm, by rw [← a3, le_length], by rw [← a3, leVal_le, Nat.mod_eq_of_lt (by omega)]⟩
theorem AlikeV.tail {X : List UInt8} {cs : List Cel} (h : AlikeV X cs) (i : Nat) (hi : i < cs.length) (h1 : 1 ≤ i) : cs[i].obj = 1 ∧ cs[i].data.length = 256 ∧ 0 ≤ cs[i].at_ ∧ (cs[i].at_ + 1) * 256 ≤ X.length := by
  have F := h.fine
  obtain ⟨hs, hl, he⟩ := h
  have hz := szB_of hs
  obtain ⟨a1, a2, a3⟩ := he i (by omega) hi
  obtain ⟨-, b2, b3, b4⟩ := F.each i (by omega)
  have b5 := b4 h1
  rw [← a1, ← a2, ← a3]
  refine ⟨b2, b5.2, b5.1, ?_⟩
  omega
theorem AlikeV.fold {X : List UInt8} {cs : List Cel} (h : AlikeV X cs) : foldC (zeros X.length) cs.tail = X := by
  obtain ⟨hs, he⟩ := h
  have hz := szB_of hs
  rw [eqL_iff, cellsTo_cons] at he
  have h2 : (tailTo X (X.length / 256)).map key = cs.tail.map key := by
    have := congrArg List.tail he
    simpa using this
  rw [← foldC_eq _ _ _ h2, foldC_tail X _ (by omega)]
  have e : 256 * (X.length / 256) = X.length := by omega
  rw [e]
  simp [zeros]
theorem AlikeV.unique {X Y : List UInt8} {cs : List Cel} (h : AlikeV X cs) (h' : AlikeV Y cs) : X = Y := by
  obtain ⟨h0, _, _, a⟩ := h.head
  obtain ⟨_, _, _, b⟩ := h'.head
  have e : X.length = Y.length := by omega
  rw [← h.fold, ← h'.fold, e]
theorem alike_own {X : List UInt8} (h : szB (X.length : Int) = true) : AlikeV X (cellsTo X (X.length / 256)) := ⟨h, rfl, fun _ _ _ => ⟨rfl, rfl, rfl⟩⟩
theorem layC_length (Y : List UInt8) (c : Cel) (h1 : 0 ≤ c.at_) (h2 : c.data.length = 256) (h3 : (c.at_ + 1) * 256 ≤ Y.length) : (layC Y c).length = Y.length := lay_length _ _ _ (by omega)
theorem or_byte (m x k : Nat) (hm : m < 256 ^ k) (hx : x < 256) (hk : k ≤ 3) : bits .or .i64 (m : Int) (wrap64 ((x : Int) * 2 ^ (8 * k))) = ((m + x * 256 ^ k : Nat) : Int) := by
  have e : (2 : Int) ^ (8 * k) = ((256 ^ k : Nat) : Int) := by rw [Int.pow_mul]; simp
  have e2 : (256 : Nat) ^ k = 2 ^ (8 * k) := by rw [Nat.pow_mul]
  have hp : (256 : Nat) ^ k ≤ 256 ^ 3 := Nat.pow_le_pow_right (by decide) hk
  have hy : x * 256 ^ k < 4294967296 := by
    have := Nat.mul_le_mul (show x ≤ 255 by omega) hp
    omega
  rw [e, ← Int.natCast_mul, IntWalk.wrap64_in _ ⟨by omega, by omega⟩]
  rw [(bits_nat .i64 63 (by decide) (fun n h0 h1 => by rw [IntKind.wrap_i64]; omega) m (x * 256 ^ k) (by omega) (by omega)).2]
  congr 1
  rw [Nat.or_comm, e2, Nat.mul_comm x, ← Nat.two_pow_add_eq_or_of_lt (by rw [← e2]; exact hm) x]
  omega
theorem or4 (a b c d : UInt8) : bits .or .i64 (bits .or .i64 (bits .or .i64 (a.toNat : Int) ((b.toNat : Int) * 256)) ((c.toNat : Int) * 65536)) ((d.toNat : Int) * 16777216) = ((leVal [a, b, c, d] : Nat) : Int) := by
  have ha := a.toNat_lt
  have hb := b.toNat_lt
  have hc := c.toNat_lt
  have hd := d.toNat_lt
  have e1 := or_byte a.toNat b.toNat 1 (by omega) hb (by omega)
  have e2 := or_byte (a.toNat + b.toNat * 256 ^ 1) c.toNat 2 (by omega) hc (by omega)
  have e3 := or_byte (a.toNat + b.toNat * 256 ^ 1 + c.toNat * 256 ^ 2) d.toNat 3 (by omega) hd (by omega)
  rw [show ((b.toNat : Int) * 2 ^ (8 * 1)) = (b.toNat : Int) * 256 by omega, IntWalk.wrap64_in _ ⟨by omega, by omega⟩] at e1
  rw [show ((c.toNat : Int) * 2 ^ (8 * 2)) = (c.toNat : Int) * 65536 by omega, IntWalk.wrap64_in _ ⟨by omega, by omega⟩] at e2
  rw [show ((d.toNat : Int) * 2 ^ (8 * 3)) = (d.toNat : Int) * 16777216 by omega, IntWalk.wrap64_in _ ⟨by omega, by omega⟩] at e3
  rw [e1, e2, e3]
  simp only [leVal]
  omega
end Go.Proofs.Ytmlffigfhhoihab
