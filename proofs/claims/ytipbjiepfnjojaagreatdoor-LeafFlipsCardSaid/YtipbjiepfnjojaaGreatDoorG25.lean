/- How this seat's arguments are read: truths, and where a slice lies. Fletcher's sum, the plain laws. Fletcher's sum, word by word. Fletcher's sum of two pieces; a byte turned. LeafFlips: a byte turned, plain law. A sector turned about. -/
import Derived.Test.YtipbjiepfnjojaaGreatDoorG24
import Derived.Deep.Grids
import Derived.LaidLaws
import Derived.LaidMore
import Derived.Lay
import Derived.LaidOnce
import Derived.SevenTiedAt
import Derived.Test.YtipbjiepfnjojaaGreatDoorG5
namespace Go.Proofs.YtipbjiepfnjojaaGreatDoor
open Go.ChangeShapes Go.WideShapes Go.ChangeAt Go.RowKit Go.Uc

theorem shape_lt {w : World} {b : Nat} {x : TypeId × Nat} (h : w.shape? b = some x) : b < w.heap.size := by
  unfold World.shape? at h
  rcases Nat.lt_or_ge b w.heap.size with hlt | hge
  · exact hlt
  · rw [Array.getElem?_eq_none hge] at h; cases h
theorem okWide_block {P : Program} {w : World} {r : Reach} {base : Nat} {t e : TypeId} {A : Option Addr} {n c : Nat} (ht : P.underlying t = some (.slice e)) (h : Value.okWide P w r base t (.slice A n c)) : ∀ ad, A = some ad → ad.block < w.heap.size := by
  intro ad e'
  subst e'
  simp only [Value.okWide, ht, Cell.okWide, Cell.ok] at h
  obtain ⟨-, -, -, -, row, cells, hs, -⟩ := h
  exact shape_lt hs
theorem bools_open {H : Type} {enc : TypeId × Value → H} {P : Program} {w : World} {base : Nat} {held : Bool} {t e : TypeId} {fuel n c : Nat} {A : Option Addr} {x : DataW H × List MemPlace} (ht : P.underlying t = some (.slice e)) (he : P.underlying e = some .bool) (ce : P.cellsOf e = 1) (be : P.bytesOf e = 1)
    (h : DataW.trod enc P w base (fun _ => true) held fuel t [.slice A n c] = some x) (hw : ∀ m ∈ x.1.weights P t, m ≤ reachBytes) :
    ∃ bs : List Bool, bs.length = n ∧ AtB w A bs ∧ n ≤ c ∧ c ≤ 140737488351232 := by
  rcases Go.Deep.open_bools ht he ce h with ⟨hcs, _⟩ | ⟨a, len, cap, B, hcs, _, hl, hm, hx, hcell⟩
  · simp at hcs
    obtain ⟨rfl, rfl, rfl⟩ := hcs
    exact ⟨[], rfl, AtB.nil _ _, Nat.le_refl _, by omega⟩
  · simp at hcs
    obtain ⟨rfl, rfl, rfl⟩ := hcs
    have hcap : c ≤ reachBytes := by
      have hx1 : x.1 = Go.Deep.boolRow (some a) n c B := by rw [hx]
      rw [hx1] at hw
      have := hw (c * 1) (by simp [Go.Deep.boolRow, DataW.weights, ht, be]; left; omega)
      omega
    refine ⟨(List.range n).map B, by simp, fun i hi => ?_, hl, by simpa [reachBytes] using hcap⟩
    simp at hi
    have h0 := hcell i (by omega)
    obtain ⟨b, off, sp⟩ := a
    have hsp : sp = none := by
      have := World.cell?_spot (hcell 0 (by omega))
      simpa [Addr.add] using this
    subst hsp
    refine ⟨b, off, rfl, ?_⟩
    rw [addr_add_none] at h0
    rw [h0]
    simp
end Go.Proofs.YtipbjiepfnjojaaGreatDoor
namespace Go.Proofs.YtipbjiepfnjojaaGreatDoor
open Go.RowKit Go.Uc

theorem Rn.add_append (x : Rn) (a b : List UInt8) : (x.add a).add b = x.add (a ++ b) := by simp [Rn.add, List.foldl_append]
/-- What is not in yet is nought. -/
def Rn.Ok (x : Rn) : Prop := x.k < 4 ∧ (x.k = 0 → x.p = 0) ∧ (x.k ≤ 1 → x.q = 0) ∧ (x.k ≤ 2 → x.r = 0) ∧ (x.k ≤ 3 → x.t = 0)
theorem rn0_ok : rn0.Ok := by unfold Rn.Ok rn0; simp
theorem Rn.cases4 (x : Rn) (h : x.k < 4) : x.k = 0 ∨ x.k = 1 ∨ x.k = 2 ∨ x.k = 3 := by omega
theorem Rn.step_ok (x : Rn) (c : UInt8) (h : x.Ok) : (x.step c).Ok := by
  obtain ⟨s, p, q, r, t, k⟩ := x
  obtain ⟨h0, h1, h2, h3, h4⟩ := h
  simp only at h0 h1 h2 h3 h4
  rcases (show k = 0 ∨ k = 1 ∨ k = 2 ∨ k = 3 by omega) with rfl | rfl | rfl | rfl <;> simp_all [Rn.step, Rn.Ok]
theorem Rn.add_ok (bs : List UInt8) : ∀ (x : Rn), x.Ok → (x.add bs).Ok := by
  induction bs with
  | nil => exact fun _ h => h
  | cons c bs ih => exact fun x h => ih _ (x.step_ok c h)
theorem Rn.step_k (x : Rn) (c : UInt8) (h : x.k < 4) : (x.step c).k = (x.k + 1) % 4 := by
  obtain ⟨s, p, q, r, t, k⟩ := x
  simp only at h
  rcases (show k = 0 ∨ k = 1 ∨ k = 2 ∨ k = 3 by omega) with rfl | rfl | rfl | rfl <;> simp [Rn.step]
theorem Rn.add_k (bs : List UInt8) : ∀ (x : Rn), x.k < 4 → (x.add bs).k = (x.k + bs.length) % 4 := by
  induction bs with
  | nil => intro x h; simp [Rn.add]; omega
  | cons c bs ih =>
    intro x h
    have := ih (x.step c) (x.step_lt c)
    show ((x.step c).add bs).k = _
    rw [this, x.step_k c h, List.length_cons]
    omega
/-- Noughts up to a whole word leave the value as it is. -/
theorem Rn.pad (x : Rn) (h : x.Ok) : (x.add (zeros ((4 - x.k) % 4))).value = x.value ∧ (x.add (zeros ((4 - x.k) % 4))).k = 0 := by
  obtain ⟨s, p, q, r, t, k⟩ := x
  obtain ⟨h0, h1, h2, h3, h4⟩ := h
  simp only at h0 h1 h2 h3 h4
  rcases (show k = 0 ∨ k = 1 ∨ k = 2 ∨ k = 3 by omega) with rfl | rfl | rfl | rfl
  · simp [zeros, Rn.add]
  · have e2 := h2 (by omega); have e3 := h3 (by omega); have e4 := h4 (by omega)
    subst e2 e3 e4
    simp [zeros, List.replicate, Rn.add, Rn.step, Rn.value]
  · have e3 := h3 (by omega); have e4 := h4 (by omega)
    subst e3 e4
    simp [zeros, List.replicate, Rn.add, Rn.step, Rn.value]
  · have e4 := h4 (by omega)
    subst e4
    simp [zeros, Rn.add, Rn.step, Rn.value]
/-- Four noughts more behind whole words. -/
theorem Rn.next0 (x : Rn) (h : x.k = 0) : (x.add [0, 0, 0, 0]).value = ⟨x.value.a, x.value.b + x.value.a, x.value.c + (x.value.b + x.value.a), x.value.d + (x.value.c + (x.value.b + x.value.a))⟩ := by
  obtain ⟨⟨A, B, C, D⟩, p, q, r, t, k⟩ := x
  simp only at h
  subst h
  have hw : word4 0 0 0 0 = 0 := by decide
  simp [Rn.add, Rn.step, Rn.value, Sum4.plus, hw]
/-- The sum of bytes. -/
def sumF (bs : List UInt8) : Sum4 := (rn0.add bs).value
/-- How many noughts make whole words. -/
def lacks (n : Nat) : Nat := (4 - n % 4) % 4
theorem sumF_pad (bs : List UInt8) : sumF (bs ++ zeros (lacks bs.length)) = sumF bs := by
  have h := (Rn.pad _ (Rn.add_ok bs rn0 rn0_ok)).1
  have hk : (rn0.add bs).k = bs.length % 4 := by rw [Rn.add_k bs rn0 (by decide)]; simp [rn0]
  rw [hk, Rn.add_append] at h
  exact h
theorem sumF_next (bs : List UInt8) (h : bs.length % 4 = 0) : sumF (bs ++ [0, 0, 0, 0]) = ⟨(sumF bs).a, (sumF bs).b + (sumF bs).a, (sumF bs).c + ((sumF bs).b + (sumF bs).a), (sumF bs).d + ((sumF bs).c + ((sumF bs).b + (sumF bs).a))⟩ := by
  have hk : (rn0.add bs).k = 0 := by rw [Rn.add_k bs rn0 (by decide)]; simp [rn0, h]
  have := Rn.next0 _ hk
  rw [Rn.add_append] at this
  exact this
end Go.Proofs.YtipbjiepfnjojaaGreatDoor
namespace Go.Proofs.YtipbjiepfnjojaaGreatDoor
open Go.RowKit Go.Uc

theorem b64_toNat (x : UInt8) : (b64 x).toNat = x.toNat := by unfold b64; have := x.toNat_lt; rw [BitVec.toNat_ofNat, Nat.mod_eq_of_lt (by omega)]
theorem or_shift (a b : BitVec 64) (k : Nat) (ha : a.toNat < 2 ^ k) (hb : b.toNat * 2 ^ k < 2 ^ 64) : (a ||| b <<< k).toNat = a.toNat + b.toNat * 2 ^ k := by
  rw [BitVec.toNat_or, BitVec.toNat_shiftLeft, Nat.shiftLeft_eq, Nat.mod_eq_of_lt hb, Nat.or_comm, ← Nat.shiftLeft_eq, ← Nat.shiftLeft_add_eq_or_of_lt ha]
  omega
theorem word4_toNat (p q r s : UInt8) : (word4 p q r s).toNat = p.toNat + q.toNat * 256 + r.toNat * 65536 + s.toNat * 16777216 := by
  have hp := p.toNat_lt; have hq := q.toNat_lt; have hr := r.toNat_lt; have hs := s.toNat_lt
  unfold word4
  have e1 := or_shift (b64 p) (b64 q) 8 (by rw [b64_toNat]; omega) (by rw [b64_toNat]; omega)
  have e2 := or_shift (b64 p ||| b64 q <<< 8) (b64 r) 16 (by rw [e1, b64_toNat, b64_toNat]; omega) (by rw [b64_toNat]; omega)
  have e3 := or_shift (b64 p ||| b64 q <<< 8 ||| b64 r <<< 16) (b64 s) 24 (by rw [e2, e1, b64_toNat, b64_toNat, b64_toNat]; omega) (by rw [b64_toNat]; omega)
  rw [e3, e2, e1, b64_toNat, b64_toNat, b64_toNat, b64_toNat]
/-- By Horner's rule. -/
theorem horner (p q r s : UInt8) : 256#64 * (256#64 * (256#64 * (256#64 * 0#64 + b64 s) + b64 r) + b64 q) + b64 p = word4 p q r s := by
  have hp := p.toNat_lt; have hq := q.toNat_lt; have hr := r.toNat_lt; have hs := s.toNat_lt
  apply BitVec.eq_of_toNat_eq
  rw [word4_toNat]
  simp only [BitVec.toNat_add, BitVec.toNat_mul, b64_toNat, BitVec.toNat_ofNat]
  omega
/-- Word n of bytes, noughts behind them. -/
def wordN (bs : List UInt8) (n : Nat) : BitVec 64 := word4 (bs.getD (4 * n) 0) (bs.getD (4 * n + 1) 0) (bs.getD (4 * n + 2) 0) (bs.getD (4 * n + 3) 0)
/-- The sum of the first n words. -/
def fsum (bs : List UInt8) : Nat → Sum4
  | 0 => sum0
  | n + 1 => (fsum bs n).plus (wordN bs n)
theorem add_four (s : Sum4) (a b c d : UInt8) : (⟨s, 0, 0, 0, 0, 0⟩ : Rn).add [a, b, c, d] = ⟨s.plus (word4 a b c d), 0, 0, 0, 0, 0⟩ := rfl
theorem getD_at (bs : List UInt8) (i : Nat) (h : i < bs.length) : bs.getD i 0 = bs[i] := by rw [List.getD_eq_getElem?_getD, List.getElem?_eq_getElem h]; rfl
theorem fsum_succ (bs : List UInt8) (n : Nat) : fsum bs (n + 1) = (fsum bs n).plus (wordN bs n) := rfl
theorem four (M : List UInt8) (h : M.length = 4) : M = [M.getD 0 0, M.getD 1 0, M.getD 2 0, M.getD 3 0] := by
  match M, h with
  | [a, b, c, d], _ => rfl
theorem getD_mid (bs : List UInt8) (m i : Nat) (h : i < 4) : ((bs.drop m).take 4).getD i 0 = bs.getD (m + i) 0 := by
  rw [List.getD_eq_getElem?_getD, List.getElem?_take, if_pos h, List.getElem?_drop, ← List.getD_eq_getElem?_getD]
theorem take_words (bs : List UInt8) : ∀ n, 4 * n ≤ bs.length → rn0.add (bs.take (4 * n)) = ⟨fsum bs n, 0, 0, 0, 0, 0⟩ := by
  intro n
  induction n with
  | zero => intro _; rfl
  | succ n ih =>
    intro h
    rw [show 4 * (n + 1) = 4 * n + 4 by omega, List.take_add, ← Rn.add_append, ih (by omega), four ((bs.drop (4 * n)).take 4) (by simp; omega), add_four, fsum_succ]
    unfold wordN
    rw [getD_mid _ _ _ (by omega), getD_mid _ _ _ (by omega), getD_mid _ _ _ (by omega), getD_mid _ _ _ (by omega)]
    rfl
theorem getD_drop (bs : List UInt8) (m i : Nat) : (bs.drop m).getD i 0 = bs.getD (m + i) 0 := by simp [List.getD_eq_getElem?_getD]
theorem sumF_words (bs : List UInt8) : sumF bs = fsum bs ((bs.length + 3) / 4) := by
  obtain ⟨n, hn⟩ : ∃ n, n = bs.length / 4 := ⟨_, rfl⟩
  have h1 := take_words bs n (by omega)
  have h2 : sumF bs = ((⟨fsum bs n, 0, 0, 0, 0, 0⟩ : Rn).add (bs.drop (4 * n))).value := by
    unfold sumF
    rw [← h1, Rn.add_append, List.take_append_drop]
  have hw : wordN bs n = word4 ((bs.drop (4 * n)).getD 0 0) ((bs.drop (4 * n)).getD 1 0) ((bs.drop (4 * n)).getD 2 0) ((bs.drop (4 * n)).getD 3 0) := by
    unfold wordN; rw [getD_drop, getD_drop, getD_drop, getD_drop]; rfl
  rw [h2]
  obtain ⟨L, hL⟩ : ∃ L, L = bs.drop (4 * n) := ⟨_, rfl⟩
  have hl : L.length = bs.length - 4 * n := by rw [hL]; simp
  rw [← hL] at hw ⊢
  have h3 : (bs.length + 3) / 4 = if L.length = 0 then n else n + 1 := by split <;> omega
  rw [h3]
  have hl4 : L.length < 4 := by omega
  match L, hl4 with
  | [], _ => rfl
  | [a], _ => simp only [List.length_cons, List.length_nil]; rw [if_neg (by omega)]; rw [fsum_succ, hw]; rfl
  | [a, b], _ => simp only [List.length_cons, List.length_nil]; rw [if_neg (by omega)]; rw [fsum_succ, hw]; rfl
  | [a, b, c], _ => simp only [List.length_cons, List.length_nil]; rw [if_neg (by omega)]; rw [fsum_succ, hw]; rfl
end Go.Proofs.YtipbjiepfnjojaaGreatDoor
namespace Go.Proofs.YtipbjiepfnjojaaGreatDoor
open Go.RowKit Go.Uc

theorem getD_left (a b : List UInt8) (i : Nat) (h : i < a.length) : (a ++ b).getD i 0 = a.getD i 0 := by
  rw [List.getD_eq_getElem?_getD, List.getElem?_append_left h, ← List.getD_eq_getElem?_getD]
theorem getD_right (a b : List UInt8) (i : Nat) : (a ++ b).getD (a.length + i) 0 = b.getD i 0 := by
  rw [List.getD_eq_getElem?_getD, List.getElem?_append_right (by omega), Nat.add_sub_cancel_left, ← List.getD_eq_getElem?_getD]
theorem wordN_left (a b : List UInt8) (i : Nat) (h : 4 * i + 3 < a.length) : wordN (a ++ b) i = wordN a i := by
  unfold wordN
  rw [getD_left _ _ _ (by omega), getD_left _ _ _ (by omega), getD_left _ _ _ (by omega), getD_left _ _ _ (by omega)]
theorem wordN_right (a b : List UInt8) (m i : Nat) (h : a.length = 4 * m) : wordN (a ++ b) (m + i) = wordN b i := by
  unfold wordN
  have e : ∀ j, 4 * (m + i) + j = a.length + (4 * i + j) := fun j => by omega
  have e0 := getD_right a b (4 * i)
  rw [show a.length + 4 * i = 4 * (m + i) by omega] at e0
  rw [e0, e 1, e 2, e 3, getD_right, getD_right, getD_right]
theorem fsum_left (a b : List UInt8) : ∀ n, 4 * n ≤ a.length → fsum (a ++ b) n = fsum a n := by
  intro n
  induction n with
  | zero => intro _; rfl
  | succ n ih => intro h; rw [fsum_succ, fsum_succ, ih (by omega), wordN_left _ _ _ (by omega)]
theorem plus_a (s : Sum4) (x : BitVec 64) : (s.plus x).a = s.a + x := rfl
theorem plus_b (s : Sum4) (x : BitVec 64) : (s.plus x).b = s.b + (s.a + x) := rfl
theorem fsum_joins (a b : List UInt8) (m : Nat) (h : a.length = 4 * m) : ∀ k, (fsum (a ++ b) (m + k)).a = (fsum a m).a + (fsum b k).a ∧ (fsum (a ++ b) (m + k)).b = (fsum a m).b + BitVec.ofNat 64 k * (fsum a m).a + (fsum b k).b := by
  intro k
  induction k with
  | zero =>
    rw [Nat.add_zero, fsum_left a b m (by omega)]
    have e1 : (fsum b 0).a = 0#64 := rfl
    have e2 : (fsum b 0).b = 0#64 := rfl
    rw [e1, e2]
    simp
  | succ k ih =>
    obtain ⟨h1, h2⟩ := ih
    rw [show m + (k + 1) = (m + k) + 1 by omega, fsum_succ, fsum_succ, wordN_right a b m k h, plus_a, plus_b, plus_a, plus_b, h1, h2]
    refine ⟨by rw [BitVec.add_assoc], ?_⟩
    have e : BitVec.ofNat 64 (k + 1) * (fsum a m).a = BitVec.ofNat 64 k * (fsum a m).a + (fsum a m).a := by
      rw [BitVec.ofNat_add, BitVec.add_mul, BitVec.one_mul]
    rw [e]
    ac_rfl
theorem sumF_joins (a b : List UInt8) (h : a.length % 4 = 0) : (sumF (a ++ b)).a = (sumF a).a + (sumF b).a ∧ (sumF (a ++ b)).b = (sumF a).b + BitVec.ofNat 64 ((b.length + 3) / 4) * (sumF a).a + (sumF b).b := by
  obtain ⟨m, hm⟩ : ∃ m, a.length = 4 * m := ⟨a.length / 4, by omega⟩
  rw [sumF_words, sumF_words, sumF_words, show (a.length + 3) / 4 = m by omega, List.length_append, show (a.length + b.length + 3) / 4 = m + (b.length + 3) / 4 by omega]
  exact fsum_joins a b m hm _
theorem getD_set (L : List UInt8) (i j : Nat) (x : UInt8) (hi : i < L.length) : (L.set i x).getD j 0 = if j = i then x else L.getD j 0 := by
  rw [List.getD_eq_getElem?_getD, List.getElem?_set]
  by_cases h : j = i
  · subst h; simp [hi]
  · rw [if_neg (fun e => h e.symm), if_neg h, ← List.getD_eq_getElem?_getD]
theorem wordN_other (L : List UInt8) (i n : Nat) (x : UInt8) (hi : i < L.length) (h : n ≠ i / 4) : wordN (L.set i x) n = wordN L n := by
  unfold wordN
  rw [getD_set _ _ _ _ hi, getD_set _ _ _ _ hi, getD_set _ _ _ _ hi, getD_set _ _ _ _ hi, if_neg (by omega), if_neg (by omega), if_neg (by omega), if_neg (by omega)]
theorem wordN_turned (L : List UInt8) (i : Nat) (x : UInt8) (hi : i < L.length) (hx : x ≠ L.getD i 0) : wordN (L.set i x) (i / 4) ≠ wordN L (i / 4) := by
  intro h
  have h1 := congrArg BitVec.toNat h
  unfold wordN at h1
  rw [word4_toNat, word4_toNat, getD_set _ _ _ _ hi, getD_set _ _ _ _ hi, getD_set _ _ _ _ hi, getD_set _ _ _ _ hi] at h1
  apply hx
  apply UInt8.toNat_inj.1
  rcases (show i % 4 = 0 ∨ i % 4 = 1 ∨ i % 4 = 2 ∨ i % 4 = 3 by omega) with e | e | e | e
  · rw [if_pos (by omega), if_neg (by omega), if_neg (by omega), if_neg (by omega), show 4 * (i / 4) = i by omega] at h1
    omega
  · rw [if_neg (by omega), if_pos (by omega), if_neg (by omega), if_neg (by omega), show 4 * (i / 4) + 1 = i by omega] at h1
    omega
  · rw [if_neg (by omega), if_neg (by omega), if_pos (by omega), if_neg (by omega), show 4 * (i / 4) + 2 = i by omega] at h1
    omega
  · rw [if_neg (by omega), if_neg (by omega), if_neg (by omega), if_pos (by omega), show 4 * (i / 4) + 3 = i by omega] at h1
    omega
theorem fsum_turned (L : List UInt8) (i : Nat) (x : UInt8) (hi : i < L.length) : ∀ n, (n ≤ i / 4 → (fsum (L.set i x) n).a = (fsum L n).a) ∧ (i / 4 < n → (fsum (L.set i x) n).a + wordN L (i / 4) = (fsum L n).a + wordN (L.set i x) (i / 4)) := by
  intro n
  induction n with
  | zero => exact ⟨fun _ => rfl, fun h => by omega⟩
  | succ n ih =>
    refine ⟨fun h => ?_, fun h => ?_⟩
    · rw [fsum_succ, fsum_succ, plus_a, plus_a, ih.1 (by omega), wordN_other L i n x hi (by omega)]
    · rw [fsum_succ, fsum_succ, plus_a, plus_a]
      by_cases e : n = i / 4
      · subst e
        rw [ih.1 (by omega)]
        ac_rfl
      · have := ih.2 (by omega)
        rw [wordN_other L i n x hi e]
        calc (fsum (L.set i x) n).a + wordN L n + wordN L (i / 4) = ((fsum (L.set i x) n).a + wordN L (i / 4)) + wordN L n := by ac_rfl
          _ = ((fsum L n).a + wordN (L.set i x) (i / 4)) + wordN L n := by rw [this]
          _ = _ := by ac_rfl
/-- A byte turned alone turns A. -/
theorem sumF_turned (L : List UInt8) (i : Nat) (x : UInt8) (hi : i < L.length) (hx : x ≠ L.getD i 0) : (sumF (L.set i x)).a ≠ (sumF L).a := by
  rw [sumF_words, sumF_words, List.length_set]
  intro h
  have h2 := (fsum_turned L i x hi ((L.length + 3) / 4)).2 (by omega)
  rw [h] at h2
  exact wordN_turned L i x hi hx ((BitVec.add_right_inj _).1 h2).symm
end Go.Proofs.YtipbjiepfnjojaaGreatDoor
namespace Go.Proofs.YtipbjiepfnjojaaGreatDoor
set_option maxRecDepth 100000
open Go.RowKit Go.Uc

theorem fl_turned (xs : List UInt8) (i : Nat) (x : UInt8) (hi : i < xs.length) (hx : x ≠ xs.getD i 0) : fl (xs.set i x) ≠ fl xs := fun h => by
  have h1 := congrArg S4.a h
  exact sumF_turned xs i x hi hx (BitVec.eq_of_toNat_eq h1)
theorem leVal_inj : ∀ (xs ys : List UInt8), xs.length = ys.length → leVal xs = leVal ys → xs = ys
  | [], [], _, _ => rfl
  | [], y :: ys, h, _ => by simp at h
  | x :: xs, [], h, _ => by simp at h
  | x :: xs, y :: ys, h, e => by
    simp only [leVal] at e
    have hx := x.toNat_lt
    have hy := y.toNat_lt
    have e1 : x.toNat = y.toNat := by omega
    have e2 : leVal xs = leVal ys := by omega
    rw [UInt8.toNat_inj.1 e1, leVal_inj xs ys (by simpa using h) e2]
theorem n8_turned (c : List UInt8) (q k : Nat) (x : UInt8) (hq : q + 8 ≤ c.length) (h1 : q ≤ k) (h2 : k < q + 8) (hx : x ≠ c.getD k 0) : n8 (c.set k x) q ≠ n8 c q := fun h => by
  have e := leVal_inj _ _ (by simp) h
  have e2 := congrArg (fun l => l[k - q]?) e
  simp only [List.getElem?_take, List.getElem?_drop] at e2
  rw [if_pos (by omega), if_pos (by omega), show q + (k - q) = k by omega, List.getElem?_set_self (by omega)] at e2
  apply hx
  rw [List.getD_eq_getElem?_getD, ← e2]
  rfl
theorem n8_other (c : List UInt8) (q k : Nat) (x : UInt8) (h : k < q ∨ q + 8 ≤ k) : n8 (c.set k x) q = n8 c q := by
  unfold n8
  congr 1
  apply List.ext_getElem?
  intro i
  rw [List.getElem?_take, List.getElem?_take, List.getElem?_drop, List.getElem?_drop]
  by_cases hi : i < 8
  · rw [if_pos hi, if_pos hi, List.getElem?_set_ne (by omega)]
  · rw [if_neg hi, if_neg hi]
theorem sumAt_turned (c : List UInt8) (q k : Nat) (x : UInt8) (hq : q + 32 ≤ c.length) (h1 : q ≤ k) (h2 : k < q + 32) (hx : x ≠ c.getD k 0) : sumAt (c.set k x) q ≠ sumAt c q := fun h => by
  unfold sumAt at h
  injection h with e1 e2 e3 e4
  rcases (show k < q + 8 ∨ (q + 8 ≤ k ∧ k < q + 8 + 8) ∨ (q + 16 ≤ k ∧ k < q + 16 + 8) ∨ (q + 24 ≤ k ∧ k < q + 24 + 8) by omega) with h | h | h | h
  · exact n8_turned c q k x (by omega) h1 h hx e1
  · exact n8_turned c (q + 8) k x (by omega) h.1 h.2 hx e2
  · exact n8_turned c (q + 16) k x (by omega) h.1 h.2 hx e3
  · exact n8_turned c (q + 24) k x (by omega) h.1 h.2 hx e4
theorem sumAt_other (c : List UInt8) (q k : Nat) (x : UInt8) (h : k < q ∨ q + 32 ≤ k) : sumAt (c.set k x) q = sumAt c q := by
  unfold sumAt
  rw [n8_other c q k x (by omega), n8_other c (q + 8) k x (by omega), n8_other c (q + 16) k x (by omega), n8_other c (q + 24) k x (by omega)]
theorem take_set_in (c : List UInt8) (n k : Nat) (x : UInt8) (h : k < n) : (c.set k x).take n = (c.take n).set k x := by
  rw [List.take_set]
theorem opens_turned {L c : List UInt8} (hc : c.length = 128) (ho : Opens L c) (k : Nat) (hk : k < 128) (x : UInt8) (hx : x ≠ c.getD k 0) : ¬ Opens L (c.set k x) := fun h => by
  obtain ⟨-, h1⟩ := ho
  obtain ⟨-, h2⟩ := h
  by_cases hk96 : k < 96
  · rw [sumAt_other c 96 k x (.inl hk96), h1, take_set_in c 96 k x hk96] at h2
    refine fl_turned (c.take 96) k x (by simp; omega) ?_ h2.symm
    rw [List.getD_eq_getElem?_getD, List.getElem?_take, if_pos hk96, ← List.getD_eq_getElem?_getD]
    exact hx
  · have e : (c.set k x).take 96 = c.take 96 := by
      rw [List.take_set, List.set_eq_of_length_le (by simp; omega)]
    rw [e, ← h1] at h2
    exact sumAt_turned c 96 k x (by omega) (by omega) (by omega) hx h2
theorem logOk_turned {c : List UInt8} (hc : c.length = 128) (ho : LogOk c) (k : Nat) (hk : k < 128) (x : UInt8) (hx : x ≠ c.getD k 0) : ¬ LogOk (c.set k x) := fun h => by
  obtain ⟨h1, -⟩ := ho
  obtain ⟨h2, -⟩ := h
  by_cases hk32 : k < 32
  · have e : (c.set k x).drop 32 = c.drop 32 := by
      apply List.ext_getElem?
      intro i
      rw [List.getElem?_drop, List.getElem?_drop, List.getElem?_set_ne (by omega)]
    rw [e, ← h1] at h2
    exact sumAt_turned c 0 k x (by omega) (by omega) (by omega) hx h2
  · have e : (c.set k x).drop 32 = (c.drop 32).set (k - 32) x := by
      apply List.ext_getElem?
      intro i
      rw [List.getElem?_drop, List.getElem?_set, List.getElem?_set, List.getElem?_drop, List.length_drop]
      by_cases hi : k = 32 + i
      · subst hi
        rw [if_pos rfl, if_pos (by omega), if_pos (by omega), if_pos (by omega)]
      · rw [if_neg hi, if_neg (by omega)]
    rw [sumAt_other c 0 k x (.inr (by omega)), h1, e] at h2
    refine fl_turned (c.drop 32) (k - 32) x (by simp; omega) ?_ h2.symm
    rw [List.getD_eq_getElem?_getD, List.getElem?_drop, show 32 + (k - 32) = k by omega, ← List.getD_eq_getElem?_getD]
    exact hx
theorem zeros_turned (k : Nat) (x : UInt8) : ¬ Opens [85, 67, 85, 66] ((zeros 128).set k x) := fun h => by
  obtain ⟨h, -⟩ := h
  by_cases hk : k = 0
  · have := congrArg (fun l => l[1]?) h
    simp only [List.getElem?_take] at this
    rw [if_pos (by omega), List.getElem?_set_ne (by omega)] at this
    exact absurd this (by decide)
  · have := congrArg (fun l => l[0]?) h
    simp only [List.getElem?_take] at this
    rw [if_pos (by omega), List.getElem?_set_ne (by omega)] at this
    exact absurd this (by decide)
end Go.Proofs.YtipbjiepfnjojaaGreatDoor
namespace Go.Proofs.YtipbjiepfnjojaaGreatDoor
set_option maxRecDepth 100000
open Go.RowKit Go.Uc

theorem xor8 (x y : UInt8) : bits .xor .u8 (x.toNat : Int) (y.toNat : Int) = ((x ^^^ y).toNat : Int) := by
  unfold bits
  show IntKind.u8.wrap (BitVec.toNat (BitVec.ofInt 8 (x.toNat : Int) ^^^ BitVec.ofInt 8 (y.toNat : Int)) : Int) = _
  rw [BitVec.ofInt_natCast, BitVec.ofInt_natCast, IntKind.wrap_u8, BitVec.toNat_xor, BitVec.toNat_ofNat, BitVec.toNat_ofNat, UInt8.toNat_xor]
  have hx := x.toNat_lt
  have hy := y.toNat_lt
  have h : x.toNat ^^^ y.toNat < 2 ^ 8 := Nat.xor_lt_two_pow (by omega) (by omega)
  rw [Nat.mod_eq_of_lt (by omega), Nat.mod_eq_of_lt (by omega)]
  omega
theorem xor8_ne (x m : UInt8) (h : m ≠ 0) : x ^^^ m ≠ x := by
  intro e
  apply h
  have : (x ^^^ m) ^^^ x = 0 := by rw [e]; exact UInt8.xor_self
  rw [UInt8.xor_comm x m, UInt8.xor_assoc, UInt8.xor_self, UInt8.xor_zero] at this
  exact this
/-- Bytes turned by the first k of a mask. -/
def turnK (L : List UInt8) (off : Nat) (ms : List UInt8) : Nat → List UInt8
  | 0 => L
  | k + 1 => (turnK L off ms k).set (off + k) ((turnK L off ms k).getD (off + k) 0 ^^^ ms.getD k 0)
theorem turnK_len (L : List UInt8) (off : Nat) (ms : List UInt8) : ∀ k, (turnK L off ms k).length = L.length
  | 0 => rfl
  | k + 1 => by rw [turnK, List.length_set, turnK_len]
theorem set_getD (L : List UInt8) (i : Nat) (h : i < L.length) : L.set i (L.getD i 0) = L := by
  rw [List.getD_eq_getElem?_getD, List.getElem?_eq_getElem h]
  exact List.set_getElem_self h
/-- Noughts turn nothing. -/
theorem turnK_zeros (L : List UInt8) (off : Nat) (n : Nat) (x : UInt8) (h : off + n < L.length) : ∀ k, k ≤ n → turnK L off (zeros n ++ [x]) k = L
  | 0, _ => rfl
  | k + 1, hk => by
    rw [turnK, turnK_zeros L off n x h k (by omega)]
    have e : (zeros n ++ [x]).getD k 0 = 0 := by
      rw [List.getD_eq_getElem?_getD, List.getElem?_append_left (by rw [zeros_length]; omega)]
      unfold zeros
      rw [List.getElem?_replicate, if_pos (by omega)]
      rfl
    rw [e, UInt8.xor_zero]
    exact set_getD L _ (by omega)
theorem turnK_mask (L : List UInt8) (off : Nat) (n : Nat) (x : UInt8) (h : off + n < L.length) : turnK L off (zeros n ++ [x]) (n + 1) = L.set (off + n) (L.getD (off + n) 0 ^^^ x) := by
  rw [turnK, turnK_zeros L off n x h n (Nat.le_refl _)]
  congr 2
  rw [List.getD_eq_getElem?_getD, List.getElem?_append_right (by rw [zeros_length]; exact Nat.le_refl _), zeros_length, Nat.sub_self]
  rfl
set_option maxHeartbeats 2000000 in
theorem turn55_any {w : World} (g off n c : Nat) (L ms : List UInt8) (hB : Blk w g 5 (pc L)) (ho : off + n ≤ L.length) (hm : ms.length ≤ n) (hL : L.length ≤ 2097152) (A : Option Addr) (mc : Nat) (hA : At w A ms) (hne : ∀ ad, A = some ad → ad.block ≠ g) :
    Calls Tryz.prog 55 #[.slice (some ⟨g, off, none⟩) n c, .slice A ms.length mc] w fun e w' => e = .returned (.tuple #[]) ∧ Blk w' g 5 (pc (turnK L off ms ms.length)) ∧ Keeps (Only g) w w' := by
  go_enter Tryz.func55, Tryz.ntmps55
  go_upto_region 1 with fail
  go_loopw [4, 5, 8] (fun _ _ i wr => ∃ k : Nat, k ≤ ms.length ∧ i = .int .i64 (k : Int) ∧ Blk wr g 5 (pc (turnK L off ms k)) ∧ Keeps (Only g) w wr) (fun _ _ i _ => ms.length - (intOf i).toNat)
  case atStart => exact ⟨0, Nat.zero_le _, rfl, hB, Keeps.refl _ _⟩
  case round =>
    obtain ⟨k, hk, rfl, hB1, hK⟩ := hrel
    obtain ⟨wx, rfl⟩ : ∃ W : World, W = wr := ⟨_, rfl⟩
    by_cases hlt : k < ms.length
    · have hki : (k : Int) < (ms.length : Int) := by omega
      have hkn : (k : Int) < (n : Int) := by omega
      have hA1 := hA.keep hK (fun ad e => by have := hne ad e; exact this)
      obtain ⟨b, o2, rfl, hc⟩ := hA1.at_ hlt
      obtain ⟨x, hx⟩ : ∃ x, x = ms[k] := ⟨_, rfl⟩
      have hx' : ms.getD k 0 = x := by rw [List.getD_eq_getElem?_getD, List.getElem?_eq_getElem hlt, hx]; rfl
      rw [← hx] at hc
      have hc1 : wx.cell? ⟨b, o2 + k, none⟩ = some (.int .u8 (x.toNat : Int)) := hc
      have hT : off + k < (turnK L off ms k).length := by rw [turnK_len]; omega
      have hc2 := hB1.byteD hT
      obtain ⟨y, hy⟩ : ∃ y, y = (turnK L off ms k)[off + k] := ⟨_, rfl⟩
      have hy' : (turnK L off ms k).getD (off + k) 0 = y := by rw [List.getD_eq_getElem?_getD, List.getElem?_eq_getElem hT, hy]; rfl
      rw [← hy] at hc2
      have hf := hB1.frozen (off + k)
      have hxy := xor8 y x
      have HN : Hid (Blk (wx.setCell ⟨g, off + k, none⟩ (.int .u8 ((y ^^^ x).toNat : Int))) g 5 (pc (turnK L off ms (k + 1)))) := Lib.hid (by
        have := hB1.set (off + k) (bv (y ^^^ x))
        rw [set_pc] at this
        rw [turnK, hy', hx']
        exact this)
      have HK : Hid (Keeps (Only g) w (wx.setCell ⟨g, off + k, none⟩ (.int .u8 ((y ^^^ x).toNat : Int)))) := Lib.hid (hK.set (p := ⟨g, off + k, none⟩) rfl _)
      clear hx hx' hc hT hy hy' hB1 hA1
      go_wp2_with fail
      go_roundw
      case rel => exact ⟨k + 1, by omega, by go_num, HN.out, HK.out⟩
      case measure => simp [intOf]; omega
    · obtain rfl : k = ms.length := by omega
      go_wp2_with fail
      go_end0
      exact ⟨rfl, hB1, hK⟩
/-- A disk's sector turned, with nothing that waits. -/
def Dsk.turn (s : Dsk) (at_ : Nat) (ms : List UInt8) : Dsk := { s with plat := turnK s.plat (128 * at_) ms ms.length, now := turnK s.now (128 * at_) ms ms.length }
theorem Dsk.turn_ok {s : Dsk} (h : s.ok) (at_ : Nat) (ms : List UInt8) : (s.turn at_ ms).ok := ⟨h.n1, h.n2, by show (turnK _ _ _ _).length = _; rw [turnK_len]; exact h.pl, by show (turnK _ _ _ _).length = _; rw [turnK_len]; exact h.nw, h.wt, h.l1, h.l2⟩
set_option maxHeartbeats 4000000 in
theorem corrupt19_any {w0 w : World} {K : Kb} {s : Dsk} {wv : Sl} (h : Dm w0 w K s wv) (hW : s.waits = []) (at_ : Nat) (ha : at_ < s.n) (ms : List UInt8) (hm : ms.length ≤ 128) (A : Option Addr) (mc : Nat) (hA : At w A ms) (hF : ∀ ad, A = some ad → ¬ Fr K wv ad.block) :
    Calls Tryz.prog 19 #[.pointer (some ⟨K.d, 0, none⟩), .int .i64 (at_ : Int), .slice A ms.length mc] w fun e w' => e = .returned (.int .i64 0) ∧ Dm w0 w' K (s.turn at_ ms) wv ∧ Keeps (Fr K wv) w w' := by
  have HH := Lib.hid h
  have hn8 := h.ok.n2
  obtain ⟨z, hp⟩ := h.pw
  have hwn : wv.n = 0 := by rw [h.wn, hW]; rfl
  have HS := Lib.hid (sectors52_any h)
  have HP := Lib.hid h.pl
  have HN := Lib.hid h.nw
  have hdpl : K.d ≠ K.pl := h.dk.ne h.pl (by decide)
  have hdnw : K.d ≠ K.nw := h.dk.ne h.nw (by decide)
  have hppl : K.p ≠ K.pl := hp.ne h.pl (by decide)
  have hpnw : K.p ≠ K.nw := hp.ne h.nw (by decide)
  have HD := Lib.hid h.dk
  have HPw := Lib.hid hp
  have hplL := h.ok.pl
  have hnwL := h.ok.nw
  have HT1 := Lib.hid (turn55_any (w := w) K.pl (128 * at_) 128 (128 * s.n - 128 * at_) s.plat ms h.pl (by omega) hm (by omega) A mc hA (fun ad e e' => hF ad e (.inr (.inl e'))))
  have k3 : w.cell? ⟨K.d, 3, none⟩ = some (.bool false) := h.dk.cell 3
  have k1 : w.cell? ⟨K.d, 1, none⟩ = some (.slice (some ⟨K.pl, 0, none⟩) (128 * s.n) (128 * s.n)) := h.dk.cell 1
  have d1 : decide ((at_ : Int) < 0) = false := decide_eq_false (by omega)
  have d2 : decide ((s.n : Int) ≤ (at_ : Int)) = false := decide_eq_false (by omega)
  have d2b : decide (s.n ≤ at_) = false := decide_eq_false (by omega)
  have d3 : decide ((128 : Int) < (ms.length : Int)) = false := decide_eq_false (by omega)
  have d3b : decide (128 < ms.length) = false := decide_eq_false (by omega)
  have HSe := Lib.hid (fun v b V => sector34_any v b s.n at_ V ha hn8)
  have HA := Lib.hid (And.intro hA hF)
  obtain ⟨wA, wn, wc⟩ := wv
  simp only at hwn
  subst hwn
  clear h hp hW hA hF hplL hnwL
  generalize hsn : s.n = n at *
  have HSN := Lib.hid hsn
  clear hsn
  go_enter Tryz.func19, Tryz.ntmps19
  go_upto_region 6 with (first | (go_at_call 52; go_must (refine HS.out.mono ?_); rintro e w9 ⟨rfl, hw9⟩; subst w9) | (go_at_call 34; go_must (refine (HSe.out _ _ _).mono ?_); rintro e w9 ⟨rfl, hw9⟩; subst w9) | (go_at_call 55; go_must (refine HT1.out.mono ?_); rintro e w2 ⟨rfl, hB2, hK2⟩))
  clear k3 k1 HT1 d1 d2 d2b d3 d3b HS
  have hN2 := HN.out.one hK2 (Ne.symm HH.out.ne)
  have hD2 := HD.out.one hK2 hdpl
  have hPw2 := HPw.out.one hK2 hppl
  have k2 : w2.cell? ⟨K.d, 2, none⟩ = some (.slice (some ⟨K.nw, 0, none⟩) (128 * n) (128 * n)) := hD2.cell 2
  have HT2 := Lib.hid (turn55_any (w := w2) K.nw (128 * at_) 128 (128 * n - 128 * at_) s.now ms hN2 (by have := HH.out.ok.nw; rw [HSN.out] at this; omega) hm (by have := HH.out.ok.nw; rw [HSN.out] at this; omega) A mc (HA.out.1.keep hK2 (fun ad e e' => HA.out.2 ad e (.inr (.inl e')))) (fun ad e e' => HA.out.2 ad e (.inr (.inr (.inl e')))))
  go_upto_region 7 with (first | (go_at_call 34; go_must (refine (HSe.out _ _ _).mono ?_); rintro e w9 ⟨rfl, hw9⟩; subst w9) | (go_at_call 55; go_must (refine HT2.out.mono ?_); rintro e w3 ⟨rfl, hB3, hK3⟩))
  clear k2 HT2 HSe
  have hPl3 := hB2.one hK3 HH.out.ne
  have hD3 := hD2.one hK3 hdnw
  have hPw3 := hPw2.one hK3 hpnw
  have hK : Keeps (Fr K ⟨wA, 0, wc⟩) w w3 := (hK2.mono fun i e => .inr (.inl e)).trans (hK3.mono fun i e => .inr (.inr (.inl e)))
  have HFin : Hid (Dm w0 w3 K (s.turn at_ ms) ⟨wA, 0, wc⟩) := Lib.hid (by
    refine HH.out.next hK ⟨z, hPw3⟩ hPl3 hB3 ?_ HH.out.wn (fun q hq => .inl hq) (Dsk.turn_ok HH.out.ok at_ ms) rfl
    have r1 := HH.out.wt.keep hK2 (fun q hq e => own_type HH.out.wt HH.out.pl (by decide) (by unfold Only at e; rw [← e]; exact hq))
    exact r1.keep hK3 (fun q hq e => own_type r1 hN2 (by decide) (by unfold Only at e; rw [← e]; exact hq)))
  have x0 : w3.cell? ⟨K.d, 0, none⟩ = some (.pointer (some ⟨K.p, 0, none⟩)) := hD3.cell 0
  have y0 : w3.cell? ⟨K.p, 0, none⟩ = some (.slice wA 0 wc) := hPw3.cell 0
  clear hB2 hB3 hK2 hK3 hN2 hD2 hD3 hPw2 hPw3 hPl3
  go_upto_region 8 with fail
  go_loopw [7, 8, 52] (fun _ _ i wr => i = .int .i64 0 ∧ wr = w3) (fun _ _ _ _ => 0)
  case atStart => exact ⟨rfl, rfl⟩
  case round =>
    obtain ⟨rfl, rfl⟩ := hrel
    go_wp2_with fail
    go_ret
    exact ⟨rfl, HFin.out, hK⟩
set_option maxHeartbeats 4000000 in
/-- Two labels of one top: the same. -/
theorem same20_one {w : World} (pool n : Nat) (A1 A2 : Option Addr) (c1 c2 : Nat) (h1 : RowT w (.slice A1 1 c1) [⟨1, 1, n⟩]) (h2 : RowT w (.slice A2 1 c2) [⟨1, 1, n⟩]) :
    Calls Tryz.prog 20 #[.agg #[.int .u64 (pool : Int), .slice A1 1 c1, .int .i64 0, .int .i64 0], .agg #[.int .u64 (pool : Int), .slice A2 1 c2, .int .i64 0, .int .i64 0]] w fun e w' => e = .returned (.bool true) ∧ Keeps Non w w' := by
  obtain ⟨hB1, hB2, hk⟩ := two_new w #[.int .u64 (pool : Int), .slice A1 1 c1, .int .i64 0, .int .i64 0] #[.int .u64 (pool : Int), .slice A2 1 c2, .int .i64 0, .int .i64 0] 32 32
  go_enter Tryz.func20, Tryz.ntmps20
  go_upto_region 1 with fail
  obtain ⟨w1, hw1⟩ : ∃ V : World, V = (w.alloc (.cells #[.int .u64 (pool : Int), .slice A1 1 c1, .int .i64 0, .int .i64 0] 32)).alloc (.cells #[.int .u64 (pool : Int), .slice A2 1 c2, .int .i64 0, .int .i64 0] 32) := ⟨_, rfl⟩
  rw [← hw1] at hB1 hB2 hk ⊢
  clear hw1
  obtain ⟨p1, hp1⟩ : ∃ z, z = w.heap.size := ⟨_, rfl⟩
  rw [← hp1] at hB1 hB2 ⊢
  clear hp1
  have h1' := h1.non hk
  have h2' := h2.non hk
  obtain ⟨g1, k1, e1, -, -, hc1, -, -⟩ := h1'.at_ encT_len (i := 0) (by show 0 < 1; decide)
  obtain ⟨g2, k2, e2, -, -, hc2, -, -⟩ := h2'.at_ encT_len (i := 0) (by show 0 < 1; decide)
  injection e1 with e1 e1b e1c
  injection e2 with e2 e2b e2c
  clear e1b e2b
  subst e1 e1c e2 e2c
  have x0 : w1.cell? ⟨p1, 0, none⟩ = some (.int .u64 (pool : Int)) := hB1.cell 0
  have x1 : w1.cell? ⟨p1, 1, none⟩ = some (.slice (some ⟨g1, 0, none⟩) 1 c1) := hB1.cell 1
  have x2 : w1.cell? ⟨p1, 2, none⟩ = some (.int .i64 0) := hB1.cell 2
  have x3 : w1.cell? ⟨p1, 3, none⟩ = some (.int .i64 0) := hB1.cell 3
  have y0 : w1.cell? ⟨p1 + 1, 0, none⟩ = some (.int .u64 (pool : Int)) := hB2.cell 0
  have y1 : w1.cell? ⟨p1 + 1, 1, none⟩ = some (.slice (some ⟨g2, 0, none⟩) 1 c2) := hB2.cell 1
  have y2 : w1.cell? ⟨p1 + 1, 2, none⟩ = some (.int .i64 0) := hB2.cell 2
  have y3 : w1.cell? ⟨p1 + 1, 3, none⟩ = some (.int .i64 0) := hB2.cell 3
  have z0 : w1.cell? ⟨g1, 0, none⟩ = some (.int .i64 1) := hc1 0 (by decide)
  have z1 : w1.cell? ⟨g1, 1, none⟩ = some (.int .i64 1) := hc1 1 (by decide)
  have z2 : w1.cell? ⟨g1, 2, none⟩ = some (.int .i64 (n : Int)) := hc1 2 (by decide)
  have v0 : w1.cell? ⟨g2, 0, none⟩ = some (.int .i64 1) := hc2 0 (by decide)
  have v1 : w1.cell? ⟨g2, 1, none⟩ = some (.int .i64 1) := hc2 1 (by decide)
  have v2 : w1.cell? ⟨g2, 2, none⟩ = some (.int .i64 (n : Int)) := hc2 2 (by decide)
  clear hc1 hc2 h1 h2 h1' h2' hB1 hB2
  go_upto_region 4 with fail
  go_loopw [5] (fun i wr => ∃ j : Nat, j ≤ 1 ∧ i = .int .i64 (j : Int) ∧ Keeps Non w1 wr) (fun i _ => 1 - (intOf i).toNat)
  case atStart => exact ⟨0, by omega, rfl, Keeps.refl Non w1⟩
  case round =>
    obtain ⟨j, hj, rfl, hK1⟩ := hrel
    obtain ⟨wx, rfl⟩ : ∃ W : World, W = wr := ⟨_, rfl⟩
    have a1 := hK1.cell x1 id
    have a2 := hK1.cell y1 id
    have b0 := hK1.cell z0 id
    have b1 := hK1.cell z1 id
    have b2 := hK1.cell z2 id
    have d0 := hK1.cell v0 id
    have d1 := hK1.cell v1 id
    have d2 := hK1.cell v2 id
    clear x0 x1 x2 x3 y0 y1 y2 y3 z0 z1 z2 v0 v1 v2
    have HK : Hid (∀ m, Keeps Non w1 (wx.drewN m)) := Lib.hid (fun m => hK1.drewN m)
    by_cases hj0 : j = 0
    · subst hj0
      rw [show (Value.int .i64 ((0 : Nat) : Int)) = .int .i64 0 from rfl]
      go_upto_region 6 with fail
      go_quiet (fail)
      go_wp2_with fail
      go_roundw
      case rel => exact ⟨1, by omega, rfl, HK.out _⟩
      case measure => simp [intOf]
    · obtain rfl : j = 1 := by omega
      go_wp2_with fail
      go_ret
      exact ⟨rfl, hk.non hK1⟩
end Go.Proofs.YtipbjiepfnjojaaGreatDoor
