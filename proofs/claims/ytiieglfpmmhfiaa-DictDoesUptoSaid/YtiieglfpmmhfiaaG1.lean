/- How arguments that came in are read: slices of bytes, slices of slices of bytes, with the form's own reach. How slices of numbers and of bytes among the arguments are read. Words of 32 and of 64 bits. Dictionaries, plainly: names in order, leaves, the table. Rows of whatever elements: a slice of the program's own, each element laid by enc in k cells. Hash, power, isName, room, fit, fits. -/
import Derived.Test.YtiieglfpmmhfiaaBase
import Derived.ProofKit
import Derived.OpenShut
import Derived.ShutString
import Derived.ChangeOld
import Derived.SizedLaws
import Derived.Deep.Matrix
import Derived.Test.YtiieglfpmmhfiaaRows
import Derived.Tactics
import Derived.Tactics2
import Derived.WalkSpells
import Derived.Laws.Rows
import Derived.BigQuiet
import Derived.Deep.QuietTactic
import Derived.StillTailTactics
import Derived.Sort.Walk0
import Derived.Lib.Bytealg
import Derived.Deep.RegionLaw
import Derived.Lib.Strings
namespace Go.Uc
open Go.RowKit Go.ChangeShapes Go.WideShapes

/-- A slice of slices of bytes that came in. -/
def Recs (w : World) (A : Option Addr) (rs : List (List UInt8)) : Prop := ∀ i (h : i < rs.length), ∃ b off Ai ci, A = some ⟨b, off, none⟩ ∧ w.cell? ⟨b, off + i, none⟩ = some (.slice Ai rs[i].length ci) ∧
  At w Ai rs[i] ∧ rs[i].length ≤ ci ∧ rs[i].length ≤ 140737488351232

def toBytes (zs : List Int) : List UInt8 := zs.map fun n => UInt8.ofNat n.toNat
theorem toBytes_length (zs : List Int) : (toBytes zs).length = zs.length := by simp [toBytes]
theorem bv_of_wf {n : Int} (h : (Lit.int .u8 n).wf = true) : bv (UInt8.ofNat n.toNat) = .int .u8 n := by
  have h' : 0 ≤ n ∧ n ≤ 255 := by
    simpa [Lit.wf, IntKind.min, IntKind.max, IntKind.bits, IntKind.signed] using h
  rw [bv_ofNat _ (by omega)]
  congr 1
  omega
theorem at_of_ints {w : World} {A : Option Addr} {L C : Nat} {zs : List Int} (hL : L ≤ C) (hz : zs.length = C) (hw : ∀ n ∈ zs, (Lit.int .u8 n).wf = true) (h0 : A = none → C = 0)
    (hc : ∀ a', A = some a' → ∀ c, c < C → w.cell? (a'.add c) = some (.int .u8 (zs.getD c 0))) : At w A (toBytes (zs.take L)) := by
  intro i hi
  simp [toBytes_length] at hi
  cases A with
  | none => have := h0 rfl; omega
  | some ad =>
    refine ⟨ad, rfl, ?_⟩
    rw [hc ad rfl i (by omega)]
    simp only [toBytes, List.getElem_map, List.getElem_take]
    rw [bv_of_wf (hw _ (List.getElem_mem _))]
    simp [List.getD, show i < zs.length by omega]

section
variable {H : Type} {enc : TypeId × Value → H} {P : Program} {w : World} {base : Nat} {held : Bool}
theorem mem_weightsAll {e : TypeId} : ∀ {ds : List (DataW H)} {d : DataW H}, d ∈ ds → ∀ n ∈ d.weights P e, n ∈ DataW.weightsAll P e ds
  | x :: ds, d, hd, n, hn => by
    rw [DataW.weightsAll]
    rcases List.mem_cons.1 hd with rfl | hd
    · exact List.mem_append_left _ hn
    · exact List.mem_append_right _ (mem_weightsAll hd n hn)

/-- A slice of slices of bytes among the arguments. -/
theorem recs_open {t e q : TypeId} {fuel n c : Nat} {A : Option Addr} {x : DataW H × List MemPlace} (ht : P.underlying t = some (.slice e)) (he : P.underlying e = some (.slice q)) (hq : P.underlying q = some (.int .u8))
    (ce : P.cellsOf e = 1) (cq : P.cellsOf q = 1) (be : P.bytesOf e = 24) (bq : P.bytesOf q = 1) (h : DataW.trod enc P w base (fun _ => true) held fuel t [.slice A n c] = some x)
    (hw : ∀ m ∈ x.1.weights P t, m ≤ reachBytes) : ∃ rs : List (List UInt8), rs.length = n ∧ Recs w A rs ∧ n ≤ c ∧ n ≤ 5864062014640 := by
  rcases Go.Deep.open_int_rows ht he hq ce cq h with ⟨hcs, _⟩ | ⟨a, len, cap, Ar, L, C, Z, hcs, _, hl, hm, hx, hr⟩
  · simp at hcs
    obtain ⟨rfl, rfl, rfl⟩ := hcs
    exact ⟨[], rfl, fun i h => absurd h (by simp), Nat.le_refl _, by omega⟩
  · simp at hcs
    obtain ⟨rfl, rfl, rfl⟩ := hcs
    have hx1 : x.1 = (.slice ((List.range n).map fun r => Go.Deep.intRow .u8 (Ar r) (L r) (Z r)) ((List.range (c - n)).map fun j => Go.Deep.intRow .u8 (Ar (n + j)) (L (n + j)) (Z (n + j)))) := by rw [hx]
    rw [hx1] at hw
    simp only [DataW.weights, ht] at hw
    have hcap : c * 24 ≤ reachBytes := by
      have := hw _ (List.mem_cons_self ..)
      simp only [List.length_map, List.length_range, be] at this
      rwa [show n + (c - n) = c by omega] at this
    refine ⟨(List.range n).map fun r => toBytes ((Z r).take (L r)), by simp, fun i hi => ?_, hl, by simp [reachBytes] at hcap; omega⟩
    simp at hi
    obtain ⟨h1, h2, h3, h4, h5, h6, h7⟩ := hr i (by omega)
    have hat : At w (Ar i) (toBytes ((Z i).take (L i))) := at_of_ints h2 h4 h5 h6 fun a' ha' => (h7 a' ha').2
    have hlen : (toBytes ((Z i).take (L i))).length = L i := by rw [toBytes_length, List.length_take, h4]; omega
    obtain ⟨b, off, sp⟩ := a
    have hsp : sp = none := by
      obtain ⟨q1, _⟩ := hr 0 (by omega)
      have := World.cell?_spot q1
      simpa [Addr.add] using this
    subst hsp
    refine ⟨b, off, Ar i, C i, rfl, ?_, by simpa using hat, by simp [hlen, h2], ?_⟩
    · have e1 : (⟨b, off, none⟩ : Addr).add i = ⟨b, off + i, none⟩ := by unfold Addr.add; split <;> simp_all
      rw [← e1, h1]
      simp [hlen]
    · simp only [List.getElem_map, List.getElem_range, hlen]
      cases hA : Ar i with
      | none => have := h6 hA; omega
      | some ad =>
        have hmem : Go.Deep.intRow (H := H) .u8 (Ar i) (L i) (Z i) ∈ (List.range n).map fun r => Go.Deep.intRow (H := H) .u8 (Ar r) (L r) (Z r) := List.mem_map.2 ⟨i, List.mem_range.2 hi, rfl⟩
        have := hw _ (List.mem_cons_of_mem _ (List.mem_append_left _ (mem_weightsAll (P := P) (e := e) hmem ((Z i).length) (by
          rw [hA]
          simp only [Go.Deep.intRow, DataW.weights, he, bq]
          refine List.mem_cons.2 (.inl ?_)
          simp [lits]
          omega))))
        simp only [reachBytes] at this
        omega
end
end Go.Uc
namespace Go.Uc
open Go.RowKit Go.ChangeShapes Go.WideShapes

/-- A slice of numbers that came in. -/
def Nums (w : World) (A : Option Addr) (zs : List Int) : Prop := ∀ i (h : i < zs.length), ∃ b off, A = some ⟨b, off, none⟩ ∧ w.cell? ⟨b, off + i, none⟩ = some (.int .i64 zs[i]) ∧ -9223372036854775808 ≤ zs[i] ∧ zs[i] ≤ 9223372036854775807
section
variable {H : Type} {enc : TypeId × Value → H} {P : Program} {w : World} {base : Nat} {held : Bool}
theorem nums_open {t e : TypeId} {fuel n c : Nat} {A : Option Addr} {x : DataW H × List MemPlace} (ht : P.underlying t = some (.slice e)) (he : P.underlying e = some (.int .i64)) (ce : P.cellsOf e = 1) (be : P.bytesOf e = 8)
    (h : DataW.trod enc P w base (fun _ => true) held fuel t [.slice A n c] = some x) (hw : ∀ m ∈ x.1.weights P t, m ≤ reachBytes) :
    ∃ zs : List Int, zs.length = n ∧ Nums w A zs ∧ n ≤ c ∧ n ≤ 17592186043904 := by
  rcases open_ints ht he ce h with ⟨hcs, _⟩ | ⟨a, len, cap, zs, hcs, _, hl, hm, hz, hx, hcell, hwf⟩
  · simp at hcs
    obtain ⟨rfl, rfl, rfl⟩ := hcs
    exact ⟨[], rfl, fun i h => absurd h (by simp), Nat.le_refl _, by omega⟩
  · simp at hcs
    obtain ⟨rfl, rfl, rfl⟩ := hcs
    simp only [if_true] at hz
    have hcap : c * 8 ≤ reachBytes := by
      have hx1 : x.1 = .slice (lits .i64 (zs.take n)) (lits .i64 (zs.drop n)) := by rw [hx]
      rw [hx1] at hw
      have := hw (c * 8) (by simp [DataW.weights, ht, be, lits, hz]; left; omega)
      exact this
    refine ⟨zs.take n, by simp; omega, fun i hi => ?_, hl, by simp [reachBytes] at hcap; omega⟩
    simp at hi
    obtain ⟨b, off, rfl, hall⟩ := ints_at hcell (by omega)
    have hi2 : i < zs.length := by omega
    have b1 := bounds_i64 (hwf zs[i] (List.getElem_mem _))
    refine ⟨b, off, rfl, ?_, ?_, ?_⟩
    · rw [hall i hi2, List.getElem_take]
      simp [List.getD, hi2]
    · rw [List.getElem_take]; exact b1.1
    · rw [List.getElem_take]; exact b1.2
theorem bytes_open {t e : TypeId} {fuel n c : Nat} {A : Option Addr} {x : DataW H × List MemPlace} (ht : P.underlying t = some (.slice e)) (he : P.underlying e = some (.int .u8)) (ce : P.cellsOf e = 1) (be : P.bytesOf e = 1)
    (h : DataW.trod enc P w base (fun _ => true) held fuel t [.slice A n c] = some x) (hw : ∀ m ∈ x.1.weights P t, m ≤ reachBytes) :
    ∃ bs : List UInt8, bs.length = n ∧ At w A bs ∧ n ≤ c ∧ c ≤ 140737488351232 := by
  rcases open_ints ht he ce h with ⟨hcs, _⟩ | ⟨a, len, cap, zs, hcs, _, hl, hm, hz, hx, hcell, hwf⟩
  · simp at hcs
    obtain ⟨rfl, rfl, rfl⟩ := hcs
    exact ⟨[], rfl, At.nil _ _, Nat.le_refl _, by omega⟩
  · simp at hcs
    obtain ⟨rfl, rfl, rfl⟩ := hcs
    simp only [if_true] at hz
    have hcap : c ≤ reachBytes := by
      have hx1 : x.1 = .slice (lits .u8 (zs.take n)) (lits .u8 (zs.drop n)) := by rw [hx]
      rw [hx1] at hw
      have := hw c (by simp [DataW.weights, ht, be, lits, hz]; left; omega)
      exact this
    refine ⟨toBytes (zs.take n), by rw [toBytes_length]; simp; omega, at_of_ints hl hz hwf (fun h => by cases h) (fun a' ha' i hi => ?_), hl, by simpa [reachBytes] using hcap⟩
    injection ha' with ha'
    subst ha'
    exact hcell i (by omega)
end
end Go.Uc
namespace Go.Proofs.Ytiieglfpmmhfiaa
open Go.RowKit Go.Uc

/-- A word of 32 bits, as the number in its cell. -/
def v32 (x : BitVec 32) : Int := x.toNat
/-- A word of 64 bits, as the number in its cell. -/
def v64 (x : BitVec 64) : Int := x.toNat

theorem ofInt_v32 (x : BitVec 32) : BitVec.ofInt IntKind.u32.bits (v32 x) = x := by
  show BitVec.ofInt 32 (x.toNat : Int) = x
  rw [BitVec.ofInt_natCast, BitVec.ofNat_toNat, BitVec.setWidth_eq]
theorem ofInt_v64 (x : BitVec 64) : BitVec.ofInt IntKind.u64.bits (v64 x) = x := by
  show BitVec.ofInt 64 (x.toNat : Int) = x
  rw [BitVec.ofInt_natCast, BitVec.ofNat_toNat, BitVec.setWidth_eq]
theorem v32_nonneg (x : BitVec 32) : 0 ≤ v32 x := by unfold v32; omega
theorem v32_le (x : BitVec 32) : v32 x ≤ 4294967295 := by have := x.isLt; unfold v32; omega
theorem v64_nonneg (x : BitVec 64) : 0 ≤ v64 x := by unfold v64; omega
theorem v64_le (x : BitVec 64) : v64 x ≤ 18446744073709551615 := by have := x.isLt; unfold v64; omega
theorem add32 (x y : BitVec 32) : IntKind.u32.wrap (v32 x + v32 y) = v32 (x + y) := by
  rw [IntKind.wrap_u32]; unfold v32; rw [BitVec.toNat_add]; omega
theorem add64 (x y : BitVec 64) : IntKind.u64.wrap (v64 x + v64 y) = v64 (x + y) := by
  rw [IntKind.wrap_u64]; unfold v64; rw [BitVec.toNat_add]; omega
theorem wrap32_nat {n : Nat} (h : n < 4294967296) : IntKind.u32.wrap (n : Int) = n := by rw [IntKind.wrap_u32]; omega
theorem wrap64_nat {n : Nat} (h : n < 18446744073709551616) : IntKind.u64.wrap (n : Int) = n := by rw [IntKind.wrap_u64]; omega
theorem xor32 (x y : BitVec 32) : bits .xor .u32 (v32 x) (v32 y) = v32 (x ^^^ y) := by
  unfold bits
  simp only [ofInt_v32]
  exact wrap32_nat (x ^^^ y).isLt
theorem and32 (x y : BitVec 32) : bits .and .u32 (v32 x) (v32 y) = v32 (x &&& y) := by
  unfold bits
  simp only [ofInt_v32]
  exact wrap32_nat (x &&& y).isLt
theorem or32 (x y : BitVec 32) : bits .or .u32 (v32 x) (v32 y) = v32 (x ||| y) := by
  unfold bits
  simp only [ofInt_v32]
  exact wrap32_nat (x ||| y).isLt
theorem or64 (x y : BitVec 64) : bits .or .u64 (v64 x) (v64 y) = v64 (x ||| y) := by
  unfold bits
  simp only [ofInt_v64]
  exact wrap64_nat (x ||| y).isLt
theorem shl32 (x : BitVec 32) (k : Nat) : IntKind.u32.wrap (v32 x * 2 ^ k) = v32 (x <<< k) := by
  rw [IntKind.wrap_u32]; unfold v32; rw [BitVec.toNat_shiftLeft, Nat.shiftLeft_eq, Int.natCast_emod, Int.natCast_mul, Int.natCast_pow, Int.natCast_pow]; rfl
theorem shl64 (x : BitVec 64) (k : Nat) : IntKind.u64.wrap (v64 x * 2 ^ k) = v64 (x <<< k) := by
  rw [IntKind.wrap_u64]; unfold v64; rw [BitVec.toNat_shiftLeft, Nat.shiftLeft_eq, Int.natCast_emod, Int.natCast_mul, Int.natCast_pow, Int.natCast_pow]; rfl
theorem shr32 (x : BitVec 32) (k : Nat) : v32 x / 2 ^ k = v32 (x >>> k) := by
  unfold v32; rw [BitVec.toNat_ushiftRight, Nat.shiftRight_eq_div_pow, Int.natCast_ediv, Int.natCast_pow]; rfl
theorem shr64 (x : BitVec 64) (k : Nat) : v64 x / 2 ^ k = v64 (x >>> k) := by
  unfold v64; rw [BitVec.toNat_ushiftRight, Nat.shiftRight_eq_div_pow, Int.natCast_ediv, Int.natCast_pow]; rfl

end Go.Proofs.Ytiieglfpmmhfiaa
namespace Go.Proofs.Ytiieglfpmmhfiaa
open Go.Uc

/-- A name and its value. -/
structure Ent where
  name : List UInt8
  val : Int
theorem Ent.ext' {a b : Ent} (h1 : a.name = b.name) (h2 : a.val = b.val) : a = b := by cases a; cases b; simp_all
def encE (e : Ent) : List Value := [.string (str e.name), .int .i64 e.val]
theorem encE_len (e : Ent) : (encE e).length = 2 := rfl
theorem encE_one (e : Ent) : ∀ u ∈ encE e, u.oneCell' = true := by
  intro u hu
  simp [encE] at hu
  rcases hu with rfl | rfl <;> rfl
/-- A leaf. -/
structure Leaf where
  depth : Nat
  l : List Ent
structure Dic where
  small : Bool
  depth : Nat
  table : List Nat
  leaves : List Leaf

/-- Names by their bytes. -/
def lt (a b : List UInt8) : Bool := Op.bytesLess a b
theorem lt_iff (a b : List UInt8) : lt a b = true ↔ a < b := by unfold lt; rw [bytesLess_eq]; simp
theorem lt_irrefl (a : List UInt8) : lt a a = false := by
  rw [Bool.eq_false_iff]; intro h; exact List.lt_irrefl a ((lt_iff a a).1 h)
theorem lt_trans {a b c : List UInt8} (h1 : lt a b = true) (h2 : lt b c = true) : lt a c = true := by
  rw [lt_iff] at *; exact List.lt_trans h1 h2
theorem lt_asymm {a b : List UInt8} (h : lt a b = true) : lt b a = false := by
  rw [Bool.eq_false_iff]; intro h2
  have := lt_trans h h2
  rw [lt_irrefl] at this; cases this
theorem lt_tri (a b : List UInt8) (h1 : lt a b = false) (h2 : lt b a = false) : a = b := by
  rw [Bool.eq_false_iff, ne_eq, lt_iff] at h1 h2
  exact List.le_antisymm (List.not_lt.1 h2) (List.not_lt.1 h1)
theorem lt_ne {a b : List UInt8} (h : lt a b = true) : a ≠ b := by rintro rfl; rw [lt_irrefl] at h; cases h
theorem cmp_neg (a b : List UInt8) : Lib.compareBytes a b < 0 ↔ lt a b = true := by
  rw [lt_iff]
  induction a generalizing b with
  | nil => cases b <;> simp [Lib.compareBytes]
  | cons x a ih =>
    cases b with
    | nil => simp [Lib.compareBytes]
    | cons y b =>
      unfold Lib.compareBytes
      rw [List.cons_lt_cons_iff]
      by_cases h1 : x < y
      · simp [h1]
      · by_cases h2 : y < x
        · have : x ≠ y := fun e => by subst e; exact h1 h2
          simp [h1, h2, this]
        · have : x = y := UInt8.le_antisymm (UInt8.not_lt.1 h2) (UInt8.not_lt.1 h1)
          subst this
          simp [h1, ih]
theorem cmp_zero (a b : List UInt8) : Lib.compareBytes a b = 0 ↔ a = b := by
  induction a generalizing b with
  | nil => cases b <;> simp [Lib.compareBytes]
  | cons x a ih =>
    cases b with
    | nil => simp [Lib.compareBytes]
    | cons y b =>
      unfold Lib.compareBytes
      by_cases h1 : x < y
      · have : x ≠ y := fun e => by subst e; exact UInt8.lt_irrefl _ h1
        simp [h1, this]
      · by_cases h2 : y < x
        · have : x ≠ y := fun e => by subst e; exact h1 h2
          simp [h1, h2, this]
        · have : x = y := UInt8.le_antisymm (UInt8.not_lt.1 h2) (UInt8.not_lt.1 h1)
          subst this
          simp [h1, ih]

/-- By rising names. -/
def Srt (l : List Ent) : Prop := l.Pairwise fun a b => lt a.name b.name = true
def has (l : List Ent) (n : List UInt8) : Bool := l.any fun x => x.name == n
/-- Where a name is, or would be. -/
def lb (l : List Ent) (n : List UInt8) : Nat := (l.filter fun x => lt x.name n).length
/-- With one more, or another value. -/
def ins (l : List Ent) (e : Ent) : List Ent := (l.filter fun x => lt x.name e.name) ++ e :: l.filter fun x => lt e.name x.name
def drp (l : List Ent) (n : List UInt8) : List Ent := l.filter fun x => x.name != n
def getE (l : List Ent) (n : List UInt8) : Option Int := (l.find? fun x => x.name == n).map (·.val)
theorem lb_le (l : List Ent) (n : List UInt8) : lb l n ≤ l.length := List.length_filter_le _ _
/-- A row in order parts at a name. -/
theorem srt_split {l : List Ent} (hs : Srt l) (n : List UInt8) : l = (l.filter fun x => lt x.name n) ++ l.filter fun x => !lt x.name n := by
  induction l with
  | nil => rfl
  | cons x l ih =>
    have h1 := List.pairwise_cons.1 hs
    by_cases hx : lt x.name n = true
    · rw [List.filter_cons_of_pos (by simpa using hx), List.filter_cons_of_neg (by simpa using hx), List.cons_append, ← ih h1.2]
    · have hall : ∀ y ∈ l, lt y.name n = false := fun y hy => by
        rw [Bool.eq_false_iff]; intro h; exact hx (lt_trans (h1.1 y hy) h)
      rw [List.filter_cons_of_neg (by simpa using hx), List.filter_cons_of_pos (by simpa using hx), List.filter_eq_nil_iff.2 (fun y hy => by rw [hall y hy]; simp), List.filter_eq_self.2 (fun y hy => by rw [hall y hy]; rfl)]
      rfl
theorem srt_take {l : List Ent} (hs : Srt l) (n : List UInt8) : l.take (lb l n) = l.filter fun x => lt x.name n := by
  have h := srt_split hs n
  have h2 : ((l.filter fun x => lt x.name n) ++ l.filter fun x => !lt x.name n).take (lb l n) = l.filter fun x => lt x.name n := List.take_left' rfl
  rw [← h] at h2
  exact h2
theorem srt_drop {l : List Ent} (hs : Srt l) (n : List UInt8) : l.drop (lb l n) = l.filter fun x => !lt x.name n := by
  have h := srt_split hs n
  have h2 : ((l.filter fun x => lt x.name n) ++ l.filter fun x => !lt x.name n).drop (lb l n) = l.filter fun x => !lt x.name n := List.drop_left' rfl
  rw [← h] at h2
  exact h2
theorem lb_lt {l : List Ent} (hs : Srt l) (n : List UInt8) {k : Nat} (hk : k < l.length) : lt l[k].name n = true ↔ k < lb l n := by
  constructor
  · intro h
    rcases Nat.lt_or_ge k (lb l n) with h1 | h1
    · exact h1
    · exfalso
      have hm : l[k] ∈ l.drop (lb l n) := by
        rw [List.mem_drop_iff_getElem]
        exact ⟨k - lb l n, by omega, by congr 1; omega⟩
      rw [srt_drop hs] at hm
      have := (List.mem_filter.1 hm).2
      rw [h] at this; cases this
  · intro h
    have hm : l[k] ∈ l.take (lb l n) := by
      rw [List.mem_take_iff_getElem]
      exact ⟨k, by omega, rfl⟩
    rw [srt_take hs] at hm
    exact (List.mem_filter.1 hm).2
theorem has_lb {l : List Ent} (hs : Srt l) (n : List UInt8) : has l n = true ↔ ∃ h : lb l n < l.length, l[lb l n].name = n := by
  constructor
  · intro h
    obtain ⟨x, hx, he⟩ := List.any_eq_true.1 h
    have he : x.name = n := by simpa using he
    obtain ⟨k, hk, rfl⟩ := List.getElem_of_mem hx
    have h1 : ¬ k < lb l n := fun h => lt_ne ((lb_lt hs n hk).2 h) he
    have h2 : k ≤ lb l n := by
      rcases Nat.lt_or_ge (lb l n) k with h3 | h3
      · exfalso
        have hp := List.pairwise_iff_getElem.1 hs (lb l n) k (by omega) hk h3
        rw [he] at hp
        exact absurd ((lb_lt hs n (by omega)).1 hp) (by omega)
      · exact h3
    obtain rfl : lb l n = k := by omega
    exact ⟨hk, he⟩
  · rintro ⟨h, he⟩
    exact List.any_eq_true.2 ⟨_, List.getElem_mem h, by simpa using he⟩
/-- With the name there, its place is put anew. -/
theorem ins_set {l : List Ent} (hs : Srt l) (e : Ent) (h : has l e.name = true) : l.set (lb l e.name) e = ins l e := by
  obtain ⟨hl, he⟩ := (has_lb hs e.name).1 h
  have h1 : l.set (lb l e.name) e = l.take (lb l e.name) ++ e :: l.drop (lb l e.name + 1) := List.set_eq_take_append_cons_drop.trans (if_pos hl)
  rw [h1, srt_take hs]
  unfold ins
  congr 2
  have h2 : l.drop (lb l e.name) = l[lb l e.name] :: l.drop (lb l e.name + 1) := List.drop_eq_getElem_cons hl
  have h3 := srt_drop hs e.name
  rw [h2] at h3
  have hd : (l.drop (lb l e.name)).Pairwise fun a b => lt a.name b.name = true := List.Pairwise.sublist (List.drop_sublist _ _) hs
  rw [h2] at hd
  have hd2 := (List.pairwise_cons.1 hd).1
  rw [he] at hd2
  have h4 : (l.filter fun x => lt e.name x.name) = (l.filter fun x => !lt x.name e.name).filter fun x => lt e.name x.name := by
    rw [List.filter_filter]
    congr 1
    funext x
    cases h : lt e.name x.name
    · rfl
    · rw [lt_asymm h]; rfl
  rw [h4, ← h3, List.filter_cons_of_neg (by rw [he, lt_irrefl]; simp), List.filter_eq_self.2 hd2]
/-- Without it, it goes in between. -/
theorem ins_mid {l : List Ent} (hs : Srt l) (e : Ent) (h : has l e.name = false) : l.take (lb l e.name) ++ e :: l.drop (lb l e.name) = ins l e := by
  rw [srt_take hs, srt_drop hs]
  unfold ins
  congr 2
  apply List.filter_congr
  intro x hx
  cases h1 : lt x.name e.name
  · cases h2 : lt e.name x.name
    · have := lt_tri _ _ h1 h2
      have h3 : has l e.name = true := List.any_eq_true.2 ⟨x, hx, by simpa using this⟩
      rw [h3] at h; cases h
    · rfl
  · rw [lt_asymm h1]; rfl
theorem ins_srt {l : List Ent} (hs : Srt l) (e : Ent) : Srt (ins l e) := by
  unfold ins Srt
  rw [List.pairwise_append]
  refine ⟨List.Pairwise.sublist List.filter_sublist hs, ?_, ?_⟩
  · rw [List.pairwise_cons]
    exact ⟨fun x hx => (List.mem_filter.1 hx).2, List.Pairwise.sublist List.filter_sublist hs⟩
  · intro a ha b hb
    have h1 := (List.mem_filter.1 ha).2
    rcases List.mem_cons.1 hb with rfl | hb
    · exact h1
    · exact lt_trans h1 (List.mem_filter.1 hb).2
theorem drp_srt {l : List Ent} (hs : Srt l) (n : List UInt8) : Srt (drp l n) := List.Pairwise.sublist List.filter_sublist hs
theorem drp_lb {l : List Ent} (hs : Srt l) (n : List UInt8) (h : has l n = true) : l.take (lb l n) ++ l.drop (lb l n + 1) = drp l n := by
  obtain ⟨hl, he⟩ := (has_lb hs n).1 h
  have h2 : l.drop (lb l n) = l[lb l n] :: l.drop (lb l n + 1) := List.drop_eq_getElem_cons hl
  have hd : (l.drop (lb l n)).Pairwise fun a b => lt a.name b.name = true := List.Pairwise.sublist (List.drop_sublist _ _) hs
  rw [h2] at hd
  have hd2 := (List.pairwise_cons.1 hd).1
  rw [he] at hd2
  have h3 : drp l n = drp (l.take (lb l n)) n ++ drp (l.drop (lb l n)) n := by
    unfold drp; rw [← List.filter_append, List.take_append_drop]
  rw [h3, h2]
  congr 1
  · unfold drp
    rw [List.filter_eq_self.2]
    intro x hx
    rw [srt_take hs] at hx
    have := lt_ne (List.mem_filter.1 hx).2
    simpa using this
  · unfold drp
    rw [List.filter_cons_of_neg (by simp [he]), List.filter_eq_self.2]
    intro x hx
    have := lt_ne (hd2 x hx)
    simpa using fun h => this h.symm
/-- How many bytes entries take. -/
def roomE (l : List Ent) : Nat := (l.map fun x => 5 + x.name.length).sum
def fitE (l : List Ent) : Bool := decide (3 + roomE l ≤ 256)
theorem roomE_app (a b : List Ent) : roomE (a ++ b) = roomE a + roomE b := by simp [roomE]
/-- What a name is laid by. -/
def hashS (h : BitVec 32) (c : UInt8) : BitVec 32 := (h ^^^ BitVec.ofNat 32 c.toNat) * 16777619#32
def hash0 (n : List UInt8) : BitVec 32 := n.foldl hashS 2166136261#32
def hashB (n : List UInt8) : BitVec 32 := hash0 n ^^^ (hash0 n >>> 16)
def hash (n : List UInt8) : Nat := (hashB n).toNat
end Go.Proofs.Ytiieglfpmmhfiaa
namespace Go.Uc
open Go.RowKit

/-- The block of a slice, if it has one. -/
def own (v : Value) : List Nat := v.ownBlock.toList
theorem mem_own {v : Value} {g : Nat} : g ∈ own v ↔ v.ownBlock = some g := by unfold own; cases v.ownBlock <;> simp [eq_comm]
theorem own_slice (g n c : Nat) : own (.slice (some ⟨g, 0, none⟩) n c) = [g] := rfl
theorem own_nil (n c : Nat) : own (.slice none n c) = [] := rfl
section rows
variable {α : Type} {w w' : World} {e : TypeId} {k : Nat} {enc : α → List Value} {v : Value} {xs : List α}
def RowP (w : World) (e : TypeId) (k : Nat) (enc : α → List Value) (v : Value) (xs : List α) : Prop := w.ownsRow 0 e k v xs.length (xs.flatMap enc)

theorem flat_len (henc : ∀ x, (enc x).length = k) (xs : List α) : (xs.flatMap enc).length = xs.length * k := by
  induction xs with
  | nil => simp
  | cons x xs ih => rw [List.flatMap_cons, List.length_append, ih, henc, List.length_cons, Nat.succ_mul, Nat.add_comm]
theorem flat_get (henc : ∀ x, (enc x).length = k) : ∀ (xs : List α) (i j : Nat) (hi : i < xs.length), j < k → (xs.flatMap enc)[i * k + j]? = (enc xs[i])[j]? := by
  intro xs
  induction xs with
  | nil => intro i j hi; simp at hi
  | cons x xs ih =>
    intro i j hi hj
    rw [List.flatMap_cons]
    cases i with
    | zero =>
      rw [Nat.zero_mul, Nat.zero_add, List.getElem?_append_left (by rw [henc]; exact hj)]
      rfl
    | succ i =>
      simp at hi
      rw [List.getElem?_append_right (by rw [henc, Nat.succ_mul]; omega), henc, show (i + 1) * k + j - k = i * k + j by rw [Nat.succ_mul]; omega, ih i j hi hj]
      rfl
theorem RowP.nil (w : World) (e : TypeId) (k : Nat) (enc : α → List Value) : RowP w e k enc (.slice none 0 0) [] := World.ownsRow_nil _ _ _ _
theorem RowP.keep {S : Nat → Prop} (h : RowP w e k enc v xs) (hk : Keeps S w w') (hb : ∀ g ∈ own v, ¬ S g) : RowP w' e k enc v xs := row_keep h hk fun g hg => hb g (mem_own.2 hg)
theorem RowP.non (h : RowP w e k enc v xs) (hk : Keeps Non w w') : RowP w' e k enc v xs := h.keep hk fun _ _ e => e
theorem RowP.form (h : RowP w e k enc v xs) : (v = .slice none 0 0 ∧ xs = []) ∨ ∃ g cap cur, v = .slice (some ⟨g, 0, none⟩) xs.length cap ∧ Blk w g e cur ∧ xs.length ≤ cap ∧ cap ≤ maxLen ∧ cur.size = cap * k ∧ cur.toList.take (xs.length * k) = xs.flatMap enc := by
  rcases h.2 with ⟨h1, h2⟩ | ⟨g, cap, cur, h1, _, h3, h4, h5, h6, h7⟩
  · exact .inl ⟨h1, List.eq_nil_of_length_eq_zero h2⟩
  · exact .inr ⟨g, cap, cur, h1, h3, h4, h5, h6, h7⟩
theorem RowP.mk {g cap : Nat} {cur : Array Value} (henc : ∀ x, (enc x).length = k) (hB : Blk w g e cur) (hl : xs.length ≤ cap) (hc : cap ≤ maxLen) (hs : cur.size = cap * k) (ht : cur.toList.take (xs.length * k) = xs.flatMap enc) : RowP w e k enc (.slice (some ⟨g, 0, none⟩) xs.length cap) xs :=
  ⟨flat_len henc xs, .inr ⟨g, cap, cur, rfl, Nat.zero_le _, hB, hl, hc, hs, ht⟩⟩
theorem RowP.val (h : RowP w e k enc v xs) : ∃ A c, v = .slice A xs.length c ∧ xs.length ≤ c ∧ c ≤ maxLen := by
  rcases h.form with ⟨rfl, rfl⟩ | ⟨g, cap, cur, rfl, _, h4, h5, _⟩
  · exact ⟨none, 0, rfl, Nat.le_refl _, by decide⟩
  · exact ⟨_, cap, rfl, h4, h5⟩
theorem RowP.lt (h : RowP w e k enc v xs) : ∀ g ∈ own v, g < w.heap.size := by
  intro g hg
  rcases h.form with ⟨rfl, rfl⟩ | ⟨g', cap, cur, rfl, h3, _⟩
  · simp [own_nil] at hg
  · simp [own_slice] at hg
    subst hg
    exact h3.lt
/-- The cells of element i. -/
theorem RowP.at_ (henc : ∀ x, (enc x).length = k) (h : RowP w e k enc v xs) {i : Nat} (hi : i < xs.length) : ∃ g cap, v = .slice (some ⟨g, 0, none⟩) xs.length cap ∧ xs.length ≤ cap ∧ cap ≤ maxLen ∧ (∀ j, j < k → w.cell? ⟨g, i * k + j, none⟩ = (enc xs[i])[j]?) ∧ (∀ j, w.frozen? ⟨g, j, none⟩ = false) ∧ g < w.heap.size := by
  rcases h.form with ⟨rfl, rfl⟩ | ⟨g, cap, cur, rfl, h3, h4, h5, h6, h7⟩
  · simp at hi
  · refine ⟨g, cap, rfl, h4, h5, fun j hj => ?_, fun j => h3.frozen j, h3.lt⟩
    rw [h3.cell, ← flat_get henc xs i j hi hj, ← h7]
    have : i * k + j < xs.length * k := by
      calc i * k + j < i * k + k := by omega
        _ = (i + 1) * k := by rw [Nat.succ_mul]
        _ ≤ xs.length * k := Nat.mul_le_mul_right _ (by omega)
    rw [List.getElem?_take, if_pos this]
    simp
/-- What an append reads of it. -/
theorem RowP.ats (h : RowP w e k enc v xs) (henc : ∀ x, (enc x).length = k) : ∃ A c, v = .slice A xs.length c ∧ xs.length ≤ c ∧ Ats w A (xs.flatMap enc) := by
  rcases h.form with ⟨rfl, rfl⟩ | ⟨g, cap, cur, rfl, h3, h4, h5, h6, h7⟩
  · exact ⟨none, 0, rfl, Nat.le_refl _, fun h => absurd h (by simp)⟩
  · refine ⟨_, cap, rfl, h4, fun _ => ⟨_, rfl, fun j u hj => ?_⟩⟩
    have hlt : j < (xs.flatMap enc).length := (List.getElem?_eq_some_iff.1 hj).1
    rw [flat_len henc] at hlt
    rw [show (⟨g, 0, none⟩ : Addr).add j = ⟨g, j, none⟩ from by unfold Addr.add; split <;> simp_all, h3.cell]
    rw [← h7, List.getElem?_take, if_pos hlt] at hj
    simpa using hj
/-- Another row in the same cells. -/
theorem RowP.put {g cap : Nat} {cur : Array Value} {ys : List α} (h : RowP w e k enc (.slice (some ⟨g, 0, none⟩) xs.length cap) xs) (henc : ∀ x, (enc x).length = k) (hB : Blk w' g e cur) (hl : ys.length ≤ cap) (hs : cur.size = cap * k) (hg : ∀ p, p < ys.length * k → cur[p]? = (ys.flatMap enc)[p]?) : RowP w' e k enc (.slice (some ⟨g, 0, none⟩) ys.length cap) ys := by
  obtain ⟨A, c, e1, _, hc⟩ := h.val
  injection e1 with _ _ e1
  subst e1
  refine RowP.mk henc hB hl hc hs ?_
  apply List.ext_getElem?
  intro p
  rw [List.getElem?_take]
  by_cases hp : p < ys.length * k
  · rw [if_pos hp, ← hg p hp]
    simp
  · rw [if_neg hp, List.getElem?_eq_none (by rw [flat_len henc]; omega)]
theorem info_p {P : Program} {e : TypeId} {z : Value} {k bytes : Nat} (h : (P.info? e).map (fun i => (i.zero, i.size, i.bytes)) = some (some z, k, bytes)) : ∃ i, P.info? e = some i ∧ i.zero = some z ∧ i.size = k ∧ i.bytes = bytes := by
  cases hi : P.info? e with
  | none => simp [hi] at h
  | some i => simp [hi] at h; exact ⟨i, rfl, h.1, h.2.1, h.2.2⟩

variable {P : Program} {ops : Array Oper} {rest : List Oper} {o : Oper} {a : Act} {Q : Exit → Act → World → Prop}
theorem wp_append_row {K : Act → World → Prop} (s x : Operand) (t : TypeId)
    (ho : o.op = .call { callee := .builtin .append, args := #[s, x], argTypes := #[t, t] })
    (e : TypeId) (k : Nat) (enc : α → List Value) (z : Value) (bytes : Nat) (ht : P.underlying t = some (.slice e)) (hi : (P.info? e).map (fun i => (i.zero, i.size, i.bytes)) = some (some z, k, bytes)) (hz : z.cells.size = k) (hk : 0 < k)
    (henc : ∀ x, (enc x).length = k) (h1 : ∀ x, ∀ u ∈ enc x, u.oneCell' = true)
    (v : Value) (xs : List α) (hs : a.eval s = v) (hrow : RowP w e k enc v xs)
    (A : Option Addr) (m c : Nat) (ys : List α) (hx : a.eval x = .slice A m c) (hm : m = ys.length) (hr : Ats w A (ys.flatMap enc))
    (hmax : xs.length + ys.length ≤ maxLen) (hbytes : (xs.length + ys.length) * bytes ≤ 140737488355328)
    (h : ∀ v' w', RowP w' e k enc v' (xs ++ ys) → Keeps (· ∈ own v) w w' → (v'.ownBlock = v.ownBlock ∨ v'.ownBlock = some w.heap.size) → K (a.put o.dst v') w') : o.wp P a w K Q := by
  obtain ⟨i, hi0, hz0, hz1, hz2⟩ := info_p hi
  subst hm
  refine wp_append_any s x t ho 0 e i z k bytes ht hi0 hz0 hz1 hz2 hz hk v xs.length (xs.flatMap enc) hs hrow A ys.length c (ys.flatMap enc) hx (flat_len henc ys) hr ?_ hmax hbytes (Nat.zero_le _) fun v' w' h2 h3 h4 => h v' w' ?_ (h3.mono fun g hg => mem_own.2 hg) h4
  · intro u hu
    obtain ⟨x, _, hu⟩ := List.mem_flatMap.1 hu
    exact h1 x u hu
  · unfold RowP
    rw [List.length_append, List.flatMap_append]
    exact h2
theorem wpList_append_row (hgd : o.guard = none) (s x : Operand) (t : TypeId)
    (ho : o.op = .call { callee := .builtin .append, args := #[s, x], argTypes := #[t, t] })
    (e : TypeId) (k : Nat) (enc : α → List Value) (z : Value) (bytes : Nat) (ht : P.underlying t = some (.slice e)) (hi : (P.info? e).map (fun i => (i.zero, i.size, i.bytes)) = some (some z, k, bytes)) (hz : z.cells.size = k) (hk : 0 < k)
    (henc : ∀ x, (enc x).length = k) (h1 : ∀ x, ∀ u ∈ enc x, u.oneCell' = true)
    (v : Value) (xs : List α) (hs : a.eval s = v) (hrow : RowP w e k enc v xs)
    (A : Option Addr) (m c : Nat) (ys : List α) (hx : a.eval x = .slice A m c) (hm : m = ys.length) (hr : Ats w A (ys.flatMap enc))
    (hmax : xs.length + ys.length ≤ maxLen) (hbytes : (xs.length + ys.length) * bytes ≤ 140737488355328)
    (h : ∀ v' w', RowP w' e k enc v' (xs ++ ys) → Keeps (· ∈ own v) w w' → (v'.ownBlock = v.ownBlock ∨ v'.ownBlock = some w.heap.size) → wpList P ops Q rest (a.put o.dst v') w') : wpList P ops Q (o :: rest) a w :=
  wpList_plain hgd fun _ hK => wp_append_row s x t ho e k enc z bytes ht hi hz hk henc h1 v xs hs hrow A m c ys hx hm hr hmax hbytes fun v' w' h2 h3 h4 => hK _ _ (h v' w' h2 h3 h4)
theorem step_append_row {K : Act → World → Prop} {E : Prop} (hgd : o.guard = none) (s x : Operand) (t : TypeId)
    (ho : o.op = .call { callee := .builtin .append, args := #[s, x], argTypes := #[t, t] })
    (e : TypeId) (k : Nat) (enc : α → List Value) (z : Value) (bytes : Nat) (ht : P.underlying t = some (.slice e)) (hi : (P.info? e).map (fun i => (i.zero, i.size, i.bytes)) = some (some z, k, bytes)) (hz : z.cells.size = k) (hk : 0 < k)
    (henc : ∀ x, (enc x).length = k) (h1 : ∀ x, ∀ u ∈ enc x, u.oneCell' = true)
    (v : Value) (xs : List α) (hs : a.eval s = v) (hrow : RowP w e k enc v xs)
    (A : Option Addr) (m c : Nat) (ys : List α) (hx : a.eval x = .slice A m c) (hm : m = ys.length) (hr : Ats w A (ys.flatMap enc))
    (hmax : xs.length + ys.length ≤ maxLen) (hbytes : (xs.length + ys.length) * bytes ≤ 140737488355328)
    (h : ∀ v' w', RowP w' e k enc v' (xs ++ ys) → Keeps (· ∈ own v) w w' → (v'.ownBlock = v.ownBlock ∨ v'.ownBlock = some w.heap.size) → K (a.put o.dst v') w') :
    if Region.wanted o (yielded ops a.tmps) = true then Oper.wp P o a w K Q else E := by
  have hw : Region.wanted o (yielded ops a.tmps) = true := by simp [Region.wanted, hgd]
  rw [if_pos hw]
  exact wp_append_row s x t ho e k enc z bytes ht hi hz hk henc h1 v xs hs hrow A m c ys hx hm hr hmax hbytes h
/-- A literal just laid, of whatever length. -/
theorem Ats.lit (w : World) (cs : Array Value) (t : TypeId) (L : List Value) (h : cs = L.toArray) : Ats (w.alloc (.cells cs t)) (some ⟨w.heap.size, 0, none⟩) L := fun _ => ⟨_, rfl, fun j u hj => by
  rw [show (⟨w.heap.size, 0, none⟩ : Addr).add j = ⟨w.heap.size, j, none⟩ from by unfold Addr.add; split <;> simp_all, (Blk.new w t cs).cell, h]
  simpa using hj⟩
theorem Ats.non {A : Option Addr} {L : List Value} (h : Ats w A L) (hk : Keeps Non w w') : Ats w' A L := fun hp => by
  obtain ⟨ad, e, hc⟩ := h hp
  exact ⟨ad, e, fun j u hj => hk.cell (hc j u hj) id⟩
theorem Ats.keep {S : Nat → Prop} {A : Option Addr} {L : List Value} (h : Ats w A L) (hk : Keeps S w w') (hb : ∀ ad, A = some ad → ¬ S ad.block) : Ats w' A L := fun hp => by
  obtain ⟨ad, e, hc⟩ := h hp
  exact ⟨ad, e, fun j u hj => hk.cell (hc j u hj) (by rw [Addr.add_block]; exact hb ad e)⟩
/-- A row just laid by a literal. -/
theorem RowP.lit (henc : ∀ x, (enc x).length = k) (w : World) (e : TypeId) (xs : List α) (cs : Array Value) (h : cs = (xs.flatMap enc).toArray) (hm : xs.length ≤ maxLen) : RowP (w.alloc (.cells cs e)) e k enc (.slice (some ⟨w.heap.size, 0, none⟩) xs.length xs.length) xs := by
  subst h
  refine RowP.mk henc (Blk.new w e _) (Nat.le_refl _) hm ?_ ?_
  · simp [flat_len henc]
  · simp [List.take_of_length_le, flat_len henc]
end rows
end Go.Uc
namespace Go.Proofs.Ytiieglfpmmhfiaa
set_option maxRecDepth 100000
open Go.RowKit Go.Uc

theorem str_size (L : List UInt8) : (str L).size = L.length := by simp [str, ByteArray.size]
theorem str_toList (L : List UInt8) : (str L).toList = L := by rw [Lib.toList_data]; rfl
theorem str_data (s : ByteArray) : str s.data.toList = s := by cases s; simp [str]
theorem index_str (L : List UInt8) (k : Nat) (hk : k < L.length) (w : World) : (Instr.index 9 (.string (str L)) (.int .i64 (k : Int))).run Try.prog w = .ok (.int .u8 (L[k].toNat : Int)) w := by
  have h1 : 0 ≤ (k : Int) ∧ (k : Int) < ((str L).size : Int) := by rw [str_size]; omega
  rw [run_index_string w 9 (str L) .i64 k Try.underlying9, dif_pos h1]
  rfl
theorem mul32c (x y : BitVec 32) : IntKind.u32.wrap (v32 x * v32 y) = v32 (x * y) := by
  rw [IntKind.wrap_u32]; unfold v32; rw [BitVec.toNat_mul]; simp
theorem hash_step (L : List UInt8) (k : Nat) (hk : k < L.length) : hash0 (L.take (k + 1)) = hashS (hash0 (L.take k)) L[k] := by
  unfold hash0; rw [List.take_succ_eq_append_getElem hk, List.foldl_append]; rfl

set_option maxHeartbeats 1000000 in
theorem hash_any (L : List UInt8) (hn : L.length ≤ 9223372036854775807) (w : World) : Calls Try.prog 16 #[.string (str L)] w fun e w' => e = .returned (.int .u32 (v32 (hashB L))) ∧ w' = w := by
  have hsz : ((str L).size : Int) = (L.length : Int) := by rw [str_size]
  have hx := xor32
  have l0 := v32_nonneg
  have l1 := v32_le
  go_enter Try.func16, Try.ntmps16
  go_wp2_with fail
  go_loop [3, 7] (fun v i => ∃ k : Nat, k ≤ L.length ∧ i = .int .i64 k ∧ v = .int .u32 (v32 (hash0 (L.take k)))) (fun _ i => L.length - (intOf i).toNat)
  case atStart => exact ⟨0, by omega, rfl, rfl⟩
  case round =>
    obtain ⟨k, hk, rfl, rfl⟩ := hrel
    by_cases hlt : k < L.length
    · have hi := index_str L k hlt
      have HS := Lib.hid (hash_step L k hlt)
      generalize L[k] = c at hi HS
      have hc := c.toNat_lt
      have hm : IntKind.u32.wrap (v32 (hash0 (L.take k) ^^^ BitVec.ofNat 32 c.toNat) * 16777619) = v32 (hashS (hash0 (L.take k)) c) := mul32c _ 16777619#32
      have hcv : ((c.toNat : Nat) : Int) = v32 (BitVec.ofNat 32 c.toNat) := by unfold v32; rw [BitVec.toNat_ofNat, Nat.mod_eq_of_lt (by omega)]
      have hxx : bits .xor .u32 (v32 (hash0 (L.take k))) (c.toNat : Int) = v32 (hash0 (L.take k) ^^^ BitVec.ofNat 32 c.toNat) := by rw [hcv]; exact xor32 _ _
      clear hcv hx
      generalize hash0 (L.take k) = h at hxx hm HS ⊢
      go_wp2_with fail
      go_round
      case rel => exact ⟨k + 1, by omega, by go_num, by rw [HS.out]⟩
      case measure => simp [intOf]; omega
    · obtain rfl : k = L.length := by omega
      have hs : v32 (hash0 (L.take L.length)) / (65536 : Int) = v32 (hash0 (L.take L.length) >>> 16) := shr32 _ 16
      have HB : Hid (hashB L = hash0 (L.take L.length) ^^^ (hash0 (L.take L.length) >>> 16)) := by show _ = _; rw [List.take_of_length_le (Nat.le_refl _)]; rfl
      generalize hash0 (L.take L.length) = h at hs HB ⊢
      go_wp2_with fail
      go_ret
      exact ⟨by rw [HB.out]; rfl, rfl⟩
set_option maxHeartbeats 1000000 in
theorem refhash_any (L : List UInt8) (hn : L.length ≤ 9223372036854775807) (w : World) : Calls Try.prog 17 #[.string (str L)] w fun e w' => e = .returned (.int .u32 (v32 (hashB L))) ∧ w' = w := by
  have hsz : ((str L).size : Int) = (L.length : Int) := by rw [str_size]
  have hx := xor32
  have l0 := v32_nonneg
  have l1 := v32_le
  go_enter Try.func17, Try.ntmps17
  go_wp2_with fail
  go_loop [3, 4] (fun v i => ∃ k : Nat, k ≤ L.length ∧ i = .int .i64 k ∧ v = .int .u32 (v32 (hash0 (L.take k)))) (fun _ i => L.length - (intOf i).toNat)
  case atStart => exact ⟨0, by omega, rfl, rfl⟩
  case round =>
    obtain ⟨k, hk, rfl, rfl⟩ := hrel
    by_cases hlt : k < L.length
    · have hi := index_str L k hlt
      have HS := Lib.hid (hash_step L k hlt)
      generalize L[k] = c at hi HS
      have hc := c.toNat_lt
      have hm : IntKind.u32.wrap (v32 (hash0 (L.take k) ^^^ BitVec.ofNat 32 c.toNat) * 16777619) = v32 (hashS (hash0 (L.take k)) c) := mul32c _ 16777619#32
      have hcv : ((c.toNat : Nat) : Int) = v32 (BitVec.ofNat 32 c.toNat) := by unfold v32; rw [BitVec.toNat_ofNat, Nat.mod_eq_of_lt (by omega)]
      have hxx : bits .xor .u32 (v32 (hash0 (L.take k))) (c.toNat : Int) = v32 (hash0 (L.take k) ^^^ BitVec.ofNat 32 c.toNat) := by rw [hcv]; exact xor32 _ _
      clear hcv hx
      generalize hash0 (L.take k) = h at hxx hm HS ⊢
      go_wp2_with fail
      go_round
      case rel => exact ⟨k + 1, by omega, by go_num, by rw [HS.out]⟩
      case measure => simp [intOf]; omega
    · obtain rfl : k = L.length := by omega
      have hs : v32 (hash0 (L.take L.length)) / (65536 : Int) = v32 (hash0 (L.take L.length) >>> 16) := shr32 _ 16
      have HB : Hid (hashB L = hash0 (L.take L.length) ^^^ (hash0 (L.take L.length) >>> 16)) := by show _ = _; rw [List.take_of_length_le (Nat.le_refl _)]; rfl
      generalize hash0 (L.take L.length) = h at hs HB ⊢
      have b0 := v32_nonneg h
      have b1 := v32_le h
      go_wp2_with fail
      go_ret
      exact ⟨by rw [HB.out]; rfl, rfl⟩

set_option maxHeartbeats 1000000 in
theorem power_any (d : Nat) (hd : d ≤ 8) (w : World) : Calls Try.prog 82 #[.int .i64 (d : Int)] w fun e w' => e = .returned (.int .i64 ((2 ^ d : Nat) : Int)) ∧ w' = w := by
  go_enter Try.func82, Try.ntmps82
  go_wp2_with fail
  go_loop [3, 4] (fun v i => ∃ k p : Nat, k ≤ d ∧ i = .int .i64 k ∧ v = .int .i64 p ∧ Hid (p = 2 ^ k)) (fun _ i => d - (intOf i).toNat)
  case atStart => exact ⟨0, 1, by omega, rfl, rfl, rfl⟩
  case round =>
    obtain ⟨k, p, hk, rfl, rfl, hp⟩ := hrel
    by_cases hlt : k < d
    · have hb : p ≤ 256 := by rw [hp.out]; calc 2 ^ k ≤ 2 ^ 8 := Nat.pow_le_pow_right (by omega) (by omega)
                                              _ = 256 := rfl
      go_wp2_with fail
      go_round
      case rel => exact ⟨k + 1, 2 * p, by omega, by go_num, by go_num, by show _ = _; rw [hp.out, Nat.pow_succ, Nat.mul_comm]⟩
      case measure => simp [intOf]; omega
    · obtain rfl : k = d := by omega
      go_wp2_with fail
      go_ret
      exact ⟨by rw [hp.out]; rfl, rfl⟩

/-- May a name be one? -/
def nameB (L : List UInt8) : Bool := decide (1 ≤ L.length) && decide (L.length ≤ 24)
theorem isName_any (L : List UInt8) (hn : L.length ≤ 9223372036854775807) (w : World) : Calls Try.prog 26 #[.string (str L)] w fun e w' => e = .returned (.bool (nameB L)) ∧ w' = w := by
  have hsz : ((str L).size : Int) = (L.length : Int) := by rw [str_size]
  by_cases h1 : 1 ≤ L.length
  · have h1' : (1 : Int) ≤ (L.length : Int) := by omega
    by_cases h2 : L.length ≤ 24
    · have h2' : (L.length : Int) ≤ 24 := by omega
      have HD : Hid (nameB L = true) := by show _ = _; simp [nameB, h1, h2]
      go_enter Try.func26, Try.ntmps26
      go_wp2_with fail
      go_ret
      exact ⟨by rw [HD.out]; rfl, rfl⟩
    · have h2' : ¬ (L.length : Int) ≤ 24 := by omega
      have HD : Hid (nameB L = false) := by show _ = _; simp [nameB, h1, h2]
      go_enter Try.func26, Try.ntmps26
      go_wp2_with fail
      go_ret
      exact ⟨by rw [HD.out]; rfl, rfl⟩
  · have h1' : ¬ (1 : Int) ≤ (L.length : Int) := by omega
    have HD : Hid (nameB L = false) := by show _ = _; simp [nameB, h1]
    go_enter Try.func26, Try.ntmps26
    go_wp2_with fail
    go_ret
    exact ⟨by rw [HD.out]; rfl, rfl⟩
end Go.Proofs.Ytiieglfpmmhfiaa
