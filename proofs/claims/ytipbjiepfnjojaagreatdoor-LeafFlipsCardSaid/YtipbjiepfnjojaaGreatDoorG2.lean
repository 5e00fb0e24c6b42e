/- How arguments that came in are read: slices of bytes, slices of slices of bytes, with the form's own reach. How slices of numbers and of bytes among the arguments are read. Words of 32 and of 64 bits. Rows of whatever elements: a slice of the program's own, each element laid by enc in k cells. More words for memory. Numbers as bytes (code.form, code.value, code.copied). -/
import Derived.Test.YtipbjiepfnjojaaGreatDoorBase
import Derived.ProofKit
import Derived.OpenShut
import Derived.ShutString
import Derived.ChangeOld
import Derived.SizedLaws
import Derived.Deep.Matrix
import Derived.Test.YtipbjiepfnjojaaGreatDoorRows
import Derived.Tactics
import Derived.Tactics2
import Derived.WalkSpells
import Derived.Laws.Rows
import Derived.BigQuiet
import Derived.Deep.QuietTactic
import Derived.StillTailTactics
import Derived.Deep.RegionLaw
import Derived.Lib.SlBytesConst
import Derived.RegionTactic
import Derived.Deep.CutRange
import Derived.Deep.RegionHeld3
import Derived.Deep.LoopGhost
import Derived.WalkLawsBesides
import Derived.Lib.Hide
import Derived.Deep.DeepMust
namespace Go.Uc
open Go.RowKit Go.ChangeShapes Go.WideShapes

/-- A slice of slices of bytes that came in. -/
def Recs (w : World) (A : Option Addr) (rs : List (List UInt8)) : Prop := ∀ i (h : i < rs.length), ∃ b off Ai ci, A = some ⟨b, off, none⟩ ∧ w.cell? ⟨b, off + i, none⟩ = some (.slice Ai rs[i].length ci) ∧
  At w Ai rs[i] ∧ rs[i].length ≤ ci ∧ rs[i].length ≤ 140737488351232

def toBytes (zs : List Int) : List UInt8 := zs.map fun n => UInt8.ofNat n.toNat
theorem toBytes_length (zs : List Int) : (toBytes zs).length = zs.length := by simp [toBytes]
theorem bv_of_wf {n : Int} (h : (Lit.int .u8 n).wf = true) : bv (UInt8.ofNat n.toNat) = .int .u8 n := by
  have h' : 0 ≤ n ∧ n ≤ 255 := by
    simpa [Lit.wf, IntKind.min, IntKind.max, IntKind.bits, IntKind.signed] using h
  rw [bv_ofNat _ (by omega)]
  congr 1
  omega
theorem at_of_ints {w : World} {A : Option Addr} {L C : Nat} {zs : List Int} (hL : L ≤ C) (hz : zs.length = C) (hw : ∀ n ∈ zs, (Lit.int .u8 n).wf = true) (h0 : A = none → C = 0)
    (hc : ∀ a', A = some a' → ∀ c, c < C → w.cell? (a'.add c) = some (.int .u8 (zs.getD c 0))) : At w A (toBytes (zs.take L)) := by
  intro i hi
  simp [toBytes_length] at hi
  cases A with
  | none => have := h0 rfl; omega
  | some ad =>
    refine ⟨ad, rfl, ?_⟩
    rw [hc ad rfl i (by omega)]
    simp only [toBytes, List.getElem_map, List.getElem_take]
    rw [bv_of_wf (hw _ (List.getElem_mem _))]
    simp [List.getD, show i < zs.length by omega]

section
variable {H : Type} {enc : TypeId × Value → H} {P : Program} {w : World} {base : Nat} {held : Bool}
theorem mem_weightsAll {e : TypeId} : ∀ {ds : List (DataW H)} {d : DataW H}, d ∈ ds → ∀ n ∈ d.weights P e, n ∈ DataW.weightsAll P e ds
  | x :: ds, d, hd, n, hn => by
    rw [DataW.weightsAll]
    rcases List.mem_cons.1 hd with rfl | hd
    · exact List.mem_append_left _ hn
    · exact List.mem_append_right _ (mem_weightsAll hd n hn)

/-- A slice of slices of bytes among the arguments. -/
theorem recs_open {t e q : TypeId} {fuel n c : Nat} {A : Option Addr} {x : DataW H × List MemPlace} (ht : P.underlying t = some (.slice e)) (he : P.underlying e = some (.slice q)) (hq : P.underlying q = some (.int .u8))
    (ce : P.cellsOf e = 1) (cq : P.cellsOf q = 1) (be : P.bytesOf e = 24) (bq : P.bytesOf q = 1) (h : DataW.trod enc P w base (fun _ => true) held fuel t [.slice A n c] = some x)
    (hw : ∀ m ∈ x.1.weights P t, m ≤ reachBytes) : ∃ rs : List (List UInt8), rs.length = n ∧ Recs w A rs ∧ n ≤ c ∧ n ≤ 5864062014640 := by
  rcases Go.Deep.open_int_rows ht he hq ce cq h with ⟨hcs, _⟩ | ⟨a, len, cap, Ar, L, C, Z, hcs, _, hl, hm, hx, hr⟩
  · simp at hcs
    obtain ⟨rfl, rfl, rfl⟩ := hcs
    exact ⟨[], rfl, fun i h => absurd h (by simp), Nat.le_refl _, by omega⟩
  · simp at hcs
    obtain ⟨rfl, rfl, rfl⟩ := hcs
    have hx1 : x.1 = (.slice ((List.range n).map fun r => Go.Deep.intRow .u8 (Ar r) (L r) (Z r)) ((List.range (c - n)).map fun j => Go.Deep.intRow .u8 (Ar (n + j)) (L (n + j)) (Z (n + j)))) := by rw [hx]
    rw [hx1] at hw
    simp only [DataW.weights, ht] at hw
    have hcap : c * 24 ≤ reachBytes := by
      have := hw _ (List.mem_cons_self ..)
      simp only [List.length_map, List.length_range, be] at this
      rwa [show n + (c - n) = c by omega] at this
    refine ⟨(List.range n).map fun r => toBytes ((Z r).take (L r)), by simp, fun i hi => ?_, hl, by simp [reachBytes] at hcap; omega⟩
    simp at hi
    obtain ⟨h1, h2, h3, h4, h5, h6, h7⟩ := hr i (by omega)
    have hat : At w (Ar i) (toBytes ((Z i).take (L i))) := at_of_ints h2 h4 h5 h6 fun a' ha' => (h7 a' ha').2
    have hlen : (toBytes ((Z i).take (L i))).length = L i := by rw [toBytes_length, List.length_take, h4]; omega
    obtain ⟨b, off, sp⟩ := a
    have hsp : sp = none := by
      obtain ⟨q1, _⟩ := hr 0 (by omega)
      have := World.cell?_spot q1
      simpa [Addr.add] using this
    subst hsp
    refine ⟨b, off, Ar i, C i, rfl, ?_, by simpa using hat, by simp [hlen, h2], ?_⟩
    · have e1 : (⟨b, off, none⟩ : Addr).add i = ⟨b, off + i, none⟩ := by unfold Addr.add; split <;> simp_all
      rw [← e1, h1]
      simp [hlen]
    · simp only [List.getElem_map, List.getElem_range, hlen]
      cases hA : Ar i with
      | none => have := h6 hA; omega
      | some ad =>
        have hmem : Go.Deep.intRow (H := H) .u8 (Ar i) (L i) (Z i) ∈ (List.range n).map fun r => Go.Deep.intRow (H := H) .u8 (Ar r) (L r) (Z r) := List.mem_map.2 ⟨i, List.mem_range.2 hi, rfl⟩
        have := hw _ (List.mem_cons_of_mem _ (List.mem_append_left _ (mem_weightsAll (P := P) (e := e) hmem ((Z i).length) (by
          rw [hA]
          simp only [Go.Deep.intRow, DataW.weights, he, bq]
          refine List.mem_cons.2 (.inl ?_)
          simp [lits]
          omega))))
        simp only [reachBytes] at this
        omega
end
end Go.Uc
namespace Go.Uc
open Go.RowKit Go.ChangeShapes Go.WideShapes

/-- A slice of numbers that came in. -/
def Nums (w : World) (A : Option Addr) (zs : List Int) : Prop := ∀ i (h : i < zs.length), ∃ b off, A = some ⟨b, off, none⟩ ∧ w.cell? ⟨b, off + i, none⟩ = some (.int .i64 zs[i]) ∧ -9223372036854775808 ≤ zs[i] ∧ zs[i] ≤ 9223372036854775807
section
variable {H : Type} {enc : TypeId × Value → H} {P : Program} {w : World} {base : Nat} {held : Bool}
theorem nums_open {t e : TypeId} {fuel n c : Nat} {A : Option Addr} {x : DataW H × List MemPlace} (ht : P.underlying t = some (.slice e)) (he : P.underlying e = some (.int .i64)) (ce : P.cellsOf e = 1) (be : P.bytesOf e = 8)
    (h : DataW.trod enc P w base (fun _ => true) held fuel t [.slice A n c] = some x) (hw : ∀ m ∈ x.1.weights P t, m ≤ reachBytes) :
    ∃ zs : List Int, zs.length = n ∧ Nums w A zs ∧ n ≤ c ∧ n ≤ 17592186043904 := by
  rcases open_ints ht he ce h with ⟨hcs, _⟩ | ⟨a, len, cap, zs, hcs, _, hl, hm, hz, hx, hcell, hwf⟩
  · simp at hcs
    obtain ⟨rfl, rfl, rfl⟩ := hcs
    exact ⟨[], rfl, fun i h => absurd h (by simp), Nat.le_refl _, by omega⟩
  · simp at hcs
    obtain ⟨rfl, rfl, rfl⟩ := hcs
    simp only [if_true] at hz
    have hcap : c * 8 ≤ reachBytes := by
      have hx1 : x.1 = .slice (lits .i64 (zs.take n)) (lits .i64 (zs.drop n)) := by rw [hx]
      rw [hx1] at hw
      have := hw (c * 8) (by simp [DataW.weights, ht, be, lits, hz]; left; omega)
      exact this
    refine ⟨zs.take n, by simp; omega, fun i hi => ?_, hl, by simp [reachBytes] at hcap; omega⟩
    simp at hi
    obtain ⟨b, off, rfl, hall⟩ := ints_at hcell (by omega)
    have hi2 : i < zs.length := by omega
    have b1 := bounds_i64 (hwf zs[i] (List.getElem_mem _))
    refine ⟨b, off, rfl, ?_, ?_, ?_⟩
    · rw [hall i hi2, List.getElem_take]
      simp [List.getD, hi2]
    · rw [List.getElem_take]; exact b1.1
    · rw [List.getElem_take]; exact b1.2
theorem bytes_open {t e : TypeId} {fuel n c : Nat} {A : Option Addr} {x : DataW H × List MemPlace} (ht : P.underlying t = some (.slice e)) (he : P.underlying e = some (.int .u8)) (ce : P.cellsOf e = 1) (be : P.bytesOf e = 1)
    (h : DataW.trod enc P w base (fun _ => true) held fuel t [.slice A n c] = some x) (hw : ∀ m ∈ x.1.weights P t, m ≤ reachBytes) :
    ∃ bs : List UInt8, bs.length = n ∧ At w A bs ∧ n ≤ c ∧ c ≤ 140737488351232 := by
  rcases open_ints ht he ce h with ⟨hcs, _⟩ | ⟨a, len, cap, zs, hcs, _, hl, hm, hz, hx, hcell, hwf⟩
  · simp at hcs
    obtain ⟨rfl, rfl, rfl⟩ := hcs
    exact ⟨[], rfl, At.nil _ _, Nat.le_refl _, by omega⟩
  · simp at hcs
    obtain ⟨rfl, rfl, rfl⟩ := hcs
    simp only [if_true] at hz
    have hcap : c ≤ reachBytes := by
      have hx1 : x.1 = .slice (lits .u8 (zs.take n)) (lits .u8 (zs.drop n)) := by rw [hx]
      rw [hx1] at hw
      have := hw c (by simp [DataW.weights, ht, be, lits, hz]; left; omega)
      exact this
    refine ⟨toBytes (zs.take n), by rw [toBytes_length]; simp; omega, at_of_ints hl hz hwf (fun h => by cases h) (fun a' ha' i hi => ?_), hl, by simpa [reachBytes] using hcap⟩
    injection ha' with ha'
    subst ha'
    exact hcell i (by omega)
end
end Go.Uc
namespace Go.Proofs.YtipbjiepfnjojaaGreatDoor
open Go.RowKit Go.Uc

/-- A word of 32 bits, as the number in its cell. -/
def v32 (x : BitVec 32) : Int := x.toNat
/-- A word of 64 bits, as the number in its cell. -/
def v64 (x : BitVec 64) : Int := x.toNat

theorem ofInt_v32 (x : BitVec 32) : BitVec.ofInt IntKind.u32.bits (v32 x) = x := by
  show BitVec.ofInt 32 (x.toNat : Int) = x
  rw [BitVec.ofInt_natCast, BitVec.ofNat_toNat, BitVec.setWidth_eq]
theorem ofInt_v64 (x : BitVec 64) : BitVec.ofInt IntKind.u64.bits (v64 x) = x := by
  show BitVec.ofInt 64 (x.toNat : Int) = x
  rw [BitVec.ofInt_natCast, BitVec.ofNat_toNat, BitVec.setWidth_eq]
theorem v32_nonneg (x : BitVec 32) : 0 ≤ v32 x := by unfold v32; omega
theorem v32_le (x : BitVec 32) : v32 x ≤ 4294967295 := by have := x.isLt; unfold v32; omega
theorem v64_nonneg (x : BitVec 64) : 0 ≤ v64 x := by unfold v64; omega
theorem v64_le (x : BitVec 64) : v64 x ≤ 18446744073709551615 := by have := x.isLt; unfold v64; omega
theorem add32 (x y : BitVec 32) : IntKind.u32.wrap (v32 x + v32 y) = v32 (x + y) := by
  rw [IntKind.wrap_u32]; unfold v32; rw [BitVec.toNat_add]; omega
theorem add64 (x y : BitVec 64) : IntKind.u64.wrap (v64 x + v64 y) = v64 (x + y) := by
  rw [IntKind.wrap_u64]; unfold v64; rw [BitVec.toNat_add]; omega
theorem wrap32_nat {n : Nat} (h : n < 4294967296) : IntKind.u32.wrap (n : Int) = n := by rw [IntKind.wrap_u32]; omega
theorem wrap64_nat {n : Nat} (h : n < 18446744073709551616) : IntKind.u64.wrap (n : Int) = n := by rw [IntKind.wrap_u64]; omega
theorem xor32 (x y : BitVec 32) : bits .xor .u32 (v32 x) (v32 y) = v32 (x ^^^ y) := by
  unfold bits
  simp only [ofInt_v32]
  exact wrap32_nat (x ^^^ y).isLt
theorem and32 (x y : BitVec 32) : bits .and .u32 (v32 x) (v32 y) = v32 (x &&& y) := by
  unfold bits
  simp only [ofInt_v32]
  exact wrap32_nat (x &&& y).isLt
theorem or32 (x y : BitVec 32) : bits .or .u32 (v32 x) (v32 y) = v32 (x ||| y) := by
  unfold bits
  simp only [ofInt_v32]
  exact wrap32_nat (x ||| y).isLt
theorem or64 (x y : BitVec 64) : bits .or .u64 (v64 x) (v64 y) = v64 (x ||| y) := by
  unfold bits
  simp only [ofInt_v64]
  exact wrap64_nat (x ||| y).isLt
theorem shl32 (x : BitVec 32) (k : Nat) : IntKind.u32.wrap (v32 x * 2 ^ k) = v32 (x <<< k) := by
  rw [IntKind.wrap_u32]; unfold v32; rw [BitVec.toNat_shiftLeft, Nat.shiftLeft_eq, Int.natCast_emod, Int.natCast_mul, Int.natCast_pow, Int.natCast_pow]; rfl
theorem shl64 (x : BitVec 64) (k : Nat) : IntKind.u64.wrap (v64 x * 2 ^ k) = v64 (x <<< k) := by
  rw [IntKind.wrap_u64]; unfold v64; rw [BitVec.toNat_shiftLeft, Nat.shiftLeft_eq, Int.natCast_emod, Int.natCast_mul, Int.natCast_pow, Int.natCast_pow]; rfl
theorem shr32 (x : BitVec 32) (k : Nat) : v32 x / 2 ^ k = v32 (x >>> k) := by
  unfold v32; rw [BitVec.toNat_ushiftRight, Nat.shiftRight_eq_div_pow, Int.natCast_ediv, Int.natCast_pow]; rfl
theorem shr64 (x : BitVec 64) (k : Nat) : v64 x / 2 ^ k = v64 (x >>> k) := by
  unfold v64; rw [BitVec.toNat_ushiftRight, Nat.shiftRight_eq_div_pow, Int.natCast_ediv, Int.natCast_pow]; rfl

end Go.Proofs.YtipbjiepfnjojaaGreatDoor
namespace Go.Uc
open Go.RowKit

/-- The block of a slice, if it has one. -/
def own (v : Value) : List Nat := v.ownBlock.toList
theorem mem_own {v : Value} {g : Nat} : g ∈ own v ↔ v.ownBlock = some g := by unfold own; cases v.ownBlock <;> simp [eq_comm]
theorem own_slice (g n c : Nat) : own (.slice (some ⟨g, 0, none⟩) n c) = [g] := rfl
theorem own_nil (n c : Nat) : own (.slice none n c) = [] := rfl
section rows
variable {α : Type} {w w' : World} {e : TypeId} {k : Nat} {enc : α → List Value} {v : Value} {xs : List α}
def RowP (w : World) (e : TypeId) (k : Nat) (enc : α → List Value) (v : Value) (xs : List α) : Prop := w.ownsRow 0 e k v xs.length (xs.flatMap enc)

theorem flat_len (henc : ∀ x, (enc x).length = k) (xs : List α) : (xs.flatMap enc).length = xs.length * k := by
  induction xs with
  | nil => simp
  | cons x xs ih => rw [List.flatMap_cons, List.length_append, ih, henc, List.length_cons, Nat.succ_mul, Nat.add_comm]
theorem flat_get (henc : ∀ x, (enc x).length = k) : ∀ (xs : List α) (i j : Nat) (hi : i < xs.length), j < k → (xs.flatMap enc)[i * k + j]? = (enc xs[i])[j]? := by
  intro xs
  induction xs with
  | nil => intro i j hi; simp at hi
  | cons x xs ih =>
    intro i j hi hj
    rw [List.flatMap_cons]
    cases i with
    | zero =>
      rw [Nat.zero_mul, Nat.zero_add, List.getElem?_append_left (by rw [henc]; exact hj)]
      rfl
    | succ i =>
      simp at hi
      rw [List.getElem?_append_right (by rw [henc, Nat.succ_mul]; omega), henc, show (i + 1) * k + j - k = i * k + j by rw [Nat.succ_mul]; omega, ih i j hi hj]
      rfl
theorem RowP.nil (w : World) (e : TypeId) (k : Nat) (enc : α → List Value) : RowP w e k enc (.slice none 0 0) [] := World.ownsRow_nil _ _ _ _
theorem RowP.keep {S : Nat → Prop} (h : RowP w e k enc v xs) (hk : Keeps S w w') (hb : ∀ g ∈ own v, ¬ S g) : RowP w' e k enc v xs := row_keep h hk fun g hg => hb g (mem_own.2 hg)
theorem RowP.non (h : RowP w e k enc v xs) (hk : Keeps Non w w') : RowP w' e k enc v xs := h.keep hk fun _ _ e => e
theorem RowP.form (h : RowP w e k enc v xs) : (v = .slice none 0 0 ∧ xs = []) ∨ ∃ g cap cur, v = .slice (some ⟨g, 0, none⟩) xs.length cap ∧ Blk w g e cur ∧ xs.length ≤ cap ∧ cap ≤ maxLen ∧ cur.size = cap * k ∧ cur.toList.take (xs.length * k) = xs.flatMap enc := by
  rcases h.2 with ⟨h1, h2⟩ | ⟨g, cap, cur, h1, _, h3, h4, h5, h6, h7⟩
  · exact .inl ⟨h1, List.eq_nil_of_length_eq_zero h2⟩
  · exact .inr ⟨g, cap, cur, h1, h3, h4, h5, h6, h7⟩
theorem RowP.mk {g cap : Nat} {cur : Array Value} (henc : ∀ x, (enc x).length = k) (hB : Blk w g e cur) (hl : xs.length ≤ cap) (hc : cap ≤ maxLen) (hs : cur.size = cap * k) (ht : cur.toList.take (xs.length * k) = xs.flatMap enc) : RowP w e k enc (.slice (some ⟨g, 0, none⟩) xs.length cap) xs :=
  ⟨flat_len henc xs, .inr ⟨g, cap, cur, rfl, Nat.zero_le _, hB, hl, hc, hs, ht⟩⟩
theorem RowP.val (h : RowP w e k enc v xs) : ∃ A c, v = .slice A xs.length c ∧ xs.length ≤ c ∧ c ≤ maxLen := by
  rcases h.form with ⟨rfl, rfl⟩ | ⟨g, cap, cur, rfl, _, h4, h5, _⟩
  · exact ⟨none, 0, rfl, Nat.le_refl _, by decide⟩
  · exact ⟨_, cap, rfl, h4, h5⟩
theorem RowP.lt (h : RowP w e k enc v xs) : ∀ g ∈ own v, g < w.heap.size := by
  intro g hg
  rcases h.form with ⟨rfl, rfl⟩ | ⟨g', cap, cur, rfl, h3, _⟩
  · simp [own_nil] at hg
  · simp [own_slice] at hg
    subst hg
    exact h3.lt
/-- The cells of element i. -/
theorem RowP.at_ (henc : ∀ x, (enc x).length = k) (h : RowP w e k enc v xs) {i : Nat} (hi : i < xs.length) : ∃ g cap, v = .slice (some ⟨g, 0, none⟩) xs.length cap ∧ xs.length ≤ cap ∧ cap ≤ maxLen ∧ (∀ j, j < k → w.cell? ⟨g, i * k + j, none⟩ = (enc xs[i])[j]?) ∧ (∀ j, w.frozen? ⟨g, j, none⟩ = false) ∧ g < w.heap.size := by
  rcases h.form with ⟨rfl, rfl⟩ | ⟨g, cap, cur, rfl, h3, h4, h5, h6, h7⟩
  · simp at hi
  · refine ⟨g, cap, rfl, h4, h5, fun j hj => ?_, fun j => h3.frozen j, h3.lt⟩
    rw [h3.cell, ← flat_get henc xs i j hi hj, ← h7]
    have : i * k + j < xs.length * k := by
      calc i * k + j < i * k + k := by omega
        _ = (i + 1) * k := by rw [Nat.succ_mul]
        _ ≤ xs.length * k := Nat.mul_le_mul_right _ (by omega)
    rw [List.getElem?_take, if_pos this]
    simp
/-- What an append reads of it. -/
theorem RowP.ats (h : RowP w e k enc v xs) (henc : ∀ x, (enc x).length = k) : ∃ A c, v = .slice A xs.length c ∧ xs.length ≤ c ∧ Ats w A (xs.flatMap enc) := by
  rcases h.form with ⟨rfl, rfl⟩ | ⟨g, cap, cur, rfl, h3, h4, h5, h6, h7⟩
  · exact ⟨none, 0, rfl, Nat.le_refl _, fun h => absurd h (by simp)⟩
  · refine ⟨_, cap, rfl, h4, fun _ => ⟨_, rfl, fun j u hj => ?_⟩⟩
    have hlt : j < (xs.flatMap enc).length := (List.getElem?_eq_some_iff.1 hj).1
    rw [flat_len henc] at hlt
    rw [show (⟨g, 0, none⟩ : Addr).add j = ⟨g, j, none⟩ from by unfold Addr.add; split <;> simp_all, h3.cell]
    rw [← h7, List.getElem?_take, if_pos hlt] at hj
    simpa using hj
/-- Another row in the same cells. -/
theorem RowP.put {g cap : Nat} {cur : Array Value} {ys : List α} (h : RowP w e k enc (.slice (some ⟨g, 0, none⟩) xs.length cap) xs) (henc : ∀ x, (enc x).length = k) (hB : Blk w' g e cur) (hl : ys.length ≤ cap) (hs : cur.size = cap * k) (hg : ∀ p, p < ys.length * k → cur[p]? = (ys.flatMap enc)[p]?) : RowP w' e k enc (.slice (some ⟨g, 0, none⟩) ys.length cap) ys := by
  obtain ⟨A, c, e1, _, hc⟩ := h.val
  injection e1 with _ _ e1
  subst e1
  refine RowP.mk henc hB hl hc hs ?_
  apply List.ext_getElem?
  intro p
  rw [List.getElem?_take]
  by_cases hp : p < ys.length * k
  · rw [if_pos hp, ← hg p hp]
    simp
  · rw [if_neg hp, List.getElem?_eq_none (by rw [flat_len henc]; omega)]
theorem info_p {P : Program} {e : TypeId} {z : Value} {k bytes : Nat} (h : (P.info? e).map (fun i => (i.zero, i.size, i.bytes)) = some (some z, k, bytes)) : ∃ i, P.info? e = some i ∧ i.zero = some z ∧ i.size = k ∧ i.bytes = bytes := by
  cases hi : P.info? e with
  | none => simp [hi] at h
  | some i => simp [hi] at h; exact ⟨i, rfl, h.1, h.2.1, h.2.2⟩

variable {P : Program} {ops : Array Oper} {rest : List Oper} {o : Oper} {a : Act} {Q : Exit → Act → World → Prop}
theorem wp_append_row {K : Act → World → Prop} (s x : Operand) (t : TypeId)
    (ho : o.op = .call { callee := .builtin .append, args := #[s, x], argTypes := #[t, t] })
    (e : TypeId) (k : Nat) (enc : α → List Value) (z : Value) (bytes : Nat) (ht : P.underlying t = some (.slice e)) (hi : (P.info? e).map (fun i => (i.zero, i.size, i.bytes)) = some (some z, k, bytes)) (hz : z.cells.size = k) (hk : 0 < k)
    (henc : ∀ x, (enc x).length = k) (h1 : ∀ x, ∀ u ∈ enc x, u.oneCell' = true)
    (v : Value) (xs : List α) (hs : a.eval s = v) (hrow : RowP w e k enc v xs)
    (A : Option Addr) (m c : Nat) (ys : List α) (hx : a.eval x = .slice A m c) (hm : m = ys.length) (hr : Ats w A (ys.flatMap enc))
    (hmax : xs.length + ys.length ≤ maxLen) (hbytes : (xs.length + ys.length) * bytes ≤ 140737488355328)
    (h : ∀ v' w', RowP w' e k enc v' (xs ++ ys) → Keeps (· ∈ own v) w w' → (v'.ownBlock = v.ownBlock ∨ v'.ownBlock = some w.heap.size) → K (a.put o.dst v') w') : o.wp P a w K Q := by
  obtain ⟨i, hi0, hz0, hz1, hz2⟩ := info_p hi
  subst hm
  refine wp_append_any s x t ho 0 e i z k bytes ht hi0 hz0 hz1 hz2 hz hk v xs.length (xs.flatMap enc) hs hrow A ys.length c (ys.flatMap enc) hx (flat_len henc ys) hr ?_ hmax hbytes (Nat.zero_le _) fun v' w' h2 h3 h4 => h v' w' ?_ (h3.mono fun g hg => mem_own.2 hg) h4
  · intro u hu
    obtain ⟨x, _, hu⟩ := List.mem_flatMap.1 hu
    exact h1 x u hu
  · unfold RowP
    rw [List.length_append, List.flatMap_append]
    exact h2
theorem wpList_append_row (hgd : o.guard = none) (s x : Operand) (t : TypeId)
    (ho : o.op = .call { callee := .builtin .append, args := #[s, x], argTypes := #[t, t] })
    (e : TypeId) (k : Nat) (enc : α → List Value) (z : Value) (bytes : Nat) (ht : P.underlying t = some (.slice e)) (hi : (P.info? e).map (fun i => (i.zero, i.size, i.bytes)) = some (some z, k, bytes)) (hz : z.cells.size = k) (hk : 0 < k)
    (henc : ∀ x, (enc x).length = k) (h1 : ∀ x, ∀ u ∈ enc x, u.oneCell' = true)
    (v : Value) (xs : List α) (hs : a.eval s = v) (hrow : RowP w e k enc v xs)
    (A : Option Addr) (m c : Nat) (ys : List α) (hx : a.eval x = .slice A m c) (hm : m = ys.length) (hr : Ats w A (ys.flatMap enc))
    (hmax : xs.length + ys.length ≤ maxLen) (hbytes : (xs.length + ys.length) * bytes ≤ 140737488355328)
    (h : ∀ v' w', RowP w' e k enc v' (xs ++ ys) → Keeps (· ∈ own v) w w' → (v'.ownBlock = v.ownBlock ∨ v'.ownBlock = some w.heap.size) → wpList P ops Q rest (a.put o.dst v') w') : wpList P ops Q (o :: rest) a w :=
  wpList_plain hgd fun _ hK => wp_append_row s x t ho e k enc z bytes ht hi hz hk henc h1 v xs hs hrow A m c ys hx hm hr hmax hbytes fun v' w' h2 h3 h4 => hK _ _ (h v' w' h2 h3 h4)
theorem step_append_row {K : Act → World → Prop} {E : Prop} (hgd : o.guard = none) (s x : Operand) (t : TypeId)
    (ho : o.op = .call { callee := .builtin .append, args := #[s, x], argTypes := #[t, t] })
    (e : TypeId) (k : Nat) (enc : α → List Value) (z : Value) (bytes : Nat) (ht : P.underlying t = some (.slice e)) (hi : (P.info? e).map (fun i => (i.zero, i.size, i.bytes)) = some (some z, k, bytes)) (hz : z.cells.size = k) (hk : 0 < k)
    (henc : ∀ x, (enc x).length = k) (h1 : ∀ x, ∀ u ∈ enc x, u.oneCell' = true)
    (v : Value) (xs : List α) (hs : a.eval s = v) (hrow : RowP w e k enc v xs)
    (A : Option Addr) (m c : Nat) (ys : List α) (hx : a.eval x = .slice A m c) (hm : m = ys.length) (hr : Ats w A (ys.flatMap enc))
    (hmax : xs.length + ys.length ≤ maxLen) (hbytes : (xs.length + ys.length) * bytes ≤ 140737488355328)
    (h : ∀ v' w', RowP w' e k enc v' (xs ++ ys) → Keeps (· ∈ own v) w w' → (v'.ownBlock = v.ownBlock ∨ v'.ownBlock = some w.heap.size) → K (a.put o.dst v') w') :
    if Region.wanted o (yielded ops a.tmps) = true then Oper.wp P o a w K Q else E := by
  have hw : Region.wanted o (yielded ops a.tmps) = true := by simp [Region.wanted, hgd]
  rw [if_pos hw]
  exact wp_append_row s x t ho e k enc z bytes ht hi hz hk henc h1 v xs hs hrow A m c ys hx hm hr hmax hbytes h
/-- A literal just laid, of whatever length. -/
theorem Ats.lit (w : World) (cs : Array Value) (t : TypeId) (L : List Value) (h : cs = L.toArray) : Ats (w.alloc (.cells cs t)) (some ⟨w.heap.size, 0, none⟩) L := fun _ => ⟨_, rfl, fun j u hj => by
  rw [show (⟨w.heap.size, 0, none⟩ : Addr).add j = ⟨w.heap.size, j, none⟩ from by unfold Addr.add; split <;> simp_all, (Blk.new w t cs).cell, h]
  simpa using hj⟩
theorem Ats.non {A : Option Addr} {L : List Value} (h : Ats w A L) (hk : Keeps Non w w') : Ats w' A L := fun hp => by
  obtain ⟨ad, e, hc⟩ := h hp
  exact ⟨ad, e, fun j u hj => hk.cell (hc j u hj) id⟩
theorem Ats.keep {S : Nat → Prop} {A : Option Addr} {L : List Value} (h : Ats w A L) (hk : Keeps S w w') (hb : ∀ ad, A = some ad → ¬ S ad.block) : Ats w' A L := fun hp => by
  obtain ⟨ad, e, hc⟩ := h hp
  exact ⟨ad, e, fun j u hj => hk.cell (hc j u hj) (by rw [Addr.add_block]; exact hb ad e)⟩
/-- A row just laid by a literal. -/
theorem RowP.lit (henc : ∀ x, (enc x).length = k) (w : World) (e : TypeId) (xs : List α) (cs : Array Value) (h : cs = (xs.flatMap enc).toArray) (hm : xs.length ≤ maxLen) : RowP (w.alloc (.cells cs e)) e k enc (.slice (some ⟨w.heap.size, 0, none⟩) xs.length xs.length) xs := by
  subst h
  refine RowP.mk henc (Blk.new w e _) (Nat.le_refl _) hm ?_ ?_
  · simp [flat_len henc]
  · simp [List.take_of_length_le, flat_len henc]
end rows
end Go.Uc
namespace Go.Uc
open Go.RowKit
theorem At.lit (w : World) (e : TypeId) (fr : Nat × Nat) (C : Array Value) (bs : List UInt8) (h : C = pc bs) : At (w.alloc (.cells C e fr)) (Option.some ⟨w.heap.size, 0, none⟩) bs := by
  subst h
  intro i hi
  refine ⟨_, rfl, ?_⟩
  rw [show (⟨w.heap.size, 0, none⟩ : Addr).add i = ⟨w.heap.size, i, none⟩ from by unfold Addr.add; split <;> simp_all]
  rw [cell_of_row (w.alloc (.cells (pc bs) e fr)) w.heap.size i (pc bs) e fr (heap_alloc_new w _), pc_get, List.getElem?_eq_getElem hi]
  rfl
end Go.Uc
namespace Go.Proofs.YtipbjiepfnjojaaGreatDoor
set_option maxRecDepth 100000
open Go.RowKit Go.Uc

theorem info5 : (Tryz.prog.info? 5).map (fun i => (i.zero, i.size, i.bytes)) = some (some (.int .u8 0), 1, 1) := by kernel_rfl
theorem infoS5 : (Tryz.prog.info? 5).map (·.size) = some 1 := by kernel_rfl
/-- Bytes as a number, the lowest first. -/
def leVal : List UInt8 → Nat
  | [] => 0
  | x :: xs => x.toNat + 256 * leVal xs
theorem leVal_snoc (xs : List UInt8) (x : UInt8) : leVal (xs ++ [x]) = leVal xs + x.toNat * 256 ^ xs.length := by
  induction xs with
  | nil => simp [leVal]
  | cons y ys ih =>
    simp only [List.cons_append, leVal, ih, List.length_cons, Nat.pow_succ, Nat.mul_add]
    rw [Nat.mul_left_comm, Nat.mul_comm 256 (256 ^ _)]
    omega
theorem leVal_lt (xs : List UInt8) : leVal xs < 256 ^ xs.length := by
  induction xs with
  | nil => simp [leVal]
  | cons x xs ih =>
    have := x.toNat_lt
    simp only [leVal, List.length_cons, Nat.pow_succ]
    omega
theorem leVal_le (k n : Nat) : leVal (le k n) = n % 256 ^ k := by
  induction k generalizing n with
  | zero => simp [leVal, le, Nat.mod_one]
  | succ k ih =>
    simp only [leVal, le, ih]
    rw [ofNat_toNat _ (Nat.mod_lt _ (by decide)), Nat.pow_succ, Nat.mul_comm (256 ^ k), Nat.mod_mul]
theorem or_byte64 (m x k : Nat) (hm : m < 256 ^ k) (hx : x < 256) (hk : k ≤ 7) : bits .or .u64 (m : Int) (IntKind.u64.wrap ((x : Int) * 2 ^ (8 * k))) = ((m + x * 256 ^ k : Nat) : Int) := by
  have e : (2 : Int) ^ (8 * k) = ((256 ^ k : Nat) : Int) := by rw [Int.pow_mul]; simp
  have e2 : (256 : Nat) ^ k = 2 ^ (8 * k) := by rw [Nat.pow_mul]
  have hp : (256 : Nat) ^ k ≤ 256 ^ 7 := Nat.pow_le_pow_right (by decide) hk
  have hy : x * 256 ^ k < 18446744073709551616 := by
    have := Nat.mul_le_mul (show x ≤ 255 by omega) hp
    omega
  have hm2 : m < 18446744073709551616 := by omega
  rw [e, ← Int.natCast_mul, wrap64_nat hy]
  have h := or64 (BitVec.ofNat 64 m) (BitVec.ofNat 64 (x * 256 ^ k))
  unfold v64 at h
  rw [BitVec.toNat_ofNat, BitVec.toNat_ofNat, Nat.mod_eq_of_lt (by omega), Nat.mod_eq_of_lt (by omega)] at h
  rw [h, BitVec.toNat_or, BitVec.toNat_ofNat, BitVec.toNat_ofNat, Nat.mod_eq_of_lt (by omega), Nat.mod_eq_of_lt (by omega)]
  congr 1
  rw [Nat.or_comm, e2, Nat.mul_comm x, ← Nat.two_pow_add_eq_or_of_lt (by rw [← e2]; exact hm) x]
  omega
set_option maxHeartbeats 1000000 in
theorem form_any (n k : Nat) (hk : k ≤ 8) (hn : n < 18446744073709551616) (w : World) :
    Calls Tryz.prog 83 #[.int .u64 (n : Int), .int .i64 (k : Int)] w fun e w' => e = .returned (.slice (some ⟨w.heap.size, 0, none⟩) k k) ∧ Blk w' w.heap.size 5 (pc (le k n)) ∧ Keeps Non w w' := by
  go_enter Tryz.func83, Tryz.ntmps83
  go_upto_region 2 with (at_make; go_must (refine wpList_make_bytes rfl _ _ 55 rfl 5 Tryz.underlying55 info5 .i64 .i64 _ _ k rfl rfl rfl rfl (by omega) ?_); intro w1 hB1 hK1)
  obtain ⟨g, hg⟩ : ∃ g, g = w.heap.size := ⟨_, rfl⟩
  rw [← hg] at hB1 ⊢
  have HG := Lib.hid hg
  clear hg
  go_upto_region 3 with fail
  go_loopw [11] (fun i wr => ∃ j : Nat, j ≤ k ∧ i = .int .i64 (j : Int) ∧ Blk wr g 5 (pc (le j n ++ zeros (k - j))) ∧ Keeps Non w wr) (fun i _ => k - (intOf i).toNat)
  case atStart => exact ⟨0, Nat.zero_le _, rfl, by simpa [le] using hB1, hK1⟩
  case round =>
    obtain ⟨j, hj, rfl, hB, hK⟩ := hrel
    obtain ⟨wx, rfl⟩ : ∃ V : World, V = wr := ⟨_, rfl⟩
    clear hB1 hK1
    by_cases hlt : j < k
    · obtain ⟨v, hc2⟩ : ∃ v, wx.cell? ⟨g, j, none⟩ = some v := ⟨_, hB.byte (by simp [zeros_length, le_length]; omega)⟩
      have hf := hB.frozen j
      have hji : (j : Int) < (k : Int) := by omega
      have hBn : Hid (Blk (wx.setCell ⟨g, j, none⟩ (.int .u8 ((n : Int) / 2 ^ (8 * j) % 256))) g 5 (pc (le (j + 1) n ++ zeros (k - (j + 1))))) := Lib.hid (by
        rw [shr_byte]
        have hB' := hB.set j (bv (UInt8.ofNat (n / 256 ^ j % 256)))
        rw [set_pc] at hB'
        have e := set_zeros (le j n) j k (UInt8.ofNat (n / 256 ^ j % 256)) hlt
        rw [le_length] at e
        rw [e, ← le_snoc] at hB'
        exact hB')
      have hKn : Keeps Non w (wx.setCell ⟨g, j, none⟩ (.int .u8 ((n : Int) / 2 ^ (8 * j) % 256))) := hK.setNew (p := ⟨g, j, none⟩) (by rw [HG.out]; exact Nat.le_refl _) _
      clear hB
      go_wp2_with fail
      go_roundw
      case rel => exact ⟨j + 1, by omega, by go_num, hBn.out, hKn⟩
      case measure => simp [intOf]; omega
    · obtain rfl : j = k := by omega
      go_wp2_with fail
      go_ret
      obtain rfl := HG.out
      exact ⟨rfl, by simpa [zeros] using hB, hK⟩
set_option maxHeartbeats 1000000 in
theorem value_any (A : Option Addr) (c : Nat) (bs : List UInt8) (w : World) (hA : At w A bs) (hn : bs.length ≤ 8) :
    Calls Tryz.prog 82 #[.slice A bs.length c] w fun e w' => e = .returned (.int .u64 (leVal bs : Int)) ∧ w' = w := by
  go_enter Tryz.func82, Tryz.ntmps82
  go_upto_region 3 with fail
  go_loop [3, 8] (fun s i => ∃ k : Nat, k ≤ bs.length ∧ i = .int .i64 (k : Int) ∧ s = .int .u64 (leVal (bs.take k) : Int)) (fun _ i => bs.length - (intOf i).toNat)
  case atStart => exact ⟨0, Nat.zero_le _, rfl, rfl⟩
  case round =>
    obtain ⟨k, hk, rfl, rfl⟩ := hrel
    by_cases hlt : k < bs.length
    · obtain ⟨b, off, rfl, hc⟩ := hA.at_ (k := k) hlt
      have hc' : w.cell? ⟨b, off + k, none⟩ = some (.int .u8 (bs[k]).toNat) := hc
      have hml := leVal_lt (bs.take k)
      rw [List.length_take, Nat.min_eq_left (by omega)] at hml
      have HS : Hid (leVal (bs.take (k + 1)) = leVal (bs.take k) + (bs[k]).toNat * 256 ^ k) := Lib.hid (by rw [← take_snoc bs k hlt, leVal_snoc, List.length_take, Nat.min_eq_left (by omega)])
      have hx8 : (bs[k]).toNat < 256 := (bs[k]).toNat_lt
      generalize (bs[k]).toNat = x at hc' HS hx8
      generalize leVal (bs.take k) = m at hml HS
      have hor := or_byte64 m x k hml hx8 (by omega)
      have hki : (k : Int) < (bs.length : Int) := by omega
      clear hc hA hml
      go_wp2_with fail
      go_round
      case rel => exact ⟨k + 1, by omega, by go_num, by rw [HS.out]; simp⟩
      case measure => simp [intOf]; omega
    · obtain rfl : k = bs.length := by omega
      go_wp2_with fail
      go_ret
      exact ⟨rfl, rfl⟩
set_option maxHeartbeats 1000000 in
theorem copied_any (A : Option Addr) (c : Nat) (bs : List UInt8) (w : World) (hA : At w A bs) (hn : bs.length ≤ 140737488355328) :
    Calls Tryz.prog 86 #[.slice A bs.length c] w fun e w' => e = .returned (.slice (some ⟨w.heap.size, 0, none⟩) bs.length bs.length) ∧ Blk w' w.heap.size 5 (pc bs) ∧ Keeps Non w w' := by
  go_enter Tryz.func86, Tryz.ntmps86
  go_upto_region 2 with (at_make; go_must (refine wpList_make_bytes rfl _ _ 55 rfl 5 Tryz.underlying55 info5 .i64 .i64 _ _ bs.length rfl rfl rfl rfl (by omega) ?_); intro w1 hB1 hK1)
  obtain ⟨g, hg⟩ : ∃ g, g = w.heap.size := ⟨_, rfl⟩
  rw [← hg] at hB1 ⊢
  have HG := Lib.hid hg
  clear hg
  have hA1 := hA.non hK1
  have HZ : Hid ((zeros bs.length).take 0 ++ (bs ++ (zeros bs.length).drop (0 + bs.length)) = bs) := Lib.hid (by rw [zeros_drop]; simp [zeros])
  go_wp2_with ((with_reducible show wpList _ _ _ ({ dst := some 9, op := _, type := _, pos := _, after := _, guard := _ } :: _) _ _); go_must (refine wpList_copy_bytes rfl (.tmp 7) (.tmp 8) 55 55 rfl 5 Tryz.underlying55 infoS5 (some ⟨g, 0, none⟩) A bs.length bs.length bs.length c rfl rfl g 0 (zeros bs.length) 5 hB1 bs (by simp) (fun _ => rfl) hA1 (by rw [zeros_length]; omega) ?_); intro w3 hB3 hK3)
  go_ret
  obtain rfl := HG.out
  rw [HZ.out] at hB3
  exact ⟨rfl, hB3, hK1.then hK3 fun i hi e => by unfold Only at e; omega⟩
end Go.Proofs.YtipbjiepfnjojaaGreatDoor
