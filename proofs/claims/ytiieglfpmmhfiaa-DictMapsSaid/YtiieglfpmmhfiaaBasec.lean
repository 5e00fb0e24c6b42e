/- How arguments that came in are read: slices of bytes, slices of slices of bytes, with the form's own reach. -/
import Derived.Test.YtiieglfpmmhfiaaBase
import Derived.ProofKit
import Derived.OpenShut
import Derived.ShutString
import Derived.ChangeOld
import Derived.SizedLaws
import Derived.Deep.Matrix
namespace Go.Uc
open Go.RowKit Go.ChangeShapes Go.WideShapes

/-- A slice of slices of bytes that came in. -/
def Recs (w : World) (A : Option Addr) (rs : List (List UInt8)) : Prop := ∀ i (h : i < rs.length), ∃ b off Ai ci, A = some ⟨b, off, none⟩ ∧ w.cell? ⟨b, off + i, none⟩ = some (.slice Ai rs[i].length ci) ∧
  At w Ai rs[i] ∧ rs[i].length ≤ ci ∧ rs[i].length ≤ 140737488351232

def toBytes (zs : List Int) : List UInt8 := zs.map fun n => UInt8.ofNat n.toNat
theorem toBytes_length (zs : List Int) : (toBytes zs).length = zs.length := by simp [toBytes]
theorem bv_of_wf {n : Int} (h : (Lit.int .u8 n).wf = true) : bv (UInt8.ofNat n.toNat) = .int .u8 n := by
  have h' : 0 ≤ n ∧ n ≤ 255 := by
    simpa [Lit.wf, IntKind.min, IntKind.max, IntKind.bits, IntKind.signed] using h
  rw [bv_ofNat _ (by omega)]
  congr 1
  omega
theorem at_of_ints {w : World} {A : Option Addr} {L C : Nat} {zs : List Int} (hL : L ≤ C) (hz : zs.length = C) (hw : ∀ n ∈ zs, (Lit.int .u8 n).wf = true) (h0 : A = none → C = 0)
    (hc : ∀ a', A = some a' → ∀ c, c < C → w.cell? (a'.add c) = some (.int .u8 (zs.getD c 0))) : At w A (toBytes (zs.take L)) := by
  intro i hi
  simp [toBytes_length] at hi
  cases A with
  | none => have := h0 rfl; omega
  | some ad =>
    refine ⟨ad, rfl, ?_⟩
    rw [hc ad rfl i (by omega)]
    simp only [toBytes, List.getElem_map, List.getElem_take]
    rw [bv_of_wf (hw _ (List.getElem_mem _))]
    simp [List.getD, show i < zs.length by omega]

section
variable {H : Type} {enc : TypeId × Value → H} {P : Program} {w : World} {base : Nat} {held : Bool}
theorem mem_weightsAll {e : TypeId} : ∀ {ds : List (DataW H)} {d : DataW H}, d ∈ ds → ∀ n ∈ d.weights P e, n ∈ DataW.weightsAll P e ds
  | x :: ds, d, hd, n, hn => by
    rw [DataW.weightsAll]
    rcases List.mem_cons.1 hd with rfl | hd
    · exact List.mem_append_left _ hn
    · exact List.mem_append_right _ (mem_weightsAll hd n hn)

/-- A slice of slices of bytes among the arguments. -/
theorem recs_open {t e q : TypeId} {fuel n c : Nat} {A : Option Addr} {x : DataW H × List MemPlace} (ht : P.underlying t = some (.slice e)) (he : P.underlying e = some (.slice q)) (hq : P.underlying q = some (.int .u8))
    (ce : P.cellsOf e = 1) (cq : P.cellsOf q = 1) (be : P.bytesOf e = 24) (bq : P.bytesOf q = 1) (h : DataW.trod enc P w base (fun _ => true) held fuel t [.slice A n c] = some x)
    (hw : ∀ m ∈ x.1.weights P t, m ≤ reachBytes) : ∃ rs : List (List UInt8), rs.length = n ∧ Recs w A rs ∧ n ≤ c ∧ n ≤ 5864062014640 := by
  rcases Go.Deep.open_int_rows ht he hq ce cq h with ⟨hcs, _⟩ | ⟨a, len, cap, Ar, L, C, Z, hcs, _, hl, hm, hx, hr⟩
  · simp at hcs
    obtain ⟨rfl, rfl, rfl⟩ := hcs
    exact ⟨[], rfl, fun i h => absurd h (by simp), Nat.le_refl _, by omega⟩
  · simp at hcs
    obtain ⟨rfl, rfl, rfl⟩ := hcs
    have hx1 : x.1 = (.slice ((List.range n).map fun r => Go.Deep.intRow .u8 (Ar r) (L r) (Z r)) ((List.range (c - n)).map fun j => Go.Deep.intRow .u8 (Ar (n + j)) (L (n + j)) (Z (n + j)))) := by rw [hx]
    rw [hx1] at hw
    simp only [DataW.weights, ht] at hw
    have hcap : c * 24 ≤ reachBytes := by
      have := hw _ (List.mem_cons_self ..)
      simp only [List.length_map, List.length_range, be] at this
      rwa [show n + (c - n) = c by omega] at this
    refine ⟨(List.range n).map fun r => toBytes ((Z r).take (L r)), by simp, fun i hi => ?_, hl, by simp [reachBytes] at hcap; omega⟩
    simp at hi
    obtain ⟨h1, h2, h3, h4, h5, h6, h7⟩ := hr i (by omega)
    have hat : At w (Ar i) (toBytes ((Z i).take (L i))) := at_of_ints h2 h4 h5 h6 fun a' ha' => (h7 a' ha').2
    have hlen : (toBytes ((Z i).take (L i))).length = L i := by rw [toBytes_length, List.length_take, h4]; omega
    obtain ⟨b, off, sp⟩ := a
    have hsp : sp = none := by
      obtain ⟨q1, _⟩ := hr 0 (by omega)
      have := World.cell?_spot q1
      simpa [Addr.add] using this
    subst hsp
    refine ⟨b, off, Ar i, C i, rfl, ?_, by simpa using hat, by simp [hlen, h2], ?_⟩
    · have e1 : (⟨b, off, none⟩ : Addr).add i = ⟨b, off + i, none⟩ := by unfold Addr.add; split <;> simp_all
      rw [← e1, h1]
      simp [hlen]
    · simp only [List.getElem_map, List.getElem_range, hlen]
      cases hA : Ar i with
      | none => have := h6 hA; omega
      | some ad =>
        have hmem : Go.Deep.intRow (H := H) .u8 (Ar i) (L i) (Z i) ∈ (List.range n).map fun r => Go.Deep.intRow (H := H) .u8 (Ar r) (L r) (Z r) := List.mem_map.2 ⟨i, List.mem_range.2 hi, rfl⟩
        have := hw _ (List.mem_cons_of_mem _ (List.mem_append_left _ (mem_weightsAll (P := P) (e := e) hmem ((Z i).length) (by
          rw [hA]
          simp only [Go.Deep.intRow, DataW.weights, he, bq]
          refine List.mem_cons.2 (.inl ?_)
          simp [lits]
          omega))))
        simp only [reachBytes] at this
        omega
end
end Go.Uc
