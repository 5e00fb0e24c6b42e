/- A leaf split, plainly. -/
import Derived.Test.YtiieglfpmmhfiaaM2
namespace Go.Proofs.Ytiieglfpmmhfiaa
open Go.Uc

/-- Does a hash have this bit? -/
def bitB (own : Nat) (h : Nat) : Bool := h / 2 ^ own % 2 == 1
def goes (own : Nat) (e : Ent) : Bool := bitB own (hash e.name)
def stayL (own : Nat) (l : List Ent) : List Ent := l.filter fun e => !goes own e
def overL (own : Nat) (l : List Ent) : List Ent := l.filter fun e => goes own e
/-- The table's first so many places turned. -/
def turnT (own k m : Nat) (t : List Nat) (n : Nat) : List Nat := (t.zipIdx).map fun p => if p.2 < n ∧ p.1 = k ∧ bitB own p.2 = true then m else p.1
/-- Twice as many places, if it must be. -/
def widen (d : Dic) (own : Nat) : Dic := if own = d.depth then { d with depth := d.depth + 1, table := d.table ++ d.table } else d
def leafAt (d : Dic) (k : Nat) : Leaf := d.leaves.getD k ⟨0, []⟩
def splitD (d : Dic) (k : Nat) : Dic :=
  let own := (leafAt d k).depth
  let d1 := widen d own
  { d1 with table := turnT own k d.leaves.length d1.table d1.table.length, leaves := d.leaves.set k ⟨own + 1, stayL own (leafAt d k).l⟩ ++ [⟨own + 1, overL own (leafAt d k).l⟩] }
theorem turnT_len (own k m : Nat) (t : List Nat) (n : Nat) : (turnT own k m t n).length = t.length := by simp [turnT]
theorem turnT_zero (own k m : Nat) (t : List Nat) : turnT own k m t 0 = t := by
  unfold turnT
  apply List.ext_getElem
  · simp
  · intro i h1 h2; simp
theorem turnT_get (own k m : Nat) (t : List Nat) (n i : Nat) (hi : i < t.length) : (turnT own k m t n)[i]'(by rw [turnT_len]; exact hi) = if i < n ∧ t[i] = k ∧ bitB own i = true then m else t[i] := by
  simp [turnT]
theorem turnT_same (own k m : Nat) (t : List Nat) (n : Nat) (hn : n < t.length) (h : ¬ (t[n] = k ∧ bitB own n = true)) : turnT own k m t (n + 1) = turnT own k m t n := by
  apply List.ext_getElem
  · simp [turnT_len]
  · intro i h1 h2
    rw [turnT_len] at h1
    rw [turnT_get _ _ _ _ _ _ h1, turnT_get _ _ _ _ _ _ h1]
    by_cases hin : i = n
    · subst hin
      rw [if_neg (fun hh => h hh.2), if_neg (fun hh => h hh.2)]
    · by_cases hlt : i < n
      · simp [hlt, Nat.lt_succ_of_lt hlt]
      · have h3 : ¬ i < n + 1 := by omega
        simp [hlt, h3]
theorem turnT_set (own k m : Nat) (t : List Nat) (n : Nat) (hn : n < t.length) (h : t[n] = k ∧ bitB own n = true) : turnT own k m t (n + 1) = (turnT own k m t n).set n m := by
  apply List.ext_getElem
  · simp [turnT_len]
  · intro i h1 h2
    rw [turnT_len] at h1
    rw [turnT_get _ _ _ _ _ _ h1, List.getElem_set]
    by_cases hin : n = i
    · subst hin
      rw [if_pos ⟨Nat.lt_succ_self _, h⟩, if_pos rfl]
    · rw [if_neg hin, turnT_get _ _ _ _ _ _ h1]
      by_cases hlt : i < n
      · simp [hlt, Nat.lt_succ_of_lt hlt]
      · have h3 : ¬ i < n + 1 := by omega
        simp [hlt, h3]
theorem leafAt_get {d : Dic} {k : Nat} (h : k < d.leaves.length) : leafAt d k = d.leaves[k] := by unfold leafAt; rw [List.getD_eq_getElem?_getD, List.getElem?_eq_getElem h]; rfl
theorem filter_snoc (p : Ent → Bool) (l : List Ent) (k : Nat) (hk : k < l.length) : (l.take (k + 1)).filter p = (l.take k).filter p ++ if p l[k] then [l[k]] else [] := by
  rw [List.take_succ_eq_append_getElem hk, List.filter_append]
  congr 1
  by_cases h : p l[k] <;> simp [h]
/-- The bit, as the code asks for it. -/
theorem bit_code (x : BitVec 32) (own : Nat) : bits .and .u32 (v32 (x >>> own)) 1 = ((x.toNat / 2 ^ own % 2 : Nat) : Int) := by
  rw [show (1 : Int) = v32 1#32 from rfl, and32]
  unfold v32
  rw [BitVec.toNat_and, BitVec.toNat_ushiftRight, Nat.shiftRight_eq_div_pow]
  exact congrArg _ (Nat.and_two_pow_sub_one_eq_mod _ 1)
end Go.Proofs.Ytiieglfpmmhfiaa
