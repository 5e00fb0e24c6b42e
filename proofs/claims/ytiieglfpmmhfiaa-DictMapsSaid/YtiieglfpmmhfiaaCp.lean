/- copy of elements of k cells. -/
import Derived.Test.YtiieglfpmmhfiaaRw
import Derived.Lib.AppendZerosOnto
import Derived.Lib.Overlaps
namespace Go.Uc
open Go.RowKit
section copyk
variable {P : Program} {ops : Array Oper} {rest : List Oper} {o : Oper} {a : Act} {w : World} {Q : Exit → Act → World → Prop}
theorem run_copy_k (k n : Nat) (dT sT ty elem : TypeId) (hu : P.underlying dT = some (.slice elem)) (hsz : (P.info? elem).map (·.size) = some k)
    (ad : Addr) (dLen dCap sLen sCap : Nat) (g off : Nat) (cur : List Value) (t : TypeId) (hg : Blk w g t cur.toArray) (cs : List Value) (hn : n = Nat.min sLen dLen) (hcl : cs.length = n * k)
    (hsrc : ∀ j v, cs[j]? = some v → w.cell? (ad.add j) = some v)
    (hfit : off + cs.length ≤ cur.length) (h1 : ∀ v ∈ cs, v.oneCell' = true) :
    ∃ w', (Builtin.copy_ #[dT, sT] ty #[.slice (some ⟨g, off, none⟩) dLen dCap, .slice (some ad) sLen sCap]).run P w = .ok (goInt n) w' ∧
      Blk w' g t (cur.take off ++ (cs ++ cur.drop (off + cs.length))).toArray ∧ Keeps (Only g) w w' := by
  have hl := run_loadCells_list (P := P) w ad cs hsrc
  have hst := run_storeCells_at P g off t cs 0 cur.toArray w hg (by simpa using hfit) h1
  rw [hcl] at hl
  cases hq : P.info? elem with
  | none => simp [hq] at hsz
  | some i =>
    have hi : i.size = k := by simpa [hq] using hsz
    refine ⟨_, ?_, ?_, Keeps.row w g (cur.toArray.toList.take (off + 0) ++ cs ++ cur.toArray.toList.drop (off + 0 + cs.length)).toArray⟩
    · simp [Builtin.copy_, run_underlying hu, Builtin.lenOf, Builtin.firstCells, sizeOf, typeInfo, hq, hi, ← hn, hl]
      simpa [Result.andThen] using congrArg (fun r => Result.andThen r fun _ w' => Result.ok (goInt n) w') hst
    · have := Blk.row hg (cur.toArray.toList.take (off + 0) ++ cs ++ cur.toArray.toList.drop (off + 0 + cs.length)).toArray
      simpa using this
theorem wp_copy_k {K : Act → World → Prop} (k n : Nat) (d s : Operand) (dT sT : TypeId)
    (ho : o.op = .call { callee := .builtin .copy, args := #[d, s], argTypes := #[dT, sT] }) (elem : TypeId) (hu : P.underlying dT = some (.slice elem)) (hsz : (P.info? elem).map (·.size) = some k)
    (ad : Addr) (dLen dCap sLen sCap : Nat) (g off : Nat) (hd : a.eval d = .slice (some ⟨g, off, none⟩) dLen dCap) (hs : a.eval s = .slice (some ad) sLen sCap)
    (cur : List Value) (t : TypeId) (hg : Blk w g t cur.toArray) (cs : List Value) (hn : n = Nat.min sLen dLen) (hcl : cs.length = n * k)
    (hsrc : ∀ j v, cs[j]? = some v → w.cell? (ad.add j) = some v)
    (hfit : off + cs.length ≤ cur.length) (h1 : ∀ v ∈ cs, v.oneCell' = true)
    (h : ∀ w', Blk w' g t (cur.take off ++ (cs ++ cur.drop (off + cs.length))).toArray → Keeps (Only g) w w' → K (a.put o.dst (goInt n)) w') : o.wp P a w K Q := by
  obtain ⟨w', hrun, hb, hk⟩ := run_copy_k (P := P) (w := w) k n dT sT o.type elem hu hsz ad dLen dCap sLen sCap g off cur t hg cs hn hcl hsrc hfit h1
  unfold Oper.wp
  simp [execOp, ho, resolve, invoke, builtin, hd, hs, hrun, Result.andThen]
  exact h w' hb hk
theorem wpList_copy_k (k n : Nat) (hgd : o.guard = none) (d s : Operand) (dT sT : TypeId)
    (ho : o.op = .call { callee := .builtin .copy, args := #[d, s], argTypes := #[dT, sT] }) (elem : TypeId) (hu : P.underlying dT = some (.slice elem)) (hsz : (P.info? elem).map (·.size) = some k)
    (ad : Addr) (dLen dCap sLen sCap : Nat) (g off : Nat) (hd : a.eval d = .slice (some ⟨g, off, none⟩) dLen dCap) (hs : a.eval s = .slice (some ad) sLen sCap)
    (cur : List Value) (t : TypeId) (hg : Blk w g t cur.toArray) (cs : List Value) (hn : n = Nat.min sLen dLen) (hcl : cs.length = n * k)
    (hsrc : ∀ j v, cs[j]? = some v → w.cell? (ad.add j) = some v)
    (hfit : off + cs.length ≤ cur.length) (h1 : ∀ v ∈ cs, v.oneCell' = true)
    (h : ∀ w', Blk w' g t (cur.take off ++ (cs ++ cur.drop (off + cs.length))).toArray → Keeps (Only g) w w' → wpList P ops Q rest (a.put o.dst (goInt n)) w') : wpList P ops Q (o :: rest) a w :=
  wpList_plain hgd fun _ hK => wp_copy_k k n d s dT sT ho elem hu hsz ad dLen dCap sLen sCap g off hd hs cur t hg cs hn hcl hsrc hfit h1 fun w' h2 h3 => hK _ _ (h w' h2 h3)
theorem step_copy_k {K : Act → World → Prop} {E : Prop} (k n : Nat) (hgd : o.guard = none) (d s : Operand) (dT sT : TypeId)
    (ho : o.op = .call { callee := .builtin .copy, args := #[d, s], argTypes := #[dT, sT] }) (elem : TypeId) (hu : P.underlying dT = some (.slice elem)) (hsz : (P.info? elem).map (·.size) = some k)
    (ad : Addr) (dLen dCap sLen sCap : Nat) (g off : Nat) (hd : a.eval d = .slice (some ⟨g, off, none⟩) dLen dCap) (hs : a.eval s = .slice (some ad) sLen sCap)
    (cur : List Value) (t : TypeId) (hg : Blk w g t cur.toArray) (cs : List Value) (hn : n = Nat.min sLen dLen) (hcl : cs.length = n * k)
    (hsrc : ∀ j v, cs[j]? = some v → w.cell? (ad.add j) = some v)
    (hfit : off + cs.length ≤ cur.length) (h1 : ∀ v ∈ cs, v.oneCell' = true)
    (h : ∀ w', Blk w' g t (cur.take off ++ (cs ++ cur.drop (off + cs.length))).toArray → Keeps (Only g) w w' → K (a.put o.dst (goInt n)) w') :
    if Region.wanted o (yielded ops a.tmps) = true then Oper.wp P o a w K Q else E := by
  have hw : Region.wanted o (yielded ops a.tmps) = true := by simp [Region.wanted, hgd]
  rw [if_pos hw]
  exact wp_copy_k k n d s dT sT ho elem hu hsz ad dLen dCap sLen sCap g off hd hs cur t hg cs hn hcl hsrc hfit h1 h
end copyk
end Go.Uc
