/- A literal of one array. -/
import Derived.Test.YtiieglfpmmhfiaaD28
namespace Go.Uc
open Go.RowKit
theorem foldl_set (l : List Value) : ∀ (k : Nat) (cs : Array Value), ((l.zipIdx k).foldl (fun cs (p : Value × Nat) => cs.setIfInBounds p.2 p.1) cs).size = cs.size ∧ ∀ i, i < cs.size → ((l.zipIdx k).foldl (fun cs (p : Value × Nat) => cs.setIfInBounds p.2 p.1) cs)[i]? = if k ≤ i ∧ i < k + l.length then l[i - k]? else cs[i]? := by
  induction l with
  | nil =>
    intro k cs
    refine ⟨rfl, fun i hi => ?_⟩
    rw [if_neg (by rintro ⟨a, b⟩; simp at b; omega)]
    rfl
  | cons x l ih =>
    intro k cs
    rw [List.zipIdx_cons, List.foldl_cons]
    obtain ⟨h1, h2⟩ := ih (k + 1) (cs.setIfInBounds k x)
    refine ⟨by rw [h1]; simp, fun i hi => ?_⟩
    rw [h2 i (by simpa using hi)]
    by_cases hik : i = k
    · subst hik
      rw [if_neg (by omega), if_pos (by simp), Nat.sub_self]
      simp [hi]
    · by_cases h3 : k + 1 ≤ i ∧ i < k + 1 + l.length
      · rw [if_pos h3, if_pos (by simp; omega)]
        obtain ⟨j, rfl⟩ : ∃ j, i = k + 1 + j := ⟨i - (k + 1), by omega⟩
        rw [show k + 1 + j - (k + 1) = j by omega, show k + 1 + j - k = j + 1 by omega]
        rfl
      · rw [if_neg h3, if_neg (by simp; omega)]
        rw [Array.getElem?_setIfInBounds_ne (fun e => hik e.symm)]
theorem zipIdx_fold (vs cs : Array Value) (h : vs.size = cs.size) : vs.zipIdx.foldl (fun cs (c, j) => cs.setIfInBounds (0 + j) c) cs = vs := by
  have e : vs.zipIdx.foldl (fun cs (c, j) => cs.setIfInBounds (0 + j) c) cs = (vs.toList.zipIdx 0).foldl (fun cs (p : Value × Nat) => cs.setIfInBounds p.2 p.1) cs := by
    rw [← Array.foldl_toList, Array.toList_zipIdx]
    congr 1
    funext cs p
    obtain ⟨c, j⟩ := p
    show cs.setIfInBounds (0 + j) c = cs.setIfInBounds j c
    rw [Nat.zero_add]
  rw [e]
  obtain ⟨h1, h2⟩ := foldl_set vs.toList 0 cs
  apply Array.ext_getElem?
  intro i
  by_cases hi : i < cs.size
  · rw [h2 i hi, if_pos (by simp; omega)]
    simp
  · rw [Array.getElem?_eq_none (by rw [h1]; omega), Array.getElem?_eq_none (by omega)]
end Go.Uc
namespace Go.Proofs.Ytiieglfpmmhfiaa
set_option maxRecDepth 100000
open Go.RowKit Go.Uc
theorem size96 (w : World) : (sizeOf 96).run Try.prog w = .ok 256 w := by kernel_rfl
theorem bs94 (p : List UInt8) (hp : p.length = 256) (w : World) : (Instr.buildSlice 94 1 #[(0, .agg (pc p))]).run Try.prog w = .ok (.slice (some ⟨w.heap.size, 0, none⟩) 1 1) (w.alloc (.cells (pc p) 96)) := by
  have hz := zero96 w
  have hs := size96 w
  have hu := run_underlying (P := Try.prog) Try.underlying94 w
  have hf : Instr.fill (fun i => some (i * 256, 256)) ((Array.range (1 * 256)).map ((pc (zeros 256))[· % (pc (zeros 256)).size]!)) [(0, .agg (pc p))] = some (pc p) := by
    unfold Instr.fill
    show (if (pc p).size ≠ 256 || 0 * 256 + (pc p).size > _ then none else _) = _
    have h1 : (pc p).size = 256 := by rw [pc_size, hp]
    rw [if_neg (by simp [h1])]
    show Instr.fill _ ((pc p).zipIdx.foldl (fun cs (c, j) => cs.setIfInBounds (0 * 256 + j) c) _) [] = _
    unfold Instr.fill
    rw [Nat.zero_mul, zipIdx_fold _ _ (by simp [h1])]
  unfold Instr.buildSlice
  simp only [Sem.run_bind, hu, Result.andThen_ok, hs]
  simp [Sem.run_bind, hz, newRow]
  rw [Nat.one_mul] at hf
  have e : (Value.agg (pc (zeros 256))).cells = pc (zeros 256) := rfl
  rw [e, hf]
  simp
/-- '[]page{p}', as an operation. -/
theorem wpList_one_page {ops : Array Oper} {rest : List Oper} {o : Oper} {a : Act} {w : World} {Q : Exit → Act → World → Prop} (hgd : o.guard = none) (x : Operand) (ho : o.op = .buildSlice 94 1 #[(0, x)])
    (p : List UInt8) (hp : p.length = 256) (hx : a.eval x = .agg (pc p)) (h : wpList Try.prog ops Q rest (a.put o.dst (.slice (some ⟨w.heap.size, 0, none⟩) 1 1)) (w.alloc (.cells (pc p) 96))) : wpList Try.prog ops Q (o :: rest) a w :=
  wpList_plain hgd fun _ hK => by
    unfold Oper.wp execOp
    have e : (#[(0, x)] : Array (Nat × Operand)).map (fun (i, x) => (i, a.eval x)) = #[(0, .agg (pc p))] := by simp [hx]
    simp only [ho, e, Sem.run_bind, bs94 p hp w, Result.andThen_ok, Sem.run_pure]
    exact hK _ _ h
end Go.Proofs.Ytiieglfpmmhfiaa
