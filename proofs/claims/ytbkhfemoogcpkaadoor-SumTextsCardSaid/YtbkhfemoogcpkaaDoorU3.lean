/- The words of a block (the document's words). -/
import Derived.Test.YtbkhfemoogcpkaaDoorU2
import Derived.Laws.MakeOwn
namespace Go.Proofs.YtbkhfemoogcpkaaDoor
open Go.RowKit Go.Uc

section make
variable {P : Program} {ops : Array Oper} {rest : List Oper} {o : Oper} {a : Act} {w : World} {Q : Exit → Act → World → Prop}
/-- 'make([]uint32, n)'. -/
theorem wpList_make_words (hg : o.guard = none) (l c : Operand) (t : TypeId) (hop : o.op = Op.makeSlice t l c)
    (e : TypeId) (h1 : P.underlying t = Option.some (.slice e)) (hi : (P.info? e).map (fun i => (i.zero, i.size, i.bytes)) = Option.some (Option.some (.int .u32 0), 1, 4))
    (kl kc : IntKind) (L C : Int) (n : Nat) (hl : a.eval l = .int kl L) (hc : a.eval c = .int kc C) (hL : L = (n : Int)) (hC : C = (n : Int)) (b2 : n ≤ 70368744177664)
    (hK : ∀ w', Blk w' w.heap.size e (cw (zw n)) → Keeps Non w w' → wpList P ops Q rest (a.put o.dst (.slice (Option.some ⟨w.heap.size, 0, none⟩) n n)) w') :
    wpList P ops Q (o :: rest) a w := by
  obtain ⟨i, hi0, hz0, hz1, hz2⟩ := info_parts hi
  refine wpList_plain hg fun K hK' => ?_
  subst hL
  subst hC
  have hrun := run_make (P := P) w t e i (.int .u32 0) h1 hi0 hz0 kl kc n n (by omega) (by omega) (by rw [hz2]; omega) (by omega)
  have e1 : madeCells (Value.int .u32 0).cells ((n : Int).toNat * i.size) = cw (zw n) := by
    rw [hz1]
    apply Array.ext
    · simp [size_madeCells, cw_size, zw]
    · intro j h1 h2
      simp [madeCells, Value.cells, cw, zw, wv, v32, Nat.mod_one]
  rw [e1] at hrun
  unfold Oper.wp
  simp [execOp, hop, hl, hc, hrun, Result.andThen]
  exact hK' _ _ (hK _ (Blk.new _ _ _) ((Keeps.refl _ _).alloc _))
end make

/-- Bytes from a place on. -/
def Lies (w : World) (p o : Nat) (bs : List UInt8) : Prop := ∀ i, i < bs.length → w.cell? ⟨p, o + i, none⟩ = some (.int .u8 ((bs.getD i 0).toNat : Int))
theorem Lies.keep {S : Nat → Prop} {w w' : World} {p o : Nat} {bs : List UInt8} (h : Lies w p o bs) (hk : Keeps S w w') (hp : ¬ S p) : Lies w' p o bs := fun i hi => hk.cell (h i hi) hp

end Go.Proofs.YtbkhfemoogcpkaaDoor
