/- More words for memory. -/
import Derived.Test.YtbkhfemoogcpkaaDoorBase
import Derived.Lib.SlBytesConst
namespace Go.Uc
open Go.RowKit
theorem At.lit (w : World) (e : TypeId) (fr : Nat × Nat) (C : Array Value) (bs : List UInt8) (h : C = pc bs) : At (w.alloc (.cells C e fr)) (Option.some ⟨w.heap.size, 0, none⟩) bs := by
  subst h
  intro i hi
  refine ⟨_, rfl, ?_⟩
  rw [show (⟨w.heap.size, 0, none⟩ : Addr).add i = ⟨w.heap.size, i, none⟩ from by unfold Addr.add; split <;> simp_all]
  rw [cell_of_row (w.alloc (.cells (pc bs) e fr)) w.heap.size i (pc bs) e fr (heap_alloc_new w _), pc_get, List.getElem?_eq_getElem hi]
  rfl
end Go.Uc
