/- Every input of bulk at most 1048576: undercroftlaw15.DictDoes returns true, and its arguments read as they did. -/
import Derived.Test.YtiieglfpmmhfiaaRows
import Derived.Test.YtiieglfpmmhfiaaG17
import Derived.Deep.CondSized
namespace Go.Proofs.Ytiieglfpmmhfiaa
open Go.ChangeShapes Go.WideShapes Go.ChangeAt Go.RowKit Go.Uc

theorem ownKd : ownKnob Try.prog.godebug = none := by kernel_rfl
theorem laidOutD : laidOutB Try.prog = true := by kernel_rfl

set_option maxRecDepth 100000 in
theorem liftedD (os : Os) (started : os.Started) (H : Type) (enc : TypeId × Value → H) (F : Stop.Interp) :
    ReturnsInHanded {} Try.checked os 4 .any ((Rows.OpenSpec.upto Rows.dictDoesSpec).pre6 enc Try.prog Try.f4 Rows.dictDoesUptoRow.domain false) (((Rows.OpenSpec.upto Rows.dictDoesSpec).at F).post enc Try.prog Try.f4 false true false false) := by
  refine returnsInHanded_of_cond_sized (C := Try.checked) (s := Rows.OpenSpec.upto Rows.dictDoesSpec) (k := Rows.uptoSmall) rfl ownKd started (by kernel_rfl) Try.func4
    (OpenSpec.witness (enc := enc) (C := Try.checked) (s := Rows.OpenSpec.upto Rows.dictDoesSpec) (k := Rows.uptoSmall) rfl false ⟨#[], #[.slice none 0 0], []⟩ 8 (by kernel_rfl) (by kernel_rfl) (by kernel_rfl)
      (x := ([.nil], [], [])) (by kernel_rfl) rfl (by kernel_rfl)) ?_
  intro W base args ds gs before hval0 hW _ hcnd hsz0 _
  have hk0 : Rows.uptoBulkAll (ds ++ gs) ≤ 1048576 := of_decide_eq_true hcnd
  have hval : ∀ (j : Nat) t v, Try.f4.params[j]? = some t → args[j]? = some v → Value.okWide Try.prog W .any base t v := hval0
  have hsz : (DataW.weightsEach Try.prog (Try.f4.params.toList ++ (Rows.OpenSpec.upto Rows.dictDoesSpec).bare.plain.varTypes Try.prog) (ds ++ gs)).all (· ≤ reachBytes) = true := hsz0
  have hW' := hW
  obtain ⟨p, q, hA0, hV, rfl, hfz, hnd⟩ := hW
  have hA : DataW.TrodAll enc Try.prog W 0 (fun _ => true) true Try.f4.params.toList args.toList ds p := hA0
  rw [Try.params4] at hA hval hsz
  obtain ⟨v0, vs0, d0, ds0, p0, q0, hargs, rfl, rfl, h0, r0⟩ := trodAll_cons hA
  obtain ⟨rfl, rfl, rfl⟩ := trodAll_nil r0
  obtain rfl : args = #[v0] := by cases args; simp_all
  obtain ⟨rfl, rfl⟩ := trodVars_none hV
  obtain ⟨a0, len0, cap0, rfl⟩ := okWide_slice Try.underlying35 (hval 0 35 v0 rfl rfl)
  have hk : Rows.uptoBulk d0 ≤ 1048576 := by simpa [Rows.uptoBulkAll, Rows.uptoBulk] using hk0
  have k0 := h0
  have lt0 : ∀ x ∈ p0, x.block < W.heap.size := by obtain ⟨m, hm⟩ := k0; exact DataW.trod_lt m _ _ _ hm
  obtain ⟨fuel0, hf0⟩ := h0
  simp only [Value.cells] at hf0
  obtain ⟨A0, c0, ops, e0, hS, hQ, hl0⟩ := scriptb_open (enc := enc) (w := W) (base := 0) (held := true) (b := Rows.uptoBulk d0)
    ⟨fuel0, (d0, p0), hf0, (fun m hm => by have := List.all_eq_true.1 hsz m (DataW.weights_mem_each (j := 0) (t := 35) rfl rfl m hm); simpa using this), Nat.le_refl _⟩ hk
  simp at e0
  obtain ⟨rfl, rfl, rfl⟩ := e0
  clear hA0 hval0 hsz0 hsz hf0 hcnd hk0
  refine (dictDoes_any a0 cap0 ops W hS hQ (by omega)).mono fun e W' ⟨he, kp⟩ => ?_
  subst he
  have bel := kp.belowN
  exact ⟨_, rfl, _, _, _, [], _, [], hW', trodAll_mk1 (shut_bool Try.underlying4 _), (trodAll_cons_mk (Below.trod laidOutD (by kernel_rfl) (of_decide_eq_true (by kernel_rfl)) k0 bel lt0) trodAll_mk0), rfl, bel.frame _, fun h => by cases h⟩

theorem overD : Rows.dictDoesUptoRow.holds Try.pinned (Rows.OpenSpec.upto Rows.dictDoesSpec) :=
  OpenClaim.holds_of_cond 4 Try.f4 rfl rfl rfl rfl rfl rfl rfl ⟨rfl, rfl, rfl, rfl, rfl⟩ rfl rfl rfl rfl rfl (by kernel_rfl) Try.func4 (by kernel_rfl)
    (of_decide_eq_true (by kernel_rfl)) (by unfold Func.isWrapper; first | (rw [if_pos (by decide +kernel)]; kernel_rfl) | (rw [if_neg (by decide +kernel)]; exact ⟨rfl, rfl⟩))
    (fun os started H enc _ F => liftedD os started H enc F)

theorem dictDoes_holds : Rows.DictDoesUptoSaid := overD
#print axioms dictDoes_holds
end Go.Proofs.Ytiieglfpmmhfiaa
