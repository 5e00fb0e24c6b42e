/- Every input: undercroftlaw26.ReplicaDoes returns true, and its arguments read as they did; no condition. -/
import Derived.Test.YteigjlkgbpgkjaaRows
import Derived.Test.YteigjlkgbpgkjaaR25
namespace Go.Proofs.Yteigjlkgbpgkjaa
open Go.ChangeShapes Go.WideShapes Go.ChangeAt Go.RowKit Go.Uc

theorem own : ownKnob Try.prog.godebug = none := by kernel_rfl
theorem laidOut : laidOutB Try.prog = true := by kernel_rfl

set_option maxRecDepth 100000 in
theorem lifted (os : Os) (started : os.Started) (H : Type) (enc : TypeId × Value → H) :
    ReturnsInHanded {} Try.checked os 3 .any (Rows.replicaDoesSpec.pre6 enc Try.prog Try.f3 Rows.replicaDoesRow.domain false) (Rows.replicaDoesSpec.post enc Try.prog Try.f3 false true false false) := by
  refine returnsInHanded_of_change_sized (C := Try.checked) own started (by kernel_rfl) Try.func3
    (ChangeSpec.witness6 (enc := enc) (C := Try.checked) false ⟨#[], #[.agg #[.string { data := #[] }, .string { data := #[] }, .string { data := #[] }, .bool false, .string { data := #[] }, .int .i64 0, .int .i64 0, .bool false], .slice none 0 0], []⟩ 8 (by kernel_rfl) (by kernel_rfl) (by kernel_rfl) (by kernel_rfl)) ?_
  intro W base args ds gs before hval0 hW hcnd hsz0 _
  have hval : ∀ (j : Nat) t v, Try.f3.params[j]? = some t → args[j]? = some v → Value.okWide Try.prog W .any base t v := hval0
  have hsz : (DataW.weightsEach Try.prog (Try.f3.params.toList ++ Rows.replicaDoesSpec.plain.varTypes Try.prog) (ds ++ gs)).all (· ≤ reachBytes) = true := hsz0
  have hW' := hW
  obtain ⟨p, q, hA0, hV, rfl, hfz, hnd⟩ := hW
  have hA : DataW.TrodAll enc Try.prog W 0 (fun _ => true) true Try.f3.params.toList args.toList ds p := hA0
  rw [Try.params3] at hA hval hsz
  obtain ⟨v0, vs0, d0, ds0, p0, q0, hargs, rfl, rfl, h0, r0⟩ := trodAll_cons hA
  obtain ⟨v1, vs1, d1, ds1, p1, q1, rfl, rfl, rfl, h1, r1⟩ := trodAll_cons r0
  obtain ⟨rfl, rfl, rfl⟩ := trodAll_nil r1
  obtain rfl : args = #[v0, v1] := by cases args; simp_all
  obtain ⟨rfl, rfl⟩ := trodVars_none hV
  obtain ⟨cs, rfl, hcs⟩ := okWide_struct Try.underlying23 (hval 0 23 v0 rfl rfl)
  obtain ⟨a1, len1, cap1, rfl⟩ := okWide_slice Try.underlying24 (hval 1 24 v1 rfl rfl)
  have k0 := h0
  have lt0 : ∀ x ∈ p0, x.block < W.heap.size := by obtain ⟨m, hm⟩ := k0; exact DataW.trod_lt m _ _ _ hm
  have k1 := h1
  have lt1 : ∀ x ∈ p1, x.block < W.heap.size := by obtain ⟨m, hm⟩ := k1; exact DataW.trod_lt m _ _ _ hm
  obtain ⟨fuel0, hf0⟩ := h0
  obtain ⟨fuel1, hf1⟩ := h1
  simp only [Value.cells] at hf0 hf1
  obtain ⟨j, hj⟩ := job_open (enc := enc) (w := W) (base := 0) (held := true)
    ⟨fuel0, (d0, p0), hf0, fun m hm => by have := List.all_eq_true.1 hsz m (DataW.weights_mem_each (j := 0) (t := 23) rfl rfl m hm); simpa using this⟩
  obtain rfl : cs = #[.string j.name, .string j.snap, .string j.base, .bool j.deep, .string j.to_, .int .i64 j.ses, .int .i64 j.first, .bool j.anew] := by
    cases cs; simpa using hj
  obtain ⟨os', hol, hO, hlm⟩ := opns_open (enc := enc) (w := W) (base := 0) (held := true) (A := a1) (n := len1) (c := cap1)
    ⟨fuel1, (d1, p1), hf1, fun m hm => by have := List.all_eq_true.1 hsz m (DataW.weights_mem_each (j := 1) (t := 24) rfl rfl m hm); simpa using this⟩
  subst hol
  clear hA0 hval0 hsz0 hsz hf0 hf1
  refine (replicaDoes_any j a1 cap1 os' W hO (by omega)).mono fun e W' ⟨he, kp⟩ => ?_
  subst he
  have bel := kp.belowN
  exact ⟨_, rfl, _, _, _, [], _, [], hW', trodAll_mk1 (shut_bool Try.underlying4 _), (trodAll_cons_mk (Below.trod laidOut (by kernel_rfl) (of_decide_eq_true (by kernel_rfl)) k0 bel lt0) (trodAll_cons_mk (Below.trod laidOut (by kernel_rfl) (of_decide_eq_true (by kernel_rfl)) k1 bel lt1) trodAll_mk0)), rfl, bel.frame _, fun h => by cases h⟩

theorem over : Rows.replicaDoesRow.holds Try.pinned (OpenSpec.ofChange Rows.replicaDoesSpec) :=
  OpenClaim.holds_of_wide 3 Try.f3 rfl rfl rfl rfl rfl rfl rfl ⟨rfl, rfl, rfl, rfl, rfl⟩ rfl rfl rfl rfl rfl (by kernel_rfl) Try.func3 (by kernel_rfl)
    (of_decide_eq_true (by kernel_rfl)) (by unfold Func.isWrapper; first | (rw [if_pos (by decide +kernel)]; kernel_rfl) | (rw [if_neg (by decide +kernel)]; exact ⟨rfl, rfl⟩))
    (fun os started H enc _ => lifted os started H enc)

theorem replicaDoes_holds : Rows.ReplicaDoesSaid := over
#print axioms replicaDoes_holds
end Go.Proofs.Yteigjlkgbpgkjaa
