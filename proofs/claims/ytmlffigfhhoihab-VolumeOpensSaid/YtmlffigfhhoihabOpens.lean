/- Every input: undercroftlaw19.VolumeOpens returns true, and its arguments read as they did; no condition. -/
import Derived.Test.YtmlffigfhhoihabRows
import Derived.Test.YtmlffigfhhoihabV25
import Derived.Test.YtmlffigfhhoihabBasee
namespace Go.Proofs.Ytmlffigfhhoihab
open Go.ChangeShapes Go.WideShapes Go.ChangeAt Go.RowKit Go.Uc
open Go.ChangeMaps (open_string shut_string)

theorem own : ownKnob Try.prog.godebug = none := by kernel_rfl
theorem laidOut : laidOutB Try.prog = true := by kernel_rfl

set_option maxRecDepth 100000 in
theorem lifted (os : Os) (started : os.Started) (H : Type) (enc : TypeId × Value → H) :
    ReturnsInHanded {} Try.checked os 6 .any (Rows.volumeOpensSpec.pre6 enc Try.prog Try.f6 Rows.volumeOpensRow.domain false) (Rows.volumeOpensSpec.post enc Try.prog Try.f6 false true false false) := by
  refine returnsInHanded_of_change_sized (C := Try.checked) own started (by kernel_rfl) Try.func6
    (ChangeSpec.witness6 (enc := enc) (C := Try.checked) false ⟨#[], #[.slice none 0 0, .slice none 0 0], []⟩ 8 (by kernel_rfl) (by kernel_rfl) (by kernel_rfl) (by kernel_rfl)) ?_
  intro W base args ds gs before hval0 hW hcnd hsz0 _
  have hval : ∀ (j : Nat) t v, Try.f6.params[j]? = some t → args[j]? = some v → Value.okWide Try.prog W .any base t v := hval0
  have hsz : (DataW.weightsEach Try.prog (Try.f6.params.toList ++ Rows.volumeOpensSpec.plain.varTypes Try.prog) (ds ++ gs)).all (· ≤ reachBytes) = true := hsz0
  have hW' := hW
  obtain ⟨p, q, hA0, hV, rfl, hfz, hnd⟩ := hW
  have hA : DataW.TrodAll enc Try.prog W 0 (fun _ => true) true Try.f6.params.toList args.toList ds p := hA0
  rw [Try.params6] at hA hval hsz
  obtain ⟨v0, vs0, d0, ds0, p0, q0, hargs, rfl, rfl, h0, r0⟩ := trodAll_cons hA
  obtain ⟨v1, vs1, d1, ds1, p1, q1, rfl, rfl, rfl, h1, r1⟩ := trodAll_cons r0
  obtain ⟨rfl, rfl, rfl⟩ := trodAll_nil r1
  obtain rfl : args = #[v0, v1] := by cases args; simp_all
  obtain ⟨rfl, rfl⟩ := trodVars_none hV
  obtain ⟨a0, len0, cap0, rfl⟩ := okWide_slice Try.underlying35 (hval 0 35 v0 rfl rfl)
  obtain ⟨a1, len1, cap1, rfl⟩ := okWide_slice Try.underlying22 (hval 1 22 v1 rfl rfl)
  have k0 := h0
  have lt0 : ∀ x ∈ p0, x.block < W.heap.size := by obtain ⟨m, hm⟩ := k0; exact DataW.trod_lt m _ _ _ hm
  have k1 := h1
  have lt1 : ∀ x ∈ p1, x.block < W.heap.size := by obtain ⟨m, hm⟩ := k1; exact DataW.trod_lt m _ _ _ hm
  obtain ⟨fuel0, hf0⟩ := h0
  simp only [Value.cells] at hf0
  obtain ⟨fuel, hf⟩ := h1
  simp only [Value.cells] at hf
  have hw0 : ∀ m ∈ d0.weights Try.prog 35, m ≤ reachBytes := fun m hm => by have := List.all_eq_true.1 hsz m (DataW.weights_mem_each (j := 0) (t := 35) rfl rfl m hm); simpa using this
  obtain ⟨K0, At0, M0, B0, hlc0, hlm0, hq0⟩ := quads_open Try.underlying35 Try.underlying60 (by kernel_rfl) (by kernel_rfl) (of_decide_eq_true (by kernel_rfl)) Try.underlying3 Try.underlying3 Try.underlying3 Try.underlying23 Try.underlying5 (by kernel_rfl) (by kernel_rfl) hf0 hw0
  have hwt := slice_weight Try.underlying35 hf0 hw0
  rw [show Try.prog.bytesOf 60 = 48 from by kernel_rfl] at hwt
  obtain ⟨K, At', M, B, hlc, hlm, hq⟩ := quads_open Try.underlying22 Try.underlying25 (by kernel_rfl) (by kernel_rfl) (of_decide_eq_true (by kernel_rfl)) Try.underlying3 Try.underlying3 Try.underlying3 Try.underlying23 Try.underlying5 (by kernel_rfl) (by kernel_rfl) hf
    (fun m hm => by have := List.all_eq_true.1 hsz m (DataW.weights_mem_each (j := 1) (t := 22) rfl rfl m hm); simpa using this)
  obtain ⟨cs', hcs⟩ : ∃ cs' : List Cel, cs' = (List.range len0).map fun i => ⟨K0 i, At0 i, M0 i, B0 i⟩ := ⟨_, rfl⟩
  have hcl : cs'.length = len0 := by rw [hcs]; simp
  have hC : Cels W a0 cs' := fun i hi => by
    subst hcs
    simp at hi
    obtain ⟨b, off, Ai, ci, h1, h2, h3, h4, h5, h6, h7, h8, h9, -⟩ := hq0 i hi
    exact ⟨b, off, Ai, ci, h1, by simpa using h2, by simpa using h3, by simpa using h4, by simpa using h5, by simpa using h6, by simpa using h7⟩
  have hC64 : ∀ i (h : i < cs'.length), cs'[i].data.length ≤ 140737488351232 := fun i hi => by
    subst hcs
    simp at hi
    obtain ⟨b, off, Ai, ci, h1, h2, h3, h4, h5, h6, h7, h8, h9, -⟩ := hq0 i hi
    simpa using h8
  obtain ⟨os', hos⟩ : ∃ os' : List Opr, os' = (List.range len1).map fun i => ⟨K i, At' i, M i, B i⟩ := ⟨_, rfl⟩
  have hol : os'.length = len1 := by rw [hos]; simp
  have hO : OprsLow W W.heap.size a1 os' := fun i hi => by
    subst hos
    simp at hi
    obtain ⟨b, off, Ai, ci, h1, h2, h3, h4, h5, h6, h7, h8, h9, -⟩ := hq i hi
    refine ⟨b, off, Ai, ci, h1, World.block_lt_of_cell? W _ h2, fun ad e hp => ?_, by simpa using h2, by simpa using h3, by simpa using h4, by simpa using h5, by simpa using h6, by simpa using h7, by simpa using h8, by simpa [I64] using h9⟩
    simp at hp
    obtain ⟨ad', e', hl⟩ := h6.lt (by simpa using hp)
    rw [e] at e'
    injection e' with e'
    rw [e']; exact hl
  clear hos hq hcs hq0 hw0
  subst hol hcl
  clear hA0 hval0 hsz0 hsz hf hf0
  refine (volumeOpens_any a0 cap0 cs' a1 cap1 os' W hC hlc0 (by omega) hC64 hO hlm).mono fun e W' ⟨he, kp⟩ => ?_
  subst he
  have bel := kp.belowN
  exact ⟨_, rfl, _, _, _, [], _, [], hW', trodAll_mk1 (shut_bool Try.underlying4 _), (trodAll_cons_mk (Below.trod laidOut (by kernel_rfl) (of_decide_eq_true (by kernel_rfl)) k0 bel lt0) (trodAll_cons_mk (Below.trod laidOut (by kernel_rfl) (of_decide_eq_true (by kernel_rfl)) k1 bel lt1) trodAll_mk0)), rfl, bel.frame _, fun h => by cases h⟩

theorem over : Rows.volumeOpensRow.holds Try.pinned (OpenSpec.ofChange Rows.volumeOpensSpec) :=
  OpenClaim.holds_of_wide 6 Try.f6 rfl rfl rfl rfl rfl rfl rfl ⟨rfl, rfl, rfl, rfl, rfl⟩ rfl rfl rfl rfl rfl (by kernel_rfl) Try.func6 (by kernel_rfl)
    (of_decide_eq_true (by kernel_rfl)) (by unfold Func.isWrapper; first | (rw [if_pos (by decide +kernel)]; kernel_rfl) | (rw [if_neg (by decide +kernel)]; exact ⟨rfl, rfl⟩))
    (fun os started H enc _ => lifted os started H enc)

theorem volumeOpens_holds : Rows.VolumeOpensSaid := over
#print axioms volumeOpens_holds
end Go.Proofs.Ytmlffigfhhoihab
