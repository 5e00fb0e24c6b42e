/- Every input: undercroftlaw15.DictAnyOrder returns true, and its arguments read as they did; no condition. -/
import Derived.Test.YtiieglfpmmhfiaaRows
import Derived.Test.YtiieglfpmmhfiaaD19
import Derived.Test.YtiieglfpmmhfiaaBasef
namespace Go.Proofs.Ytiieglfpmmhfiaa
open Go.ChangeShapes Go.WideShapes Go.ChangeAt Go.RowKit Go.Uc
open Go.ChangeMaps (open_string shut_string)

theorem ownKn : ownKnob Try.prog.godebug = none := by kernel_rfl
theorem laidOut : laidOutB Try.prog = true := by kernel_rfl
theorem rd_text {H : Type} {enc : TypeId × Value → H} {P : Program} {w : World} {base : Nat} {held : Bool} {t : TypeId} {cs : List Value} (h : Rd enc P w base held t cs) (ht : P.underlying t = some .string) : ∃ s : ByteArray, cs = [.string s] ∧ s.data.toList.length ≤ 140737488355328 := by
  obtain ⟨fuel, x, h, hw⟩ := h
  obtain ⟨s, e, ex, -⟩ := DataW.trod_string ht h
  refine ⟨s, e, ?_⟩
  rw [ex] at hw
  have := hw s.data.toList.length (by simp [DataW.weights])
  simp [reachBytes] at this
  simp
  omega
theorem rd_names {H : Type} {enc : TypeId × Value → H} {P : Program} {w : World} {base : Nat} {held : Bool} {t q : TypeId} {cs : List Value} (h : Rd enc P w base held t cs) (ht : P.underlying t = some (.slice q)) (hq : P.underlying q = some .string) (cq : P.cellsOf q = 1) (bq : P.bytesOf q = 16) :
    ∃ A c xs, cs = [.slice A xs.length c] ∧ Names w A xs ∧ xs.length ≤ c ∧ xs.length ≤ 70368744177664 := by
  obtain ⟨A, n, c, rfl, hl, hb, he⟩ := h.slice ht cq (by omega)
  have key : ∀ i, i < n → ∃ (b off : Nat) (s : ByteArray), A = some ⟨b, off, none⟩ ∧ w.cell? ⟨b, off + i, none⟩ = some (.string s) ∧ s.data.toList.length ≤ 140737488355328 := fun i hi => by
    obtain ⟨b, off, cs', rfl, hcl, hc, hr⟩ := he i hi
    obtain ⟨s, rfl, hs⟩ := rd_text hr hq
    refine ⟨b, off, s, rfl, ?_, hs⟩
    have := hc 0 (by omega)
    simpa using this
  have ch : ∀ i, ∃ s : ByteArray, i < n → ∃ (b off : Nat), A = some ⟨b, off, none⟩ ∧ w.cell? ⟨b, off + i, none⟩ = some (.string s) ∧ s.data.toList.length ≤ 140737488355328 := fun i => by
    by_cases h : i < n
    · obtain ⟨b, off, s, h1, h2, h3⟩ := key i h
      exact ⟨s, fun _ => ⟨b, off, h1, h2, h3⟩⟩
    · exact ⟨ByteArray.empty, fun h' => absurd h' h⟩
  refine ⟨A, c, (List.range n).map fun i => (ch i).choose.data.toList, by simp, fun i hi => ?_, by simpa using hl, by rw [bq] at hb; simp; omega⟩
  simp at hi
  obtain ⟨b, off, h1, h2, h3⟩ := (ch i).choose_spec hi
  refine ⟨b, off, h1, World.block_lt_of_cell? w _ h2, ?_, by simpa using h3⟩
  simp only [List.getElem_map, List.getElem_range, str_data]
  exact h2

set_option maxRecDepth 100000 in
theorem lifted (os : Os) (started : os.Started) (H : Type) (enc : TypeId × Value → H) :
    ReturnsInHanded {} Try.checked os 3 .any (Rows.dictAnyOrderSpec.pre6 enc Try.prog Try.f3 Rows.dictAnyOrderRow.domain false) (Rows.dictAnyOrderSpec.post enc Try.prog Try.f3 false true false false) := by
  refine returnsInHanded_of_change_sized (C := Try.checked) ownKn started (by kernel_rfl) Try.func3
    (ChangeSpec.witness6 (enc := enc) (C := Try.checked) false ⟨#[], #[.slice none 0 0, .slice none 0 0], []⟩ 8 (by kernel_rfl) (by kernel_rfl) (by kernel_rfl) (by kernel_rfl)) ?_
  intro W base args ds gs before hval0 hW hcnd hsz0 _
  have hval : ∀ (j : Nat) t v, Try.f3.params[j]? = some t → args[j]? = some v → Value.okWide Try.prog W .any base t v := hval0
  have hsz : (DataW.weightsEach Try.prog (Try.f3.params.toList ++ Rows.dictAnyOrderSpec.plain.varTypes Try.prog) (ds ++ gs)).all (· ≤ reachBytes) = true := hsz0
  have hW' := hW
  obtain ⟨p, q, hA0, hV, rfl, hfz, hnd⟩ := hW
  have hA : DataW.TrodAll enc Try.prog W 0 (fun _ => true) true Try.f3.params.toList args.toList ds p := hA0
  rw [Try.params3] at hA hval hsz
  obtain ⟨v0, vs0, d0, ds0, p0, q0, hargs, rfl, rfl, h0, r0⟩ := trodAll_cons hA
  obtain ⟨v1, vs1, d1, ds1, p1, q1, rfl, rfl, rfl, h1, r1⟩ := trodAll_cons r0
  obtain ⟨rfl, rfl, rfl⟩ := trodAll_nil r1
  obtain rfl : args = #[v0, v1] := by cases args; simp_all
  obtain ⟨rfl, rfl⟩ := trodVars_none hV
  obtain ⟨a0, len0, cap0, rfl⟩ := okWide_slice Try.underlying22 (hval 0 22 v0 rfl rfl)
  obtain ⟨a1, len1, cap1, rfl⟩ := okWide_slice Try.underlying23 (hval 1 23 v1 rfl rfl)
  have k0 := h0
  have k1 := h1
  have lt0 : ∀ x ∈ p0, x.block < W.heap.size := by obtain ⟨m, hm⟩ := k0; exact DataW.trod_lt m _ _ _ hm
  have lt1 : ∀ x ∈ p1, x.block < W.heap.size := by obtain ⟨m, hm⟩ := k1; exact DataW.trod_lt m _ _ _ hm
  obtain ⟨fuel0, hf0⟩ := h0
  obtain ⟨fuel1, hf1⟩ := h1
  simp only [Value.cells] at hf0 hf1
  have rd0 : Rd enc Try.prog W 0 true 22 [.slice a0 len0 cap0] := ⟨fuel0, _, hf0, fun m hm => by have := List.all_eq_true.1 hsz m (DataW.weights_mem_each (j := 0) (t := 22) rfl rfl m hm); simpa using this⟩
  obtain ⟨A', c', names, e0, hN, hlc0, hlm0⟩ := rd_names rd0 Try.underlying22 Try.underlying9 (by kernel_rfl) (by kernel_rfl)
  injection e0 with e0
  injection e0 with e1 e2 e3
  subst e1 e2 e3
  obtain ⟨zs, hlen1, hO, hlc1, hlm1⟩ := nums_open Try.underlying23 Try.underlying3 (by kernel_rfl) (by kernel_rfl) hf1
    (fun m hm => by have := List.all_eq_true.1 hsz m (DataW.weights_mem_each (j := 1) (t := 23) rfl rfl m hm); simpa using this)
  subst hlen1
  clear hA0 hval0 hsz0 hsz hf0 hf1
  refine (anyOrder_any a0 a1 cap0 cap1 names zs W hN hO hlm0 (by omega) hlc0 hlc1).mono fun e W' ⟨he, kp⟩ => ?_
  subst he
  have bel := kp.belowN
  exact ⟨_, rfl, _, _, _, [], _, [], hW', trodAll_mk1 (shut_bool Try.underlying4 _), (trodAll_cons_mk (Below.trod laidOut (by kernel_rfl) (of_decide_eq_true (by kernel_rfl)) k0 bel lt0) (trodAll_cons_mk (Below.trod laidOut (by kernel_rfl) (of_decide_eq_true (by kernel_rfl)) k1 bel lt1) trodAll_mk0)), rfl, bel.frame _, fun h => by cases h⟩

theorem over : Rows.dictAnyOrderRow.holds Try.pinned (OpenSpec.ofChange Rows.dictAnyOrderSpec) :=
  OpenClaim.holds_of_wide 3 Try.f3 rfl rfl rfl rfl rfl rfl rfl ⟨rfl, rfl, rfl, rfl, rfl⟩ rfl rfl rfl rfl rfl (by kernel_rfl) Try.func3 (by kernel_rfl)
    (of_decide_eq_true (by kernel_rfl)) (by unfold Func.isWrapper; first | (rw [if_pos (by decide +kernel)]; kernel_rfl) | (rw [if_neg (by decide +kernel)]; exact ⟨rfl, rfl⟩))
    (fun os started H enc _ => lifted os started H enc)

theorem dictAnyOrder_holds : Rows.DictAnyOrderSaid := over
#print axioms dictAnyOrder_holds
end Go.Proofs.Ytiieglfpmmhfiaa
