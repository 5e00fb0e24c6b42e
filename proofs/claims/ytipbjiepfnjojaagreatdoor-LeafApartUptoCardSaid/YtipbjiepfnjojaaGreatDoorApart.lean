/- Every input of bulk at most 1048576: undercroftlaw05.LeafApart returns true, and its arguments read as they did; the card tied to the laid table. -/
import Derived.Test.YtipbjiepfnjojaaGreatDoorRows
import Derived.Test.YtipbjiepfnjojaaGreatDoorCards
import Derived.Test.YtipbjiepfnjojaaGreatDoorTie
import Derived.Test.YtipbjiepfnjojaaGreatDoorG26
namespace Go.Proofs.YtipbjiepfnjojaaGreatDoor
open Go.ChangeShapes Go.WideShapes Go.ChangeAt Go.RowKit Go.Uc
open Go.ChangeMaps (open_string shut_string)

theorem own : ownKnob Tryz.prog.godebug = none := by kernel_rfl
theorem laidOut : laidOutB Tryz.prog = true := by kernel_rfl

set_option maxRecDepth 100000 in
theorem lifted (os : Os) (started : os.Started) (H : Type) (enc : TypeId × Value → H) (F : Stop.Interp) :
    ReturnsInHanded {} Tryz.checked os 4 .any ((Rows.OpenSpec.upto Rows.leafApartSpec).preRow enc Tryz.prog Tryz.f4 Rows.leafApartUptoRow.domain false Rows.leafApartUptoRow.laid) (((Rows.OpenSpec.upto Rows.leafApartSpec).at F).post enc Tryz.prog Tryz.f4 false true false false) := by
  have hx : ∃ places, DataW.whole enc Tryz.prog ((World.laidAll Tryz.prog os Rows.leafApartUptoRow.laid).forCall (fun _ _ => 0) ⟨#[], #[.slice none 0 0, .int .i64 0, .int .i64 0, .slice none 0 0, .slice none 0 0], []⟩).memory Tryz.f4.params.toList Rows.leafApartSpec.vars false #[Value.slice none 0 0, .int .i64 0, .int .i64 0, .slice none 0 0, .slice none 0 0].toList 8 = some ([.nil, .lit (.int .i64 0), .lit (.int .i64 0), .nil, .nil], [], places) := ⟨[], by kernel_rfl⟩
  obtain ⟨places, hx⟩ := hx
  refine returnsInHanded_of_row (C := Tryz.checked) (s := Rows.OpenSpec.upto Rows.leafApartSpec) own started (by kernel_rfl) Tryz.func4
    (witness_row_at (enc := enc) (C := Tryz.checked) false (World.laidAll Tryz.prog os Rows.leafApartUptoRow.laid) #[.slice none 0 0, .int .i64 0, .int .i64 0, .slice none 0 0, .slice none 0 0] (World.laidAll_os _ _ _) (by kernel_rfl) (by kernel_rfl) (by kernel_rfl)
      (OpenSpec.preRow_of_cond 8 hx (by kernel_rfl) (fun k hk => by cases hk; kernel_rfl) (by kernel_rfl) (laidMet_laidAll _ (by kernel_rfl) (by kernel_rfl)))) ?_
  intro W base args ds gs before hval0 hW _ hcond hsz0 hL _ _
  have hk0 : Rows.uptoBulkAll (ds ++ gs) ≤ 1048576 := of_decide_eq_true (hcond _ rfl)
  have hval : ∀ (j : Nat) t v, Tryz.f4.params[j]? = some t → args[j]? = some v → Value.okWide Tryz.prog W .any base t v := hval0
  have hsz : (DataW.weightsEach Tryz.prog (Tryz.f4.params.toList ++ (Rows.OpenSpec.upto Rows.leafApartSpec).bare.plain.varTypes Tryz.prog) (ds ++ gs)).all (· ≤ reachBytes) = true := hsz0
  have hW' := hW
  obtain ⟨p, q, hA0, hV, rfl, hfz, hnd⟩ := hW
  have hA : DataW.TrodAll enc Tryz.prog W 0 (fun _ => true) true Tryz.f4.params.toList args.toList ds p := hA0
  rw [Tryz.params4] at hA hval hsz
  obtain ⟨v0, vs0, d0, ds0, p0, q0, hargs, rfl, rfl, h0, r0⟩ := trodAll_cons hA
  obtain ⟨v1, vs1, d1, ds1, p1, q1, rfl, rfl, rfl, h1, r1⟩ := trodAll_cons r0
  obtain ⟨v2, vs2, d2, ds2, p2, q2, rfl, rfl, rfl, h2, r2⟩ := trodAll_cons r1
  obtain ⟨v3, vs3, d3, ds3, p3, q3, rfl, rfl, rfl, h3, r3⟩ := trodAll_cons r2
  obtain ⟨v4, vs4, d4, ds4, p4, q4, rfl, rfl, rfl, h4, r4⟩ := trodAll_cons r3
  obtain ⟨rfl, rfl, rfl⟩ := trodAll_nil r4
  obtain rfl : args = #[v0, v1, v2, v3, v4] := by cases args; simp_all
  obtain ⟨rfl, rfl⟩ := trodVars_none hV
  obtain ⟨a0, len0, cap0, rfl⟩ := okWide_slice Tryz.underlying54 (hval 0 54 v0 rfl rfl)
  obtain ⟨n1, rfl, rfl, rfl, w1⟩ := open_int Tryz.underlying3 (hval 1 3 v1 rfl rfl) h1
  obtain ⟨n2, rfl, rfl, rfl, w2⟩ := open_int Tryz.underlying3 (hval 2 3 v2 rfl rfl) h2
  obtain ⟨a3, len3, cap3, rfl⟩ := okWide_slice Tryz.underlying55 (hval 3 55 v3 rfl rfl)
  obtain ⟨a4, len4, cap4, rfl⟩ := okWide_slice Tryz.underlying22 (hval 4 22 v4 rfl rfl)
  have hb3 := okWide_block Tryz.underlying55 (hval 3 55 _ rfl rfl)
  have hb4 := okWide_block Tryz.underlying22 (hval 4 22 _ rfl rfl)
  have hk : Rows.uptoBulk d0 ≤ 1048576 := by simp only [List.append_nil, Rows.uptoBulkAll] at hk0; omega
  have k0 := h0
  have lt0 : ∀ x ∈ p0, x.block < W.heap.size := by obtain ⟨m, hm⟩ := k0; exact DataW.trod_lt m _ _ _ hm
  have k3 := h3
  have lt3 : ∀ x ∈ p3, x.block < W.heap.size := by obtain ⟨m, hm⟩ := k3; exact DataW.trod_lt m _ _ _ hm
  have k4 := h4
  have lt4 : ∀ x ∈ p4, x.block < W.heap.size := by obtain ⟨m, hm⟩ := k4; exact DataW.trod_lt m _ _ _ hm
  obtain ⟨fuel0, hf0⟩ := h0
  obtain ⟨fuel3, hf3⟩ := h3
  obtain ⟨fuel4, hf4⟩ := h4
  simp only [Value.cells] at hf0 hf3 hf4
  obtain ⟨ts, hlen0, hts, htl⟩ := u64s_open Tryz.underlying54 Tryz.underlying27 (by kernel_rfl) hf0 hk
  obtain ⟨bs, hlen3, hbs, hlc3, hlm3⟩ := bytes_open Tryz.underlying55 Tryz.underlying5 (by kernel_rfl) (by kernel_rfl) hf3
    (fun m hm => by have := List.all_eq_true.1 hsz m (DataW.weights_mem_each (j := 3) (t := 55) rfl rfl m hm); simpa using this)
  obtain ⟨st, hlen4, hst, hlc4, hlm4⟩ := bools_open Tryz.underlying22 Tryz.underlying4 (by kernel_rfl) (by kernel_rfl) hf4
    (fun m hm => by have := List.all_eq_true.1 hsz m (DataW.weights_mem_each (j := 4) (t := 22) rfl rfl m hm); simpa using this)
  subst hlen0 hlen3 hlen4
  have b1 := bounds_i64 w1
  have b2 := bounds_i64 w2
  clear hA0 hval0 hsz0 hsz hf0 hf3 hf4 hcond hk0
  refine (leafApart_any W ts a0 cap0 n1 n2 bs a3 cap3 st a4 cap4 hts (by omega) b1.1 b1.2 b2.1 b2.2 hbs hb3 hlc3 (by omega) hst hb4 (by omega)).mono fun e W' ⟨he, kp⟩ => ?_
  subst he
  have bel := kp.belowN
  exact ⟨_, rfl, _, _, _, [], _, [], hW', trodAll_mk1 (shut_bool Tryz.underlying4 _), (trodAll_cons_mk (Below.trod laidOut (by kernel_rfl) (of_decide_eq_true (by kernel_rfl)) k0 bel lt0) (trodAll_cons_mk (shut_int Tryz.underlying3 w1) (trodAll_cons_mk (shut_int Tryz.underlying3 w2) (trodAll_cons_mk (Below.trod laidOut (by kernel_rfl) (of_decide_eq_true (by kernel_rfl)) k3 bel lt3) (trodAll_cons_mk (Below.trod laidOut (by kernel_rfl) (of_decide_eq_true (by kernel_rfl)) k4 bel lt4) trodAll_mk0))))), rfl, bel.frame _, fun h => by cases h⟩

theorem over : Rows.leafApartUptoRow.holds Tryz.pinned (Rows.OpenSpec.upto Rows.leafApartSpec) :=
  OpenClaim.holds_of_cond 4 Tryz.f4 rfl rfl rfl rfl rfl rfl rfl ⟨rfl, rfl, rfl, rfl, rfl⟩ rfl rfl rfl rfl rfl (by kernel_rfl) Tryz.func4 (by kernel_rfl)
    (of_decide_eq_true (by kernel_rfl)) (by unfold Func.isWrapper; first | (rw [if_pos (by decide +kernel)]; kernel_rfl) | (rw [if_neg (by decide +kernel)]; exact ⟨rfl, rfl⟩))
    (fun os started H enc _ F => by rw [OpenClaim.pre_eq_preRow]; exact lifted os started H enc F)

theorem leafApart_holds : Rows.LeafApartUptoCardSaid :=
  Claim7.holds_tied_plain_at .later [] [.data] true (true, "4e48970fdb0116ffce228994ed7a2c4056826fb3b1466a5972074d0b2a43d8f8") false over (fun _ h => by cases h) (by kernel_rfl) (fun _ h => by cases h) leafApartUpto_row_tie rfl ⟨rfl, rfl⟩ (by kernel_rfl) rfl
    (fun f fn hf hfn => by
      obtain rfl : f = 4 := Option.some.inj ((show Tryz.prog.funcNamed "undercroft/undercroftlaw05.LeafApart" = some 4 by kernel_rfl).symm.trans hf) |>.symm
      obtain rfl : fn = Tryz.f4 := (Option.some.inj (Tryz.func4.symm.trans hfn)).symm
      exact ⟨by kernel_rfl, fun j t ht => by
        rw [Tryz.params4] at ht
        have hm : t ∈ [54, 3, 3, 55, 22] := by simpa using Array.mem_of_getElem? ht
        have hall : ([54, 3, 3, 55, 22].all fun u => !Tryz.prog.wantsStandIn u) = true := by kernel_rfl
        exact (show Tryz.prog.wantsStandIn t = false by simpa using List.all_eq_true.1 hall t hm)⟩)
    (by kernel_rfl)
#print axioms leafApart_holds
end Go.Proofs.YtipbjiepfnjojaaGreatDoor
