/- Every input of bulk at most 1048576: undercroftlaw02.SumJoins returns true, and its arguments read as they did; the card tied to the laid tables. -/
import Derived.Test.YtgpamjinkiadnaaDoorRows
import Derived.Test.YtgpamjinkiadnaaDoorCards
import Derived.Test.YtgpamjinkiadnaaDoorTie
import Derived.Test.YtgpamjinkiadnaaDoorU14
import Derived.Test.YtgpamjinkiadnaaDoorU21
import Derived.Test.YtgpamjinkiadnaaDoorU22
import Derived.Deep.DeepHandedRow
import Derived.LaidLaws
import Derived.LaidMore
import Derived.Lay
import Derived.LaidOnce
import Derived.SevenTiedAt
namespace Go.Proofs.YtgpamjinkiadnaaDoor
open Go.ChangeShapes Go.WideShapes Go.ChangeAt Go.RowKit Go.Uc
open Go.ChangeMaps (open_string shut_string)

theorem own : ownKnob Tryd.prog.godebug = none := by kernel_rfl
theorem laidOut : laidOutB Tryd.prog = true := by kernel_rfl

set_option maxRecDepth 100000 in
theorem lifted (os : Os) (started : os.Started) (H : Type) (enc : TypeId × Value → H) (F : Stop.Interp) :
    ReturnsInHanded {} Tryd.checked os 5 .any ((Rows.OpenSpec.upto Rows.sumJoinsSpec).preRow enc Tryd.prog Tryd.f5 Rows.sumJoinsUptoRow.domain false Rows.sumJoinsUptoRow.laid) (((Rows.OpenSpec.upto Rows.sumJoinsSpec).at F).post enc Tryd.prog Tryd.f5 false true false false) := by
  have hx : ∃ places, DataW.whole enc Tryd.prog ((World.laidAll Tryd.prog os Rows.sumJoinsUptoRow.laid).forCall (fun _ _ => 0) ⟨#[], #[.slice none 0 0, .slice none 0 0, .int .i64 0, .int .u8 0], []⟩).memory Tryd.f5.params.toList Rows.sumJoinsSpec.vars false #[Value.slice none 0 0, .slice none 0 0, .int .i64 0, .int .u8 0].toList 8 = some ([.nil, .nil, .lit (.int .i64 0), .lit (.int .u8 0)], [], places) := ⟨[], by kernel_rfl⟩
  obtain ⟨places, hx⟩ := hx
  refine returnsInHanded_of_row (C := Tryd.checked) (s := Rows.OpenSpec.upto Rows.sumJoinsSpec) own started (by kernel_rfl) Tryd.func5
    (witness_row_at (enc := enc) (C := Tryd.checked) false (World.laidAll Tryd.prog os Rows.sumJoinsUptoRow.laid) #[.slice none 0 0, .slice none 0 0, .int .i64 0, .int .u8 0] (World.laidAll_os _ _ _) (by kernel_rfl) (by kernel_rfl) (by kernel_rfl)
      (OpenSpec.preRow_of_cond 8 hx (by kernel_rfl) (fun k hk => by cases hk; kernel_rfl) (by kernel_rfl) (laidMet_laidAll _ (by kernel_rfl) (by kernel_rfl)))) ?_
  intro W base args ds gs before hval0 hW _ hcond hsz0 hL _ _
  rw [MakeChecks.laidMetH_plain _ _ _ (by kernel_rfl)] at hL
  have hG : Good W := good_of hL
  have hk0 : Rows.uptoBulkAll (ds ++ gs) ≤ 1048576 := of_decide_eq_true (hcond _ rfl)
  have hval : ∀ (j : Nat) t v, Tryd.f5.params[j]? = some t → args[j]? = some v → Value.okWide Tryd.prog W .any base t v := hval0
  have hsz : (DataW.weightsEach Tryd.prog (Tryd.f5.params.toList ++ (Rows.OpenSpec.upto Rows.sumJoinsSpec).bare.plain.varTypes Tryd.prog) (ds ++ gs)).all (· ≤ reachBytes) = true := hsz0
  have hW' := hW
  obtain ⟨p, q, hA0, hV, rfl, hfz, hnd⟩ := hW
  have hA : DataW.TrodAll enc Tryd.prog W 0 (fun _ => true) true Tryd.f5.params.toList args.toList ds p := hA0
  rw [Tryd.params5] at hA hval hsz
  obtain ⟨v0, vs0, d0, ds0, p0, q0, hargs, rfl, rfl, h0, r0⟩ := trodAll_cons hA
  obtain ⟨v1, vs1, d1, ds1, p1, q1, rfl, rfl, rfl, h1, r1⟩ := trodAll_cons r0
  obtain ⟨v2, vs2, d2, ds2, p2, q2, rfl, rfl, rfl, h2, r2⟩ := trodAll_cons r1
  obtain ⟨v3, vs3, d3, ds3, p3, q3, rfl, rfl, rfl, h3, r3⟩ := trodAll_cons r2
  obtain ⟨rfl, rfl, rfl⟩ := trodAll_nil r3
  obtain rfl : args = #[v0, v1, v2, v3] := by cases args; simp_all
  obtain ⟨rfl, rfl⟩ := trodVars_none hV
  obtain ⟨a0, len0, cap0, rfl⟩ := okWide_slice Tryd.underlying22 (hval 0 22 v0 rfl rfl)
  obtain ⟨a1, len1, cap1, rfl⟩ := okWide_slice Tryd.underlying22 (hval 1 22 v1 rfl rfl)
  obtain ⟨n2, rfl, rfl, rfl, w2⟩ := open_int Tryd.underlying3 (hval 2 3 v2 rfl rfl) h2
  obtain ⟨n3, rfl, rfl, rfl, w3⟩ := open_int Tryd.underlying5 (hval 3 5 v3 rfl rfl) h3
  have hk : Rows.uptoBulk d0 + (Rows.uptoBulk d1 + 2) ≤ 1048576 := by simpa [Rows.uptoBulkAll, Rows.uptoBulk] using hk0
  have b0 := bulk_one d0
  have b1 := bulk_one d1
  have k0 := h0
  have lt0 : ∀ x ∈ p0, x.block < W.heap.size := by obtain ⟨m, hm⟩ := k0; exact DataW.trod_lt m _ _ _ hm
  have k1 := h1
  have lt1 : ∀ x ∈ p1, x.block < W.heap.size := by obtain ⟨m, hm⟩ := k1; exact DataW.trod_lt m _ _ _ hm
  obtain ⟨fuel0, hf0⟩ := h0
  obtain ⟨fuel1, hf1⟩ := h1
  simp only [Value.cells] at hf0 hf1
  obtain ⟨A0, c0, xs, e0, hxs, hlc0, hlm0⟩ := Rdb.bytes (enc := enc) (w := W) (base := 0) (held := true) (b := Rows.uptoBulk d0)
    ⟨fuel0, (d0, p0), hf0, (fun m hm => by have := List.all_eq_true.1 hsz m (DataW.weights_mem_each (j := 0) (t := 22) rfl rfl m hm); simpa using this), Nat.le_refl _⟩ Tryd.underlying22 Tryd.underlying5 (by kernel_rfl) (by kernel_rfl) (by omega)
  obtain ⟨A1, c1, bs, e1, hbs, hlc1, hlm1⟩ := Rdb.bytes (enc := enc) (w := W) (base := 0) (held := true) (b := Rows.uptoBulk d1)
    ⟨fuel1, (d1, p1), hf1, (fun m hm => by have := List.all_eq_true.1 hsz m (DataW.weights_mem_each (j := 1) (t := 22) rfl rfl m hm); simpa using this), Nat.le_refl _⟩ Tryd.underlying22 Tryd.underlying5 (by kernel_rfl) (by kernel_rfl) (by omega)
  simp at e0 e1
  obtain ⟨rfl, rfl, rfl⟩ := e0
  obtain ⟨rfl, rfl, rfl⟩ := e1
  have hm3 : n3 = ((UInt8.ofNat n3.toNat).toNat : Int) := by
    have := bv_of_wf w3
    unfold bv at this
    injection this with _ this
    exact this.symm
  clear hA0 hval0 hsz0 hsz hf0 hf1 hcond hk0
  have HW := sumJoins_any a0 a1 cap0 cap1 xs bs n2 (UInt8.ofNat n3.toNat) W hxs hbs hlc0 hlc1 (by omega) (by omega) hG
  rw [← hm3] at HW
  refine HW.mono fun e W' ⟨he, kp⟩ => ?_
  subst he
  have bel := kp.belowN
  exact ⟨_, rfl, _, _, _, [], _, [], hW', trodAll_mk1 (shut_bool Tryd.underlying4 _), (trodAll_cons_mk (Below.trod laidOut (by kernel_rfl) (of_decide_eq_true (by kernel_rfl)) k0 bel lt0) (trodAll_cons_mk (Below.trod laidOut (by kernel_rfl) (of_decide_eq_true (by kernel_rfl)) k1 bel lt1) (trodAll_cons_mk (shut_int Tryd.underlying3 w2) (trodAll_cons_mk (shut_int Tryd.underlying5 w3) trodAll_mk0)))), rfl, bel.frame _, fun h => by cases h⟩

theorem over : Rows.sumJoinsUptoRow.holds Tryd.pinned (Rows.OpenSpec.upto Rows.sumJoinsSpec) :=
  OpenClaim.holds_of_cond 5 Tryd.f5 rfl rfl rfl rfl rfl rfl rfl ⟨rfl, rfl, rfl, rfl, rfl⟩ rfl rfl rfl rfl rfl (by kernel_rfl) Tryd.func5 (by kernel_rfl)
    (of_decide_eq_true (by kernel_rfl)) (by unfold Func.isWrapper; first | (rw [if_pos (by decide +kernel)]; kernel_rfl) | (rw [if_neg (by decide +kernel)]; exact ⟨rfl, rfl⟩))
    (fun os started H enc _ F => by rw [OpenClaim.pre_eq_preRow]; exact lifted os started H enc F)

theorem sumJoins_holds : Rows.SumJoinsUptoCardSaid :=
  Claim7.holds_tied_plain_at .later [] [.data, .data, .data, .data] true (true, "e8031b4f68ca7b2804bad60d8487128ea9841ea79824f3289fb9db9fa98e2057") false over (fun _ h => by cases h) (by kernel_rfl) (fun _ h => by cases h) sumJoinsUpto_row_tie rfl ⟨rfl, rfl⟩ (by kernel_rfl) rfl
    (fun f fn hf hfn => by
      obtain rfl : f = 5 := Option.some.inj ((show Tryd.prog.funcNamed "undercroft/undercroftlaw02.SumJoins" = some 5 by kernel_rfl).symm.trans hf) |>.symm
      obtain rfl : fn = Tryd.f5 := (Option.some.inj (Tryd.func5.symm.trans hfn)).symm
      exact ⟨by kernel_rfl, fun j t ht => by
        rw [Tryd.params5] at ht
        have hm : t ∈ [22, 22, 3, 5] := by simpa using Array.mem_of_getElem? ht
        have hall : ([22, 22, 3, 5].all fun u => !Tryd.prog.wantsStandIn u) = true := by kernel_rfl
        exact (show Tryd.prog.wantsStandIn t = false by simpa using List.all_eq_true.1 hall t hm)⟩)
    (by kernel_rfl)
#print axioms sumJoins_holds
end Go.Proofs.YtgpamjinkiadnaaDoor
