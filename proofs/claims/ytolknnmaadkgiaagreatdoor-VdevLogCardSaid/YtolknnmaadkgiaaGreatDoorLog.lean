/- Every input: undercroftlaw08.VdevLog returns true, and its arguments read as they did; the card tied to the laid table. -/
import Derived.Test.YtolknnmaadkgiaaGreatDoorRows
import Derived.Test.YtolknnmaadkgiaaGreatDoorCards
import Derived.Test.YtolknnmaadkgiaaGreatDoorTie
import Derived.Test.YtolknnmaadkgiaaGreatDoorRb
namespace Go.Proofs.YtolknnmaadkgiaaGreatDoor
open Go.ChangeShapes Go.WideShapes Go.ChangeAt Go.RowKit Go.Uc
open Go.ChangeMaps (open_string shut_string)
theorem own : ownKnob Tryz.prog.godebug = none := by kernel_rfl
theorem laidOut : laidOutB Tryz.prog = true := by kernel_rfl
set_option maxRecDepth 100000 in
theorem lifted (os : Os) (started : os.Started) (H : Type) (enc : TypeId × Value → H) :
   ReturnsInHanded {} Tryz.checked os 3 .any (fun w args => (Rows.vdevLogSpec.pre enc Tryz.prog Tryz.f3 Rows.vdevLogRow.domain false w args ∧ laidMetH Tryz.prog Rows.vdevLogRow.laid w) ∧ sizedMet enc Tryz.prog Tryz.f3 (OpenSpec.ofChange Rows.vdevLogSpec) false w args)
     (Rows.vdevLogSpec.post enc Tryz.prog Tryz.f3 false true false false) := by
 refine returnsInHanded_of_change_and (C := Tryz.checked) (X := fun w _ => laidMetH Tryz.prog Rows.vdevLogRow.laid w) (fun _ _ _ hh h => h.of_heap hh) own started (by kernel_rfl) Tryz.func3
   (ChangeSpec.witness_shaped (enc := enc) (C := Tryz.checked) (os := os) (X := fun w _ => laidMetH Tryz.prog Rows.vdevLogRow.laid w) false (World.laidAll Tryz.prog os Rows.vdevLogRow.laid) #[.int .i64 0, .int .i64 0, .slice none 0 0, .slice none 0 0, .slice none 0 0, .int .i64 0] 8 (World.laidAll_os _ _ _) (World.shaped_of_ZipB (by kernel_rfl) (by kernel_rfl)) (by kernel_rfl) (by kernel_rfl) (by kernel_rfl)
     (by rw [MakeChecks.laidMetH_plain _ _ _ (by kernel_rfl)]; exact laidMet_laidAll _ (by kernel_rfl) (by kernel_rfl))) ?_
 intro W base args ds gs before hval0 hW hcnd hsz0 hL _
 have hval : ∀ (j : Nat) t v, Tryz.f3.params[j]? = some t → args[j]? = some v → Value.okWide Tryz.prog W .any base t v := hval0
 have hsz : (DataW.weightsEach Tryz.prog (Tryz.f3.params.toList ++ Rows.vdevLogSpec.plain.varTypes Tryz.prog) (ds ++ gs)).all (· ≤ reachBytes) = true := hsz0
 have hW' := hW
 obtain ⟨p, q, hA0, hV, rfl, hfz, hnd⟩ := hW
 have hA : DataW.TrodAll enc Tryz.prog W 0 (fun _ => true) true Tryz.f3.params.toList args.toList ds p := hA0
 rw [Tryz.params3] at hA hval hsz
 obtain ⟨v0, vs0, d0, ds0, p0, q0, hargs, rfl, rfl, h0, r0⟩ := trodAll_cons hA
 obtain ⟨v1, vs1, d1, ds1, p1, q1, rfl, rfl, rfl, h1, r1⟩ := trodAll_cons r0
 obtain ⟨v2, vs2, d2, ds2, p2, q2, rfl, rfl, rfl, h2, r2⟩ := trodAll_cons r1
 obtain ⟨v3, vs3, d3, ds3, p3, q3, rfl, rfl, rfl, h3, r3⟩ := trodAll_cons r2
 obtain ⟨v4, vs4, d4, ds4, p4, q4, rfl, rfl, rfl, h4, r4⟩ := trodAll_cons r3
 obtain ⟨v5, vs5, d5, ds5, p5, q5, rfl, rfl, rfl, h5, r5⟩ := trodAll_cons r4
 obtain ⟨rfl, rfl, rfl⟩ := trodAll_nil r5
 obtain rfl : args = #[v0, v1, v2, v3, v4, v5] := by cases args; simp_all
 obtain ⟨rfl, rfl⟩ := trodVars_none hV
 obtain ⟨a0, rfl, rfl, rfl, w0⟩ := open_int Tryz.underlying3 (hval 0 3 v0 rfl rfl) h0
 obtain ⟨a1, rfl, rfl, rfl, w1⟩ := open_int Tryz.underlying3 (hval 1 3 v1 rfl rfl) h1
 obtain ⟨a5, rfl, rfl, rfl, w5⟩ := open_int Tryz.underlying3 (hval 5 3 v5 rfl rfl) h5
 obtain ⟨a2, len2, cap2, rfl⟩ := okWide_slice Tryz.underlying22 (hval 2 22 v2 rfl rfl)
 obtain ⟨a3, len3, cap3, rfl⟩ := okWide_slice Tryz.underlying22 (hval 3 22 v3 rfl rfl)
 obtain ⟨a4, len4, cap4, rfl⟩ := okWide_slice Tryz.underlying23 (hval 4 23 v4 rfl rfl)
 have hb4 := okWide_block Tryz.underlying23 (hval 4 23 _ rfl rfl)
 have k2 := h2
 have k3 := h3
 have k4 := h4
 have lt2 : ∀ x ∈ p2, x.block < W.heap.size := by obtain ⟨m, hm⟩ := k2; exact DataW.trod_lt m _ _ _ hm
 have lt3 : ∀ x ∈ p3, x.block < W.heap.size := by obtain ⟨m, hm⟩ := k3; exact DataW.trod_lt m _ _ _ hm
 have lt4 : ∀ x ∈ p4, x.block < W.heap.size := by obtain ⟨m, hm⟩ := k4; exact DataW.trod_lt m _ _ _ hm
 obtain ⟨fuel2, hf2⟩ := h2
 obtain ⟨fuel3, hf3⟩ := h3
 obtain ⟨fuel4, hf4⟩ := h4
 simp only [Value.cells] at hf2 hf3 hf4
 obtain ⟨bs2, hlen2, hbs2, hlc2, hlm2⟩ := bytes_open Tryz.underlying22 Tryz.underlying5 (by kernel_rfl) (by kernel_rfl) hf2
   (fun m hm => by have := List.all_eq_true.1 hsz m (DataW.weights_mem_each (j := 2) (t := 22) rfl rfl m hm); simpa using this)
 obtain ⟨bs3, hlen3, hbs3, hlc3, hlm3⟩ := bytes_open Tryz.underlying22 Tryz.underlying5 (by kernel_rfl) (by kernel_rfl) hf3
   (fun m hm => by have := List.all_eq_true.1 hsz m (DataW.weights_mem_each (j := 3) (t := 22) rfl rfl m hm); simpa using this)
 obtain ⟨bs4, hlen4, hbs4, hlc4, hlm4⟩ := bools_open Tryz.underlying23 Tryz.underlying4 (by kernel_rfl) (by kernel_rfl) hf4
   (fun m hm => by have := List.all_eq_true.1 hsz m (DataW.weights_mem_each (j := 4) (t := 23) rfl rfl m hm); simpa using this)
 subst hlen2
 subst hlen3
 subst hlen4
 have b0 := bounds_i64 w0
 have b1 := bounds_i64 w1
 have b5 := bounds_i64 w5
 clear hA0 hval0 hsz0 hsz hf2 hf3 hf4
 refine (vdevLog3_any a0 a1 a5 b0.1 b0.2 b1.1 b1.2 b5.1 b5.2 bs2 bs3 bs4 a2 a3 a4 cap2 cap3 cap4 W hbs2 hlc2 hbs3 hlc3 hbs4 hb4 (by omega) (by omega) (by omega)).mono fun e W' ⟨he, kp⟩ => ?_
 subst he
 have bel := kp.belowN
 exact ⟨_, rfl, _, _, _, [], _, [], hW', trodAll_mk1 (shut_bool Tryz.underlying4 _), (trodAll_cons_mk (shut_int Tryz.underlying3 w0) (trodAll_cons_mk (shut_int Tryz.underlying3 w1) (trodAll_cons_mk (Below.trod laidOut (by kernel_rfl) (of_decide_eq_true (by kernel_rfl)) k2 bel lt2) (trodAll_cons_mk (Below.trod laidOut (by kernel_rfl) (of_decide_eq_true (by kernel_rfl)) k3 bel lt3) (trodAll_cons_mk (Below.trod laidOut (by kernel_rfl) (of_decide_eq_true (by kernel_rfl)) k4 bel lt4) (trodAll_cons_mk (shut_int Tryz.underlying3 w5) trodAll_mk0)))))), rfl, bel.frame _, fun h => by cases h⟩
theorem over : Rows.vdevLogRow.holds Tryz.pinned (OpenSpec.ofChange Rows.vdevLogSpec) :=
 OpenClaim.holds_of_wide 3 Tryz.f3 rfl rfl rfl rfl rfl rfl rfl ⟨rfl, rfl, rfl, rfl, rfl⟩ rfl rfl rfl rfl rfl (by kernel_rfl) Tryz.func3 (by kernel_rfl)
   (of_decide_eq_true (by kernel_rfl)) (by unfold Func.isWrapper; first | (rw [if_pos (by decide +kernel)]; kernel_rfl) | (rw [if_neg (by decide +kernel)]; exact ⟨rfl, rfl⟩))
   (fun os started H enc _ => lifted os started H enc)
theorem vdevLog_holds : Rows.VdevLogCardSaid :=
 Claim7.holds_tied_plain_at .later [] [.data] true (true, "fbb4278f1a679d87a9ae89385cddf3b25d1180e2f44785d429bd01c986bd10a9") true over (fun _ h => by cases h) (by kernel_rfl) (fun _ h => by cases h) vdevLog_row_tie rfl ⟨rfl, rfl⟩ (by kernel_rfl) rfl
   (fun f fn hf hfn => by
     obtain rfl : f = 3 := Option.some.inj ((show Tryz.prog.funcNamed "undercroft/undercroftlaw08.VdevLog" = some 3 by kernel_rfl).symm.trans hf) |>.symm
     obtain rfl : fn = Tryz.f3 := (Option.some.inj (Tryz.func3.symm.trans hfn)).symm
     exact ⟨by kernel_rfl, fun j t ht => by
       rw [Tryz.params3] at ht
       have hm : t ∈ [3, 3, 22, 22, 23, 3] := by simpa using Array.mem_of_getElem? ht
       have hall : ([3, 3, 22, 22, 23, 3].all fun u => !Tryz.prog.wantsStandIn u) = true := by kernel_rfl
       exact (show Tryz.prog.wantsStandIn t = false by simpa using List.all_eq_true.1 hall t hm)⟩)
   (by kernel_rfl)
#print axioms vdevLog_holds
end Go.Proofs.YtolknnmaadkgiaaGreatDoor
