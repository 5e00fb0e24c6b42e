/- Every input: undercroftlaw16.IlogScans returns true, and its arguments read as they did; no condition. -/
import Derived.Test.YtmlffigfhhoihaaRows
import Derived.Test.YtmlffigfhhoihaaT21
import Derived.Test.YtmlffigfhhoihaaBased
namespace Go.Proofs.Ytmlffigfhhoihaa
open Go.ChangeShapes Go.WideShapes Go.ChangeAt Go.RowKit Go.Uc
open Go.ChangeMaps (open_string shut_string)

theorem own : ownKnob Try.prog.godebug = none := by kernel_rfl
theorem laidOut : laidOutB Try.prog = true := by kernel_rfl

theorem ilogScans_all (base : Int) (A1 A2 : Option Addr) (c1 c2 : Nat) (bs more : List UInt8) (w : World) (hA1 : At w A1 bs) (hA2 : At w A2 more) (hc1 : bs.length ≤ c1) (hc2 : more.length ≤ c2) (hl1 : bs.length ≤ 140737488351232) (hl2 : more.length ≤ 140737488351232) :
    Calls Try.prog 5 #[.int .i64 base, .slice A1 bs.length c1, .slice A2 more.length c2] w fun e w' => e = .returned (.bool true) ∧ Keeps Non w w' := by
  by_cases hbad : base < 0 ∨ 281474976710656 < base
  · exact ilogScans_bad base A1 A2 c1 c2 bs more w hA1 hl1 hbad
  · obtain ⟨bn, rfl⟩ := Int.eq_ofNat_of_zero_le (show 0 ≤ base by omega)
    exact ilogScans_ok bn A1 A2 c1 c2 bs more w hA1 hA2 hc1 hc2 hl1 hl2 (by omega)
set_option maxRecDepth 100000 in
theorem lifted (os : Os) (started : os.Started) (H : Type) (enc : TypeId × Value → H) :
    ReturnsInHanded {} Try.checked os 5 .any (Rows.ilogScansSpec.pre6 enc Try.prog Try.f5 Rows.ilogScansRow.domain false) (Rows.ilogScansSpec.post enc Try.prog Try.f5 false true false false) := by
  refine returnsInHanded_of_change_sized (C := Try.checked) own started (by kernel_rfl) Try.func5
    (ChangeSpec.witness6 (enc := enc) (C := Try.checked) false ⟨#[], #[.int .i64 0, .slice none 0 0, .slice none 0 0], []⟩ 8 (by kernel_rfl) (by kernel_rfl) (by kernel_rfl) (by kernel_rfl)) ?_
  intro W base args ds gs before hval0 hW hcnd hsz0 _
  have hval : ∀ (j : Nat) t v, Try.f5.params[j]? = some t → args[j]? = some v → Value.okWide Try.prog W .any base t v := hval0
  have hsz : (DataW.weightsEach Try.prog (Try.f5.params.toList ++ Rows.ilogScansSpec.plain.varTypes Try.prog) (ds ++ gs)).all (· ≤ reachBytes) = true := hsz0
  have hW' := hW
  obtain ⟨p, q, hA0, hV, rfl, hfz, hnd⟩ := hW
  have hA : DataW.TrodAll enc Try.prog W 0 (fun _ => true) true Try.f5.params.toList args.toList ds p := hA0
  rw [Try.params5] at hA hval hsz
  obtain ⟨v0, vs0, d0, ds0, p0, q0, hargs, rfl, rfl, h0, r0⟩ := trodAll_cons hA
  obtain ⟨v1, vs1, d1, ds1, p1, q1, rfl, rfl, rfl, h1, r1⟩ := trodAll_cons r0
  obtain ⟨v2, vs2, d2, ds2, p2, q2, rfl, rfl, rfl, h2, r2⟩ := trodAll_cons r1
  obtain ⟨rfl, rfl, rfl⟩ := trodAll_nil r2
  obtain rfl : args = #[v0, v1, v2] := by cases args; simp_all
  obtain ⟨rfl, rfl⟩ := trodVars_none hV
  obtain ⟨a0, rfl, rfl, rfl, w0⟩ := open_int Try.underlying3 (hval 0 3 v0 rfl rfl) h0
  obtain ⟨a1, len1, cap1, rfl⟩ := okWide_slice Try.underlying31 (hval 1 31 v1 rfl rfl)
  obtain ⟨a2, len2, cap2, rfl⟩ := okWide_slice Try.underlying31 (hval 2 31 v2 rfl rfl)
  have k1 := h1
  have lt1 : ∀ x ∈ p1, x.block < W.heap.size := by obtain ⟨m, hm⟩ := k1; exact DataW.trod_lt m _ _ _ hm
  have k2 := h2
  have lt2 : ∀ x ∈ p2, x.block < W.heap.size := by obtain ⟨m, hm⟩ := k2; exact DataW.trod_lt m _ _ _ hm
  obtain ⟨fuel, hf⟩ := h1
  obtain ⟨fuel2, hf2⟩ := h2
  simp only [Value.cells] at hf hf2
  obtain ⟨bs2, hlen2, hbs2, hlc2, hlm2⟩ := bytes_open Try.underlying31 Try.underlying5 (by kernel_rfl) (by kernel_rfl) hf2
    (fun m hm => by have := List.all_eq_true.1 hsz m (DataW.weights_mem_each (j := 2) (t := 31) rfl rfl m hm); simpa using this)
  obtain ⟨bs, hlen, hbs, hlc, hlm⟩ := bytes_open Try.underlying31 Try.underlying5 (by kernel_rfl) (by kernel_rfl) hf
    (fun m hm => by have := List.all_eq_true.1 hsz m (DataW.weights_mem_each (j := 1) (t := 31) rfl rfl m hm); simpa using this)
  subst hlen hlen2
  have b0 := bounds_i64 w0
  clear hA0 hval0 hsz0 hsz hf hf2
  refine (ilogScans_all a0 a1 a2 cap1 cap2 bs bs2 W hbs hbs2 hlc hlc2 (by omega) (by omega)).mono fun e W' ⟨he, kp⟩ => ?_
  subst he
  have bel := kp.belowN
  exact ⟨_, rfl, _, _, _, [], _, [], hW', trodAll_mk1 (shut_bool Try.underlying4 _), (trodAll_cons_mk (shut_int Try.underlying3 w0) (trodAll_cons_mk (Below.trod laidOut (by kernel_rfl) (of_decide_eq_true (by kernel_rfl)) k1 bel lt1) (trodAll_cons_mk (Below.trod laidOut (by kernel_rfl) (of_decide_eq_true (by kernel_rfl)) k2 bel lt2) trodAll_mk0))), rfl, bel.frame _, fun h => by cases h⟩

theorem over : Rows.ilogScansRow.holds Try.pinned (OpenSpec.ofChange Rows.ilogScansSpec) :=
  OpenClaim.holds_of_wide 5 Try.f5 rfl rfl rfl rfl rfl rfl rfl ⟨rfl, rfl, rfl, rfl, rfl⟩ rfl rfl rfl rfl rfl (by kernel_rfl) Try.func5 (by kernel_rfl)
    (of_decide_eq_true (by kernel_rfl)) (by unfold Func.isWrapper; first | (rw [if_pos (by decide +kernel)]; kernel_rfl) | (rw [if_neg (by decide +kernel)]; exact ⟨rfl, rfl⟩))
    (fun os started H enc _ => lifted os started H enc)

theorem ilogScans_holds : Rows.IlogScansSaid := over
#print axioms ilogScans_holds
end Go.Proofs.Ytmlffigfhhoihaa
