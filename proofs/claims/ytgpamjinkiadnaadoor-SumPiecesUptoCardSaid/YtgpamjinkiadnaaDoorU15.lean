/- Fletcher's sum, the document's. -/
import Derived.Test.YtgpamjinkiadnaaDoorP2
import Derived.Test.YtgpamjinkiadnaaDoorU9
namespace Go.Proofs.YtgpamjinkiadnaaDoor
open Go.RowKit Go.Uc

theorem mul64 (x : BitVec 64) : IntKind.u64.wrap (256 * v64 x) = v64 (256#64 * x) := by
  rw [IntKind.wrap_u64]; unfold v64; rw [BitVec.toNat_mul, BitVec.toNat_ofNat]; omega
/-- The word so far: j bytes in, the highest ahead. -/
def hw (bs : List UInt8) (n : Nat) : Nat → BitVec 64
  | 0 => 0#64
  | j + 1 => 256#64 * hw bs n j + b64 (bs.getD (4 * n + (3 - j)) 0)
theorem hw_all (bs : List UInt8) (n : Nat) : hw bs n 4 = wordN bs n := horner _ _ _ _
theorem getD_none (bs : List UInt8) (i : Nat) (h : bs.length ≤ i) : bs.getD i 0 = 0 := by rw [List.getD_eq_getElem?_getD, List.getElem?_eq_none h]; rfl
theorem b64_zero : b64 0 = 0#64 := rfl

set_option maxRecDepth 100000 in
set_option maxHeartbeats 2000000 in
theorem fletcher_any (A : Option Addr) (c : Nat) (bs : List UInt8) (w : World) (hA : At w A bs) (_hc : bs.length ≤ c) (hn : bs.length ≤ 140737488351240) :
    Calls Tryd.prog 18 #[.slice A bs.length c] w fun e w' => e = .returned (sumF bs).v ∧ Keeps Non w w' := by
  go_enter Tryd.func18, Tryd.ntmps18
  go_wp2_with fail
  have hR : Blk ((w.alloc (.cells sum0.cells 25)).alloc (.cells sum0.cells 25)) w.heap.size 25 sum0.cells := (Blk.new w 25 sum0.cells).alloc _
  have hS : Blk ((w.alloc (.cells sum0.cells 25)).alloc (.cells sum0.cells 25)) (w.heap.size + 1) 25 sum0.cells := by
    have := Blk.new (w.alloc (.cells sum0.cells 25)) 25 sum0.cells; simpa using this
  have hK : Keeps Non w ((w.alloc (.cells sum0.cells 25)).alloc (.cells sum0.cells 25)) := ((Keeps.refl _ _).alloc _).alloc _
  obtain ⟨W0, hW0⟩ : ∃ W : World, W = ((w.alloc (.cells sum0.cells 25)).alloc (.cells sum0.cells 25)) := ⟨_, rfl⟩
  rw [← hW0] at hR hS hK
  rw [show (w.alloc (.cells #[.int .u64 0, .int .u64 0, .int .u64 0, .int .u64 0] 25)).alloc (.cells #[.int .u64 0, .int .u64 0, .int .u64 0, .int .u64 0] 25) = W0 from hW0.symm]
  clear hW0
  obtain ⟨b, hb⟩ : ∃ b, b = w.heap.size := ⟨_, rfl⟩
  rw [← hb] at hR hS ⊢
  have hbL : w.heap.size ≤ b := by omega
  clear hb
  have hA0 := hA.non hK
  go_loopw [4] (fun i wr => ∃ n : Nat, 4 * n ≤ bs.length + 3 ∧ i = .int .i64 ((4 * n : Nat) : Int) ∧ Blk wr (b + 1) 25 (fsum bs n).cells ∧ Keeps (Only (b + 1)) W0 wr) (fun i _ => bs.length + 4 - (intOf i).toNat)
  case atStart => exact ⟨0, by omega, rfl, hS, Keeps.refl _ _⟩
  case round =>
    obtain ⟨n, hn4, rfl, hSn, hKn⟩ := hrel
    have hAn : At wr A bs := fun i hi => by
      obtain ⟨ad, e, hcell⟩ := hA0 i hi
      obtain ⟨ad', e', h'⟩ := hA.lt (by omega)
      rw [e] at e'; injection e' with e'; subst e'
      exact ⟨ad, e, hKn.cell hcell (by rw [Addr.add_block]; show ¬ ad.block = b + 1; omega)⟩
    obtain ⟨i, hi⟩ : ∃ i, i = 4 * n := ⟨_, rfl⟩
    rw [← hi]
    by_cases hlt : i < bs.length
    · have HI := Lib.hid hi
      clear hi
      have i0 : (0 : Int) ≤ (i : Int) := by omega
      have i1 : (i : Int) < (bs.length : Int) := by omega
      obtain ⟨wa, rfl⟩ : ∃ W : World, W = wr := ⟨_, rfl⟩
      go_wp2_with fail
      go_loopw [5, 6] (fun u k wr => ∃ j : Nat, j ≤ 4 ∧ u = .int .u64 (v64 (hw bs n j)) ∧ k = .int .i64 (3 - (j : Int)) ∧ wr = wa) (fun _ k _ => (intOf k + 1).toNat)
      case atStart => exact ⟨0, by omega, rfl, rfl, rfl⟩
      case round =>
        obtain ⟨j, hj, rfl, rfl, rfl⟩ := hrel
        by_cases hj4 : j < 4
        · obtain ⟨m, hm⟩ : ∃ m : Nat, m + j = 3 := ⟨3 - j, by omega⟩
          rw [show (3 - (j : Int)) = (m : Int) by omega]
          have m0 : (0 : Int) ≤ (m : Int) := by omega
          have hmul := mul64
          have hadd := add64
          have l0 := v64_nonneg
          have l1 := b64_le
          have hwr : ∀ x : BitVec 64, IntKind.u64.wrap (v64 x) = v64 x := fun x => by rw [IntKind.wrap_u64]; have := v64_nonneg x; have := v64_le x; omega
          have hstep : hw bs n (j + 1) = 256#64 * hw bs n j + b64 (bs.getD (i + m) 0) := by
            show 256#64 * hw bs n j + b64 (bs.getD (4 * n + (3 - j)) 0) = _
            rw [HI.out, show 3 - j = m by omega]
          by_cases him : i + m < bs.length
          · obtain ⟨p, off, rfl, hcx⟩ := hAn.at_ him
            have hcx' : wr.cell? ⟨p, off + (i + m), none⟩ = some (.int .u8 (v64 (b64 (bs.getD (i + m) 0)))) := by
              rw [hcx, bv_b64, getD_at _ _ him]
            have n0 : IntKind.i64.wrap ((i : Int) + (m : Int)) = ((i + m : Nat) : Int) := by rw [IntKind.wrap_i64]; omega
            obtain ⟨q, hq⟩ : ∃ q, q = i + m := ⟨_, rfl⟩
            rw [← hq] at n0 hcx' him hstep
            have n1 : (q : Int) < (bs.length : Int) := by omega
            have n2 : (0 : Int) ≤ (q : Int) := by omega
            have n3 : ((q : Int)).toNat = q := by omega
            obtain ⟨X, hX⟩ : ∃ X, X = b64 (bs.getD q 0) := ⟨_, rfl⟩
            rw [← hX] at hcx' hstep
            have l2 : v64 X ≤ 255 := by rw [hX]; exact b64_le _
            have HQ := Lib.hid (And.intro hstep (And.intro hX hq))
            clear hX hq hcx hstep
            obtain ⟨wx, rfl⟩ : ∃ W : World, W = wr := ⟨_, rfl⟩
            go_wp2_with fail
            go_roundw
            case rel =>
              obtain ⟨h1, h2, h3⟩ := HQ.out
              refine ⟨j + 1, by omega, by rw [h1], by go_num, ?_⟩
              first | rfl | trivial
            case measure => simp [intOf]
          · have hz0 : bs.getD (i + m) 0 = 0 := getD_none _ _ (by omega)
            rw [hz0, b64_zero, BitVec.add_zero] at hstep
            have n0 : IntKind.i64.wrap ((i : Int) + (m : Int)) = ((i + m : Nat) : Int) := by rw [IntKind.wrap_i64]; omega
            obtain ⟨q, hq⟩ : ∃ q, q = i + m := ⟨_, rfl⟩
            rw [← hq] at n0 him
            have n1 : ¬ (q : Int) < (bs.length : Int) := by omega
            have HQ := Lib.hid hstep
            clear hq hz0 hstep
            obtain ⟨wx, rfl⟩ : ∃ W : World, W = wr := ⟨_, rfl⟩
            go_wp2_with fail
            go_roundw
            case rel =>
              refine ⟨j + 1, by omega, by rw [HQ.out], by go_num, ?_⟩
              first | rfl | trivial
            case measure => simp [intOf]
        · obtain rfl : j = 4 := by omega
          rw [hw_all]
          obtain ⟨X, hX⟩ : ∃ X, X = wordN bs n := ⟨_, rfl⟩
          obtain ⟨S, hS⟩ : ∃ S, S = fsum bs n := ⟨_, rfl⟩
          rw [← hX]
          rw [← hS] at hSn
          have hnext : fsum bs (n + 1) = S.plus X := by rw [fsum_succ, hX, hS]
          have HX := Lib.hid hnext
          clear hX hS hnext hj4
          obtain ⟨SA, SB, SC, SD⟩ := S
          have hadd := add64
          have e0 : wr.cell? ⟨b + 1, 0, none⟩ = some (.int .u64 (v64 SA)) := hSn.cell 0
          have e1 : wr.cell? ⟨b + 1, 1, none⟩ = some (.int .u64 (v64 SB)) := hSn.cell 1
          have e2 : wr.cell? ⟨b + 1, 2, none⟩ = some (.int .u64 (v64 SC)) := hSn.cell 2
          have e3 : wr.cell? ⟨b + 1, 3, none⟩ = some (.int .u64 (v64 SD)) := hSn.cell 3
          have f0 := fun i => hSn.frozen i
          have i4 : IntKind.i64.wrap ((i : Int) + 4) = ((i + 4 : Nat) : Int) := by rw [IntKind.wrap_i64]; omega
          obtain ⟨wx, rfl⟩ : ∃ W : World, W = wr := ⟨_, rfl⟩
          go_wp2_with fail
          go_roundw
          case rel =>
            have hi := HI.out
            refine ⟨n + 1, by omega, by rw [show 4 * (n + 1) = i + 4 by omega]; go_num, ?_, ?_⟩
            · rw [HX.out]
              exact (((hSn.set 0 (.int .u64 (v64 (SA + X)))).set 1 (.int .u64 (v64 (SB + (SA + X))))).set 2 (.int .u64 (v64 (SC + (SB + (SA + X)))))).set 3 (.int .u64 (v64 (SD + (SC + (SB + (SA + X))))))
            · exact (((hKn.set (p := ⟨b + 1, 0, none⟩) rfl _).set (p := ⟨b + 1, 1, none⟩) rfl _).set (p := ⟨b + 1, 2, none⟩) rfl _).set (p := ⟨b + 1, 3, none⟩) rfl _
          case measure => simp [intOf]; omega
    · have hnn : n = (bs.length + 3) / 4 := by omega
      have i1 : ¬ (i : Int) < (bs.length : Int) := by omega
      have hfin : fsum bs n = sumF bs := by rw [hnn, sumF_words]
      rw [hfin] at hSn
      have hRn := hR.one hKn (by omega)
      have hKz : Keeps Non w wr := hK.then hKn (fun k hk e => absurd e (by show ¬ k = b + 1; omega))
      obtain ⟨S, hSv⟩ : ∃ S, S = sumF bs := ⟨_, rfl⟩
      rw [← hSv] at hSn
      have HS := Lib.hid hSv
      clear hSv hfin hnn hi hKn hAn hA0 hR hS hK hn4 hlt
      obtain ⟨wx, rfl⟩ : ∃ W : World, W = wr := ⟨_, rfl⟩
      go_wp2_with ((with_reducible show wpList _ _ _ _ _ _); refine wpList_load_row (o := ⟨some 58, _, _, _, _, _⟩) rfl 25 (.tmp 3) rfl (b + 1) rfl 25 S.cells (0, 0) _ hSn Tryd.underlying25 rfl (by kernel_rfl) ?_; refine wpList_store_blk rfl 25 (.tmp 2) (.tmp 58) rfl b S.cells rfl rfl 25 sum0.cells hRn (by kernel_rfl) rfl (by kernel_rfl) ?_; intro w7 hR8 hK8; have hK9 : Keeps Non w w7 := hKz.then hK8 (fun k hk e => absurd e (by show ¬ k = b; omega)); clear hRn hKz hK8 hSn)
      refine bodyPost_ret (results_cell_blk (ty := 25) rfl _ b 25 S.cells _ rfl hR8 Tryd.underlying25 rfl (by kernel_rfl)) rfl ⟨?_, hK9⟩
      rw [← HS.out]
      rfl
#print axioms fletcher_any
end Go.Proofs.YtgpamjinkiadnaaDoor
