/- The document's Cells. -/
import Derived.Test.YtmlffigfhhoihabV13
namespace Go.Proofs.Ytmlffigfhhoihab
open Go.RowKit Go.Uc

def someB (l : List UInt8) : Bool := l.any (fun x => x != 0)
theorem someB_snoc (l : List UInt8) (x : UInt8) : someB (l ++ [x]) = (someB l || (x != 0)) := by simp [someB]
theorem someB_iff {l : List UInt8} {n : Nat} (hl : l.length = n) : someB l = false ↔ l = zeros n := by
  subst hl
  unfold someB zeros
  rw [List.any_eq_false]
  constructor
  · intro h
    apply List.eq_replicate_iff.2
    refine ⟨rfl, fun b hb => ?_⟩
    have := h b hb
    simpa using this
  · intro h x hx
    rw [h] at hx
    have := List.eq_of_mem_replicate hx
    simp [this]
theorem byte_ne0 (x : UInt8) : ((x.toNat : Int) != 0) = (x != 0) := by
  rw [Bool.eq_iff_iff, bne_iff_ne, bne_iff_ne]
  constructor
  · intro h e; exact h (by rw [e]; rfl)
  · intro h e
    apply h
    apply UInt8.toNat_inj.1
    simpa using e
theorem rle4 (n : Nat) (hn : n ≤ 16384) : (#[.int .u8 ((n : Int) % 256), .int .u8 ((n : Int) / 256 % 256), .int .u8 ((n : Int) / 65536), .int .u8 0] : Array Value) = pc (le 4 n) := by
  have e : ∀ m : Nat, m < 256 → bv (UInt8.ofNat m) = .int .u8 (m : Int) := bv_ofNat
  simp only [pc, le, List.map_cons, List.map_nil]
  rw [e _ (Nat.mod_lt _ (by decide)), e _ (Nat.mod_lt _ (by decide)), e _ (Nat.mod_lt _ (by decide)), e _ (Nat.mod_lt _ (by decide))]
  congr 1
  simp only [List.cons.injEq, Value.int.injEq, true_and, and_true]
  omega

set_option maxRecDepth 100000 in
set_option maxHeartbeats 4000000 in
theorem refCells_any (g gb : Nat) (xs : List UInt8) (w : World) (hv : VolB w g gb 67 xs) (hl : xs.length ≤ 16384) (hm : xs.length % 256 = 0) :
    Calls Try.prog 33 #[.pointer (some ⟨g, 0, none⟩)] w fun e w' => ∃ v, e = .returned v ∧ RowC w' w.heap.size (OwnB w' w.heap.size 5) v (cellsTo xs (xs.length / 256)) ∧ Keeps Non w w' := by
  have c0 : w.cell? ⟨g, 0, none⟩ = some (.slice (some ⟨gb, 0, none⟩) xs.length xs.length) := hv.1.cell 0
  obtain ⟨N, hN⟩ : ∃ N, N = xs.length := ⟨_, rfl⟩
  obtain ⟨q, hq⟩ : ∃ q : Nat, q = xs.length / 256 := ⟨_, rfl⟩
  have hq2 : N = 256 * q := by omega
  have hNl : N ≤ 16384 := by omega
  have hS := rowC_start w N _ (rle4 N hNl)
  have HN := Lib.hid hN
  have HQ := Lib.hid hq
  have HQ2 := Lib.hid hq2
  have hv1 : Blk w g 67 #[.slice (some ⟨gb, 0, none⟩) N N] := by rw [hN]; exact hv.1
  have hv2 := hv.2.1
  rw [← hN] at c0
  have hqN : (256 * (q : Int)) = (N : Int) := by omega
  have hq64 : q ≤ 64 := by omega
  clear hv hl hm hN hq hq2
  have HQN := Lib.hid hqN
  clear hqN
  go_enter Try.func33, Try.ntmps33
  go_wp2_with fail
  obtain ⟨w1, hw1⟩ : ∃ w1, w1 = (w.alloc (.cells #[.int .u8 ((N : Int) % 256), .int .u8 ((N : Int) / 256 % 256), .int .u8 ((N : Int) / 65536), .int .u8 0] 5)).alloc (.cells #[.int .i64 1, .int .i64 (-1), .int .i64 0, .slice (some ⟨w.heap.size, 0, none⟩) 4 4] 60) := ⟨_, rfl⟩
  rw [← hw1] at hS
  have hk1 : Keeps Non w w1 := by rw [hw1]; exact ((Keeps.refl _ _).alloc _).alloc _
  rw [← hw1]
  clear hw1 c0
  rw [HN.out] at hS
  go_loopw [5, 6, 7, 8, 9] (fun v i _ _ _ wr => ∃ k : Nat, k ≤ q ∧ i = .int .i64 k ∧ RowC wr w.heap.size (OwnB wr w.heap.size 5) v (cellsTo xs k) ∧ Keeps Non w wr) (fun _ i _ _ _ _ => q - (intOf i).toNat)
  case atStart => exact ⟨0, Nat.zero_le _, rfl, hS, hk1⟩
  case round =>
    obtain ⟨k, hk, rfl, hR, hK⟩ := hrel
    clear hS hk1
    have hsz := hK.size
    by_cases hlt : k < q
    · have t1 : 256 * (k : Int) < (N : Int) := by have := HQ2.out; omega
      have hkN : 256 * k + 256 ≤ N := by have := HQ2.out; omega
      have hsl : (sub xs (256 * k) 256).length = 256 := by have := HN.out; simp [sub]; omega
      obtain ⟨S, hSx⟩ : ∃ S, S = sub xs (256 * k) 256 := ⟨_, rfl⟩
      rw [← hSx] at hsl
      have HSx := Lib.hid hSx
      have HSl := Lib.hid hsl
      clear hSx hsl
      obtain ⟨vss, r1, r2, r3⟩ := hR
      have R2 := Lib.hid r2
      have R3 := Lib.hid r3
      have hcl := cellsTo_length xs k
      clear r2 r3
      go_wp2_with fail
      obtain ⟨wo, rfl⟩ : ∃ wo : World, wo = wr := ⟨_, rfl⟩
      go_loopw [7, 8, 9] (fun c s i wi => ∃ j : Nat, j ≤ 256 ∧ i = .int .i64 (256 * (k : Int) + j) ∧ s = .bool (someB (S.take j)) ∧ OwnB wi wo.heap.size 5 c (S.take j) ∧ Keeps Non wo wi) (fun _ _ i _ => 256 * k + 256 - (intOf i).toNat)
      case atStart => exact ⟨0, Nat.zero_le _, by simp, by simp [someB], by rw [List.take_zero]; exact OwnB.nil _ _ _, Keeps.refl _ _⟩
      case round =>
        obtain ⟨j, hj, rfl, rfl, hO, hKj⟩ := hrel
        by_cases hjl : j < 256
        · have hkk := hK.trans hKj
          have hlk : 256 * k + j < xs.length := by have := HN.out; omega
          have t2 : 256 * (k : Int) + (j : Int) < 256 * (k : Int) + 256 := by omega
          have hg : ∀ w', Keeps Non w w' → w'.cell? ⟨g, 0, none⟩ = some (.slice (some ⟨gb, 0, none⟩) N N) ∧ w'.cell? ⟨gb, 256 * k + j, none⟩ = some (.int .u8 (xs[256 * k + j]).toNat) := fun w' h => ⟨(hv1.non h).cell 0, (hv2.non h).byteD hlk⟩
          have hts : S.take (j + 1) = S.take j ++ [xs[256 * k + j]] := by
            rw [List.take_succ_eq_append_getElem (by have := HSl.out; omega)]
            congr 2
            simp only [HSx.out, sub, List.getElem_take, List.getElem_drop]
          obtain ⟨x, hx⟩ : ∃ x, x = xs[256 * k + j] := ⟨_, rfl⟩
          rw [← hx] at hg hts
          have HG := Lib.hid hg
          have HTS := Lib.hid hts
          have hlb : (S.take j).length ≤ 256 := by simp; omega
          have hszj := hKj.size
          obtain ⟨c0, c1⟩ := HG.out wr hkk
          clear hg hts hx
          by_cases hsome : someB (S.take j) = true
          · have hs2 : someB (S.take (j + 1)) = true := by rw [HTS.out, someB_snoc, hsome]; rfl
            have HS2 := Lib.hid hs2
            rw [hsome]
            clear hs2 hsome
            go_wp2_with (at_builtin; go_must (refine wpList_append_bytes rfl (.tmp 44) (.tmp 52) 23 rfl wo.heap.size 5 Try.underlying23 info5 _ (S.take j) rfl (hO.non ((Keeps.refl Non _).alloc _)) (some ⟨wr.heap.size, 0, none⟩) 1 1 [x] rfl rfl (At.one _ _ _ _ rfl) (by simp; omega) (by simp; omega) ?_); intro v2 w3 hO2 hK2 hat; have hk2 := (hKj.alloc _).then hK2 (fun i hi e => by have := hO.new i e; omega); clear hO hKj hK2 hat)
            go_roundw
            case rel => exact ⟨j + 1, by omega, by go_num, by rw [HS2.out], by rw [HTS.out]; exact hO2, hk2⟩
            case measure => simp [intOf]; omega
          · have hsf : someB (S.take j) = false := by simpa using hsome
            have hs2 : someB (S.take (j + 1)) = (x != 0) := by rw [HTS.out, someB_snoc, hsf]; rfl
            have HS2 := Lib.hid hs2
            rw [hsf]
            clear hs2 hsome hsf
            go_wp2_with (at_builtin; go_must (refine wpList_append_bytes rfl (.tmp 44) (.tmp 52) 23 rfl wo.heap.size 5 Try.underlying23 info5 _ (S.take j) rfl (hO.non ((Keeps.refl Non _).alloc _)) (some ⟨wr.heap.size, 0, none⟩) 1 1 [x] rfl rfl (At.one _ _ _ _ rfl) (by simp; omega) (by simp; omega) ?_); intro v2 w3 hO2 hK2 hat; have hk2 := (hKj.alloc _).then hK2 (fun i hi e => by have := hO.new i e; omega); obtain ⟨c2, c3⟩ := HG.out w3 (hK.trans hk2); clear hO hKj hK2 hat)
            go_roundw
            case rel => exact ⟨j + 1, by omega, by go_num, by rw [HS2.out, ← byte_ne0], by rw [HTS.out]; exact hO2, hk2⟩
            case measure => simp [intOf]; omega
        · obtain rfl : j = 256 := by omega
          rw [List.take_of_length_le (by have := HSl.out; omega)] at hO ⊢
          obtain ⟨A2, c2, hv7, hc2, hA2, -⟩ := hO.open
          subst hv7
          have hKK := hK.trans hKj
          have r5 := row_keep r1 hKj fun _ _ e => e
          have hlow : ∀ g, Owned u5 g → w.heap.size ≤ g := fun g hg => (World.ownsRow.lt r5 g hg).1
          by_cases hsome : someB S = true
          · have hnz : ¬ sub xs (256 * k) 256 = zeros 256 := fun e => by
              rw [HSx.out, (someB_iff (by rw [← HSx.out]; exact HSl.out)).2 e] at hsome
              cases hsome
            have HNZ := Lib.hid hnz
            rw [hsome]
            have hlow1 := hlow
            clear hsome hnz
            go_wp2_with (at_builtin; go_must (refine wpList_append_cell rfl (.tmp 66) (.tmp 70) rfl w.heap.size u5 _ _ rfl (row_keep r5 ((Keeps.refl Non _).alloc _) fun _ _ e => e) (some ⟨wr.heap.size, 0, none⟩) 1 [.int .i64 1, .int .i64 k, .int .i64 0, .slice A2 S.length c2] rfl rfl (Ats.four _ _ _ _ _ _) (cel_one hO) (by omega) (by have := hKK.size; simp; omega) ?_); intro v6 w6 hR6 hK6 hat6)
            go_roundw
            case rel =>
              have hka := (Keeps.refl Non wr).alloc (.cells #[.int .i64 1, .int .i64 k, .int .i64 0, .slice A2 S.length c2] 60)
              refine ⟨k + 1, by omega, by go_num, ?_, ?_⟩
              · rw [cellsTo, if_neg HNZ.out, ← HSx.out]
                exact RowC.grow (c := ⟨1, k, 0, S⟩) r5 R2.out (fun i a b => by
                  obtain ⟨d', e', hd'⟩ := R3.out i a b
                  exact ⟨d', e', hd'.non hKj⟩) (hO.mono hsz) hR6 hK6
              · exact (hKK.trans hka).then hK6 fun i hi e => by have := hlow1 i e; omega
            case measure => simp [intOf]; omega
          · have hsf : someB S = false := by simpa using hsome
            have hz : sub xs (256 * k) 256 = zeros 256 := by
              rw [← HSx.out]
              exact (someB_iff HSl.out).1 hsf
            have HZ := Lib.hid hz
            rw [hsf]
            clear hsome hsf hz
            go_wp2_with fail
            go_roundw
            case rel =>
              refine ⟨k + 1, by omega, by go_num, ?_, hKK⟩
              rw [cellsTo, if_pos HZ.out]
              exact RowC.all (S := Non) ⟨vss, r1, R2.out, R3.out⟩ hKj (fun _ _ e => e)
            case measure => simp [intOf]; omega
    · obtain rfl : k = q := by omega
      have t1 : ¬ 256 * (k : Int) < (N : Int) := by have := HQ2.out; omega
      go_wp2_with fail
      go_ret
      exact ⟨_, rfl, by rw [← HQ.out]; exact hR, hK⟩
end Go.Proofs.Ytmlffigfhhoihab
