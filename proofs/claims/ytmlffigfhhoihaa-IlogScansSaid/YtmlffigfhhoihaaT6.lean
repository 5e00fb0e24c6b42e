import Derived.Test.YtmlffigfhhoihaaT5
namespace Go.Proofs.Ytmlffigfhhoihaa
open Go.RowKit Go.Uc

def padC (bs : List UInt8) (k : Nat) : List UInt8 := chunk bs k ++ zeros (68 - (chunk bs k).length)
theorem padC_length (bs : List UInt8) (k : Nat) : (padC bs k).length = 68 := by
  have := chunk_le bs k
  simp [padC, zeros_length]; omega
theorem padC_take (bs : List UInt8) (k j : Nat) (h : j < 68) : (padC bs k).take (j + 1) = (padC bs k).take j ++ [bs.getD (68 * k + j) 0] := by
  have hl := padC_length bs k
  rw [← take_snoc _ _ (by omega)]
  congr 2
  simp only [padC, List.getElem_append, chunk_length]
  split
  · rename_i h1
    have : 68 * k + j < bs.length := by have : min (bs.length - 68 * k) 68 = Nat.min (bs.length - 68 * k) 68 := rfl; omega
    simp [chunk, List.getElem_drop, List.getD, this]
  · rename_i h1
    have : bs.length ≤ 68 * k + j := by have : min (bs.length - 68 * k) 68 = Nat.min (bs.length - 68 * k) 68 := rfl; omega
    simp [zeros, List.getD, this]

/-- One number more behind a row of the call's own. -/
theorem grow_step {w0 w1 w2 : World} {v : Value} (hB : ∀ k, Owned v k → w0.heap.size ≤ k) (hK : Keeps Non w0 w1) (hK2 : Keeps (Owned v) w1 w2) : Keeps Non w0 w2 :=
  hK.then hK2 fun i hi e => by have := hB i e; omega

set_option maxRecDepth 10000 in
set_option maxHeartbeats 2000000 in
theorem record_any (g c base at_ next : Nat) (bs : List UInt8) (A : Option Addr) (w : World) (hb : LogB w g 55 base at_ next) (hn : bs.length ≤ 4096)
    (hA : At w A bs) (_hc : bs.length ≤ c) (hbase : base ≤ 281474976710656) (hnext : next ≤ 100000) :
    Calls Try.prog 28 #[.pointer (some ⟨g, 0, none⟩), .slice A bs.length c] w fun e w' => ∃ v, e = .returned v ∧ OwnB w' w.heap.size 5 v (recB base next bs) ∧ Keeps Non w w' := by
  have hp := pieces_le bs.length hn
  have HA := Lib.hid hA
  clear hA
  go_enter Try.func28, Try.ntmps28
  go_wp2_with (go_at_call 32; refine (refPieces_any _ _ (by omega)).mono ?_; rintro e w' ⟨rfl, rfl⟩)
  go_loopw [5, 7] (fun v i wr => ∃ k : Nat, k ≤ pieces bs.length ∧ i = .int .i64 k ∧ OwnB wr w'.heap.size 5 v (recsTo base next bs k) ∧ Keeps Non w' wr) (fun _ i _ => pieces bs.length - (intOf i).toNat)
  case atStart => exact ⟨0, Nat.zero_le _, rfl, OwnB.nil _ _ _, Keeps.refl _ _⟩
  case round =>
    obtain ⟨k, hk, rfl, hO, hK⟩ := hrel
    have hsz := hK.size
    by_cases hlt : k < pieces bs.length
    · have hl0 := recsTo_length base next bs k
      have hbr := Blk.non hb hK
      have c0 : wr.cell? ⟨g, 0, none⟩ = some (.int .i64 base) := hbr.cell 0
      go_wp2_with fail
      refine (number_any base 8 _ (by omega) (by omega)).mono ?_
      rintro e w1a ⟨v1a, rfl, hN, hK1⟩
      obtain ⟨A1, c1a, rfl, -, hA1, -⟩ := hN.open
      rw [le_length] at *
      have hO1 := hO.non hK1
      have hk1 := hK.trans hK1
      clear hN hK1 hO hK c0
      go_wp2_with (at_builtin; refine wpList_append_bytes rfl (.tmp 18) (.tmp 23) 31 rfl w'.heap.size 5 Try.underlying31 info5 _ (recsTo base next bs k) rfl hO1 _ 8 _ (le 8 base) rfl (le_length _ _).symm hA1 (by simp only [recsTo_length, le_length]; omega) hk1.size ?_; intro v1 w1 oo1 hK2 hat2; have kk1 := grow_step hO1.new hk1 hK2; have c2 : w1.cell? ⟨g, 2, none⟩ = some (.int .i64 next) := (Blk.non hb kk1).cell 2; clear hO1 hk1 hK2 hat2 hA1)
      refine (number_any next 4 _ (by omega) (by omega)).mono ?_
      rintro e w2a ⟨v2a, rfl, hN, hK2⟩
      obtain ⟨A2, c2a, rfl, -, hA2, -⟩ := hN.open
      rw [le_length] at *
      have hO2 := oo1.non hK2
      have hk2 := kk1.trans hK2
      clear hN hK2 oo1 kk1 c2
      go_wp2_with (at_builtin; refine wpList_append_bytes rfl (.tmp 25) (.tmp 30) 31 rfl w'.heap.size 5 Try.underlying31 info5 _ (recsTo base next bs k ++ le 8 base) rfl hO2 _ 4 _ (le 4 next) rfl (le_length _ _).symm hA2 (by simp only [List.length_append, recsTo_length, le_length]; omega) hk2.size ?_; intro v2 w2 oo2 hK2 hat2; have kk2 := grow_step hO2.new hk2 hK2; clear hO2 hk2 hK2 hat2 hA2)
      refine (number_any k 2 _ (by omega) (by omega)).mono ?_
      rintro e w3a ⟨v3a, rfl, hN, hK3⟩
      obtain ⟨A3, c3a, rfl, -, hA3, -⟩ := hN.open
      rw [le_length] at *
      have hO3 := oo2.non hK3
      have hk3 := kk2.trans hK3
      clear hN hK3 oo2 kk2
      go_wp2_with (at_builtin; refine wpList_append_bytes rfl (.tmp 32) (.tmp 34) 31 rfl w'.heap.size 5 Try.underlying31 info5 _ (recsTo base next bs k ++ le 8 base ++ le 4 next) rfl hO3 _ 2 _ (le 2 k) rfl (le_length _ _).symm hA3 (by simp only [List.length_append, recsTo_length, le_length]; omega) hk3.size ?_; intro v3 w3 oo3 hK2 hat2; have kk3 := grow_step hO3.new hk3 hK2; clear hO3 hk3 hK2 hat2 hA3)
      refine (number_any (pieces bs.length) 2 _ (by omega) (by omega)).mono ?_
      rintro e w4a ⟨v4a, rfl, hN, hK4⟩
      obtain ⟨A4, c4a, rfl, -, hA4, -⟩ := hN.open
      rw [le_length] at *
      have hO4 := oo3.non hK4
      have hk4 := kk3.trans hK4
      clear hN hK4 oo3 kk3
      go_wp2_with (at_builtin; refine wpList_append_bytes rfl (.tmp 36) (.tmp 38) 31 rfl w'.heap.size 5 Try.underlying31 info5 _ (recsTo base next bs k ++ le 8 base ++ le 4 next ++ le 2 k) rfl hO4 _ 2 _ (le 2 (pieces bs.length)) rfl (le_length _ _).symm hA4 (by simp only [List.length_append, recsTo_length, le_length]; omega) hk4.size ?_; intro v4 w4 oo4 hK2 hat2; have kk4 := grow_step hO4.new hk4 hK2; clear hO4 hk4 hK2 hat2 hA4)
      refine (number_any bs.length 4 _ (by omega) (by omega)).mono ?_
      rintro e w5a ⟨v5a, rfl, hN, hK5⟩
      obtain ⟨A5, c5a, rfl, -, hA5, -⟩ := hN.open
      rw [le_length] at *
      have hO5 := oo4.non hK5
      have hk5 := kk4.trans hK5
      clear hN hK5 oo4 kk4
      go_wp2_with (at_builtin; refine wpList_append_bytes rfl (.tmp 40) (.tmp 43) 31 rfl w'.heap.size 5 Try.underlying31 info5 _ (recsTo base next bs k ++ le 8 base ++ le 4 next ++ le 2 k ++ le 2 (pieces bs.length)) rfl hO5 _ 4 _ (le 4 bs.length) rfl (le_length _ _).symm hA5 (by simp only [List.length_append, recsTo_length, le_length]; omega) hk5.size ?_; intro v5 w5 oo5 hK2 hat2; have kk5 := grow_step hO5.new hk5 hK2; clear hO5 hk5 hK2 hat2 hA5)
      have e5 : recsTo base next bs k ++ le 8 base ++ le 4 next ++ le 2 k ++ le 2 (pieces bs.length) ++ le 4 bs.length = recsTo base next bs k ++ headB base next k bs.length := by simp [headB]
      rw [e5] at oo5
      have hb5 := Blk.non hb kk5
      clear e5 hbr hsz
      go_loopw [5, 8] (fun v i wi => ∃ j : Nat, j ≤ 68 ∧ i = .int .i64 ((68 * k + j : Nat) : Int) ∧ OwnB wi w'.heap.size 5 v (recsTo base next bs k ++ headB base next k bs.length ++ (padC bs k).take j) ∧ Keeps Non w' wi) (fun _ i _ => 68 * k + 68 - (intOf i).toNat)
      case atStart => exact ⟨0, by omega, by go_num, by simpa using oo5, kk5⟩
      case round =>
        obtain ⟨j, hj, rfl, hO, hK⟩ := hrel
        have hsz := hK.size
        obtain ⟨i, hi⟩ : ∃ i, i = 68 * k + j := ⟨_, rfl⟩
        rw [← hi]
        have HI := Lib.hid hi
        by_cases hlt2 : j < 68
        · have d1 : (i : Int) < 68 * (k : Int) + 68 := by omega
          have ht := padC_take bs k j hlt2
          rw [← hi] at ht
          have HT := Lib.hid ht
          clear hi ht
          by_cases hin : i < bs.length
          · have d2 : (i : Int) < (bs.length : Int) := by omega
            obtain ⟨b, off, rfl, hc0⟩ := HA.out.at_ hin
            have hcell : wr.cell? ⟨b, off + i, none⟩ = some (.int .u8 bs[i].toNat) := hK.cell hc0 id
            clear hc0
            go_wp2_with (at_builtin; refine wpList_append_bytes rfl (.tmp 62) (.tmp 64) 31 rfl w'.heap.size 5 Try.underlying31 info5 _ (recsTo base next bs k ++ headB base next k bs.length ++ (padC bs k).take j) rfl (hO.non ((Keeps.refl Non _).alloc _)) (some ⟨wr.heap.size, 0, none⟩) 1 1 [bs[i]] rfl rfl (At.one _ _ _ _ rfl) (by simp only [List.length_append, recsTo_length, headB_length, List.length_take, padC_length, List.length_cons, List.length_nil]; omega) (by simp; omega) ?_; intro v6 w6 oo6 hK6 hat6; have kk6 := grow_step hO.new (hK.alloc _) hK6; clear hO hK hK6 hat6)
            go_roundw
            case rel =>
              refine ⟨j + 1, by omega, ?_, ?_, kk6⟩
              · have := HI.out; subst this; go_num
              · rw [HT.out, List.getD_eq_getElem?_getD, List.getElem?_eq_getElem hin]
                simpa using oo6
            case measure => simp [intOf]; omega
          · have d2 : ¬ (i : Int) < (bs.length : Int) := by omega
            go_wp2_with (at_builtin; refine wpList_append_bytes rfl (.tmp 62) (.tmp 64) 31 rfl w'.heap.size 5 Try.underlying31 info5 _ (recsTo base next bs k ++ headB base next k bs.length ++ (padC bs k).take j) rfl (hO.non ((Keeps.refl Non _).alloc _)) (some ⟨wr.heap.size, 0, none⟩) 1 1 [0] rfl rfl (At.one _ _ _ _ rfl) (by simp only [List.length_append, recsTo_length, headB_length, List.length_take, padC_length, List.length_cons, List.length_nil]; omega) (by simp; omega) ?_; intro v6 w6 oo6 hK6 hat6; have kk6 := grow_step hO.new (hK.alloc _) hK6; clear hO hK hK6 hat6)
            go_roundw
            case rel =>
              refine ⟨j + 1, by omega, ?_, ?_, kk6⟩
              · have := HI.out; subst this; go_num
              · rw [HT.out, List.getD_eq_getElem?_getD, List.getElem?_eq_none (by omega)]
                simpa using oo6
            case measure => simp [intOf]; omega
        · obtain rfl : j = 68 := by omega
          have d1 : ¬ (i : Int) < 68 * (k : Int) + 68 := by omega
          go_wp2
          go_roundw
          case rel =>
            refine ⟨k + 1, by omega, by go_num, ?_, hK⟩
            rw [List.take_of_length_le (by rw [padC_length]; omega)] at hO
            rw [recsTo, pieceB]
            simpa [padC] using hO
          case measure => simp [intOf]; omega
    · obtain rfl : k = pieces bs.length := by omega
      go_wp2
      go_ret
      exact ⟨_, rfl, hO, hK⟩
end Go.Proofs.Ytmlffigfhhoihaa
