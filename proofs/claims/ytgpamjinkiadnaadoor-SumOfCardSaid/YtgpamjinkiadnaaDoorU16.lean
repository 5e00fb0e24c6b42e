/- SHA-256, the document's. -/
import Derived.Test.YtgpamjinkiadnaaDoorU6
import Derived.Test.YtgpamjinkiadnaaDoorU3
import Derived.Test.YtgpamjinkiadnaaDoorU12
namespace Go.Proofs.YtgpamjinkiadnaaDoor
open Go.RowKit Go.Uc

/-- What the laid tables give, the document's too. -/
def Good2 (w : World) : Prop := Good w ∧ Tab w 0 oct0.words ∧ Tab w 1 roundsK
theorem Good2.keep {S : Nat → Prop} {w w' : World} (h : Good2 w) (hk : Keeps S w w') (hs : ∀ k, k ≤ 6 → ¬ S k) : Good2 w' :=
  ⟨h.1.keep hk (hs 2 (by omega)) (hs 6 (by omega)), h.2.1.keep hk (hs 0 (by omega)), h.2.2.keep hk (hs 1 (by omega))⟩
theorem Good2.non {w w' : World} (h : Good2 w) (hk : Keeps Non w w') : Good2 w' := h.keep hk fun _ _ e => e

set_option maxRecDepth 100000 in
set_option maxHeartbeats 4000000 in
theorem refsha_any (A : Option Addr) (c : Nat) (bs : List UInt8) (w : World) (hA : At w A bs) (hn : bs.length ≤ 140737488351240) (hG : Good2 w) :
    Calls Tryd.prog 21 #[.slice A bs.length c] w fun e w' => e = .returned (shaP roundsK bs).v ∧ Keeps Non w w' := by
  have h6 : 6 < w.heap.size := World.block_lt_of_cell? w _ hG.1.2
  have c0 : (w.alloc (.cells #[.int .u64 0, .int .u64 0, .int .u64 0, .int .u64 0] 25)).cell? ⟨0, 0, none⟩ = some (.int .u32 (v32 oct0.a)) := ((Keeps.refl Non w).alloc _).cell (hG.2.1 0 (by decide)) id
  have c1 : (w.alloc (.cells #[.int .u64 0, .int .u64 0, .int .u64 0, .int .u64 0] 25)).cell? ⟨0, 1, none⟩ = some (.int .u32 (v32 oct0.b)) := ((Keeps.refl Non w).alloc _).cell (hG.2.1 1 (by decide)) id
  have c2 : (w.alloc (.cells #[.int .u64 0, .int .u64 0, .int .u64 0, .int .u64 0] 25)).cell? ⟨0, 2, none⟩ = some (.int .u32 (v32 oct0.c)) := ((Keeps.refl Non w).alloc _).cell (hG.2.1 2 (by decide)) id
  have c3 : (w.alloc (.cells #[.int .u64 0, .int .u64 0, .int .u64 0, .int .u64 0] 25)).cell? ⟨0, 3, none⟩ = some (.int .u32 (v32 oct0.d)) := ((Keeps.refl Non w).alloc _).cell (hG.2.1 3 (by decide)) id
  have c4 : (w.alloc (.cells #[.int .u64 0, .int .u64 0, .int .u64 0, .int .u64 0] 25)).cell? ⟨0, 4, none⟩ = some (.int .u32 (v32 oct0.e)) := ((Keeps.refl Non w).alloc _).cell (hG.2.1 4 (by decide)) id
  have c5 : (w.alloc (.cells #[.int .u64 0, .int .u64 0, .int .u64 0, .int .u64 0] 25)).cell? ⟨0, 5, none⟩ = some (.int .u32 (v32 oct0.f)) := ((Keeps.refl Non w).alloc _).cell (hG.2.1 5 (by decide)) id
  have c6 : (w.alloc (.cells #[.int .u64 0, .int .u64 0, .int .u64 0, .int .u64 0] 25)).cell? ⟨0, 6, none⟩ = some (.int .u32 (v32 oct0.g)) := ((Keeps.refl Non w).alloc _).cell (hG.2.1 6 (by decide)) id
  have c7 : (w.alloc (.cells #[.int .u64 0, .int .u64 0, .int .u64 0, .int .u64 0] 25)).cell? ⟨0, 7, none⟩ = some (.int .u32 (v32 oct0.h)) := ((Keeps.refl Non w).alloc _).cell (hG.2.1 7 (by decide)) id
  go_enter Tryd.func21, Tryd.ntmps21
  go_wp2_with fail
  clear c0 c1 c2 c3 c4 c5 c6 c7
  obtain ⟨W0, hW0⟩ : ∃ W : World, W = (w.alloc (.cells #[.int .u64 0, .int .u64 0, .int .u64 0, .int .u64 0] 25)).alloc (.cells #[.int .u32 (v32 oct0.a), .int .u32 (v32 oct0.b), .int .u32 (v32 oct0.c), .int .u32 (v32 oct0.d), .int .u32 (v32 oct0.e), .int .u32 (v32 oct0.f), .int .u32 (v32 oct0.g), .int .u32 (v32 oct0.h)] 55) := ⟨_, rfl⟩
  have hR : Blk W0 w.heap.size 25 #[.int .u64 0, .int .u64 0, .int .u64 0, .int .u64 0] := by rw [hW0]; exact (Blk.new w 25 #[.int .u64 0, .int .u64 0, .int .u64 0, .int .u64 0]).alloc _
  have hS : Blk W0 (w.heap.size + 1) 55 (cw oct0.words) := by
    have := Blk.new (w.alloc (.cells #[.int .u64 0, .int .u64 0, .int .u64 0, .int .u64 0] 25)) 55 (cw oct0.words)
    rw [hW0, show (#[.int .u32 (v32 oct0.a), .int .u32 (v32 oct0.b), .int .u32 (v32 oct0.c), .int .u32 (v32 oct0.d), .int .u32 (v32 oct0.e), .int .u32 (v32 oct0.f), .int .u32 (v32 oct0.g), .int .u32 (v32 oct0.h)] : Array Value) = cw oct0.words from rfl]; simpa using this
  have hK : Keeps Non w W0 := by rw [hW0]; exact ((Keeps.refl _ _).alloc _).alloc _
  have hz : w.heap.size + 2 ≤ W0.heap.size := by rw [hW0]; simp
  rw [← hW0]
  clear hW0
  obtain ⟨b, hb⟩ : ∃ b, b = w.heap.size := ⟨_, rfl⟩
  rw [← hb] at hR hS hz h6 ⊢
  have hbL : w.heap.size ≤ b := by omega
  clear hb
  refine (padded_any A c bs W0 (hA.non hK) hn).mono ?_
  rintro e w1 ⟨v, rfl, hO, hK1⟩
  obtain ⟨P, hPd⟩ : ∃ P, P = padP bs := ⟨_, rfl⟩
  rw [← hPd] at hO
  have hP64 : P.length % 64 = 0 := by rw [hPd]; exact padP_mod bs
  have hP0 : 0 < P.length := by rw [hPd, padP_length]; omega
  have hPm : P.length ≤ 140737488351320 := by rw [hPd, padP_length]; have := gaps_lt bs.length; omega
  obtain ⟨g, cap, cur, rfl, hgb, hBg, hcap, hcm, hcs, hcur⟩ := (hO.form).resolve_left (fun h => by rw [h.2] at hP0; exact absurd hP0 (by simp))
  have hLi : Lies w1 g 0 P := fun i hi => by
    rw [Nat.zero_add, hBg.cell]
    have e1 : (cur.toList.take P.length)[i]? = some (bv P[i]) := by rw [hcur]; simp [hi]
    rw [List.getElem?_take, if_pos hi] at e1
    rw [List.getD_eq_getElem?_getD, List.getElem?_eq_getElem hi]
    simpa [bv] using e1
  have hS1 := hS.non hK1
  have hR1 := hR.non hK1
  have hKr : Keeps Non w w1 := hK.non hK1
  have hG1 := hG.non hKr
  have hgr := hBg.lt
  have hgb2 : b + 2 ≤ g := by omega
  have HPd := Lib.hid hPd
  clear hPd hO hBg hcur hcs hS hR hK hK1 hz hgb hA
  obtain ⟨D, hD⟩ : ∃ D, D = P.length := ⟨_, rfl⟩
  rw [← hD] at hP64 hP0 hPm hcap ⊢
  have HD := Lib.hid hD
  clear hD
  have hcapI : (cap : Int) ≤ 9223372036854775807 := by unfold maxLen at hcm; omega
  clear hcm
  go_wp2_with fail
  go_loopw [5] (fun i wr => ∃ n, 64 * n ≤ D ∧ i = .int .i64 ((64 * n : Nat) : Int) ∧ Blk wr (b + 1) 55 (cw (chain roundsK oct0 P n).words) ∧ Keeps (Only (b + 1)) w1 wr) (fun i _ => D - (intOf i).toNat)
  case atStart => exact ⟨0, by omega, rfl, hS1, Keeps.refl _ _⟩
  case round =>
    obtain ⟨n, hn64, rfl, hSn, hKn⟩ := hrel
    obtain ⟨o, ho⟩ : ∃ o, o = 64 * n := ⟨_, rfl⟩
    rw [← ho] at hn64 ⊢
    by_cases hlt : o < D
    · have hoD : o + 64 ≤ D := by omega
      have Ho := Lib.hid ho
      clear ho
      have i0 : (0 : Int) ≤ (o : Int) := by omega
      have i1 : (o : Int) < (D : Int) := by omega
      have i2 : IntKind.i64.wrap ((o : Int) + 64) = (o : Int) + 64 := by rw [IntKind.wrap_i64]; omega
      have i3 : (o : Int) + 64 ≤ (cap : Int) := by omega
      have i4 : ((o : Int) + 64).toNat = o + 64 := by omega
      have i5 : ((o : Int)).toNat = o := by omega
      have i6 : (o : Int) ≤ (o : Int) + 64 := by omega
      have i7 : ¬ cap = o := by omega
      have i8 : o + 64 - o = 64 := by omega
      obtain ⟨bk, hbk⟩ : ∃ bk, bk = (P.drop o).take 64 := ⟨_, rfl⟩
      obtain ⟨s, hs⟩ : ∃ s, s = chain roundsK oct0 P n := ⟨_, rfl⟩
      have hbl : bk.length = 64 := by rw [hbk]; have := HD.out; simp; omega
      have hLb : Lies wr g o bk := fun i hi => by
        have h := (hLi.keep hKn (by show ¬ g = b + 1; omega)) (o + i) (by have := HD.out; omega)
        rw [Nat.zero_add] at h
        rw [h, hbk, List.getD_eq_getElem?_getD, List.getD_eq_getElem?_getD, List.getElem?_take, if_pos (by omega), List.getElem?_drop]
      rw [← hs] at hSn
      have Hbs := Lib.hid (And.intro hbk hs)
      clear hbk hs
      obtain ⟨wx, rfl⟩ : ∃ W : World, W = wr := ⟨_, rfl⟩
      go_wp2_with fail
      refine (words_any bk hbl g o (cap - o) (by omega) wx hLb).mono ?_
      rintro e w2 ⟨g2, rfl, hg2, hB2, hK2⟩
      have hS2 := hSn.non hK2
      have hb2 := hS2.lt
      have hg2l := hB2.lt
      have hxg : b + 2 ≤ g2 := by have := hKn.size; omega
      have c0 : w2.cell? ⟨b + 1, 0, none⟩ = some (.int .u32 (v32 s.a)) := hS2.cell 0
      have c1 : w2.cell? ⟨b + 1, 1, none⟩ = some (.int .u32 (v32 s.b)) := hS2.cell 1
      have c2 : w2.cell? ⟨b + 1, 2, none⟩ = some (.int .u32 (v32 s.c)) := hS2.cell 2
      have c3 : w2.cell? ⟨b + 1, 3, none⟩ = some (.int .u32 (v32 s.d)) := hS2.cell 3
      have c4 : w2.cell? ⟨b + 1, 4, none⟩ = some (.int .u32 (v32 s.e)) := hS2.cell 4
      have c5 : w2.cell? ⟨b + 1, 5, none⟩ = some (.int .u32 (v32 s.f)) := hS2.cell 5
      have c6 : w2.cell? ⟨b + 1, 6, none⟩ = some (.int .u32 (v32 s.g)) := hS2.cell 6
      have c7 : w2.cell? ⟨b + 1, 7, none⟩ = some (.int .u32 (v32 s.h)) := hS2.cell 7
      go_wp2_with fail
      clear c0 c1 c2 c3 c4 c5 c6 c7
      obtain ⟨w3, hw3⟩ : ∃ W : World, W = w2.alloc (.cells #[.int .u32 (v32 s.a), .int .u32 (v32 s.b), .int .u32 (v32 s.c), .int .u32 (v32 s.d), .int .u32 (v32 s.e), .int .u32 (v32 s.f), .int .u32 (v32 s.g), .int .u32 (v32 s.h)] 55) := ⟨_, rfl⟩
      have hV3 : Blk w3 w2.heap.size 55 (cw s.words) := by rw [hw3]; exact Blk.new w2 55 (cw s.words)
      have hS3 : Blk w3 (b + 1) 55 (cw s.words) := by rw [hw3]; exact hS2.alloc _
      have hB3 : Blk w3 g2 54 (cw (sched bk)) := by rw [hw3]; exact hB2.alloc _
      have hK3 : Keeps (Only (b + 1)) w1 w3 := by rw [hw3]; exact (hKn.non hK2).alloc _
      rw [← hw3]
      have hw1v : w1.heap.size ≤ w2.heap.size := by have := hKn.size; have := hK2.size; omega
      obtain ⟨v, hv⟩ : ∃ v, v = w2.heap.size := ⟨_, rfl⟩
      rw [← hv] at hV3 hb2 hg2l hw1v ⊢
      clear hw3 hv hS2 hB2 hSn hKn hK2 hLb
      have hT3 : Tab w3 1 roundsK := (hG1.keep hK3 (fun k hk e => by have : k = b + 1 := e; omega)).2.2
      go_wp2_with fail
      go_loopw [8] (fun t wr => ∃ (m : Nat) (q : Oct), m ≤ 64 ∧ t = .int .i64 m ∧ q = rounds roundsK (sched bk) m s ∧ Blk wr v 55 (cw q.words) ∧ Keeps (Only v) w3 wr) (fun t _ => 64 - (intOf t).toNat)
      case atStart => exact ⟨0, s, by omega, rfl, rfl, hV3, Keeps.refl _ _⟩
      case round =>
        obtain ⟨m, q, hm, rfl, hq, hVm, hKm⟩ := hrel
        have hBm := hB3.one hKm (by omega)
        by_cases hm64 : m < 64
        · obtain ⟨x, hx⟩ : ∃ x, x = (sched bk).getD m 0 := ⟨_, rfl⟩
          obtain ⟨y, hy⟩ : ∃ y, y = roundsK.getD m 0 := ⟨_, rfl⟩
          have ht : wr.cell? ⟨1, m, none⟩ = some (.int .u32 (v32 y)) := by rw [hy]; exact (hT3.keep hKm (by show ¬ 1 = v; omega)) m hm64
          have hwx : wr.cell? ⟨g2, m, none⟩ = some (.int .u32 (v32 x)) := by
            rw [hx, hBm.cell, cw_get, List.getElem?_eq_getElem (by rw [sched_length]; exact hm64), List.getD_eq_getElem?_getD, List.getElem?_eq_getElem (by rw [sched_length]; exact hm64)]; rfl
          obtain ⟨qa, qb, qc, qd, qe, qf, qg, qh⟩ := q
          have HQ := Lib.hid (And.intro hq (And.intro hx hy))
          clear hq hx hy
          have k0 : (0 : Int) ≤ (m : Int) := by omega
          have k1 : (m : Int) < 64 := by omega
          have k2 : ((m : Int)).toNat = m := by omega
          obtain ⟨wy, rfl⟩ : ∃ W : World, W = wr := ⟨_, rfl⟩
          have c0 : wy.cell? ⟨v, 0, none⟩ = some (.int .u32 (v32 qa)) := hVm.cell 0
          have c1 : wy.cell? ⟨v, 1, none⟩ = some (.int .u32 (v32 qb)) := hVm.cell 1
          have c2 : wy.cell? ⟨v, 2, none⟩ = some (.int .u32 (v32 qc)) := hVm.cell 2
          have c3 : wy.cell? ⟨v, 3, none⟩ = some (.int .u32 (v32 qd)) := hVm.cell 3
          have c4 : wy.cell? ⟨v, 4, none⟩ = some (.int .u32 (v32 qe)) := hVm.cell 4
          have c5 : wy.cell? ⟨v, 5, none⟩ = some (.int .u32 (v32 qf)) := hVm.cell 5
          have c6 : wy.cell? ⟨v, 6, none⟩ = some (.int .u32 (v32 qg)) := hVm.cell 6
          have c7 : wy.cell? ⟨v, 7, none⟩ = some (.int .u32 (v32 qh)) := hVm.cell 7
          go_wp2_with fail
          have ha := add32
          have hxo := xor32
          have hand := and32
          have hnot := not32
          refine wp_region_still_lit (by kernel_rfl) (by kernel_rfl) ?_
          repeat still_step
          still_call (turned6 qe _)
          repeat still_step
          still_call (turned11 qe _)
          repeat still_step
          still_call (turned25 qe _)
          repeat still_step
          refine wpStill_nil ?_
          obtain ⟨wz, hwz⟩ : ∃ W : World, W = wy.drew := ⟨_, rfl⟩
          have hVz : Blk wz v 55 (cw (⟨qa, qb, qc, qd, qe, qf, qg, qh⟩ : Oct).words) := by rw [hwz]; exact hVm.drew
          have hKz : Keeps (Only v) w3 wz := by rw [hwz]; exact hKm.drew
          rw [show ({ heap := wy.heap, tape := wy.tape, drawn := wy.drawn + 1, os := wy.os, output := wy.output } : World) = wz from hwz.symm]
          clear hwz hVm hKm ht hwx hBm c0 c1 c2 c3 c4 c5 c6 c7
          have c0 : wz.cell? ⟨v, 0, none⟩ = some (.int .u32 (v32 qa)) := hVz.cell 0
          have c1 : wz.cell? ⟨v, 1, none⟩ = some (.int .u32 (v32 qb)) := hVz.cell 1
          have c2 : wz.cell? ⟨v, 2, none⟩ = some (.int .u32 (v32 qc)) := hVz.cell 2
          have c3 : wz.cell? ⟨v, 3, none⟩ = some (.int .u32 (v32 qd)) := hVz.cell 3
          have c4 : wz.cell? ⟨v, 4, none⟩ = some (.int .u32 (v32 qe)) := hVz.cell 4
          have c5 : wz.cell? ⟨v, 5, none⟩ = some (.int .u32 (v32 qf)) := hVz.cell 5
          have c6 : wz.cell? ⟨v, 6, none⟩ = some (.int .u32 (v32 qg)) := hVz.cell 6
          have c7 : wz.cell? ⟨v, 7, none⟩ = some (.int .u32 (v32 qh)) := hVz.cell 7
          go_wp2_with fail
          refine wp_region_still_lit (by kernel_rfl) (by kernel_rfl) ?_
          repeat still_step
          still_call (turned2 qa _)
          repeat still_step
          still_call (turned13 qa _)
          repeat still_step
          still_call (turned22 qa _)
          repeat still_step
          refine wpStill_nil ?_
          obtain ⟨wq, hwq⟩ : ∃ W : World, W = wz.drew := ⟨_, rfl⟩
          have hVq : Blk wq v 55 (cw (⟨qa, qb, qc, qd, qe, qf, qg, qh⟩ : Oct).words) := by rw [hwq]; exact hVz.drew
          have hKq : Keeps (Only v) w3 wq := by rw [hwq]; exact hKz.drew
          rw [show ({ heap := wz.heap, tape := wz.tape, drawn := wz.drawn + 1, os := wz.os, output := wz.output } : World) = wq from hwq.symm]
          clear hwq hVz hKz c0 c1 c2 c3 c4 c5 c6 c7
          have c0 : wq.cell? ⟨v, 0, none⟩ = some (.int .u32 (v32 qa)) := hVq.cell 0
          have c1 : wq.cell? ⟨v, 1, none⟩ = some (.int .u32 (v32 qb)) := hVq.cell 1
          have c2 : wq.cell? ⟨v, 2, none⟩ = some (.int .u32 (v32 qc)) := hVq.cell 2
          have c3 : wq.cell? ⟨v, 3, none⟩ = some (.int .u32 (v32 qd)) := hVq.cell 3
          have c4 : wq.cell? ⟨v, 4, none⟩ = some (.int .u32 (v32 qe)) := hVq.cell 4
          have c5 : wq.cell? ⟨v, 5, none⟩ = some (.int .u32 (v32 qf)) := hVq.cell 5
          have c6 : wq.cell? ⟨v, 6, none⟩ = some (.int .u32 (v32 qg)) := hVq.cell 6
          have c7 : wq.cell? ⟨v, 7, none⟩ = some (.int .u32 (v32 qh)) := hVq.cell 7
          go_wp2_with ((with_reducible show wpList _ _ _ ({ dst := none, op := Op.store 55 _ _, type := _, pos := _, after := _, guard := _ } :: _) _ _); go_must (refine wpList_store_blk rfl 55 (.tmp 7) (.tmp 110) rfl v (cw ((⟨qa, qb, qc, qd, qe, qf, qg, qh⟩ : Oct).round y x).words) rfl rfl 55 (cw (⟨qa, qb, qc, qd, qe, qf, qg, qh⟩ : Oct).words) hVq (by kernel_rfl) rfl (cw_all _) ?_); intro w5 hV5 hK5)
          have hK6 : Keeps (Only v) w3 w5 := hKq.trans hK5
          clear hVq hKq hK5 c0 c1 c2 c3 c4 c5 c6 c7
          go_wp2_with fail
          go_roundw
          case rel =>
            obtain ⟨hq, hx, hy⟩ := HQ.out
            exact ⟨m + 1, (⟨qa, qb, qc, qd, qe, qf, qg, qh⟩ : Oct).round y x, by omega, by go_num, by rw [hq, hx, hy]; rfl, hV5, hK6⟩
          case measure => simp [intOf]; omega
        · obtain rfl : m = 64 := by omega
          have hSm := hS3.one hKm (by omega)
          have HQ := Lib.hid hq
          clear hq hm64 hm hBm hV3 hB3 hT3
          obtain ⟨w4, rfl⟩ : ∃ W : World, W = wr := ⟨_, rfl⟩
          go_wp2_with fail
          rw [show ((64 : Nat) : Int) = 64 from rfl]
          go_loopw [13] (fun i wr => ∃ k : Nat, k ≤ 8 ∧ i = .int .i64 k ∧ Blk wr (b + 1) 55 (cw (upto s q k)) ∧ Keeps (Only (b + 1)) w4 wr) (fun i _ => 8 - (intOf i).toNat)
          case atStart => exact ⟨0, by omega, rfl, hSm, Keeps.refl _ _⟩
          case round =>
            obtain ⟨k, hk, rfl, hBk, hKk⟩ := hrel
            by_cases hk8 : k < 8
            · obtain ⟨x, hx⟩ : ∃ x, x = q.words.getD k 0 := ⟨_, rfl⟩
              obtain ⟨y, hy⟩ : ∃ y, y = s.words.getD k 0 := ⟨_, rfl⟩
              have hVk := hVm.one hKk (by omega)
              have hc1 : wr.cell? ⟨b + 1, k, none⟩ = some (.int .u32 (v32 y)) := by rw [hBk.cell, cw_get, upto_get s q k hk8, hy]; rfl
              have hc2 : wr.cell? ⟨v, k, none⟩ = some (.int .u32 (v32 x)) := by
                rw [hx, hVk.cell, cw_get, List.getElem?_eq_getElem (show k < q.words.length from hk8), List.getD_eq_getElem?_getD, List.getElem?_eq_getElem (show k < q.words.length from hk8)]; rfl
              have hf := hBk.frozen k
              have HX := Lib.hid (And.intro hx hy)
              clear hx hy hVk
              have k0 : (0 : Int) ≤ (k : Int) := by omega
              have k1 : (k : Int) < 8 := by omega
              have k2 : ((k : Int)).toNat = k := by omega
              have ha := add32
              obtain ⟨wy, rfl⟩ : ∃ W : World, W = wr := ⟨_, rfl⟩
              go_wp2_with fail
              go_still_tail 9, (by kernel_rfl)
              go_wp2
              go_roundw
              case rel =>
                obtain ⟨hx, hy⟩ := HX.out
                have hB' := (hBk.set k (wv (y + x))).drew
                rw [cw_set, hx, hy, upto_set s q k hk8, ← hx, ← hy] at hB'
                exact ⟨k + 1, by omega, by go_num, hB', (hKk.set (p := ⟨b + 1, k, none⟩) rfl _).drew⟩
              case measure => simp [intOf]; omega
            · obtain rfl : k = 8 := by omega
              have hBz : Blk wr (b + 1) 55 (cw (s.plus q).words) := hBk
              have hKz : Keeps (Only (b + 1)) w1 wr := (hK3.then hKm (fun i hi e => absurd e (by show ¬ i = v; omega))).trans hKk
              have i9 : IntKind.i64.wrap ((o : Int) + 64) = ((o + 64 : Nat) : Int) := by rw [IntKind.wrap_i64]; omega
              clear hBk hKk hVm hKm hSm hS3 hK3 hk8 hk
              obtain ⟨wy, rfl⟩ : ∃ W : World, W = wr := ⟨_, rfl⟩
              go_wp2_with fail
              go_roundw
              case rel =>
                have ho := Ho.out
                obtain ⟨hbk, hs⟩ := Hbs.out
                have hch : chain roundsK oct0 P (n + 1) = s.plus q := by rw [HQ.out, hs, hbk, ho]; rfl
                exact ⟨n + 1, by omega, by rw [show 64 * (n + 1) = o + 64 by omega]; go_num, by rw [hch]; exact hBz, hKz⟩
              case measure => simp [intOf]; omega
    · have hoD : o = D := by omega
      obtain ⟨s, hs⟩ : ∃ s, s = chain roundsK oct0 P n := ⟨_, rfl⟩
      have hfin : shaP roundsK bs = s.sum := by
        unfold shaP
        rw [← HPd.out, hs, show P.length / 64 = n by have := HD.out; omega]
      rw [← hs] at hSn
      have hRw := hR1.one hKn (by omega)
      have hKz : Keeps Non w wr := hKr.then hKn (fun i hi e => absurd e (by show ¬ i = b + 1; omega))
      have HF := Lib.hid hfin
      have i1 : ¬ (o : Int) < (D : Int) := by omega
      clear hs hfin ho hn64 hR1 hS1 hKn hKr hLi hG1 hlt hoD
      obtain ⟨wx, rfl⟩ : ∃ W : World, W = wr := ⟨_, rfl⟩
      have c0 : wx.cell? ⟨b + 1, 0, none⟩ = some (.int .u32 (v32 s.a)) := hSn.cell 0
      have c1 : wx.cell? ⟨b + 1, 1, none⟩ = some (.int .u32 (v32 s.b)) := hSn.cell 1
      have c2 : wx.cell? ⟨b + 1, 2, none⟩ = some (.int .u32 (v32 s.c)) := hSn.cell 2
      have c3 : wx.cell? ⟨b + 1, 3, none⟩ = some (.int .u32 (v32 s.d)) := hSn.cell 3
      have c4 : wx.cell? ⟨b + 1, 4, none⟩ = some (.int .u32 (v32 s.e)) := hSn.cell 4
      have c5 : wx.cell? ⟨b + 1, 5, none⟩ = some (.int .u32 (v32 s.f)) := hSn.cell 5
      have c6 : wx.cell? ⟨b + 1, 6, none⟩ = some (.int .u32 (v32 s.g)) := hSn.cell 6
      have c7 : wx.cell? ⟨b + 1, 7, none⟩ = some (.int .u32 (v32 s.h)) := hSn.cell 7
      have hsp := shl_pair
      have hop := or_pair
      have l0 := v32_nonneg
      have l1 := v32_le
      have hwr : ∀ x : BitVec 32, IntKind.u64.wrap (v32 x) = v32 x := fun x => by rw [IntKind.wrap_u64]; have := v32_nonneg x; have := v32_le x; omega
      go_wp2_with ((with_reducible show wpList _ _ _ ({ dst := none, op := Op.store 25 _ _, type := _, pos := _, after := _, guard := _ } :: _) _ _); go_must (refine wpList_store_blk rfl 25 (.tmp 2) (.tmp 156) rfl b #[.int .u64 (v64 (pair s.a s.b)), .int .u64 (v64 (pair s.c s.d)), .int .u64 (v64 (pair s.e s.f)), .int .u64 (v64 (pair s.g s.h))] rfl rfl 25 _ hRw (by kernel_rfl) rfl (by kernel_rfl) ?_); intro w7 hR8 hK8; have hK9 : Keeps Non w w7 := hKz.then hK8 (fun i hi e => absurd e (by show ¬ i = b; omega)); clear hRw hKz hK8)
      exact bodyPost_ret (v := s.sum.v) (results_cell_blk rfl _ b 25 _ _ rfl hR8 Tryd.underlying25 rfl (by kernel_rfl)) rfl ⟨by rw [HF.out], hK9⟩
#print axioms refsha_any
end Go.Proofs.YtgpamjinkiadnaaDoor
