/- The rounds of a block (mixed). -/
import Derived.Test.YtbkhfemoogcpkaaDoorU2
namespace Go.Proofs.YtbkhfemoogcpkaaDoor
open Go.RowKit Go.Uc

/-- A state of eight words. -/
structure Oct where
  a : BitVec 32
  b : BitVec 32
  c : BitVec 32
  d : BitVec 32
  e : BitVec 32
  f : BitVec 32
  g : BitVec 32
  h : BitVec 32
def Oct.words (s : Oct) : List (BitVec 32) := [s.a, s.b, s.c, s.d, s.e, s.f, s.g, s.h]
def Oct.t1 (s : Oct) (k x : BitVec 32) : BitVec 32 := s.h + (ror s.e 6 ^^^ ror s.e 11 ^^^ ror s.e 25) + (s.e &&& s.f ^^^ ~~~s.e &&& s.g) + k + x
def Oct.t2 (s : Oct) : BitVec 32 := (ror s.a 2 ^^^ ror s.a 13 ^^^ ror s.a 22) + (s.a &&& s.b ^^^ s.a &&& s.c ^^^ s.b &&& s.c)
/-- One round. -/
def Oct.round (s : Oct) (k x : BitVec 32) : Oct := ⟨s.t1 k x + s.t2, s.a, s.b, s.c, s.d + s.t1 k x, s.e, s.f, s.g⟩
/-- n rounds. -/
def rounds (K W : List (BitVec 32)) : Nat → Oct → Oct
  | 0, s => s
  | n + 1, s => (rounds K W n s).round (K.getD n 0) (W.getD n 0)
def Oct.plus (s t : Oct) : Oct := ⟨s.a + t.a, s.b + t.b, s.c + t.c, s.d + t.d, s.e + t.e, s.f + t.f, s.g + t.g, s.h + t.h⟩
/-- The words in a table. -/
def Tab (w : World) (g : Nat) (W : List (BitVec 32)) : Prop := ∀ i, i < W.length → w.cell? ⟨g, i, none⟩ = some (.int .u32 (v32 (W.getD i 0)))
theorem Tab.keep {S : Nat → Prop} {w w' : World} {g : Nat} {W : List (BitVec 32)} (h : Tab w g W) (hk : Keeps S w w') (hg : ¬ S g) : Tab w' g W := fun i hi => hk.cell (h i hi) hg
theorem zero68 (w : World) : (zeroValue 68).run Tryd.prog w = .ok (.agg (cw (zw 8))) w := by kernel_rfl

theorem not32 (x : BitVec 32) : bits .xor .u32 (if IntKind.u32.signed = true then -1 else IntKind.u32.max) (v32 x) = v32 (~~~x) := by
  have : (if IntKind.u32.signed = true then (-1 : Int) else IntKind.u32.max) = v32 (BitVec.allOnes 32) := by kernel_rfl
  rw [this, xor32, BitVec.allOnes_xor]
/-- The first k words added to a state's. -/
def upto (s q : Oct) (k : Nat) : List (BitVec 32) := (List.range 8).map fun j => if j < k then s.words.getD j 0 + q.words.getD j 0 else s.words.getD j 0
theorem upto_get (s q : Oct) (k : Nat) (h : k < 8) : (upto s q k)[k]? = some (s.words.getD k 0) := by
  unfold upto; rw [List.getElem?_map, List.getElem?_range h]; simp
theorem upto_set (s q : Oct) (k : Nat) (h : k < 8) : (upto s q k).set k (s.words.getD k 0 + q.words.getD k 0) = upto s q (k + 1) := by
  match k, h with
  | 0, _ => rfl
  | 1, _ => rfl
  | 2, _ => rfl
  | 3, _ => rfl
  | 4, _ => rfl
  | 5, _ => rfl
  | 6, _ => rfl
  | 7, _ => rfl
theorem index57 (V : List (BitVec 32)) (hV : V.length = 64) (n : Nat) (hn : n < 64) (x : BitVec 32) (hx : x = V.getD n 0) (w : World) :
    (Instr.index 70 (.agg (cw V)) (.int .i64 (n : Int))).run Tryd.prog w = .ok (.int .u32 (v32 x)) w := by
  unfold Instr.index
  simp [asIntOf, run_underlying Tryd.underlying70, go_sem]
  rw [if_pos hn, cw_get, List.getElem?_eq_getElem (by omega), hx, List.getD_eq_getElem?_getD, List.getElem?_eq_getElem (by omega)]
  rfl
theorem index55 (V : List (BitVec 32)) (hV : V.length = 8) (n : Nat) (hn : n < 8) (x : BitVec 32) (hx : x = V.getD n 0) (w : World) :
    (Instr.index 68 (.agg (cw V)) (.int .i64 (n : Int))).run Tryd.prog w = .ok (.int .u32 (v32 x)) w := by
  unfold Instr.index
  simp [asIntOf, run_underlying Tryd.underlying68, go_sem]
  rw [if_pos hn, cw_get, List.getElem?_eq_getElem (by omega), hx, List.getD_eq_getElem?_getD, List.getElem?_eq_getElem (by omega)]
  rfl

set_option maxRecDepth 100000 in
set_option maxHeartbeats 1000000 in
theorem mixed_any (K W : List (BitVec 32)) (hK : K.length = 64) (hW : W.length = 64) (s : Oct) (w : World) (hT : Tab w 0 K) :
    Calls Tryd.prog 30 #[.agg (cw s.words), .agg (cw W)] w fun e w' => e = .returned (.agg (cw (s.plus (rounds K W 64 s)).words)) ∧ Keeps Non w w' := by
  have hz := zero68
  go_enter Tryd.func30, Tryd.ntmps30
  go_wp2_with fail
  have hS : Blk (((w.alloc (.cells (cw s.words) 68)).alloc (.cells (cw W) 70)).alloc (.cells (cw (zw 8)) 68)) w.heap.size 68 (cw s.words) := ((Blk.new w 68 (cw s.words)).alloc _).alloc _
  have hX : Blk (((w.alloc (.cells (cw s.words) 68)).alloc (.cells (cw W) 70)).alloc (.cells (cw (zw 8)) 68)) (w.heap.size + 1) 70 (cw W) := by
    have := (Blk.new (w.alloc (.cells (cw s.words) 68)) 70 (cw W)).alloc (.cells (cw (zw 8)) 68); simpa using this
  have hR : Blk (((w.alloc (.cells (cw s.words) 68)).alloc (.cells (cw W) 70)).alloc (.cells (cw (zw 8)) 68)) (w.heap.size + 1 + 1) 68 (cw (zw 8)) := by
    have := Blk.new ((w.alloc (.cells (cw s.words) 68)).alloc (.cells (cw W) 70)) 68 (cw (zw 8)); simpa using this
  have hK0 : Keeps Non w (((w.alloc (.cells (cw s.words) 68)).alloc (.cells (cw W) 70)).alloc (.cells (cw (zw 8)) 68)) := (((Keeps.refl _ _).alloc _).alloc _).alloc _
  clear hz
  generalize (((w.alloc (.cells (cw s.words) 68)).alloc (.cells (cw W) 70)).alloc (.cells (cw (zw 8)) 68)) = W0 at *
  obtain ⟨b, hbE⟩ : ∃ b, b = w.heap.size := ⟨_, rfl⟩
  have h2 : 0 < w.heap.size := World.block_lt_of_cell? w _ (hT 0 (by omega))
  rw [← hbE] at hS hX hR h2 ⊢
  have hbL : w.heap.size ≤ b := by omega
  clear hbE
  have hT0 := hT.keep hK0 id
  have c0 : W0.cell? ⟨b, 0, none⟩ = some (.int .u32 (v32 s.a)) := hS.cell 0
  have c1 : W0.cell? ⟨b, 1, none⟩ = some (.int .u32 (v32 s.b)) := hS.cell 1
  have c2 : W0.cell? ⟨b, 2, none⟩ = some (.int .u32 (v32 s.c)) := hS.cell 2
  have c3 : W0.cell? ⟨b, 3, none⟩ = some (.int .u32 (v32 s.d)) := hS.cell 3
  have c4 : W0.cell? ⟨b, 4, none⟩ = some (.int .u32 (v32 s.e)) := hS.cell 4
  have c5 : W0.cell? ⟨b, 5, none⟩ = some (.int .u32 (v32 s.f)) := hS.cell 5
  have c6 : W0.cell? ⟨b, 6, none⟩ = some (.int .u32 (v32 s.g)) := hS.cell 6
  have c7 : W0.cell? ⟨b, 7, none⟩ = some (.int .u32 (v32 s.h)) := hS.cell 7
  go_quiet (fail)
  obtain ⟨W1, hW1⟩ : ∃ W : World, W = W0.drewN nq := ⟨_, rfl⟩
  have hS1 : Blk W1 b 68 (cw s.words) := by rw [hW1]; exact hS.drewN nq
  have hX1 : Blk W1 (b + 1) 70 (cw W) := by rw [hW1]; exact hX.drewN nq
  have hR1 : Blk W1 (b + 1 + 1) 68 (cw (zw 8)) := by rw [hW1]; exact hR.drewN nq
  have hK1 : Keeps Non w W1 := by rw [hW1]; exact hK0.drewN nq
  have hT1 : Tab W1 0 K := hT.keep hK1 id
  rw [← hW1]
  clear hW1 hS hX hR hK0 hT0 hT c0 c1 c2 c3 c4 c5 c6 c7
  clear W0
  go_wp2_with ((with_reducible show wpList _ _ _ _ _ _); go_must (refine wpList_load_row (o := ⟨some 35, _, _, _, _, _⟩) rfl 70 (.tmp 3) rfl (b + 1) rfl 70 (cw W) (0, 0) (.array 64 67) hX1 Tryd.underlying70 rfl (by rw [cw_size, hW]; kernel_rfl) ?_))
  go_loopw [36, 5, 6, 7, 8, 9, 10, 11, 12] (fun i v5 v6 v7 v8 v9 v10 v11 v12 wr => ∃ (n : Nat) (q : Oct), n ≤ 64 ∧ i = .int .i64 n ∧ v5 = .int .u32 (v32 q.a) ∧ v6 = .int .u32 (v32 q.b) ∧ v7 = .int .u32 (v32 q.c) ∧ v8 = .int .u32 (v32 q.d) ∧ v9 = .int .u32 (v32 q.e) ∧ v10 = .int .u32 (v32 q.f) ∧ v11 = .int .u32 (v32 q.g) ∧ v12 = .int .u32 (v32 q.h) ∧ q = rounds K W n s ∧ Keeps Non W1 wr) (fun i _ _ _ _ _ _ _ _ _ => 64 - (intOf i).toNat)
  case atStart => exact ⟨0, s, by omega, rfl, rfl, rfl, rfl, rfl, rfl, rfl, rfl, rfl, rfl, Keeps.refl _ _⟩
  case round =>
    obtain ⟨n, q, hn, rfl, rfl, rfl, rfl, rfl, rfl, rfl, rfl, rfl, hq, hK2⟩ := hrel
    by_cases hlt : n < 64
    · obtain ⟨x, hx⟩ : ∃ x, x = W.getD n 0 := ⟨_, rfl⟩
      obtain ⟨y, hy⟩ : ∃ y, y = K.getD n 0 := ⟨_, rfl⟩
      have hi := index57 W hW n hlt x hx
      have ht : wr.cell? ⟨0, n, none⟩ = some (.int .u32 (v32 y)) := by rw [hy]; exact (hT1.keep hK2 id) n (by omega)
      obtain ⟨qa, qb, qc, qd, qe, qf, qg, qh⟩ := q
      have HQ := Lib.hid (And.intro hq (And.intro hx hy))
      clear hq hx hy
      have k0 : (0 : Int) ≤ (n : Int) := by omega
      have k1 : (n : Int) < 64 := by omega
      have k2 : ((n : Int)).toNat = n := by omega
      obtain ⟨wx, rfl⟩ : ∃ W : World, W = wr := ⟨_, rfl⟩
      go_wp2_with fail
      have ha := add32
      have hxo := xor32
      have hand := and32
      have hnot := not32
      refine wp_region_still_lit (by kernel_rfl) (by kernel_rfl) ?_
      repeat still_step
      still_call (rr6 qe _)
      repeat still_step
      still_call (rr11 qe _)
      repeat still_step
      still_call (rr25 qe _)
      repeat still_step
      refine wpStill_nil ?_
      obtain ⟨wy, hwy⟩ : ∃ W : World, W = wx.drew := ⟨_, rfl⟩
      have hK3 : Keeps Non W1 wy := by rw [hwy]; exact hK2.drew
      rw [show ({ heap := wx.heap, tape := wx.tape, drawn := wx.drawn + 1, os := wx.os, output := wx.output } : World) = wy from hwy.symm]
      clear hwy hK2 ht hi hT1
      clear wx
      obtain ⟨wx, rfl⟩ : ∃ W : World, W = wy := ⟨_, rfl⟩
      go_wp2_with fail
      refine (rr2 qa _).mono ?_
      rintro e w' ⟨rfl, rfl⟩
      go_wp2_with fail
      refine (rr13 qa _).mono ?_
      rintro e w' ⟨rfl, rfl⟩
      go_wp2_with fail
      refine (rr22 qa _).mono ?_
      rintro e w' ⟨rfl, rfl⟩
      go_wp2_with fail
      go_roundw
      case rel =>
        obtain ⟨hq, hx, hy⟩ := HQ.out
        exact ⟨n + 1, (⟨qa, qb, qc, qd, qe, qf, qg, qh⟩ : Oct).round y x, by omega, by go_num, rfl, rfl, rfl, rfl, rfl, rfl, rfl, rfl, by rw [hq, hx, hy]; rfl, hK3⟩
      case measure => simp [intOf]; omega
    · obtain rfl : n = 64 := by omega
      have hS2 := hS1.non hK2
      have hR2 := hR1.non hK2
      have hK3 := hK1.non hK2
      clear hS1 hX1 hR1 hK1 hK2 hT1 hlt hn
      have HQ := Lib.hid hq
      clear hq
      obtain ⟨qa, qb, qc, qd, qe, qf, qg, qh⟩ := q
      obtain ⟨wa, rfl⟩ : ∃ W : World, W = wr := ⟨_, rfl⟩
      go_wp2_with fail
      rw [show (#[.int .u32 (v32 qa), .int .u32 (v32 qb), .int .u32 (v32 qc), .int .u32 (v32 qd), .int .u32 (v32 qe), .int .u32 (v32 qf), .int .u32 (v32 qg), .int .u32 (v32 qh)] : Array Value) = cw (⟨qa, qb, qc, qd, qe, qf, qg, qh⟩ : Oct).words from rfl]
      generalize (⟨qa, qb, qc, qd, qe, qf, qg, qh⟩ : Oct) = q at *
      rw [show ((64 : Nat) : Int) = 64 from rfl]
      go_loopw [107] (fun i wr => ∃ k : Nat, k ≤ 8 ∧ i = .int .i64 k ∧ Blk wr b 68 (cw (upto s q k)) ∧ Keeps (Only b) wa wr) (fun i _ => 8 - (intOf i).toNat)
      case atStart => exact ⟨0, by omega, rfl, hS2, Keeps.refl _ _⟩
      case round =>
        obtain ⟨k, hk, rfl, hB, hK4⟩ := hrel
        by_cases hlt : k < 8
        · obtain ⟨x, hx⟩ : ∃ x, x = q.words.getD k 0 := ⟨_, rfl⟩
          obtain ⟨y, hy⟩ : ∃ y, y = s.words.getD k 0 := ⟨_, rfl⟩
          have hi := index55 q.words rfl k hlt x hx
          have hc : wr.cell? ⟨b, k, none⟩ = some (.int .u32 (v32 y)) := by rw [hB.cell, cw_get, upto_get s q k hlt, hy]; rfl
          have hf := hB.frozen k
          have HX := Lib.hid (And.intro hx hy)
          clear hx hy
          have k0 : (0 : Int) ≤ (k : Int) := by omega
          have k1 : (k : Int) < 8 := by omega
          have k2 : ((k : Int)).toNat = k := by omega
          have ha := add32
          obtain ⟨wx, rfl⟩ : ∃ W : World, W = wr := ⟨_, rfl⟩
          go_wp2_with fail
          go_roundw
          case rel =>
            obtain ⟨hx, hy⟩ := HX.out
            have hB' := hB.set k (wv (y + x))
            rw [cw_set, hx, hy, upto_set s q k hlt, ← hx, ← hy] at hB'
            exact ⟨k + 1, by omega, by go_num, hB', hK4.set (p := ⟨b, k, none⟩) rfl _⟩
          case measure => simp [intOf]; omega
        · obtain rfl : k = 8 := by omega
          have hR3 := hR2.one hK4 (by omega)
          have hK5 : Keeps Non w wr := hK3.then hK4 (fun i hi e => absurd e (by show ¬ i = b; omega))
          have hB3 : Blk wr b 68 (cw (s.plus q).words) := hB
          clear hB hK4 hK3 hS2 hR2 hlt hk
          obtain ⟨wx, rfl⟩ : ∃ W : World, W = wr := ⟨_, rfl⟩
          go_wp2_with ((with_reducible show wpList _ _ _ _ _ _); refine wpList_load_row (o := ⟨some 118, _, _, _, _, _⟩) rfl 68 (.tmp 2) rfl b rfl 68 (cw (s.plus q).words) (0, 0) (.array 8 67) hB3 Tryd.underlying68 rfl (by kernel_rfl) ?_; refine wpList_store_blk rfl 68 (.tmp 4) (.tmp 118) rfl (b + 1 + 1) (cw (s.plus q).words) rfl rfl 68 (cw (zw 8)) hR3 (by kernel_rfl) rfl (cw_all _) ?_; intro w7 hR8 hK8; have hK9 : Keeps Non w w7 := hK5.then hK8 (fun i hi e => absurd e (by show ¬ i = b + 1 + 1; omega)); clear hB3 hR3 hK5 hK8; go_wp2_with fail; exact bodyPost_ret (v := .agg (cw (s.plus q).words)) (results_cell_blk rfl _ (b + 1 + 1) 68 _ (.array 8 67) rfl hR8 Tryd.underlying68 rfl (by kernel_rfl)) rfl ⟨by rw [HQ.out], hK9⟩)
end Go.Proofs.YtbkhfemoogcpkaaDoor
