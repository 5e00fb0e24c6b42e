/- The words of a block (schedule). -/
import Derived.Test.YtbkhfemoogcpkaaDoorU1
namespace Go.Proofs.YtbkhfemoogcpkaaDoor
open Go.RowKit Go.Uc

/-- A word as a cell. -/
def wv (x : BitVec 32) : Value := .int .u32 (v32 x)
/-- Words as cells. -/
def cw (W : List (BitVec 32)) : Array Value := (W.map wv).toArray
theorem cw_size (W : List (BitVec 32)) : (cw W).size = W.length := by simp [cw]
theorem cw_get (W : List (BitVec 32)) (i : Nat) : (cw W)[i]? = W[i]?.map wv := by simp [cw]
theorem cw_all (W : List (BitVec 32)) : (cw W).all (·.oneCell') = true := by
  rw [Array.all_eq_true]
  intro i hi
  simp [cw, wv]; rfl
def zw (n : Nat) : List (BitVec 32) := List.replicate n 0
theorem zero70 (w : World) : (zeroValue 70).run Tryd.prog w = .ok (.agg (cw (zw 64))) w := by kernel_rfl


/-- A byte of a block. -/
def byteAt (bs : List UInt8) (i : Nat) : BitVec 32 := BitVec.ofNat 32 (bs.getD i 0).toNat
/-- Word t of a block, of its bytes. -/
def wordAt (bs : List UInt8) (t : Nat) : BitVec 32 := byteAt bs (4 * t) <<< 24 ||| byteAt bs (4 * t + 1) <<< 16 ||| byteAt bs (4 * t + 2) <<< 8 ||| byteAt bs (4 * t + 3)
/-- The first n words. -/
def w16 (bs : List UInt8) (n : Nat) : List (BitVec 32) := (List.range n).map (wordAt bs)
theorem w16_length (bs : List UInt8) (n : Nat) : (w16 bs n).length = n := by simp [w16]
theorem w16_succ (bs : List UInt8) (n : Nat) : w16 bs (n + 1) = w16 bs n ++ [wordAt bs n] := by simp [w16, List.range_succ]
theorem cw_set (W : List (BitVec 32)) (i : Nat) (x : BitVec 32) : (cw W).setIfInBounds i (wv x) = cw (W.set i x) := by
  simp only [cw, List.setIfInBounds_toArray, List.map_set]
theorem set_zw (W : List (BitVec 32)) (m : Nat) (x : BitVec 32) : (W ++ zw (m + 1)).set W.length x = (W ++ [x]) ++ zw m := by
  unfold zw
  rw [List.set_append_right _ _ (Nat.le_refl _), Nat.sub_self, List.replicate_succ, List.set_cons_zero, List.append_assoc]; rfl
theorem byte_word (bs : List UInt8) (i : Nat) : ((bs.getD i 0).toNat : Int) = v32 (byteAt bs i) := by
  have := (bs.getD i 0).toNat_lt
  unfold v32 byteAt
  rw [BitVec.toNat_ofNat, Nat.mod_eq_of_lt (by omega)]
/-- The next word of a schedule. -/
def nextW (W : List (BitVec 32)) : BitVec 32 :=
  W.getD (W.length - 16) 0 + (ror (W.getD (W.length - 15) 0) 7 ^^^ ror (W.getD (W.length - 15) 0) 18 ^^^ W.getD (W.length - 15) 0 >>> 3) + W.getD (W.length - 7) 0 +
    (ror (W.getD (W.length - 2) 0) 17 ^^^ ror (W.getD (W.length - 2) 0) 19 ^^^ W.getD (W.length - 2) 0 >>> 10)
/-- n words more. -/
def ext : Nat → List (BitVec 32) → List (BitVec 32)
  | 0, W => W
  | n + 1, W => ext n W ++ [nextW (ext n W)]
theorem ext_length (n : Nat) (W : List (BitVec 32)) : (ext n W).length = W.length + n := by
  induction n with
  | zero => rfl
  | succ n ih => simp only [ext, List.length_append, ih, List.length_cons, List.length_nil]; omega
/-- A block's words. -/
def sched (bs : List UInt8) : List (BitVec 32) := ext 48 (w16 bs 16)
theorem sched_length (bs : List UInt8) : (sched bs).length = 64 := by unfold sched; rw [ext_length, w16_length]
theorem Blk.wordG {w : World} {g : Nat} {t : TypeId} {W Z : List (BitVec 32)} (h : Blk w g t (cw (W ++ Z))) {i : Nat} (hi : i < W.length) :
    w.cell? ⟨g, i, none⟩ = some (.int .u32 (v32 (W.getD i 0))) := by
  rw [h.cell, cw_get, List.getElem?_append_left hi, List.getD_eq_getElem?_getD, List.getElem?_eq_getElem hi]; rfl
theorem Blk.byteG {w : World} {g : Nat} {t : TypeId} {bs : List UInt8} (h : Blk w g t (pc bs)) {i : Nat} (hi : i < bs.length) :
    w.cell? ⟨g, i, none⟩ = some (.int .u8 ((bs.getD i 0).toNat : Int)) := by
  rw [h.cell, pc_get, List.getD_eq_getElem?_getD, List.getElem?_eq_getElem hi]; rfl

set_option maxRecDepth 100000 in
set_option maxHeartbeats 1000000 in
theorem schedule_any (bs : List UInt8) (hl : bs.length = 64) (w : World) :
    Calls Tryd.prog 31 #[.agg (pc bs)] w fun e w' => e = .returned (.agg (cw (sched bs))) ∧ Keeps Non w w' := by
  have hz := zero70
  go_enter Tryd.func31, Tryd.ntmps31
  go_wp2
  have hB : Blk (((w.alloc (.cells (pc bs) 72)).alloc (.cells (cw (zw 64)) 70)).alloc (.cells (cw (zw 64)) 70)) w.heap.size 72 (pc bs) := ((Blk.new w 72 (pc bs)).alloc _).alloc _
  have hR : Blk (((w.alloc (.cells (pc bs) 72)).alloc (.cells (cw (zw 64)) 70)).alloc (.cells (cw (zw 64)) 70)) (w.heap.size + 1) 70 (cw (zw 64)) := by
    have := (Blk.new (w.alloc (.cells (pc bs) 72)) 70 (cw (zw 64))).alloc (.cells (cw (zw 64)) 70); simpa using this
  have hT : Blk (((w.alloc (.cells (pc bs) 72)).alloc (.cells (cw (zw 64)) 70)).alloc (.cells (cw (zw 64)) 70)) (w.heap.size + 1 + 1) 70 (cw (w16 bs 0 ++ zw (64 - 0))) := by
    have := Blk.new ((w.alloc (.cells (pc bs) 72)).alloc (.cells (cw (zw 64)) 70)) 70 (cw (zw 64))
    rw [show w16 bs 0 ++ zw (64 - 0) = zw 64 from rfl]; simpa using this
  have hK : Keeps Non w (((w.alloc (.cells (pc bs) 72)).alloc (.cells (cw (zw 64)) 70)).alloc (.cells (cw (zw 64)) 70)) := (((Keeps.refl _ _).alloc _).alloc _).alloc _
  clear hz
  generalize (((w.alloc (.cells (pc bs) 72)).alloc (.cells (cw (zw 64)) 70)).alloc (.cells (cw (zw 64)) 70)) = W0 at *
  obtain ⟨b, hbE⟩ : ∃ b, b = w.heap.size := ⟨_, rfl⟩
  rw [← hbE] at hB hR hT ⊢
  have hbL : w.heap.size ≤ b := by omega
  clear hbE
  go_loopw [8] (fun i wr => ∃ k : Nat, k ≤ 16 ∧ i = .int .i64 k ∧ Blk wr (b + 1 + 1) 70 (cw (w16 bs k ++ zw (64 - k))) ∧ Keeps (Only (b + 1 + 1)) W0 wr) (fun i _ => 16 - (intOf i).toNat)
  case atStart => exact ⟨0, by omega, rfl, hT, Keeps.refl _ _⟩
  case round =>
    obtain ⟨k, hk, rfl, hT1, hK1⟩ := hrel
    have hB1 := hB.one hK1 (by omega)
    by_cases hlt : k < 16
    · have c0 := Blk.byteG hB1 (i := 4 * k) (by omega)
      have c1 := Blk.byteG hB1 (i := 4 * k + 1) (by omega)
      have c2 := Blk.byteG hB1 (i := 4 * k + 2) (by omega)
      have c3 := Blk.byteG hB1 (i := 4 * k + 3) (by omega)
      rw [byte_word] at c0 c1 c2 c3
      have hf := hT1.frozen k
      have hc : ∃ v, wr.cell? ⟨b + 1 + 1, k, none⟩ = some v := by
        rw [hT1.cell]
        exact ⟨_, Array.getElem?_eq_getElem (by simp only [cw_size, List.length_append, w16_length, zw, List.length_replicate]; omega)⟩
      obtain ⟨v, hc⟩ := hc
      obtain ⟨wx, rfl⟩ : ∃ W : World, W = wr := ⟨_, rfl⟩
      have h40 : IntKind.i64.wrap (4 * (k : Int)) = 4 * (k : Int) := by rw [IntKind.wrap_i64]; omega
      have n40 : (4 * (k : Int)).toNat = 4 * k := by omega
      have b40 : 0 ≤ 4 * (k : Int) := by omega
      have d40 : 4 * (k : Int) < 64 := by omega
      have h41 : IntKind.i64.wrap (4 * (k : Int) + 1) = 4 * (k : Int) + 1 := by rw [IntKind.wrap_i64]; omega
      have n41 : (4 * (k : Int) + 1).toNat = 4 * k + 1 := by omega
      have b41 : 0 ≤ 4 * (k : Int) + 1 := by omega
      have d41 : 4 * (k : Int) + 1 < 64 := by omega
      have h42 : IntKind.i64.wrap (4 * (k : Int) + 2) = 4 * (k : Int) + 2 := by rw [IntKind.wrap_i64]; omega
      have n42 : (4 * (k : Int) + 2).toNat = 4 * k + 2 := by omega
      have b42 : 0 ≤ 4 * (k : Int) + 2 := by omega
      have d42 : 4 * (k : Int) + 2 < 64 := by omega
      have h43 : IntKind.i64.wrap (4 * (k : Int) + 3) = 4 * (k : Int) + 3 := by rw [IntKind.wrap_i64]; omega
      have n43 : (4 * (k : Int) + 3).toNat = 4 * k + 3 := by omega
      have b43 : 0 ≤ 4 * (k : Int) + 3 := by omega
      have d43 : 4 * (k : Int) + 3 < 64 := by omega
      have k0 : (0 : Int) ≤ (k : Int) := by omega
      have k1 : (k : Int) < 64 := by omega
      have k2 : ((k : Int)).toNat = k := by omega
      go_wp2_with fail
      have s24 : ∀ x : BitVec 32, IntKind.u32.wrap (v32 x * 16777216) = v32 (x <<< 24) := fun x => shl32 x 24
      have s16 : ∀ x : BitVec 32, IntKind.u32.wrap (v32 x * 65536) = v32 (x <<< 16) := fun x => shl32 x 16
      have s8 : ∀ x : BitVec 32, IntKind.u32.wrap (v32 x * 256) = v32 (x <<< 8) := fun x => shl32 x 8
      have ho := or32
      have l0 := v32_nonneg
      have l1 := v32_le
      have hw : ∀ x : BitVec 32, IntKind.u32.wrap (v32 x) = v32 x := fun x => by rw [IntKind.wrap_u32]; have := v32_nonneg x; have := v32_le x; omega
      go_still_tail 31, (by kernel_rfl)
      go_wp2
      go_roundw
      case rel =>
        have hB' := (hT1.set k (wv (wordAt bs k))).drew
        rw [cw_set, show 64 - k = (64 - (k + 1)) + 1 by omega] at hB'
        have es := set_zw (w16 bs k) (64 - (k + 1)) (wordAt bs k)
        rw [w16_length] at es
        rw [es, ← w16_succ] at hB'
        exact ⟨k + 1, by omega, by go_num, hB', (hK1.set (p := ⟨b + 1 + 1, k, none⟩) rfl _).drew⟩
      case measure => simp [intOf]; omega
    · obtain rfl : k = 16 := by omega
      have hR1 := hR.one hK1 (by omega)
      have hK2 : Keeps Non w wr := hK.then hK1 (fun i hi e => absurd e (by show ¬ i = b + 1 + 1; omega))
      clear hB1 hB hT hR hK1 hK hlt hk
      obtain ⟨wa, rfl⟩ : ∃ W : World, W = wr := ⟨_, rfl⟩
      go_wp2_with fail
      rw [show ((16 : Nat) : Int) = 16 from rfl]
      go_loopw [5] (fun i wr => ∃ j : Nat, j ≤ 48 ∧ i = .int .i64 ((16 + j : Nat) : Int) ∧ Blk wr (b + 1 + 1) 70 (cw (ext j (w16 bs 16) ++ zw (48 - j))) ∧ Keeps (Only (b + 1 + 1)) wa wr) (fun i _ => 64 - (intOf i).toNat)
      case atStart => exact ⟨0, by omega, rfl, hT1, Keeps.refl _ _⟩
      case round =>
        obtain ⟨j, hj, rfl, hT2, hK3⟩ := hrel
        by_cases hlt : j < 48
        · have hL : (ext j (w16 bs 16)).length = 16 + j := by rw [ext_length, w16_length]
          have e15 := Blk.wordG hT2 (i := 16 + j - 15) (by omega)
          have e2 := Blk.wordG hT2 (i := 16 + j - 2) (by omega)
          have e16 := Blk.wordG hT2 (i := 16 + j - 16) (by omega)
          have e7 := Blk.wordG hT2 (i := 16 + j - 7) (by omega)
          obtain ⟨x15, hx15⟩ : ∃ x, x = (ext j (w16 bs 16)).getD (16 + j - 15) 0 := ⟨_, rfl⟩
          obtain ⟨x2, hx2⟩ : ∃ x, x = (ext j (w16 bs 16)).getD (16 + j - 2) 0 := ⟨_, rfl⟩
          obtain ⟨x16, hx16⟩ : ∃ x, x = (ext j (w16 bs 16)).getD (16 + j - 16) 0 := ⟨_, rfl⟩
          obtain ⟨x7, hx7⟩ : ∃ x, x = (ext j (w16 bs 16)).getD (16 + j - 7) 0 := ⟨_, rfl⟩
          rw [← hx15] at e15
          rw [← hx2] at e2
          rw [← hx16] at e16
          rw [← hx7] at e7
          have HX := Lib.hid (And.intro hx15 (And.intro hx2 (And.intro hx16 hx7)))
          clear hx15 hx2 hx16 hx7
          have hf := hT2.frozen (16 + j)
          have hc : ∃ v, wr.cell? ⟨b + 1 + 1, 16 + j, none⟩ = some v := by
            rw [hT2.cell]
            exact ⟨_, Array.getElem?_eq_getElem (by simp only [cw_size, List.length_append, hL, zw, List.length_replicate]; omega)⟩
          obtain ⟨v, hc⟩ := hc
          obtain ⟨n, hn⟩ : ∃ n, n = 16 + j := ⟨_, rfl⟩
          rw [← hn] at hf hc e15 e2 e16 e7 ⊢
          have h15 : IntKind.i64.wrap ((n : Int) - 15) = (n : Int) - 15 := by rw [IntKind.wrap_i64]; omega
          have n15 : ((n : Int) - 15).toNat = n - 15 := by omega
          have b15 : 0 ≤ (n : Int) - 15 := by omega
          have d15 : (n : Int) - 15 < 64 := by omega
          have h2 : IntKind.i64.wrap ((n : Int) - 2) = (n : Int) - 2 := by rw [IntKind.wrap_i64]; omega
          have n2 : ((n : Int) - 2).toNat = n - 2 := by omega
          have b2 : 0 ≤ (n : Int) - 2 := by omega
          have d2 : (n : Int) - 2 < 64 := by omega
          have h16 : IntKind.i64.wrap ((n : Int) - 16) = (n : Int) - 16 := by rw [IntKind.wrap_i64]; omega
          have n16 : ((n : Int) - 16).toNat = n - 16 := by omega
          have b16 : 0 ≤ (n : Int) - 16 := by omega
          have d16 : (n : Int) - 16 < 64 := by omega
          have h7 : IntKind.i64.wrap ((n : Int) - 7) = (n : Int) - 7 := by rw [IntKind.wrap_i64]; omega
          have n7 : ((n : Int) - 7).toNat = n - 7 := by omega
          have b7 : 0 ≤ (n : Int) - 7 := by omega
          have d7 : (n : Int) - 7 < 64 := by omega
          have hlt' : (n : Int) < 64 := by omega
          have hge' : (0 : Int) ≤ (n : Int) := by omega
          have g16 : (16 : Int) ≤ (n : Int) := by omega
          have g7 : (7 : Int) ≤ (n : Int) := by omega
          have hnt : ((n : Int)).toNat = n := by omega
          obtain ⟨wx, rfl⟩ : ∃ W : World, W = wr := ⟨_, rfl⟩
          clear hL
          have HN := Lib.hid hn
          clear hn
          go_wp2_with fail
          go_quiet (fail)
          obtain ⟨wy, hwy⟩ : ∃ W : World, W = wx.drewN nq := ⟨_, rfl⟩
          have e7' : wy.cell? ⟨b + 1 + 1, n - 7, none⟩ = some (.int .u32 (v32 x7)) := by rw [hwy]; exact e7
          have e16' : wy.cell? ⟨b + 1 + 1, n - 16, none⟩ = some (.int .u32 (v32 x16)) := by rw [hwy]; exact e16
          have hc' : wy.cell? ⟨b + 1 + 1, n, none⟩ = some v := by rw [hwy]; exact hc
          have hf' : wy.frozen? ⟨b + 1 + 1, n, none⟩ = false := by rw [hwy]; exact hf
          have hT3 : Blk wy (b + 1 + 1) 70 (cw (ext j (w16 bs 16) ++ zw (48 - j))) := by rw [hwy]; exact hT2.drewN nq
          have hK5 : Keeps (Only (b + 1 + 1)) wa wy := by rw [hwy]; exact hK3.drewN nq
          rw [← hwy]
          clear hwy hK3 hT2 e7 e16 e2 e15 hc hf
          clear wx
          obtain ⟨wx, rfl⟩ : ∃ W : World, W = wy := ⟨_, rfl⟩
          go_wp2_with fail
          have ha := add32
          have hx := xor32
          have s3 : ∀ x : BitVec 32, v32 x / (8 : Int) = v32 (x >>> 3) := fun x => shr32 x 3
          have s10 : ∀ x : BitVec 32, v32 x / (1024 : Int) = v32 (x >>> 10) := fun x => shr32 x 10
          go_still_tail 29, (by kernel_rfl)
          still_call (rr7 x15 _)
          repeat still_step
          still_call (rr18 x15 _)
          repeat still_step
          still_call (rr17 x2 _)
          repeat still_step
          still_call (rr19 x2 _)
          repeat still_step
          refine wpStill_nil ?_
          go_wp2
          go_roundw
          case rel =>
            obtain ⟨hx15, hx2, hx16, hx7⟩ := HX.out
            have hn := HN.out
            have hL : (ext j (w16 bs 16)).length = 16 + j := by rw [ext_length, w16_length]
            have hnx : x16 + (ror x15 7 ^^^ ror x15 18 ^^^ x15 >>> 3) + x7 + (ror x2 17 ^^^ ror x2 19 ^^^ x2 >>> 10) = nextW (ext j (w16 bs 16)) := by
              unfold nextW; rw [hL, hx15, hx2, hx16, hx7]
            rw [hnx]
            have hB' := (hT3.set n (wv (nextW (ext j (w16 bs 16))))).drew
            have es := set_zw (ext j (w16 bs 16)) (48 - (j + 1)) (nextW (ext j (w16 bs 16)))
            rw [hL, ← hn] at es
            rw [cw_set, show 48 - j = (48 - (j + 1)) + 1 by omega, es] at hB'
            exact ⟨j + 1, by omega, by go_num, hB', (hK5.set (p := ⟨b + 1 + 1, n, none⟩) rfl _).drew⟩
          case measure => simp [intOf]; omega
        · obtain rfl : j = 48 := by omega
          have hR2 := hR1.one hK3 (by omega)
          have hK4 : Keeps Non w wr := hK2.then hK3 (fun i hi e => absurd e (by show ¬ i = b + 1 + 1; omega))
          have hT3 : Blk wr (b + 1 + 1) 70 (cw (sched bs)) := by
            have : ext 48 (w16 bs 16) ++ zw (48 - 48) = sched bs := by show sched bs ++ [] = _; rw [List.append_nil]
            rw [this] at hT2; exact hT2
          have hS := sched_length bs
          clear hR1 hK3 hK2 hT1 hT2 hlt hj
          obtain ⟨wx, rfl⟩ : ∃ W : World, W = wr := ⟨_, rfl⟩
          go_wp2_with ((with_reducible show wpList _ _ _ _ _ _); refine wpList_load_row (o := ⟨some 84, _, _, _, _, _⟩) rfl 70 (.tmp 3) rfl (b + 1 + 1) rfl 70 (cw (sched bs)) (0, 0) (.array 64 67) hT3 Tryd.underlying70 rfl (by rw [cw_size, hS]; kernel_rfl) ?_; refine wpList_store_blk rfl 70 (.tmp 2) (.tmp 84) rfl (b + 1) (cw (sched bs)) rfl rfl 70 (cw (zw 64)) hR2 (by rw [cw_size, hS]; kernel_rfl) (by rw [cw_size, cw_size, hS]; rfl) (cw_all _) ?_; intro w7 hR8 hK8; have hK9 : Keeps Non w w7 := hK4.then hK8 (fun i hi e => absurd e (by show ¬ i = b + 1; omega)); clear hT3 hR2 hK4 hK8; go_wp2_with fail; exact bodyPost_ret (v := .agg (cw (sched bs))) (results_cell_blk rfl _ (b + 1) 70 _ (.array 64 67) rfl hR8 Tryd.underlying70 rfl (by rw [cw_size, hS]; kernel_rfl)) rfl ⟨rfl, hK9⟩)
end Go.Proofs.YtbkhfemoogcpkaaDoor
