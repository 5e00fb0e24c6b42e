/- The words of a block (the document's words). -/
import Derived.Test.YtgpamjinkiadnaaDoorU2
import Derived.Laws.MakeOwn
namespace Go.Proofs.YtgpamjinkiadnaaDoor
open Go.RowKit Go.Uc

section make
variable {P : Program} {ops : Array Oper} {rest : List Oper} {o : Oper} {a : Act} {w : World} {Q : Exit → Act → World → Prop}
/-- 'make([]uint32, n)'. -/
theorem wpList_make_words (hg : o.guard = none) (l c : Operand) (t : TypeId) (hop : o.op = Op.makeSlice t l c)
    (e : TypeId) (h1 : P.underlying t = Option.some (.slice e)) (hi : (P.info? e).map (fun i => (i.zero, i.size, i.bytes)) = Option.some (Option.some (.int .u32 0), 1, 4))
    (kl kc : IntKind) (L C : Int) (n : Nat) (hl : a.eval l = .int kl L) (hc : a.eval c = .int kc C) (hL : L = (n : Int)) (hC : C = (n : Int)) (b2 : n ≤ 70368744177664)
    (hK : ∀ w', Blk w' w.heap.size e (cw (zw n)) → Keeps Non w w' → wpList P ops Q rest (a.put o.dst (.slice (Option.some ⟨w.heap.size, 0, none⟩) n n)) w') :
    wpList P ops Q (o :: rest) a w := by
  obtain ⟨i, hi0, hz0, hz1, hz2⟩ := info_parts hi
  refine wpList_plain hg fun K hK' => ?_
  subst hL
  subst hC
  have hrun := run_make (P := P) w t e i (.int .u32 0) h1 hi0 hz0 kl kc n n (by omega) (by omega) (by rw [hz2]; omega) (by omega)
  have e1 : madeCells (Value.int .u32 0).cells ((n : Int).toNat * i.size) = cw (zw n) := by
    rw [hz1]
    apply Array.ext
    · simp [size_madeCells, cw_size, zw]
    · intro j h1 h2
      simp [madeCells, Value.cells, cw, zw, wv, v32, Nat.mod_one]
  rw [e1] at hrun
  unfold Oper.wp
  simp [execOp, hop, hl, hc, hrun, Result.andThen]
  exact hK' _ _ (hK _ (Blk.new _ _ _) ((Keeps.refl _ _).alloc _))
end make

/-- Bytes from a place on. -/
def Lies (w : World) (p o : Nat) (bs : List UInt8) : Prop := ∀ i, i < bs.length → w.cell? ⟨p, o + i, none⟩ = some (.int .u8 ((bs.getD i 0).toNat : Int))
theorem Lies.keep {S : Nat → Prop} {w w' : World} {p o : Nat} {bs : List UInt8} (h : Lies w p o bs) (hk : Keeps S w w') (hp : ¬ S p) : Lies w' p o bs := fun i hi => hk.cell (h i hi) hp

set_option maxRecDepth 100000 in
set_option maxHeartbeats 1000000 in
theorem words_any (bs : List UInt8) (hl : bs.length = 64) (p o c : Nat) (_hc64 : 64 ≤ c) (w : World) (hA : Lies w p o bs) :
    Calls Tryd.prog 29 #[.slice (some ⟨p, o, none⟩) 64 c] w fun e w' => ∃ g, e = .returned (.slice (some ⟨g, 0, none⟩) 64 64) ∧ w.heap.size ≤ g ∧ Blk w' g 54 (cw (sched bs)) ∧ Keeps Non w w' := by
  have hpl : p < w.heap.size := World.block_lt_of_cell? w _ (hA 0 (by omega))
  go_enter Tryd.func29, Tryd.ntmps29
  go_wp2_with (at_make; go_loud (refine wpList_make_words rfl _ _ 62 rfl 54 Tryd.underlying62 (by kernel_rfl) .i64 .i64 _ _ 64 rfl rfl (by omega) (by omega) (by omega) ?_))
  intro W0 hT hK
  obtain ⟨b, hbE⟩ : ∃ b, b = w.heap.size := ⟨_, rfl⟩
  rw [← hbE] at hT ⊢
  have hbL : w.heap.size ≤ b := by omega
  have hpb : p ≠ b := by omega
  clear hbE
  rw [show zw 64 = w16 bs 0 ++ zw (64 - 0) from rfl] at hT
  go_wp2_with fail
  go_loopw [4] (fun i wr => ∃ k : Nat, k ≤ 16 ∧ i = .int .i64 k ∧ Blk wr b 54 (cw (w16 bs k ++ zw (64 - k))) ∧ Keeps (Only b) W0 wr) (fun i _ => 16 - (intOf i).toNat)
  case atStart => exact ⟨0, by omega, rfl, hT, Keeps.refl _ _⟩
  case round =>
    obtain ⟨k, hk, rfl, hT1, hK1⟩ := hrel
    have hA1 := (hA.keep hK id).keep hK1 hpb
    by_cases hlt : k < 16
    · have c0 := hA1 (4 * k) (by omega)
      have c1 := hA1 (4 * k + 1) (by omega)
      have c2 := hA1 (4 * k + 2) (by omega)
      have c3 := hA1 (4 * k + 3) (by omega)
      rw [byte_word] at c0 c1 c2 c3
      have hf := hT1.frozen k
      have hc : ∃ v, wr.cell? ⟨b, k, none⟩ = some v := by
        rw [hT1.cell]
        exact ⟨_, Array.getElem?_eq_getElem (by simp only [cw_size, List.length_append, w16_length, zw, List.length_replicate]; omega)⟩
      obtain ⟨v, hc⟩ := hc
      obtain ⟨wx, rfl⟩ : ∃ W : World, W = wr := ⟨_, rfl⟩
      have h40 : IntKind.i64.wrap (4 * (k : Int)) = 4 * (k : Int) := by rw [IntKind.wrap_i64]; omega
      have n40 : (4 * (k : Int)).toNat = 4 * k := by omega
      have b40 : 0 ≤ 4 * (k : Int) := by omega
      have d40 : 4 * (k : Int) < 64 := by omega
      have h41 : IntKind.i64.wrap (4 * (k : Int) + 1) = 4 * (k : Int) + 1 := by rw [IntKind.wrap_i64]; omega
      have n41 : (4 * (k : Int) + 1).toNat = 4 * k + 1 := by omega
      have b41 : 0 ≤ 4 * (k : Int) + 1 := by omega
      have d41 : 4 * (k : Int) + 1 < 64 := by omega
      have h42 : IntKind.i64.wrap (4 * (k : Int) + 2) = 4 * (k : Int) + 2 := by rw [IntKind.wrap_i64]; omega
      have n42 : (4 * (k : Int) + 2).toNat = 4 * k + 2 := by omega
      have b42 : 0 ≤ 4 * (k : Int) + 2 := by omega
      have d42 : 4 * (k : Int) + 2 < 64 := by omega
      have h43 : IntKind.i64.wrap (4 * (k : Int) + 3) = 4 * (k : Int) + 3 := by rw [IntKind.wrap_i64]; omega
      have n43 : (4 * (k : Int) + 3).toNat = 4 * k + 3 := by omega
      have b43 : 0 ≤ 4 * (k : Int) + 3 := by omega
      have d43 : 4 * (k : Int) + 3 < 64 := by omega
      have k0 : (0 : Int) ≤ (k : Int) := by omega
      have k1 : (k : Int) < 64 := by omega
      have k2 : ((k : Int)).toNat = k := by omega
      go_wp2_with fail
      have s24 : ∀ x : BitVec 32, IntKind.u32.wrap (v32 x * 16777216) = v32 (x <<< 24) := fun x => shl32 x 24
      have s16 : ∀ x : BitVec 32, IntKind.u32.wrap (v32 x * 65536) = v32 (x <<< 16) := fun x => shl32 x 16
      have s8 : ∀ x : BitVec 32, IntKind.u32.wrap (v32 x * 256) = v32 (x <<< 8) := fun x => shl32 x 8
      have ho := or32
      have l0 := v32_nonneg
      have l1 := v32_le
      have hw : ∀ x : BitVec 32, IntKind.u32.wrap (v32 x) = v32 x := fun x => by rw [IntKind.wrap_u32]; have := v32_nonneg x; have := v32_le x; omega
      go_still_tail 36, (by kernel_rfl)
      go_wp2
      go_roundw
      case rel =>
        have hB' := (hT1.set k (wv (wordAt bs k))).drew
        rw [cw_set, show 64 - k = (64 - (k + 1)) + 1 by omega] at hB'
        have es := set_zw (w16 bs k) (64 - (k + 1)) (wordAt bs k)
        rw [w16_length] at es
        rw [es, ← w16_succ] at hB'
        exact ⟨k + 1, by omega, by go_num, hB', (hK1.set (p := ⟨b, k, none⟩) rfl _).drew⟩
      case measure => simp [intOf]; omega
    · obtain rfl : k = 16 := by omega
      have hK2 : Keeps Non w wr := hK.then hK1 (fun i hi e => absurd e (by show ¬ i = b; omega))
      clear hA1 hA hT hK1 hK hlt hk
      obtain ⟨wa, rfl⟩ : ∃ W : World, W = wr := ⟨_, rfl⟩
      go_wp2_with fail
      rw [show ((16 : Nat) : Int) = 16 from rfl]
      go_loopw [5] (fun i wr => ∃ j : Nat, j ≤ 48 ∧ i = .int .i64 ((16 + j : Nat) : Int) ∧ Blk wr b 54 (cw (ext j (w16 bs 16) ++ zw (48 - j))) ∧ Keeps (Only b) wa wr) (fun i _ => 64 - (intOf i).toNat)
      case atStart => exact ⟨0, by omega, rfl, hT1, Keeps.refl _ _⟩
      case round =>
        obtain ⟨j, hj, rfl, hT2, hK3⟩ := hrel
        by_cases hlt : j < 48
        · have hL : (ext j (w16 bs 16)).length = 16 + j := by rw [ext_length, w16_length]
          have e15 := Blk.wordG hT2 (i := 16 + j - 15) (by omega)
          have e2 := Blk.wordG hT2 (i := 16 + j - 2) (by omega)
          have e16 := Blk.wordG hT2 (i := 16 + j - 16) (by omega)
          have e7 := Blk.wordG hT2 (i := 16 + j - 7) (by omega)
          obtain ⟨x15, hx15⟩ : ∃ x, x = (ext j (w16 bs 16)).getD (16 + j - 15) 0 := ⟨_, rfl⟩
          obtain ⟨x2, hx2⟩ : ∃ x, x = (ext j (w16 bs 16)).getD (16 + j - 2) 0 := ⟨_, rfl⟩
          obtain ⟨x16, hx16⟩ : ∃ x, x = (ext j (w16 bs 16)).getD (16 + j - 16) 0 := ⟨_, rfl⟩
          obtain ⟨x7, hx7⟩ : ∃ x, x = (ext j (w16 bs 16)).getD (16 + j - 7) 0 := ⟨_, rfl⟩
          rw [← hx15] at e15
          rw [← hx2] at e2
          rw [← hx16] at e16
          rw [← hx7] at e7
          have HX := Lib.hid (And.intro hx15 (And.intro hx2 (And.intro hx16 hx7)))
          clear hx15 hx2 hx16 hx7
          have hf := hT2.frozen (16 + j)
          have hc : ∃ v, wr.cell? ⟨b, 16 + j, none⟩ = some v := by
            rw [hT2.cell]
            exact ⟨_, Array.getElem?_eq_getElem (by simp only [cw_size, List.length_append, hL, zw, List.length_replicate]; omega)⟩
          obtain ⟨v, hc⟩ := hc
          obtain ⟨n, hn⟩ : ∃ n, n = 16 + j := ⟨_, rfl⟩
          rw [← hn] at hf hc e15 e2 e16 e7 ⊢
          have h15 : IntKind.i64.wrap ((n : Int) - 15) = (n : Int) - 15 := by rw [IntKind.wrap_i64]; omega
          have n15 : ((n : Int) - 15).toNat = n - 15 := by omega
          have b15 : 0 ≤ (n : Int) - 15 := by omega
          have d15 : (n : Int) - 15 < 64 := by omega
          have g15 : (15 : Int) ≤ (n : Int) := by omega
          have h2 : IntKind.i64.wrap ((n : Int) - 2) = (n : Int) - 2 := by rw [IntKind.wrap_i64]; omega
          have n2 : ((n : Int) - 2).toNat = n - 2 := by omega
          have b2 : 0 ≤ (n : Int) - 2 := by omega
          have d2 : (n : Int) - 2 < 64 := by omega
          have g2 : (2 : Int) ≤ (n : Int) := by omega
          have h16 : IntKind.i64.wrap ((n : Int) - 16) = (n : Int) - 16 := by rw [IntKind.wrap_i64]; omega
          have n16 : ((n : Int) - 16).toNat = n - 16 := by omega
          have b16 : 0 ≤ (n : Int) - 16 := by omega
          have d16 : (n : Int) - 16 < 64 := by omega
          have g16 : (16 : Int) ≤ (n : Int) := by omega
          have h7 : IntKind.i64.wrap ((n : Int) - 7) = (n : Int) - 7 := by rw [IntKind.wrap_i64]; omega
          have n7 : ((n : Int) - 7).toNat = n - 7 := by omega
          have b7 : 0 ≤ (n : Int) - 7 := by omega
          have d7 : (n : Int) - 7 < 64 := by omega
          have g7 : (7 : Int) ≤ (n : Int) := by omega
          have hlt' : (n : Int) < 64 := by omega
          have hge' : (0 : Int) ≤ (n : Int) := by omega
          have hnt : ((n : Int)).toNat = n := by omega
          obtain ⟨wx, rfl⟩ : ∃ W : World, W = wr := ⟨_, rfl⟩
          clear hL
          have HN := Lib.hid hn
          clear hn
          go_wp2_with fail
          have ha := add32
          have hx := xor32
          have s3 : ∀ x : BitVec 32, v32 x / (8 : Int) = v32 (x >>> 3) := fun x => shr32 x 3
          have s10 : ∀ x : BitVec 32, v32 x / (1024 : Int) = v32 (x >>> 10) := fun x => shr32 x 10
          go_still_tail 32, (by kernel_rfl)
          still_call (turned7 x15 _)
          repeat still_step
          still_call (turned18 x15 _)
          repeat still_step
          still_call (turned17 x2 _)
          repeat still_step
          still_call (turned19 x2 _)
          repeat still_step
          refine wpStill_nil ?_
          go_wp2
          go_roundw
          case rel =>
            obtain ⟨hx15, hx2, hx16, hx7⟩ := HX.out
            have hn := HN.out
            have hL : (ext j (w16 bs 16)).length = 16 + j := by rw [ext_length, w16_length]
            have hnx : x16 + (ror x15 7 ^^^ ror x15 18 ^^^ x15 >>> 3) + x7 + (ror x2 17 ^^^ ror x2 19 ^^^ x2 >>> 10) = nextW (ext j (w16 bs 16)) := by
              unfold nextW; rw [hL, hx15, hx2, hx16, hx7]
            rw [hnx]
            have hB' := (hT2.set n (wv (nextW (ext j (w16 bs 16))))).drew
            have es := set_zw (ext j (w16 bs 16)) (48 - (j + 1)) (nextW (ext j (w16 bs 16)))
            rw [hL, ← hn] at es
            rw [cw_set, show 48 - j = (48 - (j + 1)) + 1 by omega, es] at hB'
            exact ⟨j + 1, by omega, by go_num, hB', (hK3.set (p := ⟨b, n, none⟩) rfl _).drew⟩
          case measure => simp [intOf]; omega
        · obtain rfl : j = 48 := by omega
          have hK4 : Keeps Non w wr := hK2.then hK3 (fun i hi e => absurd e (by show ¬ i = b; omega))
          have hT3 : Blk wr b 54 (cw (sched bs)) := by
            have : ext 48 (w16 bs 16) ++ zw (48 - 48) = sched bs := by show sched bs ++ [] = _; rw [List.append_nil]
            rw [this] at hT2; exact hT2
          clear hK3 hK2 hT1 hT2 hlt hj
          obtain ⟨wx, rfl⟩ : ∃ W : World, W = wr := ⟨_, rfl⟩
          go_wp2_with fail
          go_ret
          exact ⟨b, rfl, hbL, hT3, hK4⟩
#print axioms words_any
end Go.Proofs.YtgpamjinkiadnaaDoor
