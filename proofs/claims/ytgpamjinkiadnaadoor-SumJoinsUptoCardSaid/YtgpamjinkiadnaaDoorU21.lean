/- SumJoins: the walk. -/
import Derived.Test.YtgpamjinkiadnaaDoorU12
import Derived.Test.YtgpamjinkiadnaaDoorP3
import Derived.Deep.Cut
import Derived.Deep.CutRange
namespace Go.Proofs.YtgpamjinkiadnaaDoor
open Go.RowKit Go.Uc

theorem mul64 (x y : BitVec 64) : IntKind.u64.wrap (v64 x * v64 y) = v64 (x * y) := by
  rw [IntKind.wrap_u64]; unfold v64; rw [BitVec.toNat_mul, ← Int.natCast_mul]; omega
theorem nat64 (n : Nat) : IntKind.u64.wrap (n : Int) = v64 (BitVec.ofNat 64 n) := by
  rw [IntKind.wrap_u64]; unfold v64; rw [BitVec.toNat_ofNat]; omega
theorem xor8 (x y : UInt8) : bits .xor .u8 (x.toNat : Int) (y.toNat : Int) = ((x ^^^ y).toNat : Int) := by
  unfold bits
  show IntKind.u8.wrap (BitVec.toNat (BitVec.ofInt 8 (x.toNat : Int) ^^^ BitVec.ofInt 8 (y.toNat : Int)) : Int) = _
  rw [BitVec.ofInt_natCast, BitVec.ofInt_natCast, IntKind.wrap_u8, BitVec.toNat_xor, BitVec.toNat_ofNat, BitVec.toNat_ofNat, UInt8.toNat_xor]
  have hx := x.toNat_lt
  have hy := y.toNat_lt
  have h : x.toNat ^^^ y.toNat < 2 ^ 8 := Nat.xor_lt_two_pow (by omega) (by omega)
  rw [Nat.mod_eq_of_lt (by omega), Nat.mod_eq_of_lt (by omega)]
  omega
theorem xor8_ne (x m : UInt8) (h : m ≠ 0) : x ^^^ m ≠ x := by
  intro e
  apply h
  have : (x ^^^ m) ^^^ x = 0 := by rw [e]; exact UInt8.xor_self
  rw [UInt8.xor_comm x m, UInt8.xor_assoc, UInt8.xor_self, UInt8.xor_zero] at this
  exact this

set_option maxRecDepth 100000 in
set_option maxHeartbeats 2000000 in
theorem sumJoins_any (A1 A2 : Option Addr) (c1 c2 : Nat) (xs bs : List UInt8) (at_ : Int) (m : UInt8) (w : World) (hA : At w A1 xs) (hB : At w A2 bs) (hc1 : xs.length ≤ c1) (hc2 : bs.length ≤ c2) (hn1 : xs.length ≤ 1048576) (hn2 : bs.length ≤ 1048576) (hG : Good w) :
    Calls Tryd.prog 5 #[.slice A1 xs.length c1, .slice A2 bs.length c2, .int .i64 at_, .int .u8 (m.toNat : Int)] w fun e w' => e = .returned (.bool true) ∧ Keeps Non w w' := by
  have HOf : Hid (∀ (W : World) (A : Option Addr) (c : Nat) (L : List UInt8), At W A L → L.length ≤ c → L.length ≤ 140737488351240 → Good W → Calls Tryd.prog 9 #[.int .i64 1, .slice A L.length c] W fun e w' => e = .returned (.tuple #[(sumF L).v, .int .i64 0]) ∧ Keeps Non W w') :=
    fun W A c L h1 h2 h3 h4 => by
      have := of_any roundsK rfl 1 A c L W h1 h2 h3 h4.1
      rw [show ofP roundsK 1 L = (sumF L, 0) by unfold ofP; rw [if_pos rfl]; rfl] at this
      exact this
  have HCk : Hid (∀ (W : World) (s : Sum4) (A : Option Addr) (c : Nat) (L : List UInt8), At W A L → L.length ≤ c → L.length ≤ 140737488351240 → Good W → Calls Tryd.prog 13 #[.int .i64 1, s.v, .slice A L.length c] W fun e w' => e = .returned (.bool (s.eqv (sumF L))) ∧ Keeps Non W w') :=
    fun W s A c L h1 h2 h3 h4 => by
      have := check_any roundsK rfl 1 s A c L W h1 h2 h3 h4.1
      rw [show ofP roundsK 1 L = (sumF L, 0) by unfold ofP; rw [if_pos rfl]; rfl] at this
      exact this
  obtain ⟨D, hD⟩ : ∃ D, D = xs.length / 4 * 4 := ⟨_, rfl⟩
  have hD1 : D ≤ xs.length := by omega
  obtain ⟨P, hP⟩ : ∃ P, P = xs.take D := ⟨_, rfl⟩
  have hPL : P.length = D := by rw [hP, List.length_take]; omega
  have hAP : At w A1 P := by rw [hP]; exact hA.take D
  have HJ := sumF_joins P bs (by omega)
  have HP := Lib.hid (And.intro hAP hPL)
  have HB := Lib.hid hB
  have HD := Lib.hid hD
  clear hAP hPL hP hD hA hB
  obtain ⟨S1, hS1⟩ : ∃ S, S = sumF P := ⟨_, rfl⟩
  obtain ⟨S2, hS2⟩ : ∃ S, S = sumF bs := ⟨_, rfl⟩
  obtain ⟨S3, hS3⟩ : ∃ S, S = sumF (P ++ bs) := ⟨_, rfl⟩
  rw [← hS1, ← hS2, ← hS3] at HJ
  obtain ⟨PA, PB, PC, PD⟩ := S1
  obtain ⟨QA, QB, QC, QD⟩ := S2
  obtain ⟨RA, RB, RC, RD⟩ := S3
  obtain ⟨N, hN⟩ : ∃ N : BitVec 64, N = BitVec.ofNat 64 ((bs.length + 3) / 4) := ⟨_, rfl⟩
  rw [← hN] at HJ
  obtain ⟨rfl, rfl⟩ : RA = PA + QA ∧ RB = PB + N * PA + QB := HJ
  have HS := Lib.hid (And.intro hS1 (And.intro hS2 hS3))
  have HN := Lib.hid hN
  clear hS1 hS2 hS3 hN
  go_enter Tryd.func5, Tryd.ntmps5
  go_wp2_with fail
  refine (awake_any w hG).mono ?_
  rintro e w1 ⟨rfl, hK1⟩
  go_wp2_with fail
  rw [← HD.out]
  have HX := HOf.out w1 A1 c1 P (HP.out.1.non hK1) (by have := HP.out.2; omega) (by have := HP.out.2; omega) (hG.non hK1)
  rw [HP.out.2, ← HS.out.1] at HX
  refine HX.mono ?_
  clear HX
  rintro e w2 ⟨rfl, hK⟩
  have hK2 := hK1.non hK
  clear hK1 hK
  simp only [Sum4.v, sv]
  go_wp2_with fail
  obtain ⟨w3, hw3⟩ : ∃ W : World, W = w2.alloc (.cells #[.int .u64 (v64 PA), .int .u64 (v64 PB), .int .u64 (v64 PC), .int .u64 (v64 PD)] 25) := ⟨_, rfl⟩
  have hX3 : Blk w3 w2.heap.size 25 #[.int .u64 (v64 PA), .int .u64 (v64 PB), .int .u64 (v64 PC), .int .u64 (v64 PD)] := by rw [hw3]; exact Blk.new _ _ _
  have hK3 : Keeps Non w w3 := by rw [hw3]; exact hK2.alloc _
  rw [← hw3]
  obtain ⟨x, hx⟩ : ∃ x, x = w2.heap.size := ⟨_, rfl⟩
  rw [← hx] at hX3 ⊢
  clear hw3 hx hK2
  have HX := HOf.out w3 A2 c2 bs (HB.out.non hK3) hc2 (by omega) (hG.non hK3)
  rw [← HS.out.2.1] at HX
  refine HX.mono ?_
  clear HX
  rintro e w4 ⟨rfl, hK⟩
  have hX4 := hX3.non hK
  have hK4 := hK3.non hK
  clear hX3 hK3 hK
  simp only [Sum4.v, sv]
  have hn4 : P.length + bs.length ≤ 140737488355328 := by have := HP.out.2; omega
  go_wp2_with (first
    | (at_builtin; refine wpList_append_bytes rfl (.const (.slice none 0 0)) (.tmp 38) 22 rfl (w4.heap.size + 1) 5 Tryd.underlying22 info5 (.slice none 0 0) [] rfl (OwnB.nil _ _ _) A1 D c1 P rfl HP.out.2.symm ((HP.out.1.non hK4).non ((Keeps.refl Non _).alloc _)) (by simp; omega) (by simp) ?_; intro v1 w5 hO5 hK5 hat5; rw [List.nil_append] at hO5; have hK6 : Keeps Non (w4.alloc (.cells #[.int .u64 (v64 QA), .int .u64 (v64 QB), .int .u64 (v64 QC), .int .u64 (v64 QD)] 25)) w5 := hK5.mono (fun k e => by simp [Owned, Value.ownBlock] at e); clear hK5 hat5)
    | (at_builtin; go_must (refine wpList_append_bytes rfl (.tmp 40) (.tmp 41) 22 rfl (w4.heap.size + 1) 5 Tryd.underlying22 info5 v1 P rfl hO5 A2 bs.length c2 bs rfl rfl (((HB.out.non hK4).non ((Keeps.refl Non _).alloc _)).non hK6) (by omega) (by have := hK6.size; simpa using this) ?_); intro v2 w6 hO6 hK7 hat6; obtain ⟨A5, c5, rfl, hc5, hA5, hb5⟩ := id hO6.open))
  have hX6 : Blk w6 x 25 #[.int .u64 (v64 PA), .int .u64 (v64 PB), .int .u64 (v64 PC), .int .u64 (v64 PD)] := ((hX4.alloc _).non hK6).keep hK7 (fun e => by have h := hO5.new _ e; have := hX4.lt; omega)
  have hY6 : Blk w6 w4.heap.size 25 #[.int .u64 (v64 QA), .int .u64 (v64 QB), .int .u64 (v64 QC), .int .u64 (v64 QD)] := ((Blk.new w4 25 #[.int .u64 (v64 QA), .int .u64 (v64 QB), .int .u64 (v64 QC), .int .u64 (v64 QD)]).non hK6).keep hK7 (fun e => by have h := hO5.new _ e; omega)
  have hKw6 : Keeps Non w w6 := ((hK4.alloc _).non hK6).then hK7 (fun i hi e => by have h := hO5.new i e; have := hK4.size; omega)
  have hxy := hX4.lt
  obtain ⟨y, hy⟩ : ∃ y, y = w4.heap.size := ⟨_, rfl⟩
  have hyw : w.heap.size ≤ y := by rw [hy]; exact hK4.size
  rw [← hy] at hY6 hO6 hb5 hxy ⊢
  clear hy hX4 hK4 hK6 hK7 hat6 hO5 hn4
  obtain ⟨L, hL⟩ : ∃ L, L = P ++ bs := ⟨_, rfl⟩
  rw [← hL] at hO6 hA5 hc5 hb5
  rw [← List.length_append, ← hL]
  obtain ⟨T, hT⟩ : ∃ T, T = L.length := ⟨_, rfl⟩
  rw [← hT] at hO6 hb5 hc5 ⊢
  have hT2 : T = D + bs.length := by rw [hT, hL, List.length_append, HP.out.2]
  have HLT := Lib.hid (And.intro hL (And.intro hT.symm hT2))
  have hT3 : T ≤ 2097152 := by omega
  clear hL hT hT2
  have HX := HOf.out w6 A5 c5 L hA5 (by have := HLT.out.2.1; omega) (by have := HLT.out.2.1; omega) (hG.non hKw6)
  rw [HLT.out.2.1, HLT.out.1, ← HS.out.2.2] at HX
  refine HX.mono ?_
  clear HX
  rintro e w7 ⟨rfl, hK⟩
  have hX7 := hX6.non hK
  have hY7 := hY6.non hK
  have hO7 := hO6.non hK
  have hK7 := hKw6.non hK
  clear hX6 hY6 hO6 hKw6 hK hA5
  simp only [Sum4.v, sv]
  go_upto_region 8 with fail
  obtain ⟨w8, hw8⟩ : ∃ W : World, W = w7.alloc (.cells #[.int .u64 (v64 (PA + QA)), .int .u64 (v64 (PB + N * PA + QB)), .int .u64 (v64 RC), .int .u64 (v64 RD)] 25) := ⟨_, rfl⟩
  have hZ8 : Blk w8 w7.heap.size 25 #[.int .u64 (v64 (PA + QA)), .int .u64 (v64 (PB + N * PA + QB)), .int .u64 (v64 RC), .int .u64 (v64 RD)] := by rw [hw8]; exact Blk.new _ _ _
  have hX8 : Blk w8 x 25 #[.int .u64 (v64 PA), .int .u64 (v64 PB), .int .u64 (v64 PC), .int .u64 (v64 PD)] := by rw [hw8]; exact hX7.alloc _
  have hY8 : Blk w8 y 25 #[.int .u64 (v64 QA), .int .u64 (v64 QB), .int .u64 (v64 QC), .int .u64 (v64 QD)] := by rw [hw8]; exact hY7.alloc _
  have hO8 : OwnB w8 (y + 1) 5 (.slice A5 T c5) L := by rw [hw8]; exact hO7.non ((Keeps.refl Non w7).alloc _)
  have hK8 : Keeps Non w w8 := by rw [hw8]; exact hK7.alloc _
  rw [← hw8]
  have hz5 : ∀ k, (Value.slice A5 T c5).ownBlock = some k → k < w7.heap.size := fun k e => hO7.old k e
  obtain ⟨z, hz⟩ : ∃ z, z = w7.heap.size := ⟨_, rfl⟩
  rw [← hz] at hZ8 hz5 ⊢
  have hxz : x < z ∧ y < z := by rw [hz]; exact ⟨hX7.lt, hY7.lt⟩
  clear hw8 hz hX7 hY7 hO7 hK7
  have hbn : IntKind.u64.wrap ((((bs.length : Nat) : Int) + 3) / 4) = v64 N := by
    rw [HN.out, ← nat64]; rfl
  go_upto_region 9 with fail
  have z0 := hZ8.cell 0
  have z1 := hZ8.cell 1
  have x0 := hX8.cell 0
  have x1 := hX8.cell 1
  have y0 := hY8.cell 0
  have y1 := hY8.cell 1
  have ha64 := add64
  have hm64 := mul64
  go_upto_region 10 with fail
  clear z0 z1 x0 x1 y0 y1 ha64 hm64 hbn
  by_cases ha0 : 0 ≤ at_
  · by_cases ha1 : at_ < (T : Int)
    · by_cases hm0 : m = 0
      · subst hm0
        have hmz : (((0 : UInt8).toNat : Int) != 0) = false := rfl
        have hd0 : decide (0 ≤ at_) = true := decide_eq_true ha0
        have hd1 : decide (at_ < (T : Int)) = true := decide_eq_true ha1
        go_wp2_with fail
        go_ret
        exact ⟨rfl, hK8⟩
      · obtain ⟨j, rfl⟩ : ∃ j : Nat, at_ = (j : Int) := ⟨at_.toNat, by omega⟩
        have hmz : ((m.toNat : Int) != 0) = true := by
          have : m.toNat ≠ 0 := fun e => hm0 (UInt8.toNat_inj.1 e)
          simpa using this
        have hjT : j < T := by omega
        have hj2 : ((j : Int)).toNat = j := by omega
        have hjL : j < L.length := by have := HLT.out.2.1; omega
        obtain ⟨b0, hb0⟩ : ∃ b0, b0 = L[j] := ⟨_, rfl⟩
        obtain ⟨q, hq⟩ : ∃ q, q = b0 ^^^ m := ⟨_, rfl⟩
        have hqb : q ≠ L.getD j 0 := by rw [hq, List.getD_eq_getElem?_getD, List.getElem?_eq_getElem hjL, Option.getD_some, ← hb0]; exact xor8_ne b0 m hm0
        have hne := sumF_turned L j q hjL hqb
        have hx8 : bits .xor .u8 (b0.toNat : Int) (m.toNat : Int) = (q.toNat : Int) := by rw [hq]; exact xor8 b0 m
        obtain ⟨g, cap, cur, e1, h2, h3, h4, h5, h6, h7⟩ := row_form (show w8.ownsRow (y + 1) 5 1 (.slice A5 T c5) L.length (L.map bv) from hO8) (by omega)
        injection e1 with e1 e3 e2
        clear e3
        subst e1 e2
        have hcj : w8.cell? ⟨g, j, none⟩ = some (.int .u8 (b0.toNat : Int)) := by
          rw [h3.cell, hb0]
          have e1 : (cur.toList.take L.length)[j]? = some (bv L[j]) := by rw [show cur.toList.take L.length = L.map bv by simpa using h7]; simp [hjL]
          rw [List.getElem?_take, if_pos hjL] at e1
          simpa [bv] using e1
        have hf := h3.frozen j
        have hyg : y < g := by omega
        have hgz : g < z := hz5 g rfl
        have hO9 : OwnB (w8.setCell ⟨g, j, none⟩ (.int .u8 (q.toNat : Int))) (y + 1) 5 (.slice (some ⟨g, 0, none⟩) T c5) (L.set j q) := by
          have := row_set (show w8.ownsRow (y + 1) 5 1 (.slice (some ⟨g, 0, none⟩) L.length c5) L.length (L.map bv) from by have := hO8; rw [← HLT.out.2.1] at this; exact this) hjL (bv q)
          rw [← HLT.out.2.1]
          show World.ownsRow _ _ _ _ _ (L.set j q).length ((L.set j q).map bv)
          rw [List.map_set, List.length_set]
          exact this
        have hX9 := hX8.far (p := ⟨g, j, none⟩) (by show x ≠ g; omega) (.int .u8 (q.toNat : Int))
        have hY9 := hY8.far (p := ⟨g, j, none⟩) (by show y ≠ g; omega) (.int .u8 (q.toNat : Int))
        have hZ9 := hZ8.far (p := ⟨g, j, none⟩) (by show z ≠ g; omega) (.int .u8 (q.toNat : Int))
        have hK9 := hK8.setNew (p := ⟨g, j, none⟩) (by show w.heap.size ≤ g; omega) (.int .u8 (q.toNat : Int))
        have HR := Lib.hid hne
        clear h7 h6 h5 h4 h3 hb0 hq hne hqb hO8 hX8 hY8 hZ8 hK8 hb5 hz5 hjL
        have hd0 : decide ((0 : Int) ≤ (j : Int)) = true := decide_eq_true ha0
        have hd1 : decide ((j : Int) < (T : Int)) = true := decide_eq_true ha1
        go_upto_region 12 with fail
        clear hcj hf hx8
        obtain ⟨w9, hw9⟩ : ∃ W : World, W = w8.setCell ⟨g, j, none⟩ (.int .u8 (q.toNat : Int)) := ⟨_, rfl⟩
        rw [← hw9] at hO9 hX9 hY9 hZ9 hK9 ⊢
        clear hw9
        obtain ⟨M, hM⟩ : ∃ M, M = L.set j q := ⟨_, rfl⟩
        have hMT : M.length = T := by rw [hM, List.length_set]; exact HLT.out.2.1
        obtain ⟨S4, hS4⟩ : ∃ S, S = sumF M := ⟨_, rfl⟩
        have hR2 := HR.out
        rw [← hM] at hO9 hR2
        rw [← hS4, HLT.out.1, ← HS.out.2.2] at hR2
        obtain ⟨GA, GB, GC, GD⟩ := S4
        have hga : ¬ v64 GA = v64 (PA + QA) := fun e => hR2 (v64_inj.1 e)
        have HM := Lib.hid (And.intro hMT hS4)
        have hC3 : ∀ W, OwnB W (y + 1) 5 (.slice (some ⟨g, 0, none⟩) T c5) M → Good W → Calls Tryd.prog 13 #[.int .i64 1, .agg #[.int .u64 (v64 (PA + QA)), .int .u64 (v64 (PB + N * PA + QB)), .int .u64 (v64 RC), .int .u64 (v64 RD)], .slice (some ⟨g, 0, none⟩) T c5] W fun e w' => e = .returned (.bool false) ∧ Keeps Non W w' := fun W h1 h2 => by
          obtain ⟨A6, c6, e1, hc6, hA6, -⟩ := h1.open
          injection e1 with e1 _ e2
          subst e1 e2
          have := HCk.out W ⟨PA + QA, PB + N * PA + QB, RC, RD⟩ (some ⟨g, 0, none⟩) c5 M hA6 hc6 (by have := HM.out.1; omega) h2
          rw [HM.out.1, show (⟨PA + QA, PB + N * PA + QB, RC, RD⟩ : Sum4).eqv (sumF M) = false by
            rw [← HM.out.2]
            unfold Sum4.eqv
            rw [decide_eq_false (show ¬ v64 (PA + QA) = v64 GA from fun e => hga e.symm), Bool.false_and]] at this
          exact this
        have HC3 := Lib.hid hC3
        clear hM hMT hS4 hR2 hC3
        obtain ⟨A6, c6, e1, hc6, hA6, -⟩ := hO9.open
        injection e1 with e1 e3 e2
        clear e3
        subst e1 e2
        have HX := HOf.out w9 (some ⟨g, 0, none⟩) c5 M hA6 hc6 (by have := HM.out.1; omega) (hG.non hK9)
        rw [HM.out.1, ← HM.out.2] at HX
        clear hA6 hc6
        go_wp2_with fail
        refine HX.mono ?_
        clear HX
        rintro e w10 ⟨rfl, hK⟩
        have hO10 := hO9.non hK
        have hZ10 := hZ9.non hK
        have hK10 := hK9.non hK
        clear hO9 hX9 hY9 hZ9 hK9 hK
        simp only [Sum4.v, sv]
        go_upto_region 13 with fail
        obtain ⟨w11, hw11⟩ : ∃ W : World, W = w10.alloc (.cells #[.int .u64 (v64 GA), .int .u64 (v64 GB), .int .u64 (v64 GC), .int .u64 (v64 GD)] 25) := ⟨_, rfl⟩
        have hT11 : Blk w11 w10.heap.size 25 #[.int .u64 (v64 GA), .int .u64 (v64 GB), .int .u64 (v64 GC), .int .u64 (v64 GD)] := by rw [hw11]; exact Blk.new _ _ _
        have hZ11 : Blk w11 z 25 #[.int .u64 (v64 (PA + QA)), .int .u64 (v64 (PB + N * PA + QB)), .int .u64 (v64 RC), .int .u64 (v64 RD)] := by rw [hw11]; exact hZ10.alloc _
        have hO11 : OwnB w11 (y + 1) 5 (.slice (some ⟨g, 0, none⟩) T c5) M := by rw [hw11]; exact hO10.non ((Keeps.refl Non w10).alloc _)
        have hK11 : Keeps Non w w11 := by rw [hw11]; exact hK10.alloc _
        rw [← hw11]
        obtain ⟨t, ht⟩ : ∃ t, t = w10.heap.size := ⟨_, rfl⟩
        rw [← ht] at hT11 ⊢
        clear hw11 ht hZ10 hO10 hK10
        have t0 := hT11.cell 0
        have z0 := hZ11.cell 0
        have z1 := hZ11.cell 1
        have z2 := hZ11.cell 2
        have z3 := hZ11.cell 3
        have hge : (v64 GA == v64 (PA + QA)) = false := by simpa using hga
        go_wp2_with fail
        clear t0 z0 z1 z2 z3
        refine (HC3.out w11 hO11 (hG.non hK11)).mono ?_
        rintro e w12 ⟨rfl, hK⟩
        have hK12 := hK11.non hK
        go_wp2_with fail
        go_ret
        exact ⟨rfl, hK12⟩
    · have hd0 : decide (0 ≤ at_) = true := decide_eq_true ha0
      have hd1 : decide (at_ < (T : Int)) = false := decide_eq_false ha1
      go_wp2_with fail
      go_ret
      exact ⟨rfl, hK8⟩
  · have hd0 : decide (0 ≤ at_) = false := decide_eq_false ha0
    go_wp2_with fail
    go_ret
    exact ⟨rfl, hK8⟩
#print axioms sumJoins_any
end Go.Proofs.YtgpamjinkiadnaaDoor
