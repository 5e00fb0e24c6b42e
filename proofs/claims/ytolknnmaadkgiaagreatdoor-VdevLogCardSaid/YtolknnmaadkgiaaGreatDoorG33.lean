/- Bytes that the document lays: how many there are. Numbers, noughts, sums that the document lays. Fletcher's sum of the document, as some sum. The document's label of one top. An append that must grow, onto bytes wherever they lie; a number behind the letters of a label. The document's EncodeLabel of a label of one top. -/
import Derived.Test.YtolknnmaadkgiaaGreatDoorG3
import Derived.Test.YtolknnmaadkgiaaGreatDoorG4
import Derived.Test.YtolknnmaadkgiaaGreatDoorG5
set_option linter.unusedVariables false
set_option linter.unusedSimpArgs false
namespace Go.Proofs.YtolknnmaadkgiaaGreatDoor
set_option maxRecDepth 100000
open Go.RowKit Go.Uc
def Own5 (w : World) (B : Nat) (v : Value) (k : Nat) : Prop := ∃ bs : List UInt8, bs.length = k ∧ OwnB w B 5 v bs
theorem keeps_own {w w1 w2 : World} {B : Nat} {v : Value} {bs : List UInt8} (hk : Keeps Non w w1) (hO : OwnB w1 B 5 v bs) (hB : w.heap.size ≤ B) (h : Keeps (Owned v) w1 w2) : Keeps Non w w2 :=
 hk.then h fun i hi e => by have := hO.new i e; omega
set_option maxHeartbeats 1000000 in
theorem form124_any (n k : Nat) (hk : k ≤ 8) (hn : n < 18446744073709551616) (w : World) :
   Calls Tryz.prog 174 #[.int .u64 (n : Int), .int .i64 (k : Int)] w fun e w' => ∃ (v : Value) (b : Bool), e = .returned (.tuple #[v, .bool b]) ∧ Own5 w' w.heap.size v k ∧ Keeps Non w w' := by
 go_enter Tryz.func174, Tryz.ntmps174
 go_upto_region 3 with fail
 go_loopw [0, 6, 7] (fun a v i wr => ∃ (m j : Nat) (bs : List UInt8), m < 18446744073709551616 ∧ j ≤ k ∧ a = .int .u64 (m : Int) ∧ i = .int .i64 (j : Int) ∧ bs.length = j ∧ OwnB wr w.heap.size 5 v bs ∧ Keeps Non w wr) (fun _ _ i _ => k - (intOf i).toNat)
 case atStart => exact ⟨n, 0, [], hn, Nat.zero_le _, rfl, rfl, rfl, OwnB.nil _ _ _, Keeps.refl _ _⟩
 case round =>
   rename_i a6 a7
   obtain ⟨m, j, bs, hm, hj, rfl, rfl, hbs, hO, hK⟩ := hrel
   obtain ⟨wx, rfl⟩ : ∃ W : World, W = wr := ⟨_, rfl⟩
   have HO := Lib.hid (And.intro hbs hO)
   clear hbs hO
   by_cases hlt : j < k
   · have hji : (j : Int) < (k : Int) := by omega
     have m0 : (0 : Int) ≤ (m : Int) := by omega
     obtain ⟨c, hc⟩ : ∃ c : UInt8, Value.int .u8 ((m : Int) % 256) = bv c := ⟨UInt8.ofNat (m % 256), by rw [bv_ofNat _ (Nat.mod_lt _ (by decide))]; rfl⟩
     have ka := (Keeps.refl Non wx).alloc (.cells #[.int .u8 ((m : Int) % 256)] 5)
     have HA := Lib.hid (And.intro (At.one wx (.int .u8 ((m : Int) % 256)) 5 c hc) (And.intro (HO.out.2.non ka) (hK.non ka)))
     clear hc
     have HL : Hid (bs.length + [c].length ≤ 140737488355328) := Lib.hid (by rw [HO.out.1]; simp; omega)
     have HZ : Hid (w.heap.size ≤ (wx.alloc (.cells #[.int .u8 ((m : Int) % 256)] 5)).heap.size) := Lib.hid HA.out.2.2.size
     clear ka
     go_wp2_with (at_builtin; go_must (refine wpList_append_bytes (o := ⟨some 18, _, _, _, _, _⟩) rfl (.tmp 13) (.tmp 17) 22 rfl w.heap.size 5 Tryz.underlying22 info5 u6 bs rfl HA.out.2.1 (some ⟨wx.heap.size, 0, none⟩) 1 1 [c] (by kernel_rfl) rfl HA.out.1 HL.out HZ.out ?_); intro v8 w8 hO8 hK8 hat8; have hK8w := keeps_own HA.out.2.2 HA.out.2.1 (Nat.le_refl _) hK8; have HR := Lib.hid (And.intro hO8 hK8w); clear hO8 hK8 hat8 hK8w)
     go_roundw
     case rel => exact ⟨m / 256, j + 1, bs ++ [c], by omega, by omega, rfl, by go_num, by rw [List.length_append, HO.out.1]; rfl, HR.out.1, HR.out.2⟩
     case measure => simp [intOf]; omega
   · obtain rfl : j = k := by omega
     go_wp2_with fail
     go_ret2
     exact ⟨_, _, rfl, ⟨bs, HO.out.1, HO.out.2⟩, hK⟩
end Go.Proofs.YtolknnmaadkgiaaGreatDoor
namespace Go.Proofs.YtolknnmaadkgiaaGreatDoor
set_option maxRecDepth 100000
open Go.RowKit Go.Uc
def Byt (w0 w : World) (v : Value) (j : Nat) : Prop := ∃ bs : List UInt8, bs.length = j ∧ OwnB w w0.heap.size 5 v bs ∧ Keeps Non w0 w
theorem oth_own {w w2 : World} {B : Nat} {v : Value} {bs : List UInt8} (h : OwnB w B 5 v bs) (hK : Keeps (Owned v) w w2) : Oth w w2 := fun b t cs hb _ h5 => by
 refine hb.keep hK fun e => ?_
 rcases h.form with ⟨rfl, -⟩ | ⟨g, cap, cur, rfl, -, hB, -⟩
 · simp [Owned, Value.ownBlock] at e
 · simp [Owned, Value.ownBlock] at e
   subst e
   exact hb.ne hB h5 rfl
theorem Byt.non {w0 w w' : World} {v : Value} {j : Nat} (h : Byt w0 w v j) (hk : Keeps Non w w') : Byt w0 w' v j := h.imp fun _ i => ⟨i.1, i.2.1.non hk, i.2.2.non hk⟩
set_option maxHeartbeats 1000000 in
theorem num101_any {w0 w : World} {v : Value} {j : Nat} (h : Byt w0 w v j) (n k : Nat) (hj : j ≤ 1000) (hk : k ≤ 8) (hn : n < 18446744073709551616) :
   Calls Tryz.prog 153 #[v, .int .u64 (n : Int), .int .i64 (k : Int)] w fun e w' => ∃ v', e = .returned v' ∧ Byt w0 w' v' (j + k) ∧ Oth w w' := by
 have HF := Lib.hid (form124_any n k hk hn w)
 obtain ⟨bs, hl, hO, hK⟩ := h
 have HL := Lib.hid hl
 clear hl
 go_enter Tryz.func153, Tryz.ntmps153
 go_upto_region 2 with (go_at_call 174; go_must (refine HF.out.mono ?_); rintro e w1 ⟨u, b, rfl, ⟨bs1, hl1, hO1⟩, hK1⟩; obtain ⟨A1, c1, rfl, hc1, hA1, hn1⟩ := OwnB.open hO1)
 have hO2 := hO.non hK1
 have hK2 := hK.non hK1
 have HB : Hid (bs.length + bs1.length ≤ 140737488355328) := Lib.hid (by rw [HL.out, hl1]; omega)
 have HL1 := Lib.hid hl1
 have HT := Lib.hid (Oth.of hK1)
 clear hl1 hO1 hc1 hn1 hO hK hK1
 have hz := hK2.size
 go_wp2_with (at_builtin; go_must (refine wpList_append_bytes (o := ⟨some 17, _, _, _, _, _⟩) rfl (.tmp 15) (.tmp 16) 22 rfl w0.heap.size 5 Tryz.underlying22 info5 v bs rfl hO2 A1 k c1 bs1 rfl HL1.out.symm hA1 HB.out hz ?_); intro v8 w8 hO8 hK8 hat8; have hK8w := keeps_own hK2 hO2 (Nat.le_refl _) hK8; have HR := Lib.hid (And.intro hO8 (And.intro hK8w (HT.out.trans (oth_own hO2 hK8)))); clear hO8 hK8 hat8 hK8w)
 go_ret
 exact ⟨_, rfl, ⟨bs ++ bs1, by rw [List.length_append, HL.out, HL1.out], HR.out.1, HR.out.2.1⟩, HR.out.2.2⟩
def vlen : Value → Nat
 | .slice _ n _ => n
 | _ => 0
set_option maxHeartbeats 1000000 in
theorem padded125_any {w0 w : World} {v : Value} {j : Nat} (h : Byt w0 w v j) (to_ : Nat) (hj : j ≤ to_) (ht : to_ ≤ 1000) :
   Calls Tryz.prog 175 #[v, .int .i64 (to_ : Int)] w fun e w' => ∃ v', e = .returned v' ∧ Byt w0 w' v' to_ := by
 go_enter Tryz.func175, Tryz.ntmps175
 go_upto_region 1 with fail
 go_loopw [0] (fun u wr => ∃ i : Nat, i ≤ to_ ∧ Byt w0 wr u i) (fun u _ => to_ - vlen u)
 case atStart => exact ⟨j, hj, h⟩
 case round =>
   obtain ⟨i, hi, bs, hl, hO, hK⟩ := hrel
   obtain ⟨wx, rfl⟩ : ∃ W : World, W = wr := ⟨_, rfl⟩
   obtain ⟨A, c, rfl, hc, hA, hn⟩ := OwnB.open hO
   clear hc hA hn
   subst hl
   have hz := hK.size
   by_cases hlt : bs.length < to_
   · have hki : (bs.length : Int) < (to_ : Int) := by omega
     have ka := (Keeps.refl Non wx).alloc (.cells #[.int .u8 0] 5)
     have hA := At.one wx (.int .u8 0) 5 0 rfl
     have hO1 := hO.non ka
     have hK1 := hK.non ka
     have HL : Hid (bs.length + [(0 : UInt8)].length ≤ 140737488355328) := Lib.hid (by simp; omega)
     have hz1 := hK1.size
     clear hO hK ka
     go_wp2_with (at_builtin; go_must (refine wpList_append_bytes (o := ⟨some 11, _, _, _, _, _⟩) rfl (.tmp 9) (.tmp 10) 22 rfl w0.heap.size 5 Tryz.underlying22 info5 (.slice A bs.length c) bs rfl hO1 (some ⟨wx.heap.size, 0, none⟩) 1 1 [0] (by kernel_rfl) rfl hA HL.out hz1 ?_); intro v8 w8 hO8 hK8 hat8; obtain ⟨A8, c8, rfl, hc8, hA8, hn8⟩ := OwnB.open hO8; rw [show (bs ++ [(0 : UInt8)]).length = bs.length + 1 by simp] at hO8 ⊢; have hK8w := keeps_own hK1 hO1 (Nat.le_refl _) hK8; have HR := Lib.hid (And.intro hO8 hK8w); clear hO8 hK8 hat8 hK8w hc8 hA8 hn8)
     go_roundw
     case rel => exact ⟨bs.length + 1, by omega, bs ++ [0], by simp, HR.out.1, HR.out.2⟩
     case measure => simp [vlen]; omega
   · have hll : ¬ (bs.length : Int) < (to_ : Int) := by omega
     go_wp2_with fail
     go_ret
     exact ⟨_, rfl, bs, by omega, hO, hK⟩
set_option maxHeartbeats 2000000 in
theorem sums126_any {w0 w : World} {v : Value} {j : Nat} (h : Byt w0 w v j) (s : S4) (hs : s.ok) (hj : j ≤ 900) :
   Calls Tryz.prog 176 #[v, .agg s.cs] w fun e w' => ∃ v', e = .returned v' ∧ Byt w0 w' v' (j + 32) := by
 obtain ⟨sa, sb, sc, sd⟩ := s
 obtain ⟨q1, q2, q3, q4⟩ := hs
 simp only at q1 q2 q3 q4
 have HN := Lib.hid (fun V u i n (hV : Byt w0 V u i) (hi : i ≤ 1000) (hn : n < 18446744073709551616) => num101_any hV n 8 hi (by decide) hn)
 have hB := Blk.new w 56 #[.int .u64 (sa : Int), .int .u64 (sb : Int), .int .u64 (sc : Int), .int .u64 (sd : Int)]
 have hk := (Keeps.refl Non w).alloc (.cells #[.int .u64 (sa : Int), .int .u64 (sb : Int), .int .u64 (sc : Int), .int .u64 (sd : Int)] 56)
 have h1 := h.non hk
 unfold S4.cs
 go_enter Tryz.func176, Tryz.ntmps176
 go_upto_region 1 with fail
 obtain ⟨w1, hw1⟩ : ∃ V : World, V = w.alloc (.cells #[.int .u64 (sa : Int), .int .u64 (sb : Int), .int .u64 (sc : Int), .int .u64 (sd : Int)] 56) := ⟨_, rfl⟩
 rw [← hw1] at hB h1 ⊢
 clear hw1
 obtain ⟨g, hg⟩ : ∃ z, z = w.heap.size := ⟨_, rfl⟩
 rw [← hg] at hB ⊢
 clear hg hk h
 have x0 : w1.cell? ⟨g, 0, none⟩ = some (.int .u64 (sa : Int)) := hB.cell 0
 go_upto_region 2 with (go_at_call 153; go_must (refine (HN.out w1 v j sa h1 (by omega) q1).mono ?_); rintro e w2 ⟨v2, rfl, h2, hY2⟩)
 have hB2 := hY2 _ _ _ hB (by decide) (by decide)
 have x1 : w2.cell? ⟨g, 1, none⟩ = some (.int .u64 (sb : Int)) := hB2.cell 1
 go_upto_region 3 with (go_at_call 153; go_must (refine (HN.out w2 v2 (j + 8) sb h2 (by omega) q2).mono ?_); rintro e w3 ⟨v3, rfl, h3, hY3⟩)
 have hB3 := hY3 _ _ _ hB2 (by decide) (by decide)
 have x2 : w3.cell? ⟨g, 2, none⟩ = some (.int .u64 (sc : Int)) := hB3.cell 2
 go_upto_region 4 with (go_at_call 153; go_must (refine (HN.out w3 v3 (j + 8 + 8) sc h3 (by omega) q3).mono ?_); rintro e w4 ⟨v4, rfl, h4, hY4⟩)
 have hB4 := hY4 _ _ _ hB3 (by decide) (by decide)
 have x3 : w4.cell? ⟨g, 3, none⟩ = some (.int .u64 (sd : Int)) := hB4.cell 3
 go_wp2_with (go_at_call 153; go_must (refine (HN.out w4 v4 (j + 8 + 8 + 8) sd h4 (by omega) q4).mono ?_); rintro e w5 ⟨v5, rfl, h5, hY5⟩)
 go_ret
 exact ⟨_, rfl, h5⟩
end Go.Proofs.YtolknnmaadkgiaaGreatDoor
namespace Go.Proofs.YtolknnmaadkgiaaGreatDoor
set_option maxRecDepth 100000
open Go.RowKit Go.Uc
def Sum4.cellq (s : Sum4) : Array Value := #[.int .u64 (v64 s.a), .int .u64 (v64 s.b), .int .u64 (v64 s.c), .int .u64 (v64 s.d)]
theorem getDq_at (bs : List UInt8) (i : Nat) (h : i < bs.length) : bs.getD i 0 = bs[i] := by simp [List.getD, h]
theorem mul64q (x : BitVec 64) : IntKind.u64.wrap (256 * v64 x) = v64 (256#64 * x) := by
 rw [IntKind.wrap_u64]; unfold v64; rw [BitVec.toNat_mul, BitVec.toNat_ofNat]; omega
def toS (s : Sum4) : S4 := ⟨s.a.toNat, s.b.toNat, s.c.toNat, s.d.toNat⟩
theorem toS_ok (s : Sum4) : (toS s).ok := ⟨s.a.isLt, s.b.isLt, s.c.isLt, s.d.isLt⟩
set_option maxHeartbeats 2000000 in
theorem fletcher127_any (A : Option Addr) (c : Nat) (bs : List UInt8) (w : World) (hA : At w A bs) (hn : bs.length ≤ 140737488351240) :
   Calls Tryz.prog 57 #[.slice A bs.length c] w fun e w' => ∃ s : S4, s.ok ∧ e = .returned (.agg s.cs) ∧ Keeps Non w w' := by
 go_enter Tryz.func57, Tryz.ntmps57
 go_wp2_with fail
 have hR : Blk ((w.alloc (.cells sum0.cellq 56)).alloc (.cells sum0.cellq 56)) w.heap.size 56 sum0.cellq := (Blk.new w 56 sum0.cellq).alloc _
 have hS : Blk ((w.alloc (.cells sum0.cellq 56)).alloc (.cells sum0.cellq 56)) (w.heap.size + 1) 56 sum0.cellq := by
   have := Blk.new (w.alloc (.cells sum0.cellq 56)) 56 sum0.cellq; simpa using this
 have hK : Keeps Non w ((w.alloc (.cells sum0.cellq 56)).alloc (.cells sum0.cellq 56)) := ((Keeps.refl _ _).alloc _).alloc _
 obtain ⟨W0, hW0⟩ : ∃ W : World, W = ((w.alloc (.cells sum0.cellq 56)).alloc (.cells sum0.cellq 56)) := ⟨_, rfl⟩
 rw [← hW0] at hR hS hK
 rw [show (w.alloc (.cells #[.int .u64 0, .int .u64 0, .int .u64 0, .int .u64 0] 56)).alloc (.cells #[.int .u64 0, .int .u64 0, .int .u64 0, .int .u64 0] 56) = W0 from hW0.symm]
 clear hW0
 obtain ⟨b, hb⟩ : ∃ b, b = w.heap.size := ⟨_, rfl⟩
 rw [← hb] at hR hS ⊢
 have hbL : w.heap.size ≤ b := by omega
 clear hb
 have hA0 := hA.non hK
 go_loopw [4] (fun i wr => ∃ n : Nat, 4 * n ≤ bs.length + 3 ∧ i = .int .i64 ((4 * n : Nat) : Int) ∧ (∃ S : Sum4, Blk wr (b + 1) 56 S.cellq) ∧ Keeps (Only (b + 1)) W0 wr) (fun i _ => bs.length + 4 - (intOf i).toNat)
 case atStart => exact ⟨0, by omega, rfl, ⟨sum0, hS⟩, Keeps.refl _ _⟩
 case round =>
   obtain ⟨n, hn4, rfl, ⟨S, hSn⟩, hKn⟩ := hrel
   have hAn : At wr A bs := fun i hi => by
     obtain ⟨ad, e, hcell⟩ := hA0 i hi
     obtain ⟨ad', e', h'⟩ := hA.lt (by omega)
     rw [e] at e'; injection e' with e'; subst e'
     exact ⟨ad, e, hKn.cell hcell (by rw [Addr.add_block]; show ¬ ad.block = b + 1; omega)⟩
   obtain ⟨i, hi⟩ : ∃ i, i = 4 * n := ⟨_, rfl⟩
   rw [← hi]
   by_cases hlt : i < bs.length
   · have HI := Lib.hid hi
     clear hi
     have i0 : (0 : Int) ≤ (i : Int) := by omega
     have i1 : (i : Int) < (bs.length : Int) := by omega
     obtain ⟨wa, rfl⟩ : ∃ W : World, W = wr := ⟨_, rfl⟩
     go_wp2_with fail
     go_loopw [5, 6] (fun u k wr => ∃ (X : BitVec 64) (j : Nat), j ≤ 4 ∧ u = .int .u64 (v64 X) ∧ k = .int .i64 (3 - (j : Int)) ∧ wr = wa) (fun _ k _ => (intOf k + 1).toNat)
     case atStart => exact ⟨0, 0, by omega, rfl, rfl, rfl⟩
     case round =>
       obtain ⟨X, j, hj, rfl, rfl, rfl⟩ := hrel
       by_cases hj4 : j < 4
       · obtain ⟨m, hm⟩ : ∃ m : Nat, m + j = 3 := ⟨3 - j, by omega⟩
         rw [show (3 - (j : Int)) = (m : Int) by omega]
         have m0 : (0 : Int) ≤ (m : Int) := by omega
         have hmul := mul64q
         have hadd := add64
         have l0 := v64_nonneg
         have hwr : ∀ x : BitVec 64, IntKind.u64.wrap (v64 x) = v64 x := fun x => by rw [IntKind.wrap_u64]; have := v64_nonneg x; have := v64_le x; omega
         by_cases him : i + m < bs.length
         · obtain ⟨p, off, rfl, hcx⟩ := hAn.at_ him
           have hcx' : wr.cell? ⟨p, off + (i + m), none⟩ = some (.int .u8 (v64 (b64 (bs.getD (i + m) 0)))) := by
             rw [hcx, bv_b64, getDq_at _ _ him]
           have n0 : IntKind.i64.wrap ((i : Int) + (m : Int)) = ((i + m : Nat) : Int) := by rw [IntKind.wrap_i64]; omega
           obtain ⟨q, hq⟩ : ∃ q, q = i + m := ⟨_, rfl⟩
           rw [← hq] at n0 hcx' him
           have n1 : (q : Int) < (bs.length : Int) := by omega
           have n2 : (0 : Int) ≤ (q : Int) := by omega
           have n3 : ((q : Int)).toNat = q := by omega
           obtain ⟨Y, hY⟩ : ∃ Y, Y = b64 (bs.getD q 0) := ⟨_, rfl⟩
           rw [← hY] at hcx'
           have l2 : v64 Y ≤ 255 := by rw [hY]; exact b64_le _
           clear hY hq hcx
           obtain ⟨wx, rfl⟩ : ∃ W : World, W = wr := ⟨_, rfl⟩
           go_wp2_with fail
           go_roundw
           case rel =>
             refine ⟨_, j + 1, by omega, rfl, by go_num, ?_⟩
             first | rfl | trivial
           case measure => simp [intOf]
         · have n0 : IntKind.i64.wrap ((i : Int) + (m : Int)) = ((i + m : Nat) : Int) := by rw [IntKind.wrap_i64]; omega
           obtain ⟨q, hq⟩ : ∃ q, q = i + m := ⟨_, rfl⟩
           rw [← hq] at n0 him
           have n1 : ¬ (q : Int) < (bs.length : Int) := by omega
           clear hq
           obtain ⟨wx, rfl⟩ : ∃ W : World, W = wr := ⟨_, rfl⟩
           go_wp2_with fail
           go_roundw
           case rel =>
             refine ⟨_, j + 1, by omega, rfl, by go_num, ?_⟩
             first | rfl | trivial
           case measure => simp [intOf]
       · obtain rfl : j = 4 := by omega
         obtain ⟨SA, SB, SC, SD⟩ := S
         have hadd := add64
         have e0 : wr.cell? ⟨b + 1, 0, none⟩ = some (.int .u64 (v64 SA)) := hSn.cell 0
         have e1 : wr.cell? ⟨b + 1, 1, none⟩ = some (.int .u64 (v64 SB)) := hSn.cell 1
         have e2 : wr.cell? ⟨b + 1, 2, none⟩ = some (.int .u64 (v64 SC)) := hSn.cell 2
         have e3 : wr.cell? ⟨b + 1, 3, none⟩ = some (.int .u64 (v64 SD)) := hSn.cell 3
         have f0 := fun i => hSn.frozen i
         have i4 : IntKind.i64.wrap ((i : Int) + 4) = ((i + 4 : Nat) : Int) := by rw [IntKind.wrap_i64]; omega
         obtain ⟨wx, rfl⟩ : ∃ W : World, W = wr := ⟨_, rfl⟩
         go_wp2_with fail
         go_roundw
         case rel =>
           have hi := HI.out
           refine ⟨n + 1, by omega, by rw [show 4 * (n + 1) = i + 4 by omega]; go_num, ?_, ?_⟩
           · exact ⟨⟨SA + X, SB + (SA + X), SC + (SB + (SA + X)), SD + (SC + (SB + (SA + X)))⟩, (((hSn.set 0 (.int .u64 (v64 (SA + X)))).set 1 (.int .u64 (v64 (SB + (SA + X))))).set 2 (.int .u64 (v64 (SC + (SB + (SA + X)))))).set 3 (.int .u64 (v64 (SD + (SC + (SB + (SA + X))))))⟩
           · exact (((hKn.set (p := ⟨b + 1, 0, none⟩) rfl _).set (p := ⟨b + 1, 1, none⟩) rfl _).set (p := ⟨b + 1, 2, none⟩) rfl _).set (p := ⟨b + 1, 3, none⟩) rfl _
         case measure => simp [intOf]; omega
   · have i1 : ¬ (i : Int) < (bs.length : Int) := by omega
     have hRn := hR.one hKn (by omega)
     have hKz : Keeps Non w wr := hK.then hKn (fun k hk e => absurd e (by show ¬ k = b + 1; omega))
     clear hi hKn hAn hA0 hR hS hK hn4 hlt
     obtain ⟨wx, rfl⟩ : ∃ W : World, W = wr := ⟨_, rfl⟩
     go_wp2_with ((with_reducible show wpList _ _ _ _ _ _); refine wpList_load_row (o := ⟨some 58, _, _, _, _, _⟩) rfl 56 (.tmp 3) rfl (b + 1) rfl 56 S.cellq (0, 0) _ hSn Tryz.underlying56 rfl (by kernel_rfl) ?_; refine wpList_store_blk rfl 56 (.tmp 2) (.tmp 58) rfl b S.cellq rfl rfl 56 sum0.cellq hRn (by kernel_rfl) rfl (by kernel_rfl) ?_; intro w7 hR8 hK8; have hK9 : Keeps Non w w7 := hKz.then hK8 (fun k hk e => absurd e (by show ¬ k = b; omega)); clear hRn hKz hK8 hSn)
     refine bodyPost_ret (results_cell_blk (ty := 56) rfl _ b 56 S.cellq _ rfl hR8 Tryz.underlying56 rfl (by kernel_rfl)) rfl ⟨toS S, toS_ok S, rfl, hK9⟩
set_option maxHeartbeats 1000000 in
theorem summed102_any {w0 w : World} {v : Value} {j : Nat} (h : Byt w0 w v j) (hj : j ≤ 96) :
   Calls Tryz.prog 154 #[v] w fun e w' => ∃ v', e = .returned v' ∧ Byt w0 w' v' 128 := by
 have HP := Lib.hid (padded125_any h 96 hj (by decide))
 go_enter Tryz.func154, Tryz.ntmps154
 go_upto_region 2 with (go_at_call 175; go_must (refine HP.out.mono ?_); rintro e w1 ⟨v1, rfl, hv1⟩)
 obtain ⟨bs, hl, hO, hK⟩ := hv1
 obtain ⟨A, c, rfl, hc, hA, hn⟩ := OwnB.open hO
 have HF := Lib.hid (fletcher127_any A c bs w1 hA (by omega))
 have HS := Lib.hid (fun V s (hs : s.ok) (hV : Keeps Non w1 V) => sums126_any (w := V) (Byt.non ⟨bs, hl, hO, hK⟩ hV) s hs (by decide))
 clear hc hA hn hO hK hl HP
 go_wp2_with (first | (go_at_call 57; go_must (refine HF.out.mono ?_); rintro e w2 ⟨s, hs, rfl, hK2⟩; have HS2 := Lib.hid (HS.out w2 s hs hK2)) | (go_at_call 176; go_must (refine HS2.out.mono ?_); rintro e w3 ⟨v3, rfl, h3⟩))
 go_ret
 exact ⟨_, rfl, h3⟩
end Go.Proofs.YtolknnmaadkgiaaGreatDoor
namespace Go.Proofs.YtolknnmaadkgiaaGreatDoor
set_option maxRecDepth 100000
open Go.RowKit Go.Uc
def Md (kd lv : Nat) : Prop := (kd = 2 ∧ 2 ≤ lv ∧ lv ≤ 5) ∨ (kd = 3 ∧ 3 ≤ lv ∧ lv ≤ 5)
def Tb (w : World) (tb kd lv n : Nat) : Prop := ∃ cs : Array Value, Blk w tb 31 cs ∧ cs[0]? = some (.int .i64 (kd : Int)) ∧ cs[1]? = some (.int .i64 (lv : Int)) ∧ cs[2]? = some (.int .i64 (n : Int))
theorem Tb.non {w w' : World} {tb kd lv n : Nat} (h : Tb w tb kd lv n) (hk : Keeps Non w w') : Tb w' tb kd lv n := h.imp fun _ i => ⟨i.1.non hk, i.2⟩
theorem Tb.oth {w w' : World} {tb kd lv n : Nat} (h : Tb w tb kd lv n) (hk : Oth w w') : Tb w' tb kd lv n := h.imp fun _ i => ⟨hk _ _ _ i.1 (by decide) (by decide), i.2⟩
theorem Tb.cells {w : World} {tb kd lv n : Nat} (h : Tb w tb kd lv n) : w.cell? ⟨tb, 0, none⟩ = some (.int .i64 (kd : Int)) ∧ w.cell? ⟨tb, 1, none⟩ = some (.int .i64 (lv : Int)) ∧ w.cell? ⟨tb, 2, none⟩ = some (.int .i64 (n : Int)) := by
 obtain ⟨cs, hB, h0, h1, h2⟩ := h
 exact ⟨by rw [hB.cell]; exact h0, by rw [hB.cell]; exact h1, by rw [hB.cell]; exact h2⟩
set_option maxHeartbeats 2000000 in
theorem made123_one (kd lv n : Nat) (hm : Md kd lv) (h1 : 324 ≤ n) (h2 : n ≤ 8192) (w : World) : Calls Tryz.prog 106 #[.agg #[.int .i64 (kd : Int), .int .i64 (lv : Int), .int .i64 (n : Int)]] w fun e w' => e = .returned (.bool true) ∧ Keeps Non w w' := by
 have hB := Blk.new w 31 #[.int .i64 (kd : Int), .int .i64 (lv : Int), .int .i64 (n : Int)]
 have hk := (Keeps.refl Non w).alloc (.cells #[.int .i64 (kd : Int), .int .i64 (lv : Int), .int .i64 (n : Int)] 31)
 go_enter Tryz.func106, Tryz.ntmps106
 go_upto_region 1 with fail
 obtain ⟨w1, hw1⟩ : ∃ V : World, V = w.alloc (.cells #[.int .i64 (kd : Int), .int .i64 (lv : Int), .int .i64 (n : Int)] 31) := ⟨_, rfl⟩
 rw [← hw1] at hB hk ⊢
 clear hw1
 obtain ⟨p1, hp1⟩ : ∃ z, z = w.heap.size := ⟨_, rfl⟩
 rw [← hp1] at hB ⊢
 clear hp1
 have x0 : w1.cell? ⟨p1, 0, none⟩ = some (.int .i64 (kd : Int)) := hB.cell 0
 have x1 : w1.cell? ⟨p1, 1, none⟩ = some (.int .i64 (lv : Int)) := hB.cell 1
 have x2 : w1.cell? ⟨p1, 2, none⟩ = some (.int .i64 (n : Int)) := hB.cell 2
 have d1 : decide ((n : Int) < 324) = false := decide_eq_false (by omega)
 have d2 : decide ((8192 : Int) < (n : Int)) = false := decide_eq_false (by omega)
 have d3 : decide ((5 : Int) < (lv : Int)) = false := decide_eq_false (by rcases hm with h | h <;> omega)
 rcases hm with ⟨rfl, h3, h4⟩ | ⟨rfl, h3, h4⟩
 · have d4 : decide ((2 : Int) ≤ (lv : Int)) = true := decide_eq_true (by omega)
   go_wp2_with fail
   go_ret
   exact ⟨rfl, hk⟩
 · have d4 : decide ((3 : Int) ≤ (lv : Int)) = true := decide_eq_true (by omega)
   go_wp2_with fail
   go_ret
   exact ⟨rfl, hk⟩
set_option maxHeartbeats 4000000 in
theorem checkLabel100_one (pool tb tc kd lv n pl : Nat) (hm : Md kd lv) (hpl : pl < lv) (w : World) (hT : Tb w tb kd lv n) (h1 : 324 ≤ n) (h2 : n ≤ 8192) (htc : 1 ≤ tc) :
   Calls Tryz.prog 61 #[.agg #[.int .u64 (pool : Int), .slice (some ⟨tb, 0, none⟩) 1 tc, .int .i64 0, .int .i64 (pl : Int)]] w fun e w' => e = .returned (.int .i64 0) ∧ Keeps Non w w' := by
 have hB := Blk.new w 114 #[.int .u64 (pool : Int), .slice (some ⟨tb, 0, none⟩) 1 tc, .int .i64 0, .int .i64 (pl : Int)]
 have hk := (Keeps.refl Non w).alloc (.cells #[.int .u64 (pool : Int), .slice (some ⟨tb, 0, none⟩) 1 tc, .int .i64 0, .int .i64 (pl : Int)] 114)
 have hT1 := hT.non hk
 go_enter Tryz.func61, Tryz.ntmps61
 go_upto_region 1 with fail
 obtain ⟨w1, hw1⟩ : ∃ V : World, V = w.alloc (.cells #[.int .u64 (pool : Int), .slice (some ⟨tb, 0, none⟩) 1 tc, .int .i64 0, .int .i64 (pl : Int)] 114) := ⟨_, rfl⟩
 rw [← hw1] at hB hk hT1 ⊢
 clear hw1
 obtain ⟨p1, hp1⟩ : ∃ z, z = w.heap.size := ⟨_, rfl⟩
 rw [← hp1] at hB ⊢
 clear hp1
 have x1 : w1.cell? ⟨p1, 1, none⟩ = some (.slice (some ⟨tb, 0, none⟩) 1 tc) := hB.cell 1
 have x2 : w1.cell? ⟨p1, 2, none⟩ = some (.int .i64 0) := hB.cell 2
 have hpi : (pl : Int) < (lv : Int) := by omega
 have x3 : w1.cell? ⟨p1, 3, none⟩ = some (.int .i64 (pl : Int)) := hB.cell 3
 obtain ⟨y0, y1, y2⟩ := hT1.cells
 have e1 : decide ((pl : Int) < 0) = false := decide_eq_false (by omega)
 have e2 : decide ((lv : Int) ≤ (pl : Int)) = false := decide_eq_false (by omega)
 have e3 : decide (lv ≤ pl) = false := decide_eq_false (by omega)
 go_quiet (fail)
 obtain ⟨w2, hw2⟩ : ∃ V : World, V = w1.drewN nq := ⟨_, rfl⟩
 have hk2 : Keeps Non w1 w2 := by rw [hw2]; exact (Keeps.refl _ _).drewN _
 rw [← hw2]
 clear hw2 x1 x2 x3 y0 y1 y2
 have hB2 := hB.non hk2
 have hT2 := hT1.non hk2
 have hkk := hk.non hk2
 clear hB hT1 hk hk2
 go_upto_region 4 with fail
 go_loopw [3] (fun i wr => ∃ j : Nat, j ≤ 1 ∧ i = .int .i64 (j : Int) ∧ Keeps Non w2 wr) (fun i _ => 1 - (intOf i).toNat)
 case atStart => exact ⟨0, by omega, rfl, Keeps.refl _ _⟩
 case round =>
   obtain ⟨j, hj, rfl, hK⟩ := hrel
   obtain ⟨wx, rfl⟩ : ∃ W : World, W = wr := ⟨_, rfl⟩
   have hB3 := hB2.non hK
   have hT3 := hT2.non hK
   have x1 : wx.cell? ⟨p1, 1, none⟩ = some (.slice (some ⟨tb, 0, none⟩) 1 tc) := hB3.cell 1
   obtain ⟨y0, y1, y2⟩ := hT3.cells
   have HM := Lib.hid (made123_one kd lv n hm h1 h2 wx)
   by_cases hj0 : j = 0
   · subst hj0
     go_wp2_with (go_at_call 106; go_must (refine HM.out.mono ?_); rintro e w3 ⟨rfl, hK3⟩)
     go_roundw
     case rel => exact ⟨1, by omega, rfl, hK.non hK3⟩
     case measure => simp [intOf]
   · obtain rfl : j = 1 := by omega
     go_wp2_with fail
     go_ret
     exact ⟨rfl, hkk.non hK⟩
end Go.Proofs.YtolknnmaadkgiaaGreatDoor
namespace Go.Uc
open Go.RowKit
section
variable {P : Program} {ops : Array Oper} {rest : List Oper} {o : Oper} {a : Act} {w : World} {Q : Exit → Act → World → Prop}
theorem wpList_append_full (hgd : o.guard = none) (s x : Operand) (t : TypeId)
   (ho : o.op = .call { callee := .builtin .append, args := #[s, x], argTypes := #[t, t] })
   (base : Nat) (e : TypeId) (ht : P.underlying t = some (.slice e)) (hi : (P.info? e).map (fun i => (i.zero, i.size, i.bytes)) = some (some (.int .u8 0), 1, 1))
   (A0 : Addr) (n c0 : Nat) (olds : List UInt8) (hs : a.eval s = .slice (some A0) n c0) (hn : n = olds.length) (hA0 : At w (some A0) olds)
   (A : Option Addr) (m c : Nat) (news : List UInt8) (hx : a.eval x = .slice A m c) (hm : m = news.length) (hr : At w A news) (hp : 0 < news.length) (hfull : c0 < n + m)
   (hbytes : olds.length + news.length ≤ 70368744177664) (hbase : base ≤ w.heap.size)
   (h : ∀ v' w', OwnB w' base e v' (olds ++ news) → Keeps Non w w' → wpList P ops Q rest (a.put o.dst v') w') : wpList P ops Q (o :: rest) a w := by
 obtain ⟨i, hi0, hz0, hz1, hz2⟩ := info_parts hi
 subst hm
 subst hn
 obtain ⟨ad, rfl, hcells⟩ := hr.some hp
 refine wpList_plain hgd fun K hK => ?_
 have hrun := run_append_grow (P := P) (w := w) t o.type e i (.int .u8 0) ht hi0 hz0 A0 olds.length c0 (olds.map bv) (by simp [hz1]) (hA0.news rfl) ad news.length c (news.map bv) (by simp [hz1]) hcells hfull (by omega) (by
   rw [hz2, Nat.mul_one]
   unfold Builtin.nextslicecap
   split
   · omega
   · split
     · omega
     · rename_i h1 h2
       have : ∀ (k c : Nat), Builtin.growBy (olds.length + news.length) k c ≤ max c ((olds.length + news.length) + (olds.length + news.length) / 4 + 193) := by
         intro k
         induction k with
         | zero => intro c; unfold Builtin.growBy; omega
         | succ k ih =>
           intro c
           unfold Builtin.growBy
           split
           · omega
           · have := ih (c + (c + 768) / 4)
             omega
       have := this 4 c0
       omega)
 have hge := grownCap_ge w (olds.length + news.length) c0 e
 have hcm : grownCap w (olds.length + news.length) c0 e ≤ maxLen := grownCap_le_maxLen w (olds.length + news.length) c0 e (by unfold maxLen; omega)
 unfold Oper.wp execOp
 simp only [ho, resolve, invoke, builtin, Sem.run_bind, Sem.run_pure, Result.andThen_ok, List.map_toArray, List.map_cons, List.map_nil, hs, hx, hrun]
 refine hK _ _ (h _ _ ⟨by simp, .inr ⟨w.heap.size, _, _, by rw [List.length_append], hbase, heap_alloc_new w.drew _, by rw [List.length_append]; exact hge, hcm, ?_, ?_⟩⟩ ⟨rfl, rfl, rfl, by simp, fun k hk _ => Below.heap_alloc w.drew _ k hk⟩)
 · simp [size_zeroCells, Value.cells]
   omega
 · simp only [Array.toList_append, List.append_assoc, List.map_append, Nat.mul_one, List.length_append]
   rw [← List.append_assoc]
   have e1 : olds.length + news.length = (olds.map bv ++ news.map bv).length := by simp
   rw [e1]
   exact List.take_left
end
end Go.Uc
namespace Go.Proofs.YtolknnmaadkgiaaGreatDoor
set_option maxRecDepth 100000
open Go.RowKit Go.Uc
set_option maxHeartbeats 1000000 in
theorem num101_lit {w0 w : World} (hK : Keeps Non w0 w) (A0 : Addr) (bs : List UInt8) (hA : At w (some A0) bs) (n k : Nat) (hj : bs.length ≤ 1000) (hk0 : 0 < k) (hk : k ≤ 8) (hn : n < 18446744073709551616) :
   Calls Tryz.prog 153 #[.slice (some A0) bs.length bs.length, .int .u64 (n : Int), .int .i64 (k : Int)] w fun e w' => ∃ v', e = .returned v' ∧ Byt w0 w' v' (bs.length + k) ∧ Oth w w' := by
 have HF := Lib.hid (form124_any n k hk hn w)
 obtain ⟨L, hL⟩ : ∃ L, L = bs.length := ⟨_, rfl⟩
 rw [← hL]
 have HL := Lib.hid hL
 clear hL
 go_enter Tryz.func153, Tryz.ntmps153
 go_upto_region 2 with (go_at_call 174; go_must (refine HF.out.mono ?_); rintro e w1 ⟨u, b, rfl, ⟨bs1, hl1, hO1⟩, hK1⟩; obtain ⟨A1, c1, rfl, hc1, hA1, hn1⟩ := OwnB.open hO1)
 have hA2 := hA.non hK1
 have hK2 := hK.non hK1
 have HB : Hid (bs.length + bs1.length ≤ 70368744177664) := Lib.hid (by rw [hl1]; omega)
 have HP : Hid (0 < bs1.length ∧ L < L + k) := Lib.hid (by rw [hl1]; omega)
 have HL1 := Lib.hid hl1
 have HT := Lib.hid (Oth.of hK1)
 clear hl1 hO1 hc1 hn1 hK hK1 hj hk0
 have hz := hK2.size
 go_wp2_with (at_builtin; go_must (refine wpList_append_full (o := ⟨some 17, _, _, _, _, _⟩) rfl (.tmp 15) (.tmp 16) 22 rfl w0.heap.size 5 Tryz.underlying22 info5 A0 L L bs rfl HL.out hA2 A1 k c1 bs1 rfl HL1.out.symm hA1 HP.out.1 HP.out.2 HB.out hz ?_); intro v8 w8 hO8 hK8; have HR := Lib.hid (And.intro hO8 (And.intro (hK2.non hK8) (HT.out.trans (Oth.of hK8)))); clear hO8 hK8)
 go_ret
 exact ⟨_, rfl, ⟨bs ++ bs1, by rw [List.length_append, ← HL.out, HL1.out], HR.out.1, HR.out.2.1⟩, HR.out.2.2⟩
end Go.Proofs.YtolknnmaadkgiaaGreatDoor
namespace Go.Uc
open Go.RowKit
section
variable {P : Program} {ops : Array Oper} {rest : List Oper} {o : Oper} {a : Act} {w : World} {Q : Exit → Act → World → Prop}
theorem step_append_bytes {K : Act → World → Prop} {E : Prop} (hgd : o.guard = none) (s x : Operand) (t : TypeId)
   (ho : o.op = .call { callee := .builtin .append, args := #[s, x], argTypes := #[t, t] })
   (base : Nat) (e : TypeId) (ht : P.underlying t = some (.slice e)) (hi : (P.info? e).map (fun i => (i.zero, i.size, i.bytes)) = some (some (.int .u8 0), 1, 1))
   (v : Value) (bs : List UInt8) (hs : a.eval s = v) (hown : OwnB w base e v bs)
   (A : Option Addr) (m c : Nat) (news : List UInt8) (hx : a.eval x = .slice A m c) (hm : m = news.length) (hr : At w A news)
   (hbytes : bs.length + news.length ≤ 140737488355328) (hbase : base ≤ w.heap.size)
   (h : ∀ v' w', OwnB w' base e v' (bs ++ news) → Keeps (Owned v) w w' → (v'.ownBlock = v.ownBlock ∨ v'.ownBlock = some w.heap.size) → K (a.put o.dst v') w') :
   if Region.wanted o (yielded ops a.tmps) = true then Oper.wp P o a w K Q else E := by
 obtain ⟨i, hi0, hz0, hz1, hz2⟩ := info_parts hi
 subst hm
 have hw : Region.wanted o (yielded ops a.tmps) = true := by simp [Region.wanted, hgd]
 rw [if_pos hw]
 refine wp_append_any s x t ho base e i (.int .u8 0) 1 1 ht hi0 hz0 hz1 hz2 rfl (by omega) v bs.length (bs.map bv) hs hown A news.length c (news.map bv) hx (by simp) hr.ats (pc_one _) (by unfold maxLen; omega) (by omega) hbase fun v' w' h2 h3 h4 => h v' w' ?_ h3 h4
 unfold OwnB
 rw [List.length_append, List.map_append]
 exact h2
end
end Go.Uc
namespace Go.Proofs.YtolknnmaadkgiaaGreatDoor
set_option maxRecDepth 100000
open Go.RowKit Go.Uc
theorem Byt.byte {w0 w : World} {v : Value} {j : Nat} (h : Byt w0 w v j) (cs : List UInt8) {A : Option Addr} (hA : At w A cs) (hj : j + cs.length ≤ 100000) : ∃ bs : List UInt8, bs.length = j ∧ OwnB w w0.heap.size 5 v bs ∧ Keeps Non w0 w ∧ bs.length + cs.length ≤ 140737488355328 := by
 obtain ⟨bs, h1, h2, h3⟩ := h
 exact ⟨bs, h1, h2, h3, by omega⟩
set_option maxHeartbeats 4000000 in
theorem encodeLabel61_one {w : World} (pool tb tc kd lv n pl : Nat) (hmd : Md kd lv) (hpl : pl < lv) (hT : Tb w tb kd lv n) (h1 : 324 ≤ n) (h2 : n ≤ 8192) (htc : 1 ≤ tc) (hp : pool < 18446744073709551616) :
   Calls Tryz.prog 107 #[.agg #[.int .u64 (pool : Int), .slice (some ⟨tb, 0, none⟩) 1 tc, .int .i64 0, .int .i64 (pl : Int)]] w fun e w' => ∃ v', e = .returned (.tuple #[v', .int .i64 0]) ∧ Byt w w' v' 128 := by
 have hB := Blk.new w 114 #[.int .u64 (pool : Int), .slice (some ⟨tb, 0, none⟩) 1 tc, .int .i64 0, .int .i64 (pl : Int)]
 have hk := (Keeps.refl Non w).alloc (.cells #[.int .u64 (pool : Int), .slice (some ⟨tb, 0, none⟩) 1 tc, .int .i64 0, .int .i64 (pl : Int)] 114)
 have hT1 := hT.non hk
 have HN := Lib.hid (fun V u i m k (hV : Byt w V u i) (hi : i ≤ 1000) (hk : k ≤ 8) (hm : m < 18446744073709551616) => num101_any hV m k hi hk hm)
 go_enter Tryz.func107, Tryz.ntmps107
 go_upto_region 1 with fail
 obtain ⟨w1, hw1⟩ : ∃ V : World, V = w.alloc (.cells #[.int .u64 (pool : Int), .slice (some ⟨tb, 0, none⟩) 1 tc, .int .i64 0, .int .i64 (pl : Int)] 114) := ⟨_, rfl⟩
 rw [← hw1] at hB hk hT1 ⊢
 clear hw1
 obtain ⟨p1, hp1⟩ : ∃ z, z = w.heap.size := ⟨_, rfl⟩
 rw [← hp1] at hB ⊢
 clear hp1 hT
 have x0 : w1.cell? ⟨p1, 0, none⟩ = some (.int .u64 (pool : Int)) := hB.cell 0
 have x1 : w1.cell? ⟨p1, 1, none⟩ = some (.slice (some ⟨tb, 0, none⟩) 1 tc) := hB.cell 1
 have x2 : w1.cell? ⟨p1, 2, none⟩ = some (.int .i64 0) := hB.cell 2
 have x3 : w1.cell? ⟨p1, 3, none⟩ = some (.int .i64 (pl : Int)) := hB.cell 3
 have HC := Lib.hid (checkLabel100_one pool tb tc kd lv n pl hmd hpl w1 hT1 h1 h2 htc)
 go_upto_region 2 with (go_at_call 61; go_must (refine HC.out.mono ?_); rintro e w2 ⟨rfl, hK2⟩)
 clear x0 x1 x2 x3 HC
 have hk2 := hk.non hK2
 have hB2 := hB.non hK2
 have hT2 := hT1.non hK2
 clear hB hT1 hk hK2
 have hcv : (convert 22 22 (.slice (some ⟨w2.heap.size, 0, none⟩) 4 4)).run Tryz.prog (w2.alloc (.cells #[.int .u8 85, .int .u8 67, .int .u8 76, .int .u8 66] 5)) = .ok (.slice (some ⟨w2.heap.size, 0, none⟩) 4 4) (w2.alloc (.cells #[.int .u8 85, .int .u8 67, .int .u8 76, .int .u8 66] 5 (4, 5))) := Joins.run_convert_bytes_const_at w2 22 5 #[.int .u8 85, .int .u8 67, .int .u8 76, .int .u8 66] 4 4 w2.heap.size rfl Tryz.underlying22 Tryz.underlying5
 have hA3 : At (w2.alloc (.cells #[.int .u8 85, .int .u8 67, .int .u8 76, .int .u8 66] 5 (4, 5))) (some ⟨w2.heap.size, 0, none⟩) [85, 67, 76, 66] := At.lit w2 5 (4, 5) _ [85, 67, 76, 66] rfl
 have hk3 := (Keeps.refl Non w2).alloc (.cells #[.int .u8 85, .int .u8 67, .int .u8 76, .int .u8 66] 5 (4, 5))
 go_upto_region 5 with fail
 obtain ⟨w3, hw3⟩ : ∃ V : World, V = w2.alloc (.cells #[.int .u8 85, .int .u8 67, .int .u8 76, .int .u8 66] 5 (4, 5)) := ⟨_, rfl⟩
 rw [← hw3] at hA3 hk3 ⊢
 clear hw3 hcv
 obtain ⟨g3, hg3⟩ : ∃ z, z = w2.heap.size := ⟨_, rfl⟩
 rw [← hg3] at hA3 ⊢
 clear hg3
 have hB3 := hB2.non hk3
 have hT3 := hT2.non hk3
 have x0 : w3.cell? ⟨p1, 0, none⟩ = some (.int .u64 (pool : Int)) := hB3.cell 0
 have HL := Lib.hid (num101_lit (hk2.non hk3) ⟨g3, 0, none⟩ [85, 67, 76, 66] hA3 pool 8 (by decide) (by decide) (by decide) hp)
 clear hk3 hk2 hB2 hT2 hA3
 go_upto_region 6 with (go_at_call 153; go_must (refine HL.out.mono ?_); rintro e w4 ⟨v4, rfl, h4, hY4⟩)
 clear x0 HL
 have hB4 := hY4 _ _ _ hB3 (by decide) (by decide)
 have hT4 := hT3.oth hY4
 clear hY4 hB3 hT3
 have x1 : w4.cell? ⟨p1, 1, none⟩ = some (.slice (some ⟨tb, 0, none⟩) 1 tc) := hB4.cell 1
 have x2 : w4.cell? ⟨p1, 2, none⟩ = some (.int .i64 0) := hB4.cell 2
 have x3 : w4.cell? ⟨p1, 3, none⟩ = some (.int .i64 (pl : Int)) := hB4.cell 3
 have hA5 : At (w4.alloc (.cells #[.int .u8 0, .int .u8 ((pl : Int) % 256), .int .u8 1] 5)) (some ⟨w4.heap.size, 0, none⟩) [0, UInt8.ofNat pl, 1] := At.lit w4 5 (0, 0) _ [0, UInt8.ofNat pl, 1] (by simp only [pc, List.map_cons, List.map_nil]; rw [bv_ofNat pl (by rcases hmd with h | h <;> omega), show ((pl : Int) % 256) = (pl : Int) by rcases hmd with h | h <;> omega]; rfl)
 have ka := (Keeps.refl Non w4).alloc (.cells #[.int .u8 0, .int .u8 ((pl : Int) % 256), .int .u8 1] 5)
 have hB5 := hB4.non ka
 have hT5 := hT4.non ka
 obtain ⟨bs4, hl4, hO4, hk4, hb4⟩ := (h4.non ka).byte [0, UInt8.ofNat pl, 1] hA5 (by simp only [List.length_cons, List.length_nil]; omega)
 have hz4 := hk4.size
 clear h4 ka hB4 hT4
 have HL4 := Lib.hid hl4
 clear hl4
 go_upto_region 7 with (at_builtin; go_must (refine wpList_append_bytes (o := ⟨some 30, _, _, _, _, _⟩) rfl (.tmp 18) (.tmp 29) 22 rfl w.heap.size 5 Tryz.underlying22 info5 v4 bs4 rfl hO4 (some ⟨w4.heap.size, 0, none⟩) 3 3 [0, UInt8.ofNat pl, 1] (by kernel_rfl) rfl hA5 hb4 hz4 ?_); intro v6 w6 hO6 hK6 hat6; have h6 : Byt w w6 v6 15 := ⟨bs4 ++ [0, UInt8.ofNat pl, 1], (by rw [List.length_append, HL4.out]; rfl), hO6, keeps_own hk4 hO4 (Nat.le_refl _) hK6⟩; have hY6 := oth_own hO4 hK6; clear hO6 hK6 hat6)
 have hB6 := hY6 _ _ _ hB5 (by decide) (by decide)
 have hT6 := hT5.oth hY6
 clear hY6 hB5 hT5 x1 x2 x3 hA5 hO4 hk4 hb4 hz4 HL4
 go_upto_region 8 with fail
 go_loopw [5, 6] (fun u i wr => ∃ j : Nat, j ≤ 1 ∧ i = .int .i64 (j : Int) ∧ Byt w wr u (15 + 6 * j) ∧ Oth w6 wr) (fun _ i _ => 1 - (intOf i).toNat)
 case atStart => exact ⟨0, by omega, rfl, h6, fun b t cs hb _ _ => hb⟩
 case round =>
   obtain ⟨j, hj, rfl, h7, hY7⟩ := hrel
   obtain ⟨wx, rfl⟩ : ∃ W : World, W = wr := ⟨_, rfl⟩
   have hB7 := hY7 _ _ _ hB6 (by decide) (by decide)
   have hT7 := hT6.oth hY7
   have x1 : wx.cell? ⟨p1, 1, none⟩ = some (.slice (some ⟨tb, 0, none⟩) 1 tc) := hB7.cell 1
   obtain ⟨y0, y1, y2⟩ := hT7.cells
   by_cases hj0 : j = 0
   · subst hj0
     have hA8 : At (wx.alloc (.cells #[.int .u8 ((kd : Int) % 256), .int .u8 ((lv : Int) % 256)] 5)).drew (some ⟨wx.heap.size, 0, none⟩) [UInt8.ofNat kd, UInt8.ofNat lv] := At.lit wx 5 (0, 0) _ [UInt8.ofNat kd, UInt8.ofNat lv] (by simp only [pc, List.map_cons, List.map_nil]; rw [bv_ofNat kd (by rcases hmd with h | h <;> omega), bv_ofNat lv (by rcases hmd with h | h <;> omega), show ((kd : Int) % 256) = (kd : Int) by rcases hmd with h | h <;> omega, show ((lv : Int) % 256) = (lv : Int) by rcases hmd with h | h <;> omega])
     have ka := ((Keeps.refl Non wx).alloc (.cells #[.int .u8 ((kd : Int) % 256), .int .u8 ((lv : Int) % 256)] 5)).drew
     obtain ⟨bs8, hl8, hO8, hk8, hb8⟩ := (h7.non ka).byte [UInt8.ofNat kd, UInt8.ofNat lv] hA8 (by simp only [List.length_cons, List.length_nil]; omega)
     have hz8 := hk8.size
     have HL8 := Lib.hid hl8
     have hB8 := hB7.non ka
     have hT8 := hT7.non ka
     clear hl8
     clear h7 ka hB7 hT7
     go_upto_region 10 with fail
     rw [show (Value.int .i64 ((0 : Nat) : Int)) = .int .i64 0 from rfl]
     go_region_law (first
       | (go_loud (refine step_append_bytes (o := ⟨some 54, _, _, _, _, _⟩) rfl (.tmp 38) (.tmp 53) 22 rfl w.heap.size 5 Tryz.underlying22 info5 u5 bs8 rfl hO8 (some ⟨wx.heap.size, 0, none⟩) 2 2 [UInt8.ofNat kd, UInt8.ofNat lv] rfl rfl hA8 hb8 hz8 ?_; intro v9 w9 hO9 hK9 hat9)))
     all_goals
       have h9 : Byt w w9 v9 17 := ⟨bs8 ++ [UInt8.ofNat kd, UInt8.ofNat lv], (by rw [List.length_append, HL8.out]; rfl), hO9, keeps_own hk8 hO8 (Nat.le_refl _) hK9⟩
       have hY9 : Oth wx w9 := (Oth.of (((Keeps.refl Non wx).alloc (.cells #[.int .u8 ((kd : Int) % 256), .int .u8 ((lv : Int) % 256)] 5)).drew)).trans (oth_own hO8 hK9)
       have hB9 := hY9 _ _ _ (hY7 _ _ _ hB6 (by decide) (by decide)) (by decide) (by decide)
       have hT9 := (hT6.oth hY7).oth hY9
       have HY9 := Lib.hid (hY7.trans hY9)
       clear hO9 hK9 hat9 hA8 hO8 hk8 hb8 hz8 hB8 hT8 x1 y0 y1 y2 HL8 hY9
       have x1 : w9.cell? ⟨p1, 1, none⟩ = some (.slice (some ⟨tb, 0, none⟩) 1 tc) := hB9.cell 1
       obtain ⟨-, -, y2⟩ := hT9.cells
       go_upto_region 9 with (go_at_call 153; go_must (refine (HN.out w9 v9 17 n 4 h9 (by decide) (by decide) (by omega)).mono ?_); rintro e w10 ⟨v10, rfl, h10, hY10⟩; have H10 := Lib.hid (And.intro h10 (HY9.out.trans hY10)); clear h10 hY10)
       go_wp2_with fail
       go_roundw
       case rel => exact ⟨1, by omega, rfl, H10.out.1, H10.out.2⟩
       case measure => simp [intOf]
   · obtain rfl : j = 1 := by omega
     have HS := Lib.hid (summed102_any h7 (by decide))
     go_wp2_with (go_at_call 154; go_must (refine HS.out.mono ?_); rintro e w10 ⟨v10, rfl, h10⟩)
     go_ret2
     exact ⟨_, rfl, h10⟩
end Go.Proofs.YtolknnmaadkgiaaGreatDoor
