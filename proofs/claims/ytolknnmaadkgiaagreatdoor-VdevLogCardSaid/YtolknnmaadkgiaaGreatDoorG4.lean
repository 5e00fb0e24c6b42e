/- A sum, a pointer of noughts, an uberblock laid down. A sum taken up. A pointer laid down. An uberblock laid down; may it be?. A pointer, an uberblock: may it be?. An uberblock as bytes, ahead of its sum. A sum in words; loads and stores of whole blocks. -/
import Derived.Test.YtolknnmaadkgiaaGreatDoorG3
import Derived.Lib.SmallJoins
import Derived.Deep.RegionWith
import Derived.RegionTactic
import Derived.RegionCalls
set_option linter.unusedVariables false
set_option linter.unusedSimpArgs false
namespace Go.Proofs.YtolknnmaadkgiaaGreatDoor
set_option maxRecDepth 100000
open Go.RowKit Go.Uc
structure S4 where
 a : Nat
 b : Nat
 c : Nat
 d : Nat
deriving DecidableEq
def S4.ok (s : S4) : Prop := s.a < 18446744073709551616 ∧ s.b < 18446744073709551616 ∧ s.c < 18446744073709551616 ∧ s.d < 18446744073709551616
def S4.cs (s : S4) : Array Value := #[.int .u64 (s.a : Int), .int .u64 (s.b : Int), .int .u64 (s.c : Int), .int .u64 (s.d : Int)]
def S4.bytes (s : S4) : List UInt8 := le 8 s.a ++ le 8 s.b ++ le 8 s.c ++ le 8 s.d
def S4.upto (s : S4) : Nat → List UInt8
 | 0 => []
 | 1 => le 8 s.a
 | 2 => le 8 s.a ++ le 8 s.b
 | 3 => le 8 s.a ++ le 8 s.b ++ le 8 s.c
 | _ => s.bytes
theorem S4.upto_len (s : S4) (j : Nat) (hj : j ≤ 4) : (s.upto j).length = 8 * j := by
 match j, hj with
 | 0, _ => rfl
 | 1, _ => simp [S4.upto, le_length]
 | 2, _ => simp [S4.upto, le_length]
 | 3, _ => simp [S4.upto, le_length]
 | 4, _ => simp [S4.upto, S4.bytes, le_length]
set_option maxHeartbeats 4000000 in
theorem laySum_any {w0 w : World} {g room : Nat} {bs : List UInt8} (h : Wr w0 w g room bs) (s : S4) (hs : s.ok) (hf : bs.length + 32 ≤ room) (hr : room ≤ 1099511627776) :
   Calls Tryz.prog 167 #[.pointer (some ⟨g, 0, none⟩), .agg s.cs] w fun e w' => e = .returned (.tuple #[]) ∧ Wr w0 w' g room (bs ++ s.bytes) ∧ Oth w w' := by
 obtain ⟨sa, sb, sc, sd⟩ := s
 obtain ⟨q1, q2, q3, q4⟩ := hs
 simp only at q1 q2 q3 q4
 have HN := Lib.hid (fun V xs n (hV : Wr w0 V g room xs) (hn : n < 256 ^ 8) (hx : xs.length + 8 ≤ room) => num42_any hV n 8 (by decide) (by decide) hn hx hr)
 have hL := Lib.hid (fun j (hj : j ≤ 4) => S4.upto_len ⟨sa, sb, sc, sd⟩ j hj)
 have hB := Blk.new w 56 #[.int .u64 (sa : Int), .int .u64 (sb : Int), .int .u64 (sc : Int), .int .u64 (sd : Int)]
 have hk := (Keeps.refl Non w).alloc (.cells #[.int .u64 (sa : Int), .int .u64 (sb : Int), .int .u64 (sc : Int), .int .u64 (sd : Int)] 56)
 unfold S4.cs
 go_enter Tryz.func167, Tryz.ntmps167
 go_upto_region 1 with fail
 have h1 := h.non hk
 obtain ⟨w1, hw1⟩ : ∃ V : World, V = w.alloc (.cells #[.int .u64 (sa : Int), .int .u64 (sb : Int), .int .u64 (sc : Int), .int .u64 (sd : Int)] 56) := ⟨_, rfl⟩
 have hk1 := hk
 rw [← hw1] at hB h1 hk1 ⊢
 clear hw1
 have x0 : w1.cell? ⟨w.heap.size, 0, none⟩ = some (.int .u64 (sa : Int)) := hB.cell 0
 have x1 : w1.cell? ⟨w.heap.size, 1, none⟩ = some (.int .u64 (sb : Int)) := hB.cell 1
 have x2 : w1.cell? ⟨w.heap.size, 2, none⟩ = some (.int .u64 (sc : Int)) := hB.cell 2
 have x3 : w1.cell? ⟨w.heap.size, 3, none⟩ = some (.int .u64 (sd : Int)) := hB.cell 3
 go_upto_region 2 with fail
 clear x0 x1 x2 x3 hB
 go_loopw [15] (fun i wr => ∃ j : Nat, j ≤ 4 ∧ i = .int .i64 (j : Int) ∧ Wr w0 wr g room (bs ++ S4.upto ⟨sa, sb, sc, sd⟩ j) ∧ Oth w wr) (fun i _ => 4 - (intOf i).toNat)
 case atStart => exact ⟨0, by omega, rfl, by rw [show S4.upto ⟨sa, sb, sc, sd⟩ 0 = [] from rfl, List.append_nil]; exact h1, Oth.of hk1⟩
 case round =>
   obtain ⟨j, hj, rfl, hW, hY⟩ := hrel
   obtain ⟨wx, rfl⟩ : ∃ V : World, V = wr := ⟨_, rfl⟩
   clear h1
   have hl := hL.out j hj
   by_cases hj4 : j = 4
   · subst hj4
     go_wp2_with fail
     go_end0
     exact ⟨rfl, hW, hY⟩
   · have hlt : j < 4 := by omega
     obtain ⟨X, hX⟩ : ∃ X, X = [sa, sb, sc, sd].getD j 0 := ⟨_, rfl⟩
     have hX8 : X < 256 ^ 8 := by
       rw [hX]
       match j, hlt with
       | 0, _ => exact q1
       | 1, _ => exact q2
       | 2, _ => exact q3
       | 3, _ => exact q4
     have hin : ∀ V : World, (Instr.index 163 (.agg #[.int .u64 (sa : Int), .int .u64 (sb : Int), .int .u64 (sc : Int), .int .u64 (sd : Int)]) (.int .i64 (j : Int))).run Tryz.prog V = .ok (.int .u64 (X : Int)) V := by
       intro V
       rw [hX]
       match j, hlt with
       | 0, _ => rfl
       | 1, _ => rfl
       | 2, _ => rfl
       | 3, _ => rfl
     have HE : Hid (bs ++ S4.upto ⟨sa, sb, sc, sd⟩ j ++ le 8 X = bs ++ S4.upto ⟨sa, sb, sc, sd⟩ (j + 1)) := Lib.hid (by
       rw [hX]
       match j, hlt with
       | 0, _ => simp [S4.upto]
       | 1, _ => simp [S4.upto]
       | 2, _ => simp [S4.upto]
       | 3, _ => simp [S4.upto, S4.bytes])
     clear hX
     have H := Lib.hid (HN.out wx _ X hW hX8 (by rw [List.length_append, hl]; omega))
     have hji : (j : Int) < 4 := by omega
     go_wp2_with ((go_at_call 69; go_must (refine H.out.mono ?_); rintro e w2 ⟨rfl, hW2, hY2⟩))
     go_roundw
     case rel => exact ⟨j + 1, by omega, by go_num, by rw [← HE.out]; exact hW2, hY.trans hY2⟩
     case measure => simp [intOf]; omega
end Go.Proofs.YtolknnmaadkgiaaGreatDoor
namespace Go.Proofs.YtolknnmaadkgiaaGreatDoor
set_option maxRecDepth 100000
open Go.RowKit Go.Uc
theorem Rg.one {w0 w w' : World} {g at_ p t : Nat} {bs : List UInt8} {cs : Array Value} (h : Rg w0 w g bs at_) (hb : Blk w p t cs) (h1 : t ≠ 282) (h2 : t ≠ 5) (hn : w0.heap.size ≤ p) (hk : Keeps (Only p) w w') : Rg w0 w' g bs at_ := by
 obtain ⟨b, i1, i2, i3, i4, i5, i6, i7⟩ := h
 exact ⟨b, i1.one hk (i1.ne hb (Ne.symm h1)), i2.one hk (i2.ne hb (Ne.symm h2)), i3, i4, i5, i6, i7.then hk fun i hi e => by unfold Only at e; omega⟩
def n8 (bs : List UInt8) (k : Nat) : Nat := leVal ((bs.drop k).take 8)
def sumAt (bs : List UInt8) (k : Nat) : S4 := ⟨n8 bs k, n8 bs (k + 8), n8 bs (k + 16), n8 bs (k + 24)⟩
set_option maxHeartbeats 4000000 in
theorem takeSum110_any {w0 w : World} {g at_ : Nat} {bs : List UInt8} (h : Rg w0 w g bs at_) (hf : at_ + 32 ≤ bs.length) :
   Calls Tryz.prog 163 #[.pointer (some ⟨g, 0, none⟩)] w fun e w' => e = .returned (.agg (sumAt bs at_).cs) ∧ Rg w0 w' g bs (at_ + 32) ∧ Keeps (Only g) w w' := by
 have HN := Lib.hid (fun (V : World) (k : Nat) (hV : Rg w0 V g bs k) (hk : k + 8 ≤ bs.length) => rnum49_any hV 8 (by decide) (by decide) hk)
 have hgl : g < w.heap.size := by obtain ⟨b, i1, -⟩ := h; exact i1.lt
 have hB := Blk.new w 56 #[.int .u64 0, .int .u64 0, .int .u64 0, .int .u64 0]
 have hk := (Keeps.refl Non w).alloc (.cells #[.int .u64 0, .int .u64 0, .int .u64 0, .int .u64 0] 56)
 unfold sumAt S4.cs n8
 go_enter Tryz.func163, Tryz.ntmps163
 go_upto_region 1 with fail
 obtain ⟨w1, hw1⟩ : ∃ V : World, V = w.alloc (.cells #[.int .u64 0, .int .u64 0, .int .u64 0, .int .u64 0] 56) := ⟨_, rfl⟩
 rw [← hw1] at hB hk ⊢
 clear hw1
 obtain ⟨pb, hpb⟩ : ∃ z, z = w.heap.size := ⟨_, rfl⟩
 rw [← hpb] at hB hgl ⊢
 have hpg : pb ≠ g := by omega
 have hpw : w.heap.size ≤ pb := by omega
 clear hpb
 go_wp2_with fail
 refine (HN.out w1 at_ (h.non hk) (by omega)).mono ?_
 rintro e w2 ⟨rfl, hR2, hK2⟩
 go_wp2_with fail
 refine (HN.out w2 _ hR2 (by omega)).mono ?_
 rintro e w3 ⟨rfl, hR3, hK3⟩
 go_wp2_with fail
 refine (HN.out w3 _ hR3 (by omega)).mono ?_
 rintro e w4 ⟨rfl, hR4, hK4⟩
 go_wp2_with fail
 refine (HN.out w4 _ hR4 (by omega)).mono ?_
 rintro e w5 ⟨rfl, hR5, hK5⟩
 have hKx : Keeps (Only g) w1 w5 := ((hK2.trans hK3).trans hK4).trans hK5
 have hB5 := hB.one hKx hpg
 have hKy : Keeps (Only g) w w5 := (hk.of_non (S := Only g)).trans hKx
 have e16 : at_ + 8 + 8 = at_ + 16 := by omega
 have e24 : at_ + 8 + 8 + 8 = at_ + 24 := by omega
 have e32 : at_ + 8 + 8 + 8 + 8 = at_ + 32 := by omega
 rw [e32] at hR5
 have HE := Lib.hid (And.intro e16 e24)
 clear e16 e24 e32
 obtain ⟨a1, ha1⟩ : ∃ z, z = leVal ((bs.drop at_).take 8) := ⟨_, rfl⟩
 obtain ⟨a2, ha2⟩ : ∃ z, z = leVal ((bs.drop (at_ + 8)).take 8) := ⟨_, rfl⟩
 obtain ⟨a3, ha3⟩ : ∃ z, z = leVal ((bs.drop (at_ + 8 + 8)).take 8) := ⟨_, rfl⟩
 obtain ⟨a4, ha4⟩ : ∃ z, z = leVal ((bs.drop (at_ + 8 + 8 + 8)).take 8) := ⟨_, rfl⟩
 rw [← ha1, ← ha2, ← ha3, ← ha4]
 have HA := Lib.hid (And.intro ha1 (And.intro ha2 (And.intro ha3 ha4)))
 clear ha1 ha2 ha3 ha4
 go_wp2_with ((with_reducible show wpList _ _ _ ({ dst := none, op := Op.store 56 _ _, type := _, pos := _, after := _, guard := _ } :: _) _ _); go_must (refine wpList_store_blk rfl 56 (.tmp 2) (.tmp 11) rfl pb #[.int .u64 (a1 : Int), .int .u64 (a2 : Int), .int .u64 (a3 : Int), .int .u64 (a4 : Int)] rfl rfl 56 _ hB5 (by kernel_rfl) rfl (by kernel_rfl) ?_); intro w6 hB6 hK6)
 obtain ⟨q1, q2, q3, q4⟩ := HA.out
 refine bodyPost_ret (results_cell_blk (ty := 56) rfl _ pb 56 _ _ rfl hB6 Tryz.underlying56 rfl (by kernel_rfl)) rfl ⟨by rw [q1, q2, q3, q4, show at_ + 8 + 8 + 8 = at_ + 24 by omega, show at_ + 8 + 8 = at_ + 16 by omega], ?_, ?_⟩
 · exact hR5.one hB5 (by decide) (by decide) (by obtain ⟨b', i1, i2, i3, i4, i5, i6, i7⟩ := h; have := i7.size; omega) hK6
 · exact hKy.then hK6 fun i hi e => by unfold Only at e; omega
end Go.Proofs.YtolknnmaadkgiaaGreatDoor
namespace Go.Proofs.YtolknnmaadkgiaaGreatDoor
set_option maxRecDepth 100000
open Go.RowKit Go.Uc
structure Pt where
 t : Nat
 at_ : Nat
 n : Nat
 bi : Nat
 k : Nat
 s : S4
deriving DecidableEq
def Pt.zero : Pt := ⟨0, 0, 0, 0, 0, ⟨0, 0, 0, 0⟩⟩
def Pt.may (r : Pt) : Prop := r.t ≤ 3 ∧ r.at_ ≤ 40959 ∧ 1 ≤ r.n ∧ r.n ≤ 1024 ∧ 1 ≤ r.bi ∧ r.bi ≤ 281474976710656 ∧ (r.k = 1 ∨ r.k = 2) ∧ r.s.ok
def Pt.ok (r : Pt) : Prop := r = Pt.zero ∨ r.may
def Pt.cs (r : Pt) : Array Value := #[.int .i64 (r.t : Int), .int .i64 (r.at_ : Int), .int .i64 (r.n : Int), .int .u64 (r.bi : Int), .int .i64 (r.k : Int), .int .u64 (r.s.a : Int), .int .u64 (r.s.b : Int), .int .u64 (r.s.c : Int), .int .u64 (r.s.d : Int)]
def ptrB (r : Pt) : List UInt8 := le 1 r.t ++ le 1 r.k ++ le 2 r.n ++ le 4 r.at_ ++ le 8 r.bi ++ r.s.bytes
theorem S4.blen (s : S4) : s.bytes.length = 32 := by simp [S4.bytes, le_length]
theorem ptrB_len (r : Pt) : (ptrB r).length = 48 := by simp [ptrB, le_length, S4.blen]
theorem Pt.ok.lt {r : Pt} (h : r.ok) : r.t < 256 ∧ r.at_ < 4294967296 ∧ r.n < 65536 ∧ r.bi < 18446744073709551616 ∧ r.k < 256 ∧ r.s.ok := by
 rcases h with rfl | ⟨h1, h2, h3, h4, h5, h6, h7, h8⟩
 · exact ⟨by decide, by decide, by decide, by decide, by decide, by decide, by decide, by decide, by decide⟩
 · exact ⟨by omega, by omega, by omega, by omega, by omega, h8⟩
theorem wrapu (n : Nat) (h : n < 9223372036854775808) : IntKind.u64.wrap (n : Int) = (n : Int) := by rw [IntKind.wrap_u64]; omega
set_option maxHeartbeats 4000000 in
theorem layPtr_any {w0 w : World} {g room : Nat} {bs : List UInt8} (r : Pt) (ho : r.ok) (h : Wr w0 w g room bs) (hf : bs.length + 48 ≤ room) (hr : room ≤ 1099511627776) :
   Calls Tryz.prog 170 #[.pointer (some ⟨g, 0, none⟩), .agg #[.int .i64 (r.t : Int), .int .i64 (r.at_ : Int), .int .i64 (r.n : Int), .int .u64 (r.bi : Int), .int .i64 (r.k : Int), .int .u64 (r.s.a : Int), .int .u64 (r.s.b : Int), .int .u64 (r.s.c : Int), .int .u64 (r.s.d : Int)]] w fun e w' => e = .returned (.tuple #[]) ∧ Wr w0 w' g room (bs ++ ptrB r) ∧ Oth w w' := by
 obtain ⟨l1, l2, l3, l4, l5, l6⟩ := ho.lt
 have HN : Hid (∀ (V : World) (xs : List UInt8) (m k : Nat), Wr w0 V g room xs → 1 ≤ k → k ≤ 8 → m < 256 ^ k → xs.length + k ≤ room → Calls Tryz.prog 69 #[.pointer (some ⟨g, 0, none⟩), .int .u64 (m : Int), .int .i64 (k : Int)] V fun e w' => e = .returned (.tuple #[]) ∧ Wr w0 w' g room (xs ++ le k m) ∧ Oth V w') := Lib.hid (fun V xs m k hV h1 h8 hm hx => num42_any hV m k h1 h8 hm hx hr)
 have HS : Hid (∀ (V : World) (xs : List UInt8), Wr w0 V g room xs → xs.length + 32 ≤ room → Calls Tryz.prog 167 #[.pointer (some ⟨g, 0, none⟩), .agg #[.int .u64 (r.s.a : Int), .int .u64 (r.s.b : Int), .int .u64 (r.s.c : Int), .int .u64 (r.s.d : Int)]] V fun e w' => e = .returned (.tuple #[]) ∧ Wr w0 w' g room (xs ++ r.s.bytes) ∧ Oth V w') := Lib.hid (fun V xs hV hx => laySum_any hV r.s l6 hx hr)
 have HE : Hid (bs ++ ptrB r = ((((bs ++ le 1 r.t) ++ le 1 r.k) ++ le 2 r.n) ++ le 4 r.at_) ++ le 8 r.bi ++ r.s.bytes) := Lib.hid (by simp [ptrB])
 rw [HE.out]
 have u1 := wrapu r.t (by omega)
 have u2 := wrapu r.k (by omega)
 have u3 := wrapu r.n (by omega)
 have u4 := wrapu r.at_ (by omega)
 have hB := Blk.new w 58 #[.int .i64 (r.t : Int), .int .i64 (r.at_ : Int), .int .i64 (r.n : Int), .int .u64 (r.bi : Int), .int .i64 (r.k : Int), .int .u64 (r.s.a : Int), .int .u64 (r.s.b : Int), .int .u64 (r.s.c : Int), .int .u64 (r.s.d : Int)]
 have hk := (Keeps.refl Non w).alloc (.cells #[.int .i64 (r.t : Int), .int .i64 (r.at_ : Int), .int .i64 (r.n : Int), .int .u64 (r.bi : Int), .int .i64 (r.k : Int), .int .u64 (r.s.a : Int), .int .u64 (r.s.b : Int), .int .u64 (r.s.c : Int), .int .u64 (r.s.d : Int)] 58)
 go_enter Tryz.func170, Tryz.ntmps170
 go_upto_region 1 with fail
 have h1 := h.non hk
 obtain ⟨w1, hw1⟩ : ∃ V : World, V = w.alloc (.cells #[.int .i64 (r.t : Int), .int .i64 (r.at_ : Int), .int .i64 (r.n : Int), .int .u64 (r.bi : Int), .int .i64 (r.k : Int), .int .u64 (r.s.a : Int), .int .u64 (r.s.b : Int), .int .u64 (r.s.c : Int), .int .u64 (r.s.d : Int)] 58) := ⟨_, rfl⟩
 have hY1 := Oth.of hk
 rw [← hw1] at hB h1 hY1 ⊢
 clear hw1 hk
 obtain ⟨pb, hpb⟩ : ∃ z, z = w.heap.size := ⟨_, rfl⟩
 rw [← hpb] at hB ⊢
 clear hpb
 have HC : Hid (∀ V, Oth w1 V → ∀ i v, (#[.int .i64 (r.t : Int), .int .i64 (r.at_ : Int), .int .i64 (r.n : Int), .int .u64 (r.bi : Int), .int .i64 (r.k : Int), .int .u64 (r.s.a : Int), .int .u64 (r.s.b : Int), .int .u64 (r.s.c : Int), .int .u64 (r.s.d : Int)] : Array Value)[i]? = some v → V.cell? ⟨pb, i, none⟩ = some v) := Lib.hid (fun V hV i v hi => by rw [(hV pb 58 _ hB (by decide) (by decide)).cell]; exact hi)
 have x0 : w1.cell? ⟨pb, 0, none⟩ = some (.int .i64 (r.t : Int)) := HC.out w1 (Oth.of (Keeps.refl _ _)) 0 _ rfl
 have H1 := Lib.hid (HN.out w1 _ r.t 1 h1 (by decide) (by decide) (by omega) (by omega))
 clear hB
 go_upto_region 2 with ((go_at_call 69; go_must (refine H1.out.mono ?_); rintro e w2 ⟨rfl, hW2, hY2⟩))
 have x1 : w2.cell? ⟨pb, 4, none⟩ = some (.int .i64 (r.k : Int)) := HC.out w2 hY2 4 _ rfl
 have H2 := Lib.hid (HN.out w2 _ r.k 1 hW2 (by decide) (by decide) (by omega) (by simp [le_length]; omega))
 go_upto_region 3 with ((go_at_call 69; go_must (refine H2.out.mono ?_); rintro e w3 ⟨rfl, hW3, hY3⟩))
 have x2 : w3.cell? ⟨pb, 2, none⟩ = some (.int .i64 (r.n : Int)) := HC.out w3 (hY2.trans hY3) 2 _ rfl
 have H3 := Lib.hid (HN.out w3 _ r.n 2 hW3 (by decide) (by decide) (by omega) (by simp [le_length]; omega))
 go_upto_region 4 with ((go_at_call 69; go_must (refine H3.out.mono ?_); rintro e w4 ⟨rfl, hW4, hY4⟩))
 have x3 : w4.cell? ⟨pb, 1, none⟩ = some (.int .i64 (r.at_ : Int)) := HC.out w4 ((hY2.trans hY3).trans hY4) 1 _ rfl
 have H4 := Lib.hid (HN.out w4 _ r.at_ 4 hW4 (by decide) (by decide) (by omega) (by simp [le_length]; omega))
 go_upto_region 5 with ((go_at_call 69; go_must (refine H4.out.mono ?_); rintro e w5 ⟨rfl, hW5, hY5⟩))
 have hY15 := ((hY2.trans hY3).trans hY4).trans hY5
 have x4 : w5.cell? ⟨pb, 3, none⟩ = some (.int .u64 (r.bi : Int)) := HC.out w5 hY15 3 _ rfl
 have H5 := Lib.hid (HN.out w5 _ r.bi 8 hW5 (by decide) (by decide) (by omega) (by simp [le_length]; omega))
 go_upto_region 6 with ((go_at_call 69; go_must (refine H5.out.mono ?_); rintro e w6 ⟨rfl, hW6, hY6⟩))
 have hY16 := hY15.trans hY6
 have x5 : w6.cell? ⟨pb, 5, none⟩ = some (.int .u64 (r.s.a : Int)) := HC.out w6 hY16 5 _ rfl
 have x6 : w6.cell? ⟨pb, 6, none⟩ = some (.int .u64 (r.s.b : Int)) := HC.out w6 hY16 6 _ rfl
 have x7 : w6.cell? ⟨pb, 7, none⟩ = some (.int .u64 (r.s.c : Int)) := HC.out w6 hY16 7 _ rfl
 have x8 : w6.cell? ⟨pb, 8, none⟩ = some (.int .u64 (r.s.d : Int)) := HC.out w6 hY16 8 _ rfl
 have H6 := Lib.hid (HS.out w6 _ hW6 (by simp [le_length]; omega))
 go_wp2_with ((go_at_call 167; go_must (refine H6.out.mono ?_); rintro e w7 ⟨rfl, hW7, hY7⟩))
 go_end0
 exact ⟨rfl, hW7, (hY1.trans hY16).trans hY7⟩
end Go.Proofs.YtolknnmaadkgiaaGreatDoor
namespace Go.Proofs.YtolknnmaadkgiaaGreatDoor
set_option maxRecDepth 100000
open Go.RowKit Go.Uc
def uberH (pool txg note : Nat) (r : Pt) : List UInt8 := [85, 67, 85, 66] ++ le 8 pool ++ le 8 txg ++ le 8 note ++ ptrB r
set_option maxHeartbeats 4000000 in
theorem layUber_any {w0 w : World} {g room : Nat} (h : Wr w0 w g room []) (pool txg note : Nat) (r : Pt) (hp : pool < 18446744073709551616) (ht : txg < 18446744073709551616) (hn : note < 18446744073709551616) (ho : r.ok) (hf : 76 ≤ room) (hr : room ≤ 1099511627776) :
   Calls Tryz.prog 147 #[.pointer (some ⟨g, 0, none⟩), .agg #[.int .u64 (pool : Int), .int .u64 (txg : Int), .int .u64 (note : Int), .int .i64 (r.t : Int), .int .i64 (r.at_ : Int), .int .i64 (r.n : Int), .int .u64 (r.bi : Int), .int .i64 (r.k : Int), .int .u64 (r.s.a : Int), .int .u64 (r.s.b : Int), .int .u64 (r.s.c : Int), .int .u64 (r.s.d : Int)]] w fun e w' => e = .returned (.tuple #[]) ∧ Wr w0 w' g room (uberH pool txg note r) ∧ Oth w w' := by
 have HN : Hid (∀ (V : World) (xs : List UInt8) (n : Nat), Wr w0 V g room xs → n < 18446744073709551616 → xs.length + 8 ≤ room → Calls Tryz.prog 69 #[.pointer (some ⟨g, 0, none⟩), .int .u64 (n : Int), .int .i64 8] V fun e w' => e = .returned (.tuple #[]) ∧ Wr w0 w' g room (xs ++ le 8 n) ∧ Oth V w') := Lib.hid (fun V xs n hV hn hx => num42_any hV n 8 (by decide) (by decide) hn hx hr)
 have HB : Hid (∀ (V : World) (b : Nat), Wr w0 V g room [] → At V (some ⟨b, 0, none⟩) [85, 67, 85, 66] → Calls Tryz.prog 70 #[.pointer (some ⟨g, 0, none⟩), .slice (some ⟨b, 0, none⟩) 4 4] V fun e w' => e = .returned (.tuple #[]) ∧ Wr w0 w' g room [85, 67, 85, 66] ∧ Oth V w') := Lib.hid (fun V b hV hb => bytes43_any hV (some ⟨b, 0, none⟩) 4 [85, 67, 85, 66] hb (by show 0 + 4 ≤ room; omega) hr)
 have HPt : Hid (∀ (V : World) (xs : List UInt8), Wr w0 V g room xs → xs.length + 48 ≤ room → Calls Tryz.prog 170 #[.pointer (some ⟨g, 0, none⟩), .agg #[.int .i64 (r.t : Int), .int .i64 (r.at_ : Int), .int .i64 (r.n : Int), .int .u64 (r.bi : Int), .int .i64 (r.k : Int), .int .u64 (r.s.a : Int), .int .u64 (r.s.b : Int), .int .u64 (r.s.c : Int), .int .u64 (r.s.d : Int)]] V fun e w' => e = .returned (.tuple #[]) ∧ Wr w0 w' g room (xs ++ ptrB r) ∧ Oth V w') := Lib.hid (fun V xs hV hx => layPtr_any r ho hV hx hr)
 have hB := Blk.new w 63 #[.int .u64 (pool : Int), .int .u64 (txg : Int), .int .u64 (note : Int), .int .i64 (r.t : Int), .int .i64 (r.at_ : Int), .int .i64 (r.n : Int), .int .u64 (r.bi : Int), .int .i64 (r.k : Int), .int .u64 (r.s.a : Int), .int .u64 (r.s.b : Int), .int .u64 (r.s.c : Int), .int .u64 (r.s.d : Int)]
 have hk := (Keeps.refl Non w).alloc (.cells #[.int .u64 (pool : Int), .int .u64 (txg : Int), .int .u64 (note : Int), .int .i64 (r.t : Int), .int .i64 (r.at_ : Int), .int .i64 (r.n : Int), .int .u64 (r.bi : Int), .int .i64 (r.k : Int), .int .u64 (r.s.a : Int), .int .u64 (r.s.b : Int), .int .u64 (r.s.c : Int), .int .u64 (r.s.d : Int)] 63)
 go_enter Tryz.func147, Tryz.ntmps147
 go_upto_region 1 with fail
 have h1 := h.non hk
 obtain ⟨w1, hw1⟩ : ∃ V : World, V = w.alloc (.cells #[.int .u64 (pool : Int), .int .u64 (txg : Int), .int .u64 (note : Int), .int .i64 (r.t : Int), .int .i64 (r.at_ : Int), .int .i64 (r.n : Int), .int .u64 (r.bi : Int), .int .i64 (r.k : Int), .int .u64 (r.s.a : Int), .int .u64 (r.s.b : Int), .int .u64 (r.s.c : Int), .int .u64 (r.s.d : Int)] 63) := ⟨_, rfl⟩
 have hY1 := Oth.of hk
 rw [← hw1] at hB h1 hY1 ⊢
 clear hw1 hk
 obtain ⟨pb, hpb⟩ : ∃ z, z = w.heap.size := ⟨_, rfl⟩
 rw [← hpb] at hB ⊢
 clear hpb
 have HC : Hid (∀ V, Oth w1 V → ∀ i v, (#[.int .u64 (pool : Int), .int .u64 (txg : Int), .int .u64 (note : Int), .int .i64 (r.t : Int), .int .i64 (r.at_ : Int), .int .i64 (r.n : Int), .int .u64 (r.bi : Int), .int .i64 (r.k : Int), .int .u64 (r.s.a : Int), .int .u64 (r.s.b : Int), .int .u64 (r.s.c : Int), .int .u64 (r.s.d : Int)] : Array Value)[i]? = some v → V.cell? ⟨pb, i, none⟩ = some v) := Lib.hid (fun V hV i v hi => by rw [(hV pb 63 _ hB (by decide) (by decide)).cell]; exact hi)
 clear hB
 have hka := (Keeps.refl Non w1).alloc (.cells #[.int .u8 85, .int .u8 67, .int .u8 85, .int .u8 66] 5 (4, 5))
 have H0 := Lib.hid (HB.out _ w1.heap.size (h1.non hka) (At.lit w1 5 (4, 5) _ [85, 67, 85, 66] rfl))
 have hcv : (convert 22 22 (.slice (some ⟨w1.heap.size, 0, none⟩) 4 4)).run Tryz.prog (w1.alloc (.cells #[.int .u8 85, .int .u8 67, .int .u8 85, .int .u8 66] 5)) = .ok (.slice (some ⟨w1.heap.size, 0, none⟩) 4 4) (w1.alloc (.cells #[.int .u8 85, .int .u8 67, .int .u8 85, .int .u8 66] 5 (4, 5))) := Joins.run_convert_bytes_const_at w1 22 5 #[.int .u8 85, .int .u8 67, .int .u8 85, .int .u8 66] 4 4 w1.heap.size rfl Tryz.underlying22 Tryz.underlying5
 go_upto_region 2 with ((go_at_call 70; go_must (refine H0.out.mono ?_); rintro e w2 ⟨rfl, hW2, hY2'⟩))
 have hY2 := (Oth.of hka).trans hY2'
 have x0 : w2.cell? ⟨pb, 0, none⟩ = some (.int .u64 (pool : Int)) := HC.out w2 hY2 0 _ rfl
 have H1 := Lib.hid (HN.out w2 _ pool hW2 hp (by show 4 + 8 ≤ room; omega))
 clear hka hY2'
 go_upto_region 3 with ((go_at_call 69; go_must (refine H1.out.mono ?_); rintro e w3 ⟨rfl, hW3, hY3⟩))
 have x1 : w3.cell? ⟨pb, 1, none⟩ = some (.int .u64 (txg : Int)) := HC.out w3 (hY2.trans hY3) 1 _ rfl
 have H2 := Lib.hid (HN.out w3 _ txg hW3 ht (by simp [le_length]; omega))
 go_upto_region 4 with ((go_at_call 69; go_must (refine H2.out.mono ?_); rintro e w4 ⟨rfl, hW4, hY4⟩))
 have hY14 := (hY2.trans hY3).trans hY4
 have x2 : w4.cell? ⟨pb, 2, none⟩ = some (.int .u64 (note : Int)) := HC.out w4 hY14 2 _ rfl
 have H3 := Lib.hid (HN.out w4 _ note hW4 hn (by simp [le_length]; omega))
 go_upto_region 5 with ((go_at_call 69; go_must (refine H3.out.mono ?_); rintro e w5 ⟨rfl, hW5, hY5⟩))
 have hY15 := hY14.trans hY5
 have y0 : w5.cell? ⟨pb, 3, none⟩ = some (.int .i64 (r.t : Int)) := HC.out w5 hY15 3 _ rfl
 have y1 : w5.cell? ⟨pb, 4, none⟩ = some (.int .i64 (r.at_ : Int)) := HC.out w5 hY15 4 _ rfl
 have y2 : w5.cell? ⟨pb, 5, none⟩ = some (.int .i64 (r.n : Int)) := HC.out w5 hY15 5 _ rfl
 have y3 : w5.cell? ⟨pb, 6, none⟩ = some (.int .u64 (r.bi : Int)) := HC.out w5 hY15 6 _ rfl
 have y4 : w5.cell? ⟨pb, 7, none⟩ = some (.int .i64 (r.k : Int)) := HC.out w5 hY15 7 _ rfl
 have y5 : w5.cell? ⟨pb, 8, none⟩ = some (.int .u64 (r.s.a : Int)) := HC.out w5 hY15 8 _ rfl
 have y6 : w5.cell? ⟨pb, 9, none⟩ = some (.int .u64 (r.s.b : Int)) := HC.out w5 hY15 9 _ rfl
 have y7 : w5.cell? ⟨pb, 10, none⟩ = some (.int .u64 (r.s.c : Int)) := HC.out w5 hY15 10 _ rfl
 have y8 : w5.cell? ⟨pb, 11, none⟩ = some (.int .u64 (r.s.d : Int)) := HC.out w5 hY15 11 _ rfl
 have H5 := Lib.hid (HPt.out w5 _ hW5 (by simp [le_length]; omega))
 go_wp2_with ((go_at_call 170; go_must (refine H5.out.mono ?_); rintro e w6 ⟨rfl, hW6, hY6⟩))
 go_end0
 exact ⟨rfl, hW6, (hY1.trans hY15).trans hY6⟩
end Go.Proofs.YtolknnmaadkgiaaGreatDoor
namespace Go.Proofs.YtolknnmaadkgiaaGreatDoor
set_option maxRecDepth 100000
open Go.RowKit Go.Uc
set_option maxHeartbeats 2000000 in
theorem check107_zero (w : World) : Calls Tryz.prog 95 #[.agg #[.int .i64 0, .int .i64 0, .int .i64 0, .int .u64 0, .int .i64 0, .int .u64 0, .int .u64 0, .int .u64 0, .int .u64 0]] w fun e w' => e = .returned (.int .i64 0) ∧ Keeps Non w w' := by
 have hk := (Keeps.refl Non w).alloc (.cells #[.int .i64 0, .int .i64 0, .int .i64 0, .int .u64 0, .int .i64 0, .int .u64 0, .int .u64 0, .int .u64 0, .int .u64 0] 58)
 go_enter Tryz.func95, Tryz.ntmps95
 go_wp2_with fail
 go_ret
 exact ⟨rfl, hk⟩
set_option maxHeartbeats 4000000 in
theorem check107_may (r : Pt) (ho : r.may) (w : World) : Calls Tryz.prog 95 #[.agg #[.int .i64 (r.t : Int), .int .i64 (r.at_ : Int), .int .i64 (r.n : Int), .int .u64 (r.bi : Int), .int .i64 (r.k : Int), .int .u64 (r.s.a : Int), .int .u64 (r.s.b : Int), .int .u64 (r.s.c : Int), .int .u64 (r.s.d : Int)]] w fun e w' => e = .returned (.int .i64 0) ∧ Keeps Non w w' := by
 obtain ⟨h1, h2, h3, h4, h5, h6, h7, h8⟩ := ho
 have hB := Blk.new w 58 #[.int .i64 (r.t : Int), .int .i64 (r.at_ : Int), .int .i64 (r.n : Int), .int .u64 (r.bi : Int), .int .i64 (r.k : Int), .int .u64 (r.s.a : Int), .int .u64 (r.s.b : Int), .int .u64 (r.s.c : Int), .int .u64 (r.s.d : Int)]
 have hk := (Keeps.refl Non w).alloc (.cells #[.int .i64 (r.t : Int), .int .i64 (r.at_ : Int), .int .i64 (r.n : Int), .int .u64 (r.bi : Int), .int .i64 (r.k : Int), .int .u64 (r.s.a : Int), .int .u64 (r.s.b : Int), .int .u64 (r.s.c : Int), .int .u64 (r.s.d : Int)] 58)
 go_enter Tryz.func95, Tryz.ntmps95
 go_upto_region 1 with fail
 obtain ⟨w1, hw1⟩ : ∃ V : World, V = w.alloc (.cells #[.int .i64 (r.t : Int), .int .i64 (r.at_ : Int), .int .i64 (r.n : Int), .int .u64 (r.bi : Int), .int .i64 (r.k : Int), .int .u64 (r.s.a : Int), .int .u64 (r.s.b : Int), .int .u64 (r.s.c : Int), .int .u64 (r.s.d : Int)] 58) := ⟨_, rfl⟩
 rw [← hw1] at hB hk ⊢
 clear hw1
 obtain ⟨pb, hpb⟩ : ∃ z, z = w.heap.size := ⟨_, rfl⟩
 rw [← hpb] at hB ⊢
 clear hpb
 have y0 : w1.cell? ⟨pb, 0, none⟩ = some (.int .i64 (r.t : Int)) := hB.cell 0
 have y1 : w1.cell? ⟨pb, 1, none⟩ = some (.int .i64 (r.at_ : Int)) := hB.cell 1
 have y2 : w1.cell? ⟨pb, 2, none⟩ = some (.int .i64 (r.n : Int)) := hB.cell 2
 have y3 : w1.cell? ⟨pb, 3, none⟩ = some (.int .u64 (r.bi : Int)) := hB.cell 3
 have y4 : w1.cell? ⟨pb, 4, none⟩ = some (.int .i64 (r.k : Int)) := hB.cell 4
 have y5 : w1.cell? ⟨pb, 5, none⟩ = some (.int .u64 (r.s.a : Int)) := hB.cell 5
 have y6 : w1.cell? ⟨pb, 6, none⟩ = some (.int .u64 (r.s.b : Int)) := hB.cell 6
 have y7 : w1.cell? ⟨pb, 7, none⟩ = some (.int .u64 (r.s.c : Int)) := hB.cell 7
 have y8 : w1.cell? ⟨pb, 8, none⟩ = some (.int .u64 (r.s.d : Int)) := hB.cell 8
 have z1 : ¬ (r.n : Int) = 0 := by omega
 have z2 : ¬ (r.bi : Int) = 0 := by omega
 have z3 : ¬ (r.k : Int) = 0 := by omega
 have a1 : ¬ (r.t : Int) < 0 := by omega
 have a2 : ¬ (4 : Int) ≤ (r.t : Int) := by omega
 have a3 : ¬ (r.at_ : Int) < 0 := by omega
 have a4 : ¬ (40959 : Int) < (r.at_ : Int) := by omega
 have a5 : ¬ (r.n : Int) < 1 := by omega
 have a6 : ¬ (1024 : Int) < (r.n : Int) := by omega
 have a7 : ¬ (r.bi : Int) < 1 := by omega
 have a8 : ¬ (281474976710656 : Int) < (r.bi : Int) := by omega
 have a9 : r.t ≤ 3 := h1
 clear hB
 rcases h7 with hk1 | hk1
 · have k1 : (r.k : Int) = 1 := by omega
   clear h1 h2 h3 h4 h5 h6 h8 hk1
   go_wp2_with fail
   go_ret
   exact ⟨rfl, hk⟩
 · have k1 : (r.k : Int) = 2 := by omega
   clear h1 h2 h3 h4 h5 h6 h8 hk1
   go_wp2_with fail
   go_ret
   exact ⟨rfl, hk⟩
theorem check107_any (r : Pt) (ho : r.ok) (w : World) : Calls Tryz.prog 95 #[.agg #[.int .i64 (r.t : Int), .int .i64 (r.at_ : Int), .int .i64 (r.n : Int), .int .u64 (r.bi : Int), .int .i64 (r.k : Int), .int .u64 (r.s.a : Int), .int .u64 (r.s.b : Int), .int .u64 (r.s.c : Int), .int .u64 (r.s.d : Int)]] w fun e w' => e = .returned (.int .i64 0) ∧ Keeps Non w w' := by
 rcases ho with rfl | h
 · exact check107_zero w
 · exact check107_may r h w
set_option maxHeartbeats 2000000 in
theorem checkUber68_any (pool txg note : Nat) (r : Pt) (h1 : 1 ≤ txg) (h2 : txg ≤ 281474976710656) (ho : r.ok) (hrb : r.bi ≤ txg) (w : World) :
   Calls Tryz.prog 53 #[.agg #[.int .u64 (pool : Int), .int .u64 (txg : Int), .int .u64 (note : Int), .int .i64 (r.t : Int), .int .i64 (r.at_ : Int), .int .i64 (r.n : Int), .int .u64 (r.bi : Int), .int .i64 (r.k : Int), .int .u64 (r.s.a : Int), .int .u64 (r.s.b : Int), .int .u64 (r.s.c : Int), .int .u64 (r.s.d : Int)]] w fun e w' => e = .returned (.int .i64 0) ∧ Keeps Non w w' := by
 have hB := Blk.new w 63 #[.int .u64 (pool : Int), .int .u64 (txg : Int), .int .u64 (note : Int), .int .i64 (r.t : Int), .int .i64 (r.at_ : Int), .int .i64 (r.n : Int), .int .u64 (r.bi : Int), .int .i64 (r.k : Int), .int .u64 (r.s.a : Int), .int .u64 (r.s.b : Int), .int .u64 (r.s.c : Int), .int .u64 (r.s.d : Int)]
 have hk := (Keeps.refl Non w).alloc (.cells #[.int .u64 (pool : Int), .int .u64 (txg : Int), .int .u64 (note : Int), .int .i64 (r.t : Int), .int .i64 (r.at_ : Int), .int .i64 (r.n : Int), .int .u64 (r.bi : Int), .int .i64 (r.k : Int), .int .u64 (r.s.a : Int), .int .u64 (r.s.b : Int), .int .u64 (r.s.c : Int), .int .u64 (r.s.d : Int)] 63)
 have HC := Lib.hid (fun V => check107_any r ho V)
 go_enter Tryz.func53, Tryz.ntmps53
 go_upto_region 1 with fail
 obtain ⟨w1, hw1⟩ : ∃ V : World, V = w.alloc (.cells #[.int .u64 (pool : Int), .int .u64 (txg : Int), .int .u64 (note : Int), .int .i64 (r.t : Int), .int .i64 (r.at_ : Int), .int .i64 (r.n : Int), .int .u64 (r.bi : Int), .int .i64 (r.k : Int), .int .u64 (r.s.a : Int), .int .u64 (r.s.b : Int), .int .u64 (r.s.c : Int), .int .u64 (r.s.d : Int)] 63) := ⟨_, rfl⟩
 rw [← hw1] at hB hk ⊢
 clear hw1
 obtain ⟨pb, hpb⟩ : ∃ z, z = w.heap.size := ⟨_, rfl⟩
 rw [← hpb] at hB ⊢
 clear hpb
 have hX : ∀ (V : World), Keeps Non w1 V → ∀ i v, (#[.int .u64 (pool : Int), .int .u64 (txg : Int), .int .u64 (note : Int), .int .i64 (r.t : Int), .int .i64 (r.at_ : Int), .int .i64 (r.n : Int), .int .u64 (r.bi : Int), .int .i64 (r.k : Int), .int .u64 (r.s.a : Int), .int .u64 (r.s.b : Int), .int .u64 (r.s.c : Int), .int .u64 (r.s.d : Int)] : Array Value)[i]? = some v → V.cell? ⟨pb, i, none⟩ = some v := fun V hV i v hi => by rw [(hB.non hV).cell]; exact hi
 have HX := Lib.hid hX
 have x1 : w1.cell? ⟨pb, 1, none⟩ = some (.int .u64 (txg : Int)) := hX w1 (Keeps.refl _ _) 1 _ rfl
 have y0 : w1.cell? ⟨pb, 3, none⟩ = some (.int .i64 (r.t : Int)) := hX w1 (Keeps.refl _ _) 3 _ rfl
 have y1 : w1.cell? ⟨pb, 4, none⟩ = some (.int .i64 (r.at_ : Int)) := hX w1 (Keeps.refl _ _) 4 _ rfl
 have y2 : w1.cell? ⟨pb, 5, none⟩ = some (.int .i64 (r.n : Int)) := hX w1 (Keeps.refl _ _) 5 _ rfl
 have y3 : w1.cell? ⟨pb, 6, none⟩ = some (.int .u64 (r.bi : Int)) := hX w1 (Keeps.refl _ _) 6 _ rfl
 have y4 : w1.cell? ⟨pb, 7, none⟩ = some (.int .i64 (r.k : Int)) := hX w1 (Keeps.refl _ _) 7 _ rfl
 have y5 : w1.cell? ⟨pb, 8, none⟩ = some (.int .u64 (r.s.a : Int)) := hX w1 (Keeps.refl _ _) 8 _ rfl
 have y6 : w1.cell? ⟨pb, 9, none⟩ = some (.int .u64 (r.s.b : Int)) := hX w1 (Keeps.refl _ _) 9 _ rfl
 have y7 : w1.cell? ⟨pb, 10, none⟩ = some (.int .u64 (r.s.c : Int)) := hX w1 (Keeps.refl _ _) 10 _ rfl
 have y8 : w1.cell? ⟨pb, 11, none⟩ = some (.int .u64 (r.s.d : Int)) := hX w1 (Keeps.refl _ _) 11 _ rfl
 have a1 : ¬ (txg : Int) < 1 := by omega
 have a2 : ¬ (281474976710656 : Int) < (txg : Int) := by omega
 have a3 : ¬ (txg : Int) < (r.bi : Int) := by omega
 clear hX hB
 go_wp2_with ((go_at_call 95; go_must (refine (HC.out _).mono ?_); rintro e w2 ⟨rfl, hK2⟩; have z1 : w2.cell? ⟨pb, 1, none⟩ = some (.int .u64 (txg : Int)) := HX.out w2 hK2 1 _ rfl; have z6 : w2.cell? ⟨pb, 6, none⟩ = some (.int .u64 (r.bi : Int)) := HX.out w2 hK2 6 _ rfl))
 go_ret
 exact ⟨rfl, hk.non hK2⟩
end Go.Proofs.YtolknnmaadkgiaaGreatDoor
namespace Go.Proofs.YtolknnmaadkgiaaGreatDoor
set_option maxRecDepth 100000
open Go.RowKit Go.Uc
theorem uberH_len (pool txg note : Nat) (r : Pt) : (uberH pool txg note r).length = 76 := by simp [uberH, le_length, ptrB_len]
def uber96 (pool txg note : Nat) (r : Pt) : List UInt8 := uberH pool txg note r ++ zeros 20
theorem uber96_len (pool txg note : Nat) (r : Pt) : (uber96 pool txg note r).length = 96 := by simp [uber96, uberH_len, zeros_length]
set_option maxHeartbeats 4000000 in
theorem laid67_any (pool txg note : Nat) (r : Pt) (hp : pool < 18446744073709551616) (h1 : 1 ≤ txg) (h2 : txg ≤ 281474976710656) (hn : note < 18446744073709551616) (ho : r.ok) (hrb : r.bi ≤ txg) (w : World) :
   Calls Tryz.prog 146 #[.agg #[.int .u64 (pool : Int), .int .u64 (txg : Int), .int .u64 (note : Int), .int .i64 (r.t : Int), .int .i64 (r.at_ : Int), .int .i64 (r.n : Int), .int .u64 (r.bi : Int), .int .i64 (r.k : Int), .int .u64 (r.s.a : Int), .int .u64 (r.s.b : Int), .int .u64 (r.s.c : Int), .int .u64 (r.s.d : Int)], .func (.func 53) #[] #[], .int .i64 96, .func (.func 147) #[] #[]] w fun e w' => ∃ b, e = .returned (.tuple #[.slice (some ⟨b, 0, none⟩) 96 96, .int .i64 0]) ∧ Blk w' b 5 (pc (uber96 pool txg note r)) ∧ w.heap.size ≤ b ∧ Keeps Non w w' := by
 have hB := Blk.new w 63 #[.int .u64 (pool : Int), .int .u64 (txg : Int), .int .u64 (note : Int), .int .i64 (r.t : Int), .int .i64 (r.at_ : Int), .int .i64 (r.n : Int), .int .u64 (r.bi : Int), .int .i64 (r.k : Int), .int .u64 (r.s.a : Int), .int .u64 (r.s.b : Int), .int .u64 (r.s.c : Int), .int .u64 (r.s.d : Int)]
 have hk := (Keeps.refl Non w).alloc (.cells #[.int .u64 (pool : Int), .int .u64 (txg : Int), .int .u64 (note : Int), .int .i64 (r.t : Int), .int .i64 (r.at_ : Int), .int .i64 (r.n : Int), .int .u64 (r.bi : Int), .int .i64 (r.k : Int), .int .u64 (r.s.a : Int), .int .u64 (r.s.b : Int), .int .u64 (r.s.c : Int), .int .u64 (r.s.d : Int)] 63)
 have HCk := Lib.hid (fun V => checkUber68_any pool txg note r h1 h2 ho hrb V)
 have HNw := Lib.hid (fun V => newWriter_any 96 (by decide) V)
 have HLu : Hid (∀ (V0 V : World) (g : Nat), Wr V0 V g 96 [] → Calls Tryz.prog 147 #[.pointer (some ⟨g, 0, none⟩), .agg #[.int .u64 (pool : Int), .int .u64 (txg : Int), .int .u64 (note : Int), .int .i64 (r.t : Int), .int .i64 (r.at_ : Int), .int .i64 (r.n : Int), .int .u64 (r.bi : Int), .int .i64 (r.k : Int), .int .u64 (r.s.a : Int), .int .u64 (r.s.b : Int), .int .u64 (r.s.c : Int), .int .u64 (r.s.d : Int)]] V fun e w' => e = .returned (.tuple #[]) ∧ Wr V0 w' g 96 (uberH pool txg note r) ∧ Oth V w') := Lib.hid (fun V0 V g hV => layUber_any hV pool txg note r hp (by omega) hn ho (by decide) (by decide))
 have HPd : Hid (∀ (V0 V : World) (g : Nat), Wr V0 V g 96 (uberH pool txg note r) → Calls Tryz.prog 168 #[.pointer (some ⟨g, 0, none⟩), .int .i64 96] V fun e w' => e = .returned (.tuple #[]) ∧ Wr V0 w' g 96 (uber96 pool txg note r) ∧ Oth V w') := Lib.hid (fun V0 V g hV => by
   have := pad106_any hV 96 (by rw [uberH_len]; decide) (by decide) (by decide)
   rw [uberH_len] at this
   exact this)
 have HDn : Hid (∀ (V0 V : World) (g : Nat), Wr V0 V g 96 (uber96 pool txg note r) → Calls Tryz.prog 71 #[.pointer (some ⟨g, 0, none⟩)] V fun e w' => ∃ b, e = .returned (.tuple #[.slice (some ⟨b, 0, none⟩) 96 96, .int .i64 0]) ∧ Blk w' b 5 (pc (uber96 pool txg note r)) ∧ V.heap.size ≤ b ∧ Keeps Non V w') := Lib.hid (fun V0 V g hV => by
   have := done44_any hV (by rw [uber96_len]; decide)
   rw [uber96_len] at this
   exact this)
 go_enter Tryz.func146, Tryz.ntmps146
 go_upto_region 1 with fail
 obtain ⟨w1, hw1⟩ : ∃ V : World, V = w.alloc (.cells #[.int .u64 (pool : Int), .int .u64 (txg : Int), .int .u64 (note : Int), .int .i64 (r.t : Int), .int .i64 (r.at_ : Int), .int .i64 (r.n : Int), .int .u64 (r.bi : Int), .int .i64 (r.k : Int), .int .u64 (r.s.a : Int), .int .u64 (r.s.b : Int), .int .u64 (r.s.c : Int), .int .u64 (r.s.d : Int)] 63) := ⟨_, rfl⟩
 rw [← hw1] at hB hk ⊢
 clear hw1
 obtain ⟨pb, hpb⟩ : ∃ z, z = w.heap.size := ⟨_, rfl⟩
 rw [← hpb] at hB ⊢
 clear hpb
 have HX : Hid (∀ (V : World), Keeps Non w1 V → ∀ i v, (#[.int .u64 (pool : Int), .int .u64 (txg : Int), .int .u64 (note : Int), .int .i64 (r.t : Int), .int .i64 (r.at_ : Int), .int .i64 (r.n : Int), .int .u64 (r.bi : Int), .int .i64 (r.k : Int), .int .u64 (r.s.a : Int), .int .u64 (r.s.b : Int), .int .u64 (r.s.c : Int), .int .u64 (r.s.d : Int)] : Array Value)[i]? = some v → V.cell? ⟨pb, i, none⟩ = some v) := Lib.hid (fun V hV i v hi => by rw [(hB.non hV).cell]; exact hi)
 clear hB
 have x0 : w1.cell? ⟨pb, 0, none⟩ = some (.int .u64 (pool : Int)) := HX.out w1 (Keeps.refl _ _) 0 _ rfl
 have x1 : w1.cell? ⟨pb, 1, none⟩ = some (.int .u64 (txg : Int)) := HX.out w1 (Keeps.refl _ _) 1 _ rfl
 have x2 : w1.cell? ⟨pb, 2, none⟩ = some (.int .u64 (note : Int)) := HX.out w1 (Keeps.refl _ _) 2 _ rfl
 have x3 : w1.cell? ⟨pb, 3, none⟩ = some (.int .i64 (r.t : Int)) := HX.out w1 (Keeps.refl _ _) 3 _ rfl
 have x4 : w1.cell? ⟨pb, 4, none⟩ = some (.int .i64 (r.at_ : Int)) := HX.out w1 (Keeps.refl _ _) 4 _ rfl
 have x5 : w1.cell? ⟨pb, 5, none⟩ = some (.int .i64 (r.n : Int)) := HX.out w1 (Keeps.refl _ _) 5 _ rfl
 have x6 : w1.cell? ⟨pb, 6, none⟩ = some (.int .u64 (r.bi : Int)) := HX.out w1 (Keeps.refl _ _) 6 _ rfl
 have x7 : w1.cell? ⟨pb, 7, none⟩ = some (.int .i64 (r.k : Int)) := HX.out w1 (Keeps.refl _ _) 7 _ rfl
 have x8 : w1.cell? ⟨pb, 8, none⟩ = some (.int .u64 (r.s.a : Int)) := HX.out w1 (Keeps.refl _ _) 8 _ rfl
 have x9 : w1.cell? ⟨pb, 9, none⟩ = some (.int .u64 (r.s.b : Int)) := HX.out w1 (Keeps.refl _ _) 9 _ rfl
 have x10 : w1.cell? ⟨pb, 10, none⟩ = some (.int .u64 (r.s.c : Int)) := HX.out w1 (Keeps.refl _ _) 10 _ rfl
 have x11 : w1.cell? ⟨pb, 11, none⟩ = some (.int .u64 (r.s.d : Int)) := HX.out w1 (Keeps.refl _ _) 11 _ rfl
 go_upto_region 2 with ((go_at_call 53; go_must (refine (HCk.out _).mono ?_); rintro e w2 ⟨rfl, hK2⟩))
 clear x0 x1 x2 x3 x4 x5 x6 x7 x8 x9 x10 x11
 go_upto_region 5 with ((go_at_call 68; go_must (refine (HNw.out _).mono ?_); rintro e w3 ⟨g, rfl, hW3⟩))
 have hK3 := hK2.non hW3.keep
 have x0 : w3.cell? ⟨pb, 0, none⟩ = some (.int .u64 (pool : Int)) := HX.out w3 hK3 0 _ rfl
 have x1 : w3.cell? ⟨pb, 1, none⟩ = some (.int .u64 (txg : Int)) := HX.out w3 hK3 1 _ rfl
 have x2 : w3.cell? ⟨pb, 2, none⟩ = some (.int .u64 (note : Int)) := HX.out w3 hK3 2 _ rfl
 have x3 : w3.cell? ⟨pb, 3, none⟩ = some (.int .i64 (r.t : Int)) := HX.out w3 hK3 3 _ rfl
 have x4 : w3.cell? ⟨pb, 4, none⟩ = some (.int .i64 (r.at_ : Int)) := HX.out w3 hK3 4 _ rfl
 have x5 : w3.cell? ⟨pb, 5, none⟩ = some (.int .i64 (r.n : Int)) := HX.out w3 hK3 5 _ rfl
 have x6 : w3.cell? ⟨pb, 6, none⟩ = some (.int .u64 (r.bi : Int)) := HX.out w3 hK3 6 _ rfl
 have x7 : w3.cell? ⟨pb, 7, none⟩ = some (.int .i64 (r.k : Int)) := HX.out w3 hK3 7 _ rfl
 have x8 : w3.cell? ⟨pb, 8, none⟩ = some (.int .u64 (r.s.a : Int)) := HX.out w3 hK3 8 _ rfl
 have x9 : w3.cell? ⟨pb, 9, none⟩ = some (.int .u64 (r.s.b : Int)) := HX.out w3 hK3 9 _ rfl
 have x10 : w3.cell? ⟨pb, 10, none⟩ = some (.int .u64 (r.s.c : Int)) := HX.out w3 hK3 10 _ rfl
 have x11 : w3.cell? ⟨pb, 11, none⟩ = some (.int .u64 (r.s.d : Int)) := HX.out w3 hK3 11 _ rfl
 have HL3 := Lib.hid (HLu.out _ _ _ hW3)
 go_upto_region 6 with ((go_at_call 147; go_must (refine HL3.out.mono ?_); rintro e w4 ⟨rfl, hW4, -⟩))
 clear x0 x1 x2 x3 x4 x5 x6 x7 x8 x9 x10 x11
 have HP4 := Lib.hid (HPd.out _ _ _ hW4)
 go_upto_region 7 with ((go_at_call 168; go_must (refine HP4.out.mono ?_); rintro e w5 ⟨rfl, hW5, -⟩))
 have HD5 := Lib.hid (HDn.out _ _ _ hW5)
 go_wp2_with ((go_at_call 71; go_must (refine HD5.out.mono ?_); rintro e w6 ⟨b, rfl, hB6, hb6, hK6⟩))
 go_ret2
 have hK5 := (hk.non hK2).non hW5.keep
 exact ⟨b, rfl, hB6, Nat.le_trans hK5.size hb6, hK5.non hK6⟩
end Go.Proofs.YtolknnmaadkgiaaGreatDoor
namespace Go.Proofs.YtolknnmaadkgiaaGreatDoor
open Go.RowKit Go.Uc
def sv (a b c d : BitVec 64) : Value := .agg #[.int .u64 (v64 a), .int .u64 (v64 b), .int .u64 (v64 c), .int .u64 (v64 d)]
structure Sum4 where
 a : BitVec 64
 b : BitVec 64
 c : BitVec 64
 d : BitVec 64
def Sum4.v (s : Sum4) : Value := sv s.a s.b s.c s.d
def Hi (B k : Nat) : Prop := B ≤ k
end Go.Proofs.YtolknnmaadkgiaaGreatDoor
