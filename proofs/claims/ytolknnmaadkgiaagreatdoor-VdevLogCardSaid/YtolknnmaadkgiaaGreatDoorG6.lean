/- An uberblock as a sector. An uberblock taken up. The bytes ahead of a sum that is right. An uberblock read. A label: may it be?. -/
import Derived.Test.YtolknnmaadkgiaaGreatDoorG5
set_option linter.unusedVariables false
set_option linter.unusedSimpArgs false
namespace Go.Proofs.YtolknnmaadkgiaaGreatDoor
set_option maxRecDepth 100000
open Go.RowKit Go.Uc
def uberB (pool txg note : Nat) (r : Pt) : List UInt8 := withSum (uber96 pool txg note r)
set_option maxHeartbeats 4000000 in
theorem encodeUber28_any (pool txg note : Nat) (r : Pt) (hp : pool < 18446744073709551616) (h1 : 1 ≤ txg) (h2 : txg ≤ 281474976710656) (hn : note < 18446744073709551616) (ho : r.ok) (hrb : r.bi ≤ txg) (w : World) :
   Calls Tryz.prog 96 #[.agg #[.int .u64 (pool : Int), .int .u64 (txg : Int), .int .u64 (note : Int), .int .i64 (r.t : Int), .int .i64 (r.at_ : Int), .int .i64 (r.n : Int), .int .u64 (r.bi : Int), .int .i64 (r.k : Int), .int .u64 (r.s.a : Int), .int .u64 (r.s.b : Int), .int .u64 (r.s.c : Int), .int .u64 (r.s.d : Int)]] w fun e w' => ∃ b, e = .returned (.tuple #[.slice (some ⟨b, 0, none⟩) 128 128, .int .i64 0]) ∧ Blk w' b 5 (pc (uberB pool txg note r)) ∧ w.heap.size ≤ b ∧ Keeps Non w w' := by
 have hB := Blk.new w 63 #[.int .u64 (pool : Int), .int .u64 (txg : Int), .int .u64 (note : Int), .int .i64 (r.t : Int), .int .i64 (r.at_ : Int), .int .i64 (r.n : Int), .int .u64 (r.bi : Int), .int .i64 (r.k : Int), .int .u64 (r.s.a : Int), .int .u64 (r.s.b : Int), .int .u64 (r.s.c : Int), .int .u64 (r.s.d : Int)]
 have hk := (Keeps.refl Non w).alloc (.cells #[.int .u64 (pool : Int), .int .u64 (txg : Int), .int .u64 (note : Int), .int .i64 (r.t : Int), .int .i64 (r.at_ : Int), .int .i64 (r.n : Int), .int .u64 (r.bi : Int), .int .i64 (r.k : Int), .int .u64 (r.s.a : Int), .int .u64 (r.s.b : Int), .int .u64 (r.s.c : Int), .int .u64 (r.s.d : Int)] 63)
 have HL := Lib.hid (fun V => laid67_any pool txg note r hp h1 h2 hn ho hrb V)
 have HW := Lib.hid (fun (V : World) (b : Nat) (hb : Blk V b 5 (pc (uber96 pool txg note r))) => whole66_any hb (uber96_len pool txg note r))
 go_enter Tryz.func96, Tryz.ntmps96
 go_upto_region 1 with fail
 obtain ⟨w1, hw1⟩ : ∃ V : World, V = w.alloc (.cells #[.int .u64 (pool : Int), .int .u64 (txg : Int), .int .u64 (note : Int), .int .i64 (r.t : Int), .int .i64 (r.at_ : Int), .int .i64 (r.n : Int), .int .u64 (r.bi : Int), .int .i64 (r.k : Int), .int .u64 (r.s.a : Int), .int .u64 (r.s.b : Int), .int .u64 (r.s.c : Int), .int .u64 (r.s.d : Int)] 63) := ⟨_, rfl⟩
 rw [← hw1] at hB hk ⊢
 clear hw1
 obtain ⟨pb, hpb⟩ : ∃ z, z = w.heap.size := ⟨_, rfl⟩
 rw [← hpb] at hB ⊢
 clear hpb
 have x0 : w1.cell? ⟨pb, 0, none⟩ = some (.int .u64 (pool : Int)) := hB.cell 0
 have x1 : w1.cell? ⟨pb, 1, none⟩ = some (.int .u64 (txg : Int)) := hB.cell 1
 have x2 : w1.cell? ⟨pb, 2, none⟩ = some (.int .u64 (note : Int)) := hB.cell 2
 have x3 : w1.cell? ⟨pb, 3, none⟩ = some (.int .i64 (r.t : Int)) := hB.cell 3
 have x4 : w1.cell? ⟨pb, 4, none⟩ = some (.int .i64 (r.at_ : Int)) := hB.cell 4
 have x5 : w1.cell? ⟨pb, 5, none⟩ = some (.int .i64 (r.n : Int)) := hB.cell 5
 have x6 : w1.cell? ⟨pb, 6, none⟩ = some (.int .u64 (r.bi : Int)) := hB.cell 6
 have x7 : w1.cell? ⟨pb, 7, none⟩ = some (.int .i64 (r.k : Int)) := hB.cell 7
 have x8 : w1.cell? ⟨pb, 8, none⟩ = some (.int .u64 (r.s.a : Int)) := hB.cell 8
 have x9 : w1.cell? ⟨pb, 9, none⟩ = some (.int .u64 (r.s.b : Int)) := hB.cell 9
 have x10 : w1.cell? ⟨pb, 10, none⟩ = some (.int .u64 (r.s.c : Int)) := hB.cell 10
 have x11 : w1.cell? ⟨pb, 11, none⟩ = some (.int .u64 (r.s.d : Int)) := hB.cell 11
 go_wp2_with (first
   | (go_at_call 146; go_must (refine (HL.out _).mono ?_); rintro e w2 ⟨b, rfl, hB2, hb2, hK2⟩; have HW2 := Lib.hid (HW.out w2 b hB2))
   | (go_at_call 138; go_must (refine HW2.out.mono ?_); rintro e w3 ⟨b', rfl, hB3, hb3, hK3⟩))
 go_ret2
 have hK12 := hk.non hK2
 exact ⟨b', rfl, hB3, Nat.le_trans hK12.size hb3, hK12.non hK3⟩
end Go.Proofs.YtolknnmaadkgiaaGreatDoor
namespace Go.Proofs.YtolknnmaadkgiaaGreatDoor
set_option maxRecDepth 100000
open Go.RowKit Go.Uc
theorem uber_pool (pool txg note : Nat) (r : Pt) : ((uber96 pool txg note r).drop 4).take 8 = le 8 pool :=
 mid_eq _ [85, 67, 85, 66] _ (le 8 txg ++ le 8 note ++ ptrB r ++ zeros 20) (by simp [uber96, uberH]) _ _ rfl (le_length _ _)
theorem uber_txg (pool txg note : Nat) (r : Pt) : ((uber96 pool txg note r).drop 12).take 8 = le 8 txg :=
 mid_eq _ ([85, 67, 85, 66] ++ le 8 pool) _ (le 8 note ++ ptrB r ++ zeros 20) (by simp [uber96, uberH]) _ _ (by simp [le_length]) (le_length _ _)
theorem uber_note (pool txg note : Nat) (r : Pt) : ((uber96 pool txg note r).drop 20).take 8 = le 8 note :=
 mid_eq _ ([85, 67, 85, 66] ++ le 8 pool ++ le 8 txg) _ (ptrB r ++ zeros 20) (by simp [uber96, uberH]) _ _ (by simp [le_length]) (le_length _ _)
theorem uber_root (pool txg note : Nat) (r : Pt) : ((uber96 pool txg note r).drop 28).take 48 = ptrB r :=
 mid_eq _ ([85, 67, 85, 66] ++ le 8 pool ++ le 8 txg ++ le 8 note) _ (zeros 20) (by simp [uber96, uberH]) _ _ (by simp [le_length]) (ptrB_len _)
theorem uber_pad (pool txg note : Nat) (r : Pt) : (uber96 pool txg note r).drop 76 = zeros ((uber96 pool txg note r).length - 76) := by
 rw [uber96_len]
 unfold uber96
 rw [← uberH_len pool txg note r, List.drop_left, uberH_len]
set_option maxHeartbeats 4000000 in
theorem takeUber76_any {w0 w : World} {g : Nat} (pool txg note : Nat) (r : Pt) (hp : pool < 18446744073709551616) (ht : txg < 18446744073709551616) (hn : note < 18446744073709551616) (ho : r.ok) (h : Rg w0 w g (uber96 pool txg note r) 0) :
   Calls Tryz.prog 149 #[.pointer (some ⟨g, 0, none⟩)] w fun e w' => e = .returned (.agg #[.int .u64 (pool : Int), .int .u64 (txg : Int), .int .u64 (note : Int), .int .i64 (r.t : Int), .int .i64 (r.at_ : Int), .int .i64 (r.n : Int), .int .u64 (r.bi : Int), .int .i64 (r.k : Int), .int .u64 (r.s.a : Int), .int .u64 (r.s.b : Int), .int .u64 (r.s.c : Int), .int .u64 (r.s.d : Int)]) ∧ Rg w0 w' g (uber96 pool txg note r) 76 ∧ Keeps (Only g) w w' := by
 have hl := uber96_len pool txg note r
 have v1 : leVal (((uber96 pool txg note r).drop 4).take 8) = pool := by rw [uber_pool, leVal_le, Nat.mod_eq_of_lt hp]
 have v2 : leVal (((uber96 pool txg note r).drop 12).take 8) = txg := by rw [uber_txg, leVal_le, Nat.mod_eq_of_lt ht]
 have v3 : leVal (((uber96 pool txg note r).drop 20).take 8) = note := by rw [uber_note, leVal_le, Nat.mod_eq_of_lt hn]
 have v4 := uber_root pool txg note r
 generalize uber96 pool txg note r = bs at h hl v1 v2 v3 v4 ⊢
 have H0 := Lib.hid (fun (V : World) (hV : Rg w0 V g bs 0) => rbytes50_any hV 4 (by decide) (by omega))
 have HN : Hid (∀ (V : World) (k n : Nat), Rg w0 V g bs k → leVal ((bs.drop k).take 8) = n → k + 8 ≤ bs.length → Calls Tryz.prog 115 #[.pointer (some ⟨g, 0, none⟩), .int .i64 8] V fun e w' => e = .returned (.int .u64 (n : Int)) ∧ Rg w0 w' g bs (k + 8) ∧ Keeps (Only g) V w') := Lib.hid (fun V k n hV hn hk => by
   have := rnum49_any hV 8 (by decide) (by decide) hk
   rw [hn] at this
   exact this)
 have HP := Lib.hid (fun (V : World) (hV : Rg w0 V g bs 28) => takePtr113_any r ho hV (by omega) v4)
 have V1 := Lib.hid v1
 have V2 := Lib.hid v2
 have V3 := Lib.hid v3
 clear v1 v2 v3 v4 hp ht hn
 have hB := Blk.new w 63 #[.int .u64 0, .int .u64 0, .int .u64 0, .int .i64 0, .int .i64 0, .int .i64 0, .int .u64 0, .int .i64 0, .int .u64 0, .int .u64 0, .int .u64 0, .int .u64 0]
 have hk := (Keeps.refl Non w).alloc (.cells #[.int .u64 0, .int .u64 0, .int .u64 0, .int .i64 0, .int .i64 0, .int .i64 0, .int .u64 0, .int .i64 0, .int .u64 0, .int .u64 0, .int .u64 0, .int .u64 0] 63)
 have hgl : g < w.heap.size := by obtain ⟨b, i1, -⟩ := h; exact i1.lt
 go_enter Tryz.func149, Tryz.ntmps149
 go_upto_region 1 with fail
 obtain ⟨w1, hw1⟩ : ∃ V : World, V = w.alloc (.cells #[.int .u64 0, .int .u64 0, .int .u64 0, .int .i64 0, .int .i64 0, .int .i64 0, .int .u64 0, .int .i64 0, .int .u64 0, .int .u64 0, .int .u64 0, .int .u64 0] 63) := ⟨_, rfl⟩
 rw [← hw1] at hB hk ⊢
 clear hw1
 obtain ⟨pb, hpb⟩ : ∃ z, z = w.heap.size := ⟨_, rfl⟩
 rw [← hpb] at hB hgl ⊢
 have hpg : pb ≠ g := by omega
 have hpw : w.heap.size ≤ pb := by omega
 clear hpb
 go_wp2_with fail
 refine (H0.out w1 (h.non hk)).mono ?_
 rintro e w2 ⟨nb, rfl, hR2, hN2, hn2, hK2⟩
 go_wp2_with fail
 refine (HN.out w2 4 pool hR2 V1.out (by omega)).mono ?_
 rintro e w3 ⟨rfl, hR3, hK3⟩
 go_wp2_with fail
 refine (HN.out w3 12 txg hR3 V2.out (by omega)).mono ?_
 rintro e w4 ⟨rfl, hR4, hK4⟩
 go_wp2_with fail
 refine (HN.out w4 20 note hR4 V3.out (by omega)).mono ?_
 rintro e w5 ⟨rfl, hR5, hK5⟩
 go_wp2_with fail
 refine (HP.out w5 hR5).mono ?_
 rintro e w6 ⟨rfl, hR6, hK6⟩
 have hKx : Keeps (Only g) w1 w6 := (((hK2.trans hK3).trans hK4).trans hK5).trans hK6
 have hB6 := hB.one hKx hpg
 have hKy : Keeps (Only g) w w6 := (hk.of_non (S := Only g)).trans hKx
 clear hK2 hK3 hK4 hK5 hK6 hKx hR2 hR3 hR4 hR5 hN2
 go_wp2_with ((with_reducible show wpList _ _ _ ({ dst := none, op := Op.store 63 _ _, type := _, pos := _, after := _, guard := _ } :: _) _ _); go_must (refine wpList_store_blk rfl 63 (.tmp 2) (.tmp 13) rfl pb #[.int .u64 (pool : Int), .int .u64 (txg : Int), .int .u64 (note : Int), .int .i64 (r.t : Int), .int .i64 (r.at_ : Int), .int .i64 (r.n : Int), .int .u64 (r.bi : Int), .int .i64 (r.k : Int), .int .u64 (r.s.a : Int), .int .u64 (r.s.b : Int), .int .u64 (r.s.c : Int), .int .u64 (r.s.d : Int)] rfl rfl 63 _ hB6 (by kernel_rfl) rfl (by kernel_rfl) ?_); intro w7 hB7 hK7)
 refine bodyPost_ret (results_cell_blk (ty := 63) rfl _ pb 63 _ _ rfl hB7 Tryz.underlying63 rfl (by kernel_rfl)) rfl ⟨rfl, ?_, ?_⟩
 · exact hR6.one hB6 (by decide) (by decide) (by obtain ⟨b', i1, i2, i3, i4, i5, i6, i7⟩ := h; have := i7.size; omega) hK7
 · exact hKy.then hK7 fun i hi e => by unfold Only at e; omega
end Go.Proofs.YtolknnmaadkgiaaGreatDoor
namespace Go.Proofs.YtolknnmaadkgiaaGreatDoor
set_option maxRecDepth 100000
open Go.RowKit Go.Uc
theorem str_toList (L : List UInt8) : (str L).toList = L := by rw [Lib.toList_data]; rfl
def toS4 (s : Sum4) : S4 := ⟨s.a.toNat, s.b.toNat, s.c.toNat, s.d.toNat⟩
def S4.to4 (s : S4) : Sum4 := ⟨BitVec.ofNat 64 s.a, BitVec.ofNat 64 s.b, BitVec.ofNat 64 s.c, BitVec.ofNat 64 s.d⟩
theorem fl_to (xs : List UInt8) : fl xs = toS4 (rn0.add xs).value := rfl
theorem v64_ofNat (n : Nat) (h : n < 18446744073709551616) : v64 (BitVec.ofNat 64 n) = (n : Int) := by
 unfold v64
 rw [BitVec.toNat_ofNat, Nat.mod_eq_of_lt (by simpa using h)]
theorem S4.to4_v (s : S4) (h : s.ok) : s.to4.v = .agg s.cs := by
 obtain ⟨h1, h2, h3, h4⟩ := h
 simp [S4.to4, Sum4.v, sv, S4.cs, v64_ofNat, h1, h2, h3, h4]
theorem S4.eq_to (s : S4) (h : s.ok) (t : Sum4) : s.to4 = t ↔ s = toS4 t := by
 obtain ⟨h1, h2, h3, h4⟩ := h
 obtain ⟨a, b, c, d⟩ := s
 simp only at h1 h2 h3 h4
 constructor
 · rintro rfl
   simp [toS4, S4.to4, Nat.mod_eq_of_lt, h1, h2, h3, h4]
 · intro e
   rw [e]
   simp [toS4, S4.to4]
theorem n8_lt (bs : List UInt8) (k : Nat) : n8 bs k < 18446744073709551616 := by
 have h1 := leVal_lt ((bs.drop k).take 8)
 have h2 : ((bs.drop k).take 8).length ≤ 8 := by rw [List.length_take]; omega
 have h3 := Nat.pow_le_pow_right (show 0 < 256 by decide) h2
 unfold n8
 have : (256 : Nat) ^ 8 = 18446744073709551616 := by decide
 omega
theorem sumAt_ok (bs : List UInt8) (k : Nat) : (sumAt bs k).ok := ⟨n8_lt _ _, n8_lt _ _, n8_lt _ _, n8_lt _ _⟩
theorem sumAt_drop (bs : List UInt8) (k : Nat) : sumAt (bs.drop k) 0 = sumAt bs k := by
 simp [sumAt, n8, List.drop_drop]
theorem checkS (s : S4) (hs : s.ok) (A : Option Addr) (c : Nat) (xs : List UInt8) (w : World) (hA : At w A xs) (hc : xs.length ≤ c) (hn : xs.length ≤ 140737488351240) (r : Bool) (hr : r = true ↔ s = fl xs) :
   Calls Tryz.prog 117 #[.int .i64 1, .agg s.cs, .slice A xs.length c] w fun e w' => e = .returned (.bool r) ∧ Keeps Non w w' := by
 have h := check1_any s.to4 A c xs w hA hc hn
 rw [S4.to4_v s hs] at h
 have e : s.to4.eqv (rn0.add xs).value = r := by
   rw [Bool.eq_iff_iff, Sum4.eqv_iff, S4.eq_to s hs, hr, fl_to]
 rw [e] at h
 exact h
def Opens (L bs : List UInt8) : Prop := bs.take 4 = L ∧ sumAt bs 96 = fl (bs.take 96)
set_option maxHeartbeats 4000000 in
theorem opened74_any (L bs : List UInt8) (hL : L.length = 4) (hl : bs.length = 128) (b : Nat) (w : World) (hb : Blk w b 5 (pc bs)) :
   Calls Tryz.prog 132 #[.slice (some ⟨b, 0, none⟩) 128 128, .string (str L)] w fun e w' => ((Opens L bs ∧ e = .returned (.tuple #[.slice (some ⟨b, 0, none⟩) 96 128, .bool true])) ∨ (¬ Opens L bs ∧ e = .returned (.tuple #[.slice none 0 0, .bool false]))) ∧ Keeps Non w w' := by
 have hcv : (convert 22 9 (.slice (some ⟨b, 0, none⟩) 4 128)).run Tryz.prog w = .ok (.string (str (bs.take 4))) w := run_convert_at 22 9 5 Tryz.underlying22 Tryz.underlying5 Tryz.underlying9 (some ⟨b, 0, none⟩) (bs.take 4) ((At.blk hb).take 4) 4 128 (by rw [List.length_take]; omega)
 have hsz : (str L).size = 4 := by show L.toArray.size = 4; simpa using hL
 have HR : Hid (∀ V, Keeps Non w V → Calls Tryz.prog 114 #[.slice (some ⟨b, 96, none⟩) 32 32] V fun e w' => ∃ g, e = .returned (.pointer (some ⟨g, 0, none⟩)) ∧ Rg V w' g (bs.drop 96) 0) := Lib.hid (fun V hV => by
   have := newReader_any (some ⟨b, 0 + 96, none⟩) 32 (bs.drop 96) V ((At.blk (hb.non hV)).drop 96) (by rw [List.length_drop]; omega)
   rw [List.length_drop, hl] at this
   exact this)
 have HS : Hid (∀ (V0 V : World) (g : Nat), Rg V0 V g (bs.drop 96) 0 → Calls Tryz.prog 163 #[.pointer (some ⟨g, 0, none⟩)] V fun e w' => e = .returned (.agg (sumAt bs 96).cs) ∧ Keeps Non V0 w') := Lib.hid (fun V0 V g hV => by
   have := takeSum110_any hV (by rw [List.length_drop]; omega)
   rw [sumAt_drop] at this
   refine this.mono ?_
   rintro e w' ⟨rfl, hR, hK⟩
   exact ⟨rfl, by obtain ⟨b', i1, i2, i3, i4, i5, i6, i7⟩ := hR; exact i7⟩)
 have HC : Hid (∀ (V : World) (r : Bool), Keeps Non w V → (r = true ↔ sumAt bs 96 = fl (bs.take 96)) → Calls Tryz.prog 117 #[.int .i64 1, .agg (sumAt bs 96).cs, .slice (some ⟨b, 0, none⟩) 96 128] V fun e w' => e = .returned (.bool r) ∧ Keeps Non V w') := Lib.hid (fun V r hV hr => by
   have := checkS (sumAt bs 96) (sumAt_ok _ _) (some ⟨b, 0, none⟩) 128 (bs.take 96) V ((At.blk (hb.non hV)).take 96) (by rw [List.length_take]; omega) (by rw [List.length_take]; omega) r hr
   rw [List.length_take, hl] at this
   exact this)
 by_cases hq : bs.take 4 = L
 · have hstr : ((str (bs.take 4)).toList == (str L).toList) = true := by rw [hq]; simp
   have hO : Hid (Opens L bs ↔ sumAt bs 96 = fl (bs.take 96)) := Lib.hid ⟨fun h => h.2, fun h => ⟨hq, h⟩⟩
   obtain ⟨r, hr⟩ : ∃ r : Bool, (r = true ↔ sumAt bs 96 = fl (bs.take 96)) := by
     by_cases h : sumAt bs 96 = fl (bs.take 96)
     · exact ⟨true, by simp [h]⟩
     · exact ⟨false, by simp [h]⟩
   have HC2 := Lib.hid (fun V hV => HC.out V r hV hr)
   have hO2 : Hid (Opens L bs ↔ r = true) := Lib.hid (by rw [hO.out, hr])
   clear HC hO hr hq
   generalize Opens L bs = O at hO2 ⊢
   generalize (sumAt bs 96).cs = S at HS HC2
   go_enter Tryz.func132, Tryz.ntmps132
   go_upto_region 3 with fail
   have kd : Keeps Non w w.drew := (Keeps.refl Non w).drew
   have HR1 := Lib.hid (HR.out _ kd)
   go_region_law (first
     | (go_simp; go_at_call 114; refine HR1.out.mono ?_; rintro e w2 ⟨g, rfl, hR2⟩; go_must (have HS2 := Lib.hid (HS.out _ _ _ hR2)))
     | (go_simp; go_at_call 163; refine HS2.out.mono ?_; rintro e w3 ⟨rfl, hK3⟩; go_must (have hK3' := kd.non hK3; have HC3 := Lib.hid (HC2.out _ hK3')))
     | (go_simp; go_at_call 117; refine HC3.out.mono ?_; rintro e w4 ⟨rfl, hK4⟩; go_must (have hK4' := hK3'.non hK4)))
   all_goals
     clear HR HS HC2
     cases r
     · go_wp2_with fail
       go_ret2
       exact ⟨.inr ⟨fun h => (by simpa using hO2.out.1 h), rfl⟩, hK4'⟩
     · go_wp2_with fail
       go_ret2
       exact ⟨.inl ⟨by have := hO2.out; simpa using this, rfl⟩, hK4'⟩
 · have hstr : ((str (bs.take 4)).toList == (str L).toList) = false := by
     rw [str_toList, str_toList]
     simpa using hq
   have hO : Hid (¬ Opens L bs) := Lib.hid (fun h => hq h.1)
   generalize Opens L bs = O at hO ⊢
   clear HR HS HC hq hL
   go_enter Tryz.func132, Tryz.ntmps132
   go_wp2_with fail
   go_ret2
   exact ⟨.inr ⟨hO.out, rfl⟩, Keeps.refl _ _⟩
end Go.Proofs.YtolknnmaadkgiaaGreatDoor
namespace Go.Proofs.YtolknnmaadkgiaaGreatDoor
set_option maxRecDepth 100000
open Go.RowKit Go.Uc
theorem two_new (w : World) (a b : Array Value) (ta tb : TypeId) : Blk ((w.alloc (.cells a ta)).alloc (.cells b tb)) w.heap.size ta a ∧ Blk ((w.alloc (.cells a ta)).alloc (.cells b tb)) (w.heap.size + 1) tb b ∧ Keeps Non w ((w.alloc (.cells a ta)).alloc (.cells b tb)) := by
 have h1 := Blk.new w ta a
 have k1 := (Keeps.refl Non w).alloc (.cells a ta)
 obtain ⟨w1, hw1⟩ : ∃ V : World, V = w.alloc (.cells a ta) := ⟨_, rfl⟩
 have z1 : w1.heap.size = w.heap.size + 1 := by rw [hw1]; simp
 rw [← hw1] at h1 k1 ⊢
 have h2 := Blk.new w1 tb b
 have k2 := (Keeps.refl Non w1).alloc (.cells b tb)
 rw [z1] at h2
 exact ⟨h1.non k2, h2, k1.non k2⟩
set_option maxHeartbeats 4000000 in
theorem taken75_any (pool txg note : Nat) (r : Pt) (hp : pool < 18446744073709551616) (h1 : 1 ≤ txg) (h2 : txg ≤ 281474976710656) (hn : note < 18446744073709551616) (ho : r.ok) (hrb : r.bi ≤ txg) (A : Option Addr) (w : World) (hA : At w A (uber96 pool txg note r)) :
   Calls Tryz.prog 148 #[.slice A 96 128, .int .i64 45, .func (.func 53) #[] #[], .func (.func 149) #[] #[]] w fun e w' => e = .returned (.tuple #[.agg #[.int .u64 (pool : Int), .int .u64 (txg : Int), .int .u64 (note : Int), .int .i64 (r.t : Int), .int .i64 (r.at_ : Int), .int .i64 (r.n : Int), .int .u64 (r.bi : Int), .int .i64 (r.k : Int), .int .u64 (r.s.a : Int), .int .u64 (r.s.b : Int), .int .u64 (r.s.c : Int), .int .u64 (r.s.d : Int)], .int .i64 0]) ∧ Keeps Non w w' := by
 have hl := uber96_len pool txg note r
 have HCk := Lib.hid (fun V => checkUber68_any pool txg note r h1 h2 ho hrb V)
 have HNr : Hid (∀ V, Keeps Non w V → Calls Tryz.prog 114 #[.slice A 96 128] V fun e w' => ∃ g, e = .returned (.pointer (some ⟨g, 0, none⟩)) ∧ Rg V w' g (uber96 pool txg note r) 0) := Lib.hid (fun V hV => by
   have := newReader_any A 128 (uber96 pool txg note r) V (hA.non hV) (by omega)
   rw [hl] at this
   exact this)
 have HT := Lib.hid (fun (V0 V : World) (g : Nat) (hV : Rg V0 V g (uber96 pool txg note r) 0) => takeUber76_any pool txg note r hp (by omega) hn ho hV)
 have HPd : Hid (∀ (V0 V : World) (g : Nat), Rg V0 V g (uber96 pool txg note r) 76 → Calls Tryz.prog 164 #[.pointer (some ⟨g, 0, none⟩), .int .i64 96] V fun e w' => e = .returned (.tuple #[]) ∧ Rg V0 w' g (uber96 pool txg note r) (uber96 pool txg note r).length ∧ Keeps (Only g) V w') := Lib.hid (fun V0 V g hV => by
   have := rpad111_any hV (by omega) (uber_pad pool txg note r)
   rw [hl] at this
   rw [hl]
   exact this)
 have HDn := Lib.hid (fun (V0 V : World) (g : Nat) (hV : Rg V0 V g (uber96 pool txg note r) (uber96 pool txg note r).length) => done112_any hV)
 clear hl hA
 generalize uber96 pool txg note r = bs at HNr HT HPd HDn
 obtain ⟨hB8, hB10, hk⟩ := two_new w #[.int .u64 0, .int .u64 0, .int .u64 0, .int .i64 0, .int .i64 0, .int .i64 0, .int .u64 0, .int .i64 0, .int .u64 0, .int .u64 0, .int .u64 0, .int .u64 0] #[.int .u64 0, .int .u64 0, .int .u64 0, .int .i64 0, .int .i64 0, .int .i64 0, .int .u64 0, .int .i64 0, .int .u64 0, .int .u64 0, .int .u64 0, .int .u64 0] 63 63
 go_enter Tryz.func148, Tryz.ntmps148
 go_upto_region 2 with fail
 obtain ⟨w1, hw1⟩ : ∃ V : World, V = (w.alloc (.cells #[.int .u64 0, .int .u64 0, .int .u64 0, .int .i64 0, .int .i64 0, .int .i64 0, .int .u64 0, .int .i64 0, .int .u64 0, .int .u64 0, .int .u64 0, .int .u64 0] 63)).alloc (.cells #[.int .u64 0, .int .u64 0, .int .u64 0, .int .i64 0, .int .i64 0, .int .i64 0, .int .u64 0, .int .i64 0, .int .u64 0, .int .u64 0, .int .u64 0, .int .u64 0] 63) := ⟨_, rfl⟩
 rw [← hw1] at hB8 hB10 hk ⊢
 clear hw1
 obtain ⟨p8, hp8⟩ : ∃ z, z = w.heap.size := ⟨_, rfl⟩
 rw [← hp8] at hB8 hB10 ⊢
 have h8w : w.heap.size ≤ p8 := by omega
 clear hp8
 go_wp2_with fail
 refine (HNr.out w1 hk).mono ?_
 rintro e w2 ⟨g, rfl, hR2⟩
 obtain ⟨hg1, hk12⟩ : w1.heap.size ≤ g ∧ Keeps Non w1 w2 := by
   obtain ⟨b', i1, i2, i3, i4, i5, i6, i7⟩ := hR2
   exact ⟨i5, i7⟩
 have h8g : p8 ≠ g := by have := hB8.lt; omega
 go_wp2_with fail
 refine (HT.out w1 w2 g hR2).mono ?_
 rintro e w3 ⟨rfl, hR3, hK3⟩
 have hB83 := (hB8.non hk12).one hK3 h8g
 have hK13 : Keeps (Only g) w1 w3 := (hk12.of_non (S := Only g)).trans hK3
 have hQ := Blk.new w3 63 #[.int .u64 0, .int .u64 0, .int .u64 0, .int .i64 0, .int .i64 0, .int .i64 0, .int .u64 0, .int .i64 0, .int .u64 0, .int .u64 0, .int .u64 0, .int .u64 0]
 have hkq := (Keeps.refl Non w3).alloc (.cells #[.int .u64 0, .int .u64 0, .int .u64 0, .int .i64 0, .int .i64 0, .int .i64 0, .int .u64 0, .int .i64 0, .int .u64 0, .int .u64 0, .int .u64 0, .int .u64 0] 63)
 have hpq : w3.heap.size ≠ g ∧ w3.heap.size ≠ p8 ∧ w.heap.size ≤ w3.heap.size := by
   have := hB83.lt; have := hk.size; have := hK13.size
   obtain ⟨b', i1, i2, i3, i4, i5, i6, i7⟩ := hR3
   have := i1.lt
   omega
 obtain ⟨pq, hpqe⟩ : ∃ z, z = w3.heap.size := ⟨_, rfl⟩
 rw [← hpqe] at hpq hQ
 have HPQ := Lib.hid hpqe
 clear hpqe
 go_upto_region 4 with ((with_reducible show wpList _ _ _ ({ dst := none, op := Op.store 63 _ _, type := _, pos := _, after := _, guard := _ } :: _) _ _); go_must (rw [← HPQ.out]; refine wpList_store_blk rfl 63 (.tmp 12) (.tmp 18) rfl pq #[.int .u64 (pool : Int), .int .u64 (txg : Int), .int .u64 (note : Int), .int .i64 (r.t : Int), .int .i64 (r.at_ : Int), .int .i64 (r.n : Int), .int .u64 (r.bi : Int), .int .i64 (r.k : Int), .int .u64 (r.s.a : Int), .int .u64 (r.s.b : Int), .int .u64 (r.s.c : Int), .int .u64 (r.s.d : Int)] rfl rfl 63 _ hQ (by kernel_rfl) rfl (by kernel_rfl) ?_); intro w4 hQ4 hK4)
 have hB84 := (hB83.non hkq).one hK4 (Ne.symm hpq.2.1)
 have hR4 : Rg w1 w4 g bs 76 := (hR3.non hkq).one hQ (by decide) (by decide) (by rw [HPQ.out]; exact hK13.size) hK4
 have HP4 := Lib.hid (HPd.out w1 w4 g hR4)
 go_upto_region 5 with ((go_at_call 164; go_must (refine HP4.out.mono ?_); rintro e w5 ⟨rfl, hR5, hK5⟩))
 have hB85 := hB84.one hK5 h8g
 have hQ5 := hQ4.one hK5 hpq.1
 have HD5 := Lib.hid (HDn.out w1 w5 g hR5)
 go_upto_region 7 with ((go_at_call 165; go_must (refine HD5.out.mono ?_); rintro e _ ⟨rfl, q, rfl⟩))
 obtain ⟨w6, hw6⟩ : ∃ V : World, V = w5.drewN q := ⟨_, rfl⟩
 have hk6 : Keeps Non w5 w6 := by rw [hw6]; exact (Keeps.refl _ _).drewN q
 rw [← hw6]
 clear hw6
 have hB86 := hB85.non hk6
 have hQ6 := hQ5.non hk6
 go_upto_region 8 with (first
   | ((with_reducible show wpList _ _ _ ({ dst := _, op := Op.load 63 _, type := _, pos := _, after := _, guard := _ } :: _) _ _); go_must (refine wpList_load_row rfl 63 (.tmp 12) rfl pq rfl 63 #[.int .u64 (pool : Int), .int .u64 (txg : Int), .int .u64 (note : Int), .int .i64 (r.t : Int), .int .i64 (r.at_ : Int), .int .i64 (r.n : Int), .int .u64 (r.bi : Int), .int .i64 (r.k : Int), .int .u64 (r.s.a : Int), .int .u64 (r.s.b : Int), .int .u64 (r.s.c : Int), .int .u64 (r.s.d : Int)] (0, 0) _ hQ6 Tryz.underlying63 rfl (by kernel_rfl) ?_))
   | (go_at_call 53; go_must (refine (HCk.out w6).mono ?_); rintro e w7 ⟨rfl, hK7⟩))
 have hB87 := hB86.non hK7
 have hQ7 := hQ6.non hK7
 go_wp2_with (first
   | ((with_reducible show wpList _ _ _ ({ dst := _, op := Op.load 63 _, type := _, pos := _, after := _, guard := _ } :: _) _ _); go_must (refine wpList_load_row rfl 63 (.tmp 12) rfl pq rfl 63 #[.int .u64 (pool : Int), .int .u64 (txg : Int), .int .u64 (note : Int), .int .i64 (r.t : Int), .int .i64 (r.at_ : Int), .int .i64 (r.n : Int), .int .u64 (r.bi : Int), .int .i64 (r.k : Int), .int .u64 (r.s.a : Int), .int .u64 (r.s.b : Int), .int .u64 (r.s.c : Int), .int .u64 (r.s.d : Int)] (0, 0) _ hQ7 Tryz.underlying63 rfl (by kernel_rfl) ?_))
   | ((with_reducible show wpList _ _ _ ({ dst := none, op := Op.store 63 _ _, type := _, pos := _, after := _, guard := _ } :: _) _ _); go_must (refine wpList_store_blk rfl 63 (.tmp 8) (.tmp 35) rfl p8 #[.int .u64 (pool : Int), .int .u64 (txg : Int), .int .u64 (note : Int), .int .i64 (r.t : Int), .int .i64 (r.at_ : Int), .int .i64 (r.n : Int), .int .u64 (r.bi : Int), .int .i64 (r.k : Int), .int .u64 (r.s.a : Int), .int .u64 (r.s.b : Int), .int .u64 (r.s.c : Int), .int .u64 (r.s.d : Int)] rfl rfl 63 _ hB87 (by kernel_rfl) rfl (by kernel_rfl) ?_); intro w8 hB88 hK8))
 refine bodyPost_ret (results_cell_tmp (ty := 63) rfl _ p8 63 _ _ rfl hB88 Tryz.underlying63 rfl (by kernel_rfl)) rfl ⟨rfl, ?_⟩
 have ha : Keeps Non w w3 := hk.then hK13 fun i hi e => by unfold Only at e; have := hk.size; omega
 have hb : Keeps Non w w4 := (ha.non hkq).then hK4 fun i hi e => by unfold Only at e; omega
 have hc : Keeps Non w w5 := hb.then hK5 fun i hi e => by unfold Only at e; have := hk.size; omega
 exact ((hc.non hk6).non hK7).then hK8 fun i hi e => by unfold Only at e; omega
theorem sumAt_bytes (xs : List UInt8) (hx : xs.length = 96) (s : S4) (hs : s.ok) : sumAt (xs ++ s.bytes) 96 = s := by
 obtain ⟨h1, h2, h3, h4⟩ := hs
 obtain ⟨a, b, c, d⟩ := s
 simp only at h1 h2 h3 h4
 have e1 : ((xs ++ S4.bytes ⟨a, b, c, d⟩).drop 96).take 8 = le 8 a := mid_eq _ xs _ (le 8 b ++ le 8 c ++ le 8 d) (by simp [S4.bytes]) _ _ hx (le_length _ _)
 have e2 : ((xs ++ S4.bytes ⟨a, b, c, d⟩).drop (96 + 8)).take 8 = le 8 b := mid_eq _ (xs ++ le 8 a) _ (le 8 c ++ le 8 d) (by simp [S4.bytes]) _ _ (by simp [le_length, hx]) (le_length _ _)
 have e3 : ((xs ++ S4.bytes ⟨a, b, c, d⟩).drop (96 + 16)).take 8 = le 8 c := mid_eq _ (xs ++ le 8 a ++ le 8 b) _ (le 8 d) (by simp [S4.bytes]) _ _ (by simp [le_length, hx]) (le_length _ _)
 have e4 : ((xs ++ S4.bytes ⟨a, b, c, d⟩).drop (96 + 24)).take 8 = le 8 d := mid_eq _ (xs ++ le 8 a ++ le 8 b ++ le 8 c) _ [] (by simp [S4.bytes]) _ _ (by simp [le_length, hx]) (le_length _ _)
 unfold sumAt n8
 rw [e1, e2, e3, e4, leVal_le, leVal_le, leVal_le, leVal_le, Nat.mod_eq_of_lt h1, Nat.mod_eq_of_lt h2, Nat.mod_eq_of_lt h3, Nat.mod_eq_of_lt h4]
theorem opens_withSum (L xs : List UInt8) (hx : xs.length = 96) (hL : xs.take 4 = L) : Opens L (withSum xs) := by
 refine ⟨?_, ?_⟩
 · unfold withSum
   rw [List.take_append_of_le_length (by omega), hL]
 · unfold withSum
   rw [sumAt_bytes xs hx _ (fl_ok xs), ← hx, List.take_left]
theorem withSum_len (xs : List UInt8) : (withSum xs).length = xs.length + 32 := by unfold withSum; rw [List.length_append, S4.bytes_len]
theorem uberB_len (pool txg note : Nat) (r : Pt) : (uberB pool txg note r).length = 128 := by unfold uberB; rw [withSum_len, uber96_len]
theorem uberB_opens (pool txg note : Nat) (r : Pt) : Opens [85, 67, 85, 66] (uberB pool txg note r) := opens_withSum _ _ (uber96_len _ _ _ _) (by simp [uber96, uberH])
theorem uberB_take (pool txg note : Nat) (r : Pt) : (uberB pool txg note r).take 96 = uber96 pool txg note r := by
 unfold uberB withSum
 rw [← uber96_len pool txg note r, List.take_left]
set_option maxHeartbeats 4000000 in
theorem decodeUber36_any (b : Nat) (w : World) (pool txg note : Nat) (r : Pt) (hb : Blk w b 5 (pc (uberB pool txg note r))) (hp : pool < 18446744073709551616) (h1 : 1 ≤ txg) (h2 : txg ≤ 281474976710656) (hn : note < 18446744073709551616) (ho : r.ok) (hrb : r.bi ≤ txg) :
   Calls Tryz.prog 98 #[.slice (some ⟨b, 0, none⟩) 128 128] w fun e w' => e = .returned (.tuple #[.agg #[.int .u64 (pool : Int), .int .u64 (txg : Int), .int .u64 (note : Int), .int .i64 (r.t : Int), .int .i64 (r.at_ : Int), .int .i64 (r.n : Int), .int .u64 (r.bi : Int), .int .i64 (r.k : Int), .int .u64 (r.s.a : Int), .int .u64 (r.s.b : Int), .int .u64 (r.s.c : Int), .int .u64 (r.s.d : Int)], .int .i64 0]) ∧ Keeps Non w w' := by
 have hB := Blk.new w 63 #[.int .u64 0, .int .u64 0, .int .u64 0, .int .i64 0, .int .i64 0, .int .i64 0, .int .u64 0, .int .i64 0, .int .u64 0, .int .u64 0, .int .u64 0, .int .u64 0]
 have hk := (Keeps.refl Non w).alloc (.cells #[.int .u64 0, .int .u64 0, .int .u64 0, .int .i64 0, .int .i64 0, .int .i64 0, .int .u64 0, .int .i64 0, .int .u64 0, .int .u64 0, .int .u64 0, .int .u64 0] 63)
 have HO : Hid (∀ V, Keeps Non w V → Calls Tryz.prog 132 #[.slice (some ⟨b, 0, none⟩) 128 128, .string (str [85, 67, 85, 66])] V fun e w' => e = .returned (.tuple #[.slice (some ⟨b, 0, none⟩) 96 128, .bool true]) ∧ Keeps Non V w') := Lib.hid (fun V hV => by
   refine (opened74_any [85, 67, 85, 66] _ rfl (uberB_len _ _ _ _) b V (hb.non hV)).mono ?_
   rintro e w' ⟨h, hK⟩
   rcases h with ⟨-, h⟩ | ⟨h, -⟩
   · exact ⟨h, hK⟩
   · exact (h (uberB_opens _ _ _ _)).elim)
 have HT : Hid (∀ V, Keeps Non w V → Calls Tryz.prog 148 #[.slice (some ⟨b, 0, none⟩) 96 128, .int .i64 45, .func (.func 53) #[] #[], .func (.func 149) #[] #[]] V fun e w' => e = .returned (.tuple #[.agg #[.int .u64 (pool : Int), .int .u64 (txg : Int), .int .u64 (note : Int), .int .i64 (r.t : Int), .int .i64 (r.at_ : Int), .int .i64 (r.n : Int), .int .u64 (r.bi : Int), .int .i64 (r.k : Int), .int .u64 (r.s.a : Int), .int .u64 (r.s.b : Int), .int .u64 (r.s.c : Int), .int .u64 (r.s.d : Int)], .int .i64 0]) ∧ Keeps Non V w') := Lib.hid (fun V hV => taken75_any pool txg note r hp h1 h2 hn ho hrb (some ⟨b, 0, none⟩) V (by
   have := (At.blk (hb.non hV)).take 96
   rw [uberB_take] at this
   exact this))
 unfold str at HO
 clear hb h1 h2 hp hn
 go_enter Tryz.func98, Tryz.ntmps98
 go_upto_region 1 with fail
 obtain ⟨w1, hw1⟩ : ∃ V : World, V = w.alloc (.cells #[.int .u64 0, .int .u64 0, .int .u64 0, .int .i64 0, .int .i64 0, .int .i64 0, .int .u64 0, .int .i64 0, .int .u64 0, .int .u64 0, .int .u64 0, .int .u64 0] 63) := ⟨_, rfl⟩
 rw [← hw1] at hB hk ⊢
 clear hw1
 obtain ⟨pb, hpb⟩ : ∃ z, z = w.heap.size := ⟨_, rfl⟩
 rw [← hpb] at hB ⊢
 have hpw : w.heap.size ≤ pb := by omega
 clear hpb
 have HO1 := Lib.hid (HO.out w1 hk)
 go_upto_region 2 with ((go_at_call 132; go_must (refine HO1.out.mono ?_); rintro e w2 ⟨rfl, hK2⟩))
 have hk2 := hk.non hK2
 have HT2 := Lib.hid (HT.out w2 hk2)
 have hB2 := hB.non hK2
 go_wp2_with (first
   | (go_at_call 148; go_must (refine HT2.out.mono ?_); rintro e w3 ⟨rfl, hK3⟩; have hB3 := hB2.non hK3)
   | ((with_reducible show wpList _ _ _ ({ dst := none, op := Op.store 63 _ _, type := _, pos := _, after := _, guard := _ } :: _) _ _); go_must (refine wpList_store_blk rfl 63 (.tmp 2) (.tmp 16) rfl pb #[.int .u64 (pool : Int), .int .u64 (txg : Int), .int .u64 (note : Int), .int .i64 (r.t : Int), .int .i64 (r.at_ : Int), .int .i64 (r.n : Int), .int .u64 (r.bi : Int), .int .i64 (r.k : Int), .int .u64 (r.s.a : Int), .int .u64 (r.s.b : Int), .int .u64 (r.s.c : Int), .int .u64 (r.s.d : Int)] rfl rfl 63 _ hB3 (by kernel_rfl) rfl (by kernel_rfl) ?_); intro w4 hB4 hK4))
 refine bodyPost_ret (results_cell_tmp (ty := 63) rfl _ pb 63 _ _ rfl hB4 Tryz.underlying63 rfl (by kernel_rfl)) rfl ⟨rfl, ?_⟩
 exact (hk2.non hK3).then hK4 fun i hi e => by unfold Only at e; omega
set_option maxHeartbeats 4000000 in
theorem decodeUber36_not (bs : List UInt8) (hl : bs.length = 128) (b : Nat) (w : World) (hb : Blk w b 5 (pc bs)) (ho : ¬ Opens [85, 67, 85, 66] bs) :
   Calls Tryz.prog 98 #[.slice (some ⟨b, 0, none⟩) 128 128] w fun e w' => e = .returned (.tuple #[.agg #[.int .u64 0, .int .u64 0, .int .u64 0, .int .i64 0, .int .i64 0, .int .i64 0, .int .u64 0, .int .i64 0, .int .u64 0, .int .u64 0, .int .u64 0, .int .u64 0], .int .i64 45]) ∧ Keeps Non w w' := by
 have hB := Blk.new w 63 #[.int .u64 0, .int .u64 0, .int .u64 0, .int .i64 0, .int .i64 0, .int .i64 0, .int .u64 0, .int .i64 0, .int .u64 0, .int .u64 0, .int .u64 0, .int .u64 0]
 have hk := (Keeps.refl Non w).alloc (.cells #[.int .u64 0, .int .u64 0, .int .u64 0, .int .i64 0, .int .i64 0, .int .i64 0, .int .u64 0, .int .i64 0, .int .u64 0, .int .u64 0, .int .u64 0, .int .u64 0] 63)
 have HO : Hid (∀ V, Keeps Non w V → Calls Tryz.prog 132 #[.slice (some ⟨b, 0, none⟩) 128 128, .string (str [85, 67, 85, 66])] V fun e w' => e = .returned (.tuple #[.slice none 0 0, .bool false]) ∧ Keeps Non V w') := Lib.hid (fun V hV => by
   refine (opened74_any [85, 67, 85, 66] bs rfl hl b V (hb.non hV)).mono ?_
   rintro e w' ⟨h, hK⟩
   rcases h with ⟨h, -⟩ | ⟨-, h⟩
   · exact (ho h).elim
   · exact ⟨h, hK⟩)
 unfold str at HO
 clear hb ho
 go_enter Tryz.func98, Tryz.ntmps98
 go_upto_region 1 with fail
 obtain ⟨w1, hw1⟩ : ∃ V : World, V = w.alloc (.cells #[.int .u64 0, .int .u64 0, .int .u64 0, .int .i64 0, .int .i64 0, .int .i64 0, .int .u64 0, .int .i64 0, .int .u64 0, .int .u64 0, .int .u64 0, .int .u64 0] 63) := ⟨_, rfl⟩
 rw [← hw1] at hB hk ⊢
 clear hw1
 obtain ⟨pb, hpb⟩ : ∃ z, z = w.heap.size := ⟨_, rfl⟩
 rw [← hpb] at hB ⊢
 have hpw : w.heap.size ≤ pb := by omega
 clear hpb
 have HO1 := Lib.hid (HO.out w1 hk)
 go_upto_region 2 with ((go_at_call 132; go_must (refine HO1.out.mono ?_); rintro e w2 ⟨rfl, hK2⟩))
 have hk2 := hk.non hK2
 have hB2 := hB.non hK2
 go_wp2_with ((with_reducible show wpList _ _ _ ({ dst := none, op := Op.store 63 _ _, type := _, pos := _, after := _, guard := _ } :: _) _ _); go_must (refine wpList_store_blk rfl 63 (.tmp 2) (.tmp 13) rfl pb #[.int .u64 0, .int .u64 0, .int .u64 0, .int .i64 0, .int .i64 0, .int .i64 0, .int .u64 0, .int .i64 0, .int .u64 0, .int .u64 0, .int .u64 0, .int .u64 0] rfl rfl 63 _ hB2 (by kernel_rfl) rfl (by kernel_rfl) ?_); intro w4 hB4 hK4)
 refine bodyPost_ret (results_cell_tmp (ty := 63) rfl _ pb 63 _ _ rfl hB4 Tryz.underlying63 rfl (by kernel_rfl)) rfl ⟨rfl, ?_⟩
 exact hk2.then hK4 fun i hi e => by unfold Only at e; omega
end Go.Proofs.YtolknnmaadkgiaaGreatDoor
namespace Go.Proofs.YtolknnmaadkgiaaGreatDoor
set_option maxRecDepth 100000
open Go.RowKit Go.Uc
structure Tp where
 k : Nat
 l : Nat
 s : Nat
def Tp.ok (t : Tp) : Prop := (t.k = 1 ∧ t.l = 1 ∨ t.k = 2 ∧ 2 ≤ t.l ∧ t.l ≤ 5 ∨ t.k = 3 ∧ 3 ≤ t.l ∧ t.l ≤ 5) ∧ 324 ≤ t.s ∧ t.s ≤ 8192
def encT (t : Tp) : List Value := [.int .i64 (t.k : Int), .int .i64 (t.l : Int), .int .i64 (t.s : Int)]
theorem encT_len (t : Tp) : (encT t).length = 3 := rfl
theorem encT_one (t : Tp) : ∀ u ∈ encT t, u.oneCell' = true := by
 intro u hu
 simp [encT] at hu
 rcases hu with rfl | rfl | rfl <;> rfl
abbrev RowT (w : World) (v : Value) (ts : List Tp) : Prop := RowP w 31 3 encT v ts
set_option maxHeartbeats 4000000 in
theorem made122_any (t : Tp) (h : t.ok) (w : World) : Calls Tryz.prog 85 #[.agg #[.int .i64 (t.k : Int), .int .i64 (t.l : Int), .int .i64 (t.s : Int)]] w fun e w' => e = .returned (.bool true) ∧ Keeps Non w w' := by
 obtain ⟨k, l, s⟩ := t
 obtain ⟨h1, h2, h3⟩ := h
 simp only at h1 h2 h3 ⊢
 have hB := Blk.new w 31 #[.int .i64 (k : Int), .int .i64 (l : Int), .int .i64 (s : Int)]
 have hk := (Keeps.refl Non w).alloc (.cells #[.int .i64 (k : Int), .int .i64 (l : Int), .int .i64 (s : Int)] 31)
 go_enter Tryz.func85, Tryz.ntmps85
 go_upto_region 1 with fail
 obtain ⟨w1, hw1⟩ : ∃ V : World, V = w.alloc (.cells #[.int .i64 (k : Int), .int .i64 (l : Int), .int .i64 (s : Int)] 31) := ⟨_, rfl⟩
 rw [← hw1] at hB hk ⊢
 clear hw1
 obtain ⟨p1, hp1⟩ : ∃ z, z = w.heap.size := ⟨_, rfl⟩
 rw [← hp1] at hB ⊢
 clear hp1
 have hQ := Blk.new w1 173 #[.int .i64 0, .int .i64 1, .int .i64 2, .int .i64 3]
 have hkq := (Keeps.refl Non w1).alloc (.cells #[.int .i64 0, .int .i64 1, .int .i64 2, .int .i64 3] 173)
 go_upto_region 2 with fail
 obtain ⟨w2, hw2⟩ : ∃ V : World, V = w1.alloc (.cells #[.int .i64 0, .int .i64 1, .int .i64 2, .int .i64 3] 173) := ⟨_, rfl⟩
 rw [← hw2] at hQ hkq ⊢
 clear hw2
 obtain ⟨p2, hp2⟩ : ∃ z, z = w1.heap.size := ⟨_, rfl⟩
 rw [← hp2] at hQ ⊢
 clear hp2
 have hB2 := hB.non hkq
 have x0 : w2.cell? ⟨p1, 0, none⟩ = some (.int .i64 (k : Int)) := hB2.cell 0
 have x1 : w2.cell? ⟨p1, 1, none⟩ = some (.int .i64 (l : Int)) := hB2.cell 1
 have x2 : w2.cell? ⟨p1, 2, none⟩ = some (.int .i64 (s : Int)) := hB2.cell 2
 have y1 : w2.cell? ⟨p2, 1, none⟩ = some (.int .i64 1) := hQ.cell 1
 have y2 : w2.cell? ⟨p2, 2, none⟩ = some (.int .i64 2) := hQ.cell 2
 have y3 : w2.cell? ⟨p2, 3, none⟩ = some (.int .i64 3) := hQ.cell 3
 have hkk := hk.non hkq
 clear hB hB2 hQ hk hkq
 have e1 : ¬ (s : Int) < 324 := by omega
 have e2 : ¬ (8192 : Int) < (s : Int) := by omega
 rcases h1 with ⟨rfl, rfl⟩ | ⟨rfl, h4, h5⟩ | ⟨rfl, h4, h5⟩
 · go_upto_region 7 with fail
   go_quiet (fail)
   go_wp2_with fail
   go_ret
   exact ⟨rfl, hkk.drewN _⟩
 · have d1 : decide ((2 : Int) ≤ (l : Int)) = true := decide_eq_true (by omega)
   have d2 : decide ((l : Int) ≤ 5) = true := decide_eq_true (by omega)
   go_upto_region 7 with fail
   go_quiet (fail)
   go_wp2_with fail
   go_ret
   exact ⟨rfl, hkk.drewN _⟩
 · have d1 : decide ((3 : Int) ≤ (l : Int)) = true := decide_eq_true (by omega)
   have d2 : decide ((l : Int) ≤ 5) = true := decide_eq_true (by omega)
   go_upto_region 7 with fail
   go_quiet (fail)
   go_wp2_with fail
   go_ret
   exact ⟨rfl, hkk.drewN _⟩
end Go.Proofs.YtolknnmaadkgiaaGreatDoor
