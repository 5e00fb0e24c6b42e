/- A leaf read; its label; an uberblock marked. An uberblock marked. A disk is opened as a leaf. A sector of the log written. -/
import Derived.Test.YtolknnmaadkgiaaGreatDoorG12
set_option linter.unusedVariables false
set_option linter.unusedSimpArgs false
namespace Go.Proofs.YtolknnmaadkgiaaGreatDoor
set_option maxRecDepth 100000
open Go.RowKit Go.Uc
theorem Dsk.wr_ok : ∀ (m : Nat) (s : Dsk) (at_ : Nat) (bs : List UInt8), (s.wr at_ m bs).1.n = s.n ∧ ((s.wr at_ m bs).2 = true → (s.wr at_ m bs).1.off = s.off ∧ (s.wr at_ m bs).1.waits.length = s.waits.length + m)
 | 0, s, at_, bs => ⟨rfl, fun _ => ⟨rfl, rfl⟩⟩
 | m + 1, s, at_, bs => by
   rw [Dsk.wr]
   by_cases h : s.left = 0
   · rw [if_pos h]
     exact ⟨rfl, fun h => by cases h⟩
   · rw [if_neg h]
     obtain ⟨i1, i2⟩ := Dsk.wr_ok m (s.one ⟨s.d, at_, sec0 bs, sec0_len bs⟩) (at_ + 1) (bs.drop 128)
     refine ⟨i1, fun hb => ?_⟩
     obtain ⟨i3, i4⟩ := i2 hb
     refine ⟨i3, ?_⟩
     rw [i4]
     simp [Dsk.one]
     omega
def Dsk.wrs (s : Dsk) (b : List UInt8) : List Nat → Dsk × Bool
 | [] => (s, true)
 | p :: r => if (s.wr p 1 b).2 then (s.wr p 1 b).1.wrs b r else ((s.wr p 1 b).1, false)
def marks (n t : Nat) : List Nat := [plc n 0 + 1 + t % 8, plc n 1 + 1 + t % 8, plc n 2 + 1 + t % 8, plc n 3 + 1 + t % 8]
theorem marks_get (n t j : Nat) (hj : j < 4) : (marks n t).drop j = (plc n j + 1 + t % 8) :: (marks n t).drop (j + 1) := by
 match j, hj with
 | 0, _ => rfl
 | 1, _ => rfl
 | 2, _ => rfl
 | 3, _ => rfl
theorem plc_lt (n j : Nat) (hn : 324 ≤ n) : plc n j + 9 ≤ n := by
 unfold plc
 split <;> omega
section
variable {w0 w : World} {lf : Nat} {K : Kb} {s : Dsk} {wv : Sl} {x : Lb} {tA : Option Addr} {tc : Nat}
set_option maxHeartbeats 2000000 in
theorem read16_any (h : Lm w0 w lf K s wv x tA tc) (ho : s.off = false) (hn : 324 ≤ s.n) (at_ m : Nat) (ha : at_ + m ≤ s.n - 292) :
   Calls Tryz.prog 75 #[.pointer (some ⟨lf, 0, none⟩), .int .i64 (at_ : Int), .int .i64 (m : Int)] w fun e w' => ∃ b, e = .returned (.tuple #[.slice (some ⟨b, 0, none⟩) (128 * m) (128 * m), .int .i64 0]) ∧ Blk w' b 5 (pc (secs s.now (274 + at_) m)) ∧ w.heap.size ≤ b ∧ Keeps Non w w' := by
 have HA := Lib.hid (asked46_on h ho)
 have HH := Lib.hid (fun V (hV : Keeps Non w V) => has47_yes (h.non hV) hn at_ m ha)
 have HR : Hid (∀ V, Keeps Non w V → Calls Tryz.prog 77 #[.pointer (some ⟨K.d, 0, none⟩), .int .i64 ((274 : Int) + (at_ : Int)), .int .i64 (m : Int)] V fun e w' => ∃ b, e = .returned (.tuple #[.slice (some ⟨b, 0, none⟩) (128 * m) (128 * m), .int .i64 0]) ∧ Blk w' b 5 (pc (secs s.now (274 + at_) m)) ∧ V.heap.size ≤ b ∧ Keeps Non V w') := Lib.hid (fun V hV => by
   have := read35_ok (h.dm.non hV) ho (274 + at_) m (by omega) (by omega)
   rw [show ((274 + at_ : Nat) : Int) = (274 : Int) + (at_ : Int) by omega] at this
   exact this)
 have HL := Lib.hid (fun V (hV : Keeps Non w V) => (h.non hV).d0)
 have hn8 := h.dm.ok.n2
 clear h
 go_enter Tryz.func75, Tryz.ntmps75
 go_upto_region 4 with (go_at_call 130; go_must (refine HA.out.mono ?_); rintro e w2 ⟨rfl, hK2⟩)
 have HH2 := Lib.hid (HH.out w2 hK2)
 have HR2 := Lib.hid (HR.out w2 hK2)
 have d0 := HL.out w2 hK2
 go_wp2_with (first
   | (go_at_call 131; go_must (refine HH2.out.mono ?_); rintro e w9 ⟨rfl, hw9⟩; subst w9)
   | (go_at_call 77; go_must (refine HR2.out.mono ?_); rintro e w3 ⟨b, rfl, hB3, hb3, hK3⟩))
 go_ret2
 exact ⟨b, rfl, hB3, by have := hK2.size; omega, hK2.non hK3⟩
set_option maxHeartbeats 4000000 in
theorem label18_any (h : Lm w0 w lf K s wv x tA tc) (hp : 0 < x.ts.length) (hm : x.ts.length ≤ 4) :
   Calls Tryz.prog 40 #[.pointer (some ⟨lf, 0, none⟩)] w fun e w' => ∃ A2 c2, e = .returned (.agg #[.int .u64 (x.pool : Int), .slice A2 x.ts.length c2, .int .i64 (x.top : Int), .int .i64 (x.place : Int)]) ∧ RowT w' (.slice A2 x.ts.length c2) x.ts ∧ (∀ q ∈ own (.slice A2 x.ts.length c2), w.heap.size ≤ q) ∧ Keeps Non w w' := by
 have hbl := h.blk
 have hts := h.ts
 obtain ⟨pool, ts, top, place⟩ := x
 simp only at hbl hts hp hm ⊢
 clear h
 have hB := Blk.new w 114 #[.int .u64 0, .slice none 0 0, .int .i64 0, .int .i64 0]
 have hk := (Keeps.refl Non w).alloc (.cells #[.int .u64 0, .slice none 0 0, .int .i64 0, .int .i64 0] 114)
 go_enter Tryz.func40, Tryz.ntmps40
 go_upto_region 1 with fail
 obtain ⟨w1, hw1⟩ : ∃ V : World, V = w.alloc (.cells #[.int .u64 0, .slice none 0 0, .int .i64 0, .int .i64 0] 114) := ⟨_, rfl⟩
 rw [← hw1] at hB hk ⊢
 clear hw1
 obtain ⟨pb, hpb⟩ : ∃ z, z = w.heap.size := ⟨_, rfl⟩
 rw [← hpb] at hB ⊢
 have hpw : w.heap.size ≤ pb := by omega
 clear hpb
 have hbl1 := hbl.non hk
 have u1 : w1.cell? ⟨lf, 1, none⟩ = some (.int .u64 (pool : Int)) := hbl1.cell 1
 have u2 : w1.cell? ⟨lf, 2, none⟩ = some (.slice tA ts.length tc) := hbl1.cell 2
 have u3 : w1.cell? ⟨lf, 3, none⟩ = some (.int .i64 (top : Int)) := hbl1.cell 3
 have u4 : w1.cell? ⟨lf, 4, none⟩ = some (.int .i64 (place : Int)) := hbl1.cell 4
 have hQ := Blk.new w1 114 #[.int .u64 (pool : Int), .slice tA ts.length tc, .int .i64 (top : Int), .int .i64 (place : Int)]
 have hkq := (Keeps.refl Non w1).alloc (.cells #[.int .u64 (pool : Int), .slice tA ts.length tc, .int .i64 (top : Int), .int .i64 (place : Int)] 114)
 go_upto_region 2 with fail
 obtain ⟨w2, hw2⟩ : ∃ V : World, V = w1.alloc (.cells #[.int .u64 (pool : Int), .slice tA ts.length tc, .int .i64 (top : Int), .int .i64 (place : Int)] 114) := ⟨_, rfl⟩
 rw [← hw2] at hQ hkq ⊢
 clear hw2
 obtain ⟨pq, hpq⟩ : ∃ z, z = w1.heap.size := ⟨_, rfl⟩
 rw [← hpq] at hQ ⊢
 have hqp : pb ≠ pq := by have := hB.lt; omega
 have hqw : w.heap.size ≤ pq := by have := hk.size; omega
 clear hpq
 have hk2 := hk.non hkq
 have hB2 := hB.non hkq
 have y1 : w2.cell? ⟨pq, 1, none⟩ = some (.slice tA ts.length tc) := hQ.cell 1
 have HC := Lib.hid (clone54_any ts tA tc w2 (hts.non hk2) hp (by omega))
 clear u1 u2 u3 u4 hbl1 hbl
 go_upto_region 3 with (go_at_call 45; go_must (refine HC.out.mono ?_); rintro e w3 ⟨A2, c2, rfl, hT3, hN3, hK3⟩; have hQ3 := hQ.non hK3; have z1 := hQ3.cell 1; have f1 := hQ3.frozen 1)
 have hQ4 := hQ3.set 1 (.slice A2 ts.length c2)
 have hk4 : Keeps (Only pq) w3 (w3.setCell ⟨pq, 1, none⟩ (.slice A2 ts.length c2)) := (Keeps.refl (Only pq) _).set (p := ⟨pq, 1, none⟩) rfl _
 obtain ⟨w4, hw4⟩ : ∃ V : World, V = w3.setCell ⟨pq, 1, none⟩ (.slice A2 ts.length c2) := ⟨_, rfl⟩
 rw [← hw4] at hQ4 hk4 ⊢
 clear hw4 z1 f1 y1
 have hQ4' : Blk w4 pq 114 #[.int .u64 (pool : Int), .slice A2 ts.length c2, .int .i64 (top : Int), .int .i64 (place : Int)] := hQ4
 have hB4 := (hB2.non hK3).one hk4 hqp
 have hT4 : RowT w4 (.slice A2 ts.length c2) ts := hT3.keep hk4 fun q hq e => by unfold Only at e; exact own_type hT3 hQ3 (by decide) (e ▸ hq)
 go_wp2_with (first
   | ((with_reducible show wpList _ _ _ ({ dst := _, op := Op.load 114 _, type := _, pos := _, after := _, guard := _ } :: _) _ _); go_must (refine wpList_load_row rfl 114 (.tmp 3) rfl pq rfl 114 #[.int .u64 (pool : Int), .slice A2 ts.length c2, .int .i64 (top : Int), .int .i64 (place : Int)] (0, 0) _ hQ4' Tryz.underlying114 rfl (by kernel_rfl) ?_))
   | ((with_reducible show wpList _ _ _ ({ dst := none, op := Op.store 114 _ _, type := _, pos := _, after := _, guard := _ } :: _) _ _); go_must (refine wpList_store_blk rfl 114 (.tmp 2) (.tmp 12) rfl pb #[.int .u64 (pool : Int), .slice A2 ts.length c2, .int .i64 (top : Int), .int .i64 (place : Int)] rfl rfl 114 _ hB4 (by kernel_rfl) rfl (by simp [Value.oneCell']) ?_); intro w8 hB8 hK8))
 refine bodyPost_ret (results_cell_blk (ty := 114) rfl _ pb 114 _ _ rfl hB8 Tryz.underlying114 rfl (by kernel_rfl)) rfl ⟨A2, c2, rfl, ?_, ?_, ?_⟩
 · exact hT4.keep hK8 fun q hq e => by unfold Only at e; exact own_type hT4 hB4 (by decide) (e ▸ hq)
 · exact fun q hq => by have := hN3 q hq; have := hk2.size; omega
 · exact ((hk2.non hK3).then hk4 fun i hi e => by unfold Only at e; omega).then hK8 fun i hi e => by unfold Only at e; omega
end
end Go.Proofs.YtolknnmaadkgiaaGreatDoor
namespace Go.Proofs.YtolknnmaadkgiaaGreatDoor
set_option maxRecDepth 100000
open Go.RowKit Go.Uc
set_option maxHeartbeats 8000000 in
theorem mark8_any {w0 w : World} {lf : Nat} {K : Kb} {s : Dsk} {wv : Sl} {x : Lb} {tA : Option Addr} {tc : Nat} (h : Lm w0 w lf K s wv x tA tc) (ho : s.off = false) (hn : 324 ≤ s.n) (hW : s.waits.length ≤ 1000000000) (txg note : Nat) (r : Pt) (hpx : x.pool < 18446744073709551616) (h1 : 1 ≤ txg) (h2 : txg ≤ 281474976710656) (hno : note < 18446744073709551616) (hro : r.ok) (hrb : r.bi ≤ txg) :
   Calls Tryz.prog 54 #[.pointer (some ⟨lf, 0, none⟩), .agg #[.int .u64 (x.pool : Int), .int .u64 (txg : Int), .int .u64 (note : Int), .int .i64 (r.t : Int), .int .i64 (r.at_ : Int), .int .i64 (r.n : Int), .int .u64 (r.bi : Int), .int .i64 (r.k : Int), .int .u64 (r.s.a : Int), .int .u64 (r.s.b : Int), .int .u64 (r.s.c : Int), .int .u64 (r.s.d : Int)]] w fun e w' => e = .returned (.int .i64 (if (s.wrs (uberB x.pool txg note r) (marks s.n txg)).2 then 0 else 5)) ∧ Did w0 w lf K wv x tA tc (s.wrs (uberB x.pool txg note r) (marks s.n txg)).1 w' := by
 have HEn := Lib.hid (fun V => encodeUber28_any x.pool txg note r hpx h1 h2 hno hro hrb V)
 have hX := uberB_len x.pool txg note r
 obtain ⟨X, hXe⟩ : ∃ X, X = uberB x.pool txg note r := ⟨_, rfl⟩
 rw [← hXe] at HEn hX ⊢
 clear hXe
 obtain ⟨R, hR⟩ : ∃ R, R = s.wrs X (marks s.n txg) := ⟨_, rfl⟩
 rw [← hR]
 obtain ⟨rv, hrv⟩ : ∃ rv : Int, rv = if R.2 then 0 else 5 := ⟨_, rfl⟩
 rw [← hrv]
 have HRV := Lib.hid hrv
 have HR := Lib.hid hR
 clear hrv hR
 have HCn := Lib.hid (fun v V => counted32_any 5 (by decide) v V)
 have hpl1 : w.cell? ⟨lf, 1, none⟩ = some (.int .u64 (x.pool : Int)) := h.blk.cell 1
 have HBk := Lib.hid (fun V (hV : Keeps Non w V) => h.non hV)
 obtain ⟨pool, hpo⟩ : ∃ p, p = x.pool := ⟨_, rfl⟩
 rw [← hpo] at HEn hpl1 hpx ⊢
 have HPO := Lib.hid hpo
 clear hpo
 have hB := Blk.new w 63 #[.int .u64 (pool : Int), .int .u64 (txg : Int), .int .u64 (note : Int), .int .i64 (r.t : Int), .int .i64 (r.at_ : Int), .int .i64 (r.n : Int), .int .u64 (r.bi : Int), .int .i64 (r.k : Int), .int .u64 (r.s.a : Int), .int .u64 (r.s.b : Int), .int .u64 (r.s.c : Int), .int .u64 (r.s.d : Int)]
 have hk := (Keeps.refl Non w).alloc (.cells #[.int .u64 (pool : Int), .int .u64 (txg : Int), .int .u64 (note : Int), .int .i64 (r.t : Int), .int .i64 (r.at_ : Int), .int .i64 (r.n : Int), .int .u64 (r.bi : Int), .int .i64 (r.k : Int), .int .u64 (r.s.a : Int), .int .u64 (r.s.b : Int), .int .u64 (r.s.c : Int), .int .u64 (r.s.d : Int)] 63)
 go_enter Tryz.func54, Tryz.ntmps54
 go_upto_region 1 with fail
 obtain ⟨w1, hw1⟩ : ∃ V : World, V = w.alloc (.cells #[.int .u64 (pool : Int), .int .u64 (txg : Int), .int .u64 (note : Int), .int .i64 (r.t : Int), .int .i64 (r.at_ : Int), .int .i64 (r.n : Int), .int .u64 (r.bi : Int), .int .i64 (r.k : Int), .int .u64 (r.s.a : Int), .int .u64 (r.s.b : Int), .int .u64 (r.s.c : Int), .int .u64 (r.s.d : Int)] 63) := ⟨_, rfl⟩
 rw [← hw1] at hB hk ⊢
 clear hw1
 obtain ⟨pb, hpb⟩ : ∃ z, z = w.heap.size := ⟨_, rfl⟩
 rw [← hpb] at hB ⊢
 clear hpb
 have HE1 := Lib.hid (HEn.out w1)
 go_upto_region 4 with (first
   | ((with_reducible show wpList _ _ _ ({ dst := _, op := Op.load 63 _, type := _, pos := _, after := _, guard := _ } :: _) _ _); go_must (refine wpList_load_row rfl 63 (.tmp 3) rfl pb rfl 63 #[.int .u64 (pool : Int), .int .u64 (txg : Int), .int .u64 (note : Int), .int .i64 (r.t : Int), .int .i64 (r.at_ : Int), .int .i64 (r.n : Int), .int .u64 (r.bi : Int), .int .i64 (r.k : Int), .int .u64 (r.s.a : Int), .int .u64 (r.s.b : Int), .int .u64 (r.s.c : Int), .int .u64 (r.s.d : Int)] (0, 0) _ hB Tryz.underlying63 rfl (by kernel_rfl) ?_))
   | (go_at_call 96; go_must (refine HE1.out.mono ?_); rintro e w2 ⟨bb, rfl, hB2, hbb, hK2⟩))
 have hk2 := hk.non hK2
 have hBb := hB.non hK2
 have hbw : w.heap.size ≤ bb := by have := hk.size; omega
 have x0 : w2.cell? ⟨pb, 0, none⟩ = some (.int .u64 (pool : Int)) := hBb.cell 0
 have x1 : w2.cell? ⟨lf, 1, none⟩ = some (.int .u64 (pool : Int)) := by rw [HPO.out]; exact (HBk.out w2 hk2).blk.cell 1
 have hpp : ((pool : Int) != (pool : Int)) = false := by simp
 clear hpl1 hB
 go_quiet (fail)
 obtain ⟨w3, hw3⟩ : ∃ V : World, V = w2.drewN nq := ⟨_, rfl⟩
 have hk3 : Keeps Non w2 w3 := by rw [hw3]; exact (Keeps.refl _ _).drewN _
 rw [← hw3]
 clear hw3 x0 x1
 have hk23 := hk2.non hk3
 have hL3 := HBk.out w3 hk23
 have hBb3 := hBb.non hk3
 have hB3 := hB2.non hk3
 have d0 := hL3.d0
 have HPl := Lib.hid (places29_any hL3.dm hn)
 go_upto_region 7 with (go_at_call 76; go_must (refine HPl.out.mono ?_); rintro e w4 ⟨rfl, hk4⟩)
 have hk24 := hk23.non hk4
 have hL4 := hL3.non hk4
 have hBb4 := hBb3.non hk4
 have hB4 := hB3.non hk4
 clear hL3 hBb3 hB3 d0 HPl hBb hB2
 have hbf : ¬ Fr K wv bb := (h.dm.old hbw).1
 have hbl := hB4.lt
 have hn8 : s.n ≤ 8192 := h.dm.ok.n2
 have HH := Lib.hid h
 clear h
 generalize hsn : s.n = n at hn hn8
 have HSN := Lib.hid hsn
 have hR' := HR.out
 rw [hsn] at hR'
 have HR2 := Lib.hid hR'
 clear hsn hR'
 go_loopw [31] (fun i wr => ∃ (j : Nat) (sx : Dsk) (wx : Sl), j ≤ 4 ∧ i = .int .i64 (j : Int) ∧ Lm w0 wr lf K sx wx x tA tc ∧ sx.off = false ∧ sx.n = n ∧ sx.waits.length = s.waits.length + j ∧ sx.wrs X ((marks n txg).drop j) = R ∧ Keeps (Fr K wv) w4 wr ∧ (∀ q ∈ own wx.v, q ∈ own wv.v ∨ w4.heap.size ≤ q)) (fun i _ => 4 - (intOf i).toNat)
 case atStart => exact ⟨0, s, wv, by omega, rfl, hL4, ho, HSN.out, rfl, by rw [HR2.out]; rfl, Keeps.refl _ _, fun q hq => .inl hq⟩
 case round =>
   obtain ⟨j, sx, wx, hj, rfl, hL, hoff, hsn, hwl, hwr, hkr, hoj⟩ := hrel
   obtain ⟨wr', rfl⟩ : ∃ V : World, V = wr := ⟨_, rfl⟩
   have HSNx := Lib.hid hsn
   have HWL := Lib.hid hwl
   clear hsn hwl
   by_cases hlt : j < 4
   · have hji : (j : Int) < 4 := by omega
     have hix := fun V => index86 n j hlt V
     have hkd : Keeps Non wr' wr'.drew := (Keeps.refl Non wr').drew
     have hLd := hL.non hkd
     have d0 := hLd.d0
     have hBbr := (hBb4.keep hkr (hL4.dm.free hBb4 (by decide) (by decide) (by decide))).non hkd
     have t1 : wr'.drew.cell? ⟨pb, 1, none⟩ = some (.int .u64 (txg : Int)) := hBbr.cell 1
     have hBr := (hB4.keep hkr hbf).non hkd
     have hbx : ¬ Fr K wx bb := fun e => hbf (e.back hoj hbl)
     have hpl9 := plc_lt n j hn
     obtain ⟨P, hP⟩ : ∃ P, P = plc n j := ⟨_, rfl⟩
     rw [← hP] at hix hpl9
     have HSl := Lib.hid (fun V => slot31_any P txg (by omega) (by omega) V)
     obtain ⟨Q, hQ⟩ : ∃ Q, Q = P + 1 + txg % 8 := ⟨_, rfl⟩
     rw [← hQ] at HSl
     have hmg := marks_get n txg j hlt
     rw [← hP, ← hQ] at hmg
     have hQn : Q + 1 ≤ sx.n := by rw [HSNx.out]; omega
     have HWr := Lib.hid (write30_any hLd.dm hoff Q 1 X (some ⟨bb, 0, none⟩) 128 (At.blk hBr) hX (by omega) hQn (fun ad e => by injection e with e; subst e; exact hbx) (by rw [HWL.out]; omega))
     rw [Nat.mul_one] at HWr
     have hwok := Lib.hid (Dsk.wr_ok 1 sx Q X)
     have HRw : Hid (R = if (sx.wr Q 1 X).2 then (sx.wr Q 1 X).1.wrs X ((marks n txg).drop (j + 1)) else ((sx.wr Q 1 X).1, false)) := Lib.hid (by rw [← hwr, hmg]; rfl)
     clear hwr hmg hP hQ hQn
     obtain ⟨S1, hS1⟩ : ∃ S1, S1 = sx.wr Q 1 X := ⟨_, rfl⟩
     rw [← hS1] at HWr hwok HRw
     clear hS1
     obtain ⟨S, ok⟩ := S1
     simp only at HWr hwok HRw
     cases ok
     · have HWr' : Hid (Calls Tryz.prog 73 #[.pointer (some ⟨K.d, 0, none⟩), .int .i64 (Q : Int), .slice (some ⟨bb, 0, none⟩) 128 128] wr'.drew fun e w' => ∃ wv', e = .returned (.int .i64 5) ∧ Dm w0 w' K S wv' ∧ Keeps (Fr K wx) wr'.drew w' ∧ ∀ q ∈ own wv'.v, q ∈ own wx.v ∨ wr'.drew.heap.size ≤ q) := Lib.hid HWr.out
       clear HWr
       go_upto_region 9 with fail
       go_region_law (first
         | (go_simp; go_at_call 97; refine (HSl.out _).mono ?_; rintro e w7 ⟨rfl, hw7⟩; subst w7; go_must (skip))
         | (go_simp; go_at_call 73; refine HWr'.out.mono ?_; rintro e w8 ⟨wn, rfl, hD8, hK8, ho8⟩; go_must (have HX8 := Lib.hid (And.intro hD8 (And.intro hK8 ho8)))))
       all_goals
         go_wp2_with (go_at_call 72; go_must (refine (HCn.out _ _).mono ?_); rintro e w9 ⟨rfl, hw9⟩; subst w9)
         go_ret
         obtain ⟨hD8, hK8, ho8⟩ := HX8.out
         have hRe : R = (S, false) := by rw [HRw.out]; rfl
         refine ⟨by rw [HRV.out, hRe]; rfl, wn, ?_, ?_, ?_⟩
         · rw [hRe]; exact hLd.step hD8 hK8
         · exact ((hk24.of_non).trans hkr).then ((hkd.of_non).trans hK8) fun i hi e => e.back hoj (by have := hk24.size; omega)
         · intro q hq
           rcases ho8 q hq with e | e
           · rcases hoj q e with e | e
             · exact .inl e
             · right; have := hk24.size; omega
           · right; have := hk24.size; have := hkr.size; have : wr'.drew.heap.size = wr'.heap.size := rfl; omega
     · have HWr' : Hid (Calls Tryz.prog 73 #[.pointer (some ⟨K.d, 0, none⟩), .int .i64 (Q : Int), .slice (some ⟨bb, 0, none⟩) 128 128] wr'.drew fun e w' => ∃ wv', e = .returned (.int .i64 0) ∧ Dm w0 w' K S wv' ∧ Keeps (Fr K wx) wr'.drew w' ∧ ∀ q ∈ own wv'.v, q ∈ own wx.v ∨ wr'.drew.heap.size ≤ q) := Lib.hid HWr.out
       clear HWr
       go_upto_region 9 with fail
       go_region_law (first
         | (go_simp; go_at_call 97; refine (HSl.out _).mono ?_; rintro e w7 ⟨rfl, hw7⟩; subst w7; go_must (skip))
         | (go_simp; go_at_call 73; refine HWr'.out.mono ?_; rintro e w8 ⟨wn, rfl, hD8, hK8, ho8⟩; go_must (have HX8 := Lib.hid (And.intro hD8 (And.intro hK8 ho8)))))
       all_goals
         go_wp2_with fail
         go_roundw
         case rel =>
           obtain ⟨hD8, hK8, ho8⟩ := HX8.out
           obtain ⟨q1, q2⟩ := hwok.out
           obtain ⟨q2, q3⟩ := q2 rfl
           refine ⟨j + 1, S, wn, by omega, by go_num, hLd.step hD8 hK8, q2.trans hoff, q1.trans HSNx.out, ?_, ?_, ?_, ?_⟩
           · rw [q3, HWL.out]; omega
           · rw [HRw.out]; rfl
           · exact hkr.then ((hkd.of_non).trans hK8) fun i hi e => e.back hoj hi
           · intro q hq
             rcases ho8 q hq with e | e
             · exact hoj q e
             · right; have := hkr.size; have : wr'.drew.heap.size = wr'.heap.size := rfl; omega
         case measure => simp [intOf]; omega
   · obtain rfl : j = 4 := by omega
     go_wp2_with fail
     go_ret
     have hRe : R = (sx, true) := by rw [← hwr]; rfl
     refine ⟨by rw [HRV.out, hRe]; rfl, wx, by rw [hRe]; exact hL, (hk24.of_non).trans hkr, fun q hq => ?_⟩
     rcases hoj q hq with e | e
     · exact .inl e
     · right; have := hk24.size; omega
end Go.Proofs.YtolknnmaadkgiaaGreatDoor
namespace Go.Proofs.YtolknnmaadkgiaaGreatDoor
set_option maxRecDepth 100000
open Go.RowKit Go.Uc
set_option maxHeartbeats 8000000 in
theorem open17_any {w0 w : World} {K : Kb} {s : Dsk} {wv : Sl} (h : Dm w0 w K s wv) (ho : s.off = false) (hn : 324 ≤ s.n) (x : Lb) (hx : x.ok) (hs : ∀ hh : x.top < x.ts.length, (x.ts[x.top]).s = s.n) (j0 : Nat) (hj0 : j0 < 4) (hl0 : secs s.now (plc s.n j0) 1 = labelB x) (hlt0 : ∀ j, j < j0 → ¬ Opens [85, 67, 76, 66] (secs s.now (plc s.n j) 1)) :
   Calls Tryz.prog 39 #[.pointer (some ⟨K.d, 0, none⟩)] w fun e w' => ∃ lf tA tc, e = .returned (.tuple #[.pointer (some ⟨lf, 0, none⟩), .int .i64 0]) ∧ Lm w0 w' lf K s wv x tA tc ∧ w.heap.size ≤ lf ∧ (∀ q ∈ own (.slice tA x.ts.length tc), w.heap.size ≤ q) ∧ Keeps Non w w' := by
 have hn8 := h.ok.n2
 obtain ⟨htop, -⟩ := hx.2.2.2.1
 have hs' := hs htop
 have HS := Lib.hid (sectors52_any h)
 have HSc := Lib.hid (fun V (hV : Keeps Non w V) => sectors52_any (h.non hV))
 have HPl := Lib.hid (places29_any h hn)
 have HRd : Hid (∀ j V, j < 4 → Keeps Non w V → Calls Tryz.prog 77 #[.pointer (some ⟨K.d, 0, none⟩), .int .i64 (plc s.n j : Int), .int .i64 1] V fun e w' => ∃ b, e = .returned (.tuple #[.slice (some ⟨b, 0, none⟩) 128 128, .int .i64 0]) ∧ Blk w' b 5 (pc (secs s.now (plc s.n j) 1)) ∧ V.heap.size ≤ b ∧ Keeps Non V w') := Lib.hid (fun j V hj hV => by
   have hp := plc_lt s.n j hn
   exact read35_ok (h.non hV) ho (plc s.n j) 1 (by omega) (by omega))
 have HNo : Hid (∀ j V b, j < j0 → Blk V b 5 (pc (secs s.now (plc s.n j) 1)) → Calls Tryz.prog 78 #[.slice (some ⟨b, 0, none⟩) 128 128] V fun e w' => e = .returned (.tuple #[.agg #[.int .u64 0, .slice none 0 0, .int .i64 0, .int .i64 0], .int .i64 43]) ∧ Keeps Non V w') := Lib.hid (fun j V b hj hb => by
   have hp := plc_lt s.n j hn
   exact decodeLabel53_not _ (by rw [secs_len h.ok.nw (by omega)]) b V hb (hlt0 j hj))
 have HYes := Lib.hid (fun V b (hb : Blk V b 5 (pc (secs s.now (plc s.n j0) 1))) => decodeLabel53_any x hx b V (by rw [← hl0]; exact hb))
 have HH := Lib.hid h
 have hz0 := h.keep.size
 clear h hl0 hlt0
 obtain ⟨pool, ts, top, place⟩ := x
 simp only at htop hs' HYes ⊢
 clear hx hs
 generalize hsn : s.n = n at *
 have HSN := Lib.hid hsn
 clear hsn
 go_enter Tryz.func39, Tryz.ntmps39
 go_upto_region 4 with (first
   | (go_at_call 49; go_must (refine HS.out.mono ?_); rintro e w9 ⟨rfl, hw9⟩; subst w9)
   | (go_at_call 76; go_must (refine HPl.out.mono ?_); rintro e w1 ⟨rfl, hk1⟩))
 go_loopw [15] (fun i wr => ∃ j : Nat, j ≤ j0 ∧ i = .int .i64 (j : Int) ∧ Keeps Non w wr) (fun i _ => 4 - (intOf i).toNat)
 case atStart => exact ⟨0, Nat.zero_le _, rfl, hk1⟩
 case round =>
   obtain ⟨j, hj, rfl, hK⟩ := hrel
   obtain ⟨wx, rfl⟩ : ∃ V : World, V = wr := ⟨_, rfl⟩
   have hj4 : j < 4 := by omega
   have hji : (j : Int) < 4 := by omega
   have hix := fun V => index86 n j hj4 V
   have HR := Lib.hid (HRd.out j wx hj4 hK)
   by_cases hlt : j < j0
   · have HN := Lib.hid (fun V b hb => HNo.out j V b hlt hb)
     go_upto_region 9 with (go_at_call 77; go_must (refine HR.out.mono ?_); rintro e w2 ⟨b, rfl, hB2, hb2, hK2⟩)
     have HN2 := Lib.hid (HN.out w2 b hB2)
     go_upto_region 10 with (go_at_call 78; go_must (refine HN2.out.mono ?_); rintro e w3 ⟨rfl, hK3⟩)
     have hka := (Keeps.refl Non w3).alloc (.cells #[.int .u64 0, .slice none 0 0, .int .i64 0, .int .i64 0] 114)
     obtain ⟨w4, hw4⟩ : ∃ V : World, V = w3.alloc (.cells #[.int .u64 0, .slice none 0 0, .int .i64 0, .int .i64 0] 114) := ⟨_, rfl⟩
     rw [← hw4] at hka ⊢
     clear hw4
     go_quiet (fail)
     obtain ⟨w5, hw5⟩ : ∃ V : World, V = w4.drewN nq := ⟨_, rfl⟩
     have hk5 : Keeps Non w4 w5 := by rw [hw5]; exact (Keeps.refl _ _).drewN _
     rw [← hw5]
     clear hw5
     go_wp2_with fail
     go_roundw
     case rel => exact ⟨j + 1, by omega, by go_num, (((hK.non hK2).non hK3).non hka).non hk5⟩
     case measure => simp [intOf]; omega
   · obtain rfl : j = j0 := by omega
     go_upto_region 9 with (go_at_call 77; go_must (refine HR.out.mono ?_); rintro e w2 ⟨b, rfl, hB2, hb2, hK2⟩)
     have HY2 := Lib.hid (HYes.out w2 b hB2)
     go_upto_region 10 with (go_at_call 78; go_must (refine HY2.out.mono ?_); rintro e w3 ⟨tA, tc, rfl, hT3, hN3, hK3⟩)
     have hka := (Keeps.refl Non w3).alloc (.cells #[.int .u64 (pool : Int), .slice tA ts.length tc, .int .i64 (top : Int), .int .i64 (place : Int)] 114)
     have hB4 := Blk.new w3 114 #[.int .u64 (pool : Int), .slice tA ts.length tc, .int .i64 (top : Int), .int .i64 (place : Int)]
     obtain ⟨w4, hw4⟩ : ∃ V : World, V = w3.alloc (.cells #[.int .u64 (pool : Int), .slice tA ts.length tc, .int .i64 (top : Int), .int .i64 (place : Int)] 114) := ⟨_, rfl⟩
     rw [← hw4] at hka hB4 ⊢
     clear hw4
     obtain ⟨p8, hp8⟩ : ∃ z, z = w3.heap.size := ⟨_, rfl⟩
     rw [← hp8] at hB4 ⊢
     clear hp8
     have hT4 := hT3.non hka
     obtain ⟨g, cap, e1, hle, -, hc, -, -⟩ := hT4.at_ encT_len htop
     injection e1 with e1 _ e2
     subst e1 e2
     have y1 : w4.cell? ⟨p8, 1, none⟩ = some (.slice (some ⟨g, 0, none⟩) ts.length tc) := hB4.cell 1
     have y2 : w4.cell? ⟨p8, 2, none⟩ = some (.int .i64 (top : Int)) := hB4.cell 2
     have y3 : w4.cell? ⟨g, top * 3 + 2, none⟩ = some (.int .i64 (n : Int)) := by rw [← hs']; exact hc 2 (by decide)
     have hK4 : Keeps Non w w4 := ((hK.non hK2).non hK3).non hka
     have HSd := Lib.hid (fun q => HSc.out _ (hK4.drewN q))
     have hnn : ((n : Int) == (n : Int)) = true := by simp
     clear hc
     go_quiet ((go_at_call 49; exact Calls.quiet_of_same (HSd.out _)))
     obtain ⟨w5, hw5⟩ : ∃ V : World, V = w4.drewN nq := ⟨_, rfl⟩
     have hk5 : Keeps Non w4 w5 := by rw [hw5]; exact (Keeps.refl _ _).drewN _
     rw [← hw5]
     clear hw5 y1 y2 y3
     have hB5 := hB4.non hk5
     have hT5 := hT4.non hk5
     have hK5 := hK4.non hk5
     have u0 : w5.cell? ⟨p8, 0, none⟩ = some (.int .u64 (pool : Int)) := hB5.cell 0
     have u1 : w5.cell? ⟨p8, 1, none⟩ = some (.slice (some ⟨g, 0, none⟩) ts.length tc) := hB5.cell 1
     have u2 : w5.cell? ⟨p8, 2, none⟩ = some (.int .i64 (top : Int)) := hB5.cell 2
     have u3 : w5.cell? ⟨p8, 3, none⟩ = some (.int .i64 (place : Int)) := hB5.cell 3
     go_wp2_with fail
     go_ret2
     have hBl := Blk.new w5 171 #[.pointer (some ⟨K.d, 0, none⟩), .int .u64 (pool : Int), .slice (some ⟨g, 0, none⟩) ts.length tc, .int .i64 (top : Int), .int .i64 (place : Int), .int .i64 0, .int .i64 0, .int .i64 0]
     have hke := (Keeps.refl Non w5).alloc (.cells #[.pointer (some ⟨K.d, 0, none⟩), .int .u64 (pool : Int), .slice (some ⟨g, 0, none⟩) ts.length tc, .int .i64 (top : Int), .int .i64 (place : Int), .int .i64 0, .int .i64 0, .int .i64 0] 171)
     have hz5 := hK5.size
     have hz2 := (hK.non hK2).size
     refine ⟨w5.heap.size, rfl, some ⟨g, 0, none⟩, tc, ⟨(HH.out.non hK5).non hke, hBl, hT5.non hke, by omega, fun q hq => ?_⟩, hz5, fun q hq => ?_, hK5.non hke⟩
     · have := hN3 q hq
       omega
     · have := hN3 q hq
       omega
end Go.Proofs.YtolknnmaadkgiaaGreatDoor
namespace Go.Proofs.YtolknnmaadkgiaaGreatDoor
set_option maxRecDepth 100000
open Go.RowKit Go.Uc
def logIn (no : Nat) (bs : List UInt8) : List UInt8 := le 8 no ++ bs
def logB (no : Nat) (bs : List UInt8) : List UInt8 := (fl (logIn no bs)).bytes ++ logIn no bs
theorem logIn_len (no : Nat) (bs : List UInt8) : (logIn no bs).length = 8 + bs.length := by simp [logIn, le_length]
theorem logB_len (no : Nat) (bs : List UInt8) : (logB no bs).length = 40 + bs.length := by rw [logB, List.length_append, S4.bytes_len, logIn_len]; omega
section
variable {w0 w : World} {lf : Nat} {K : Kb} {s : Dsk} {wv : Sl} {x : Lb} {tA : Option Addr} {tc : Nat}
set_option maxHeartbeats 8000000 in
theorem logWrite13_on (h : Lm w0 w lf K s wv x tA tc) (ho : s.off = false) (hl1 : s.left = -1) (hn : 324 ≤ s.n) (hW : s.waits.length ≤ 1000000000) (at_ no : Nat) (ha : at_ < 256) (h1 : 1 ≤ no) (h2 : no ≤ 281474976710656) (bs : List UInt8) (hl : bs.length = 88) (A : Option Addr) (c : Nat) (hA : At w A bs) :
   Calls Tryz.prog 36 #[.pointer (some ⟨lf, 0, none⟩), .int .i64 (at_ : Int), .int .u64 (no : Int), .slice A 88 c] w fun e w' => e = .returned (.int .i64 0) ∧ Did w0 w lf K wv x tA tc (s.wr (18 + at_) 1 (logB no bs)).1 w' := by
 have HNw := Lib.hid (fun V => newWriter_any 128 (by decide) V)
 have HNm : Hid (∀ (V0 V : World) (g n : Nat) (xs : List UInt8), Wr V0 V g 128 xs → n < 18446744073709551616 → xs.length + 8 ≤ 128 → Calls Tryz.prog 69 #[.pointer (some ⟨g, 0, none⟩), .int .u64 (n : Int), .int .i64 8] V fun e w' => e = .returned (.tuple #[]) ∧ Wr V0 w' g 128 (xs ++ le 8 n) ∧ Oth V w') := Lib.hid (fun V0 V g n xs hV hn' hx => num42_any hV n 8 (by decide) (by decide) hn' hx (by decide))
 have HB1 : Hid (∀ (V0 V : World) (g : Nat), Wr V0 V g 128 (le 8 no) → At V A bs → Calls Tryz.prog 70 #[.pointer (some ⟨g, 0, none⟩), .slice A 88 c] V fun e w' => e = .returned (.tuple #[]) ∧ Wr V0 w' g 128 (logIn no bs) ∧ Oth V w') := Lib.hid (fun V0 V g hV hAV => by
   have := bytes43_any hV A c bs hAV (by rw [le_length, hl]; decide) (by decide)
   rw [hl] at this
   exact this)
 have hIl : (logIn no bs).length = 96 := by rw [logIn_len, hl]
 have HD1 : Hid (∀ (V0 V : World) (g : Nat), Wr V0 V g 128 (logIn no bs) → Calls Tryz.prog 71 #[.pointer (some ⟨g, 0, none⟩)] V fun e w' => ∃ b, e = .returned (.tuple #[.slice (some ⟨b, 0, none⟩) 96 96, .int .i64 0]) ∧ Blk w' b 5 (pc (logIn no bs)) ∧ V.heap.size ≤ b ∧ Keeps Non V w') := Lib.hid (fun V0 V g hV => by
   have := done44_any hV (by rw [hIl]; decide)
   rw [hIl] at this
   exact this)
 have HOf : Hid (∀ (V : World) (b : Nat), Blk V b 5 (pc (logIn no bs)) → Calls Tryz.prog 52 #[.int .i64 1, .slice (some ⟨b, 0, none⟩) 96 96] V fun e w' => e = .returned (.tuple #[.agg (fl (logIn no bs)).cs, .int .i64 0]) ∧ Keeps Non V w') := Lib.hid (fun V b hb => by
   have := of1_any (some ⟨b, 0, none⟩) 96 (logIn no bs) V (At.blk hb) (by omega) (by omega)
   rw [hIl] at this
   exact this)
 have HB2 : Hid (∀ (V0 V : World) (g b : Nat), Wr V0 V g 128 (fl (logIn no bs)).bytes → Blk V b 5 (pc (logIn no bs)) → Calls Tryz.prog 70 #[.pointer (some ⟨g, 0, none⟩), .slice (some ⟨b, 0, none⟩) 96 96] V fun e w' => e = .returned (.tuple #[]) ∧ Wr V0 w' g 128 (logB no bs) ∧ Oth V w') := Lib.hid (fun V0 V g b hV hb => by
   have := bytes43_any hV (some ⟨b, 0, none⟩) 96 (logIn no bs) (At.blk hb) (by rw [S4.bytes_len, hIl]; decide) (by decide)
   rw [hIl] at this
   exact this)
 have hBl : (logB no bs).length = 128 := by rw [logB_len, hl]
 have HD2 : Hid (∀ (V0 V : World) (g : Nat), Wr V0 V g 128 (logB no bs) → Calls Tryz.prog 71 #[.pointer (some ⟨g, 0, none⟩)] V fun e w' => ∃ b, e = .returned (.tuple #[.slice (some ⟨b, 0, none⟩) 128 128, .int .i64 0]) ∧ Blk w' b 5 (pc (logB no bs)) ∧ V.heap.size ≤ b ∧ Keeps Non V w') := Lib.hid (fun V0 V g hV => by
   have := done44_any hV (by rw [hBl]; decide)
   rw [hBl] at this
   exact this)
 have HWr : Hid (∀ (V : World) (b : Nat), Keeps Non w V → Blk V b 5 (pc (logB no bs)) → w.heap.size ≤ b → Calls Tryz.prog 73 #[.pointer (some ⟨K.d, 0, none⟩), .int .i64 ((18 + at_ : Nat) : Int), .slice (some ⟨b, 0, none⟩) 128 128] V fun e w' => e = .returned (.int .i64 0) ∧ Did w0 w lf K wv x tA tc (s.wr (18 + at_) 1 (logB no bs)).1 w') := Lib.hid (fun V b hV hb hbw => by
   have := write30_on (h.dm.non hV) ho hl1 (18 + at_) 1 (logB no bs) (some ⟨b, 0, none⟩) 128 (At.blk hb) hBl (by omega) (by omega) (fun ad e => by injection e with e; subst e; exact (h.dm.old hbw).1) (by omega)
   rw [Nat.mul_one] at this
   refine this.mono ?_
   rintro e w' ⟨rfl, hw⟩
   obtain ⟨wv', q1, q2, q3⟩ := Wrote.did (h.non hV) hw
   refine ⟨rfl, wv', q1, (hV.of_non).trans q2, fun q hq => ?_⟩
   rcases q3 q hq with e | e
   · exact .inl e
   · right; have := hV.size; omega)
 have HC := Lib.hid (fun v V => counted32_any 0 (by decide) v V)
 have HL0 := Lib.hid (fun V (hV : Keeps Non w V) => (h.non hV).d0)
 have hAt := Lib.hid (fun V (hV : Keeps Non w V) => hA.non hV)
 have hfo := fl_ok (logIn no bs)
 generalize logB no bs = LB at HB2 HD2 HWr hBl ⊢
 generalize hSS : (s.wr (18 + at_) 1 LB).1 = S9 at HWr ⊢
 clear hSS h hA
 generalize hFF : fl (logIn no bs) = F at HOf HB2 hfo
 clear hFF
 obtain ⟨sa, sb, sc, sd⟩ := F
 obtain ⟨q1, q2, q3, q4⟩ := hfo
 simp only at q1 q2 q3 q4
 unfold S4.cs at HOf
 simp only at HOf
 have hL := Lib.hid (fun j (hj : j ≤ 4) => S4.upto_len ⟨sa, sb, sc, sd⟩ j hj)
 go_enter Tryz.func36, Tryz.ntmps36
 go_upto_region 4 with (go_at_call 68; go_must (refine (HNw.out _).mono ?_); rintro e w2 ⟨g, rfl, hW2⟩)
 have HN2 := Lib.hid (HNm.out _ _ g no [] hW2 (by omega) (by decide))
 go_upto_region 5 with (go_at_call 69; go_must (refine HN2.out.mono ?_); rintro e w3 ⟨rfl, hW3, -⟩)
 have HB3 := Lib.hid (HB1.out _ _ _ hW3 (hAt.out w3 hW3.keep))
 go_upto_region 6 with (go_at_call 70; go_must (refine HB3.out.mono ?_); rintro e w4 ⟨rfl, hW4, -⟩)
 have HD4 := Lib.hid (HD1.out _ _ _ hW4)
 go_upto_region 9 with (go_at_call 71; go_must (refine HD4.out.mono ?_); rintro e w5 ⟨b1, rfl, hB5, hb5, hK5⟩)
 have hk5 := hW4.keep.non hK5
 have hb1w : w.heap.size ≤ b1 := by have := hW4.keep.size; omega
 have HO5 := Lib.hid (HOf.out w5 b1 hB5)
 go_upto_region 12 with (go_at_call 52; go_must (refine HO5.out.mono ?_); rintro e w6 ⟨rfl, hK6⟩)
 have hS6 := Blk.new w6 56 #[.int .u64 (sa : Int), .int .u64 (sb : Int), .int .u64 (sc : Int), .int .u64 (sd : Int)]
 have hka := (Keeps.refl Non w6).alloc (.cells #[.int .u64 (sa : Int), .int .u64 (sb : Int), .int .u64 (sc : Int), .int .u64 (sd : Int)] 56)
 obtain ⟨w7, hw7⟩ : ∃ V : World, V = w6.alloc (.cells #[.int .u64 (sa : Int), .int .u64 (sb : Int), .int .u64 (sc : Int), .int .u64 (sd : Int)] 56) := ⟨_, rfl⟩
 rw [← hw7] at hS6 hka ⊢
 clear hw7
 obtain ⟨ps, hps⟩ : ∃ z, z = w6.heap.size := ⟨_, rfl⟩
 rw [← hps] at hS6 ⊢
 clear hps
 have hk7 := (hk5.non hK6).non hka
 have hB7 := (hB5.non hK6).non hka
 go_upto_region 13 with (go_at_call 68; go_must (refine (HNw.out _).mono ?_); rintro e w8 ⟨g2, rfl, hW8⟩)
 have hS8 := hS6.non hW8.keep
 have x0 : w8.cell? ⟨ps, 0, none⟩ = some (.int .u64 (sa : Int)) := hS8.cell 0
 have x1 : w8.cell? ⟨ps, 1, none⟩ = some (.int .u64 (sb : Int)) := hS8.cell 1
 have x2 : w8.cell? ⟨ps, 2, none⟩ = some (.int .u64 (sc : Int)) := hS8.cell 2
 have x3 : w8.cell? ⟨ps, 3, none⟩ = some (.int .u64 (sd : Int)) := hS8.cell 3
 go_upto_region 14 with fail
 clear x0 x1 x2 x3
 go_loopw [69] (fun i wr => ∃ j : Nat, j ≤ 4 ∧ i = .int .i64 (j : Int) ∧ Wr w7 wr g2 128 (S4.upto ⟨sa, sb, sc, sd⟩ j)) (fun i _ => 4 - (intOf i).toNat)
 case atStart => exact ⟨0, by omega, rfl, hW8⟩
 case round =>
   obtain ⟨j, hj, rfl, hWj⟩ := hrel
   obtain ⟨wx, rfl⟩ : ∃ V : World, V = wr := ⟨_, rfl⟩
   have hlj := hL.out j hj
   by_cases hlt : j < 4
   · obtain ⟨X, hX⟩ : ∃ X, X = [sa, sb, sc, sd].getD j 0 := ⟨_, rfl⟩
     have hX8 : X < 18446744073709551616 := by
       rw [hX]
       match j, hlt with
       | 0, _ => exact q1
       | 1, _ => exact q2
       | 2, _ => exact q3
       | 3, _ => exact q4
     have hin : ∀ V : World, (Instr.index 163 (.agg #[.int .u64 (sa : Int), .int .u64 (sb : Int), .int .u64 (sc : Int), .int .u64 (sd : Int)]) (.int .i64 (j : Int))).run Tryz.prog V = .ok (.int .u64 (X : Int)) V := by
       intro V
       rw [hX]
       match j, hlt with
       | 0, _ => rfl
       | 1, _ => rfl
       | 2, _ => rfl
       | 3, _ => rfl
     have HE : Hid (S4.upto ⟨sa, sb, sc, sd⟩ j ++ le 8 X = S4.upto ⟨sa, sb, sc, sd⟩ (j + 1)) := Lib.hid (by
       rw [hX]
       match j, hlt with
       | 0, _ => simp [S4.upto]
       | 1, _ => simp [S4.upto]
       | 2, _ => simp [S4.upto]
       | 3, _ => simp [S4.upto, S4.bytes])
     have HNj := Lib.hid (HNm.out _ _ g2 X _ hWj hX8 (by omega))
     have hji : (j : Int) < 4 := by omega
     clear hX hlj
     go_wp2_with (go_at_call 69; go_must (refine HNj.out.mono ?_); rintro e w9 ⟨rfl, hW9, -⟩)
     go_roundw
     case rel =>
       rw [HE.out] at hW9
       exact ⟨j + 1, by omega, by go_num, hW9⟩
     case measure => simp [intOf]; omega
   · obtain rfl : j = 4 := by omega
     have hBx := hB7.non hWj.keep
     have HBx := Lib.hid (HB2.out _ _ _ b1 hWj hBx)
     clear hlj
     go_upto_region 19 with (go_at_call 70; go_must (refine HBx.out.mono ?_); rintro e wa ⟨rfl, hWa, -⟩)
     have HDa := Lib.hid (HD2.out _ _ _ hWa)
     go_upto_region 22 with (go_at_call 71; go_must (refine HDa.out.mono ?_); rintro e wb ⟨b2, rfl, hBb, hb2, hKb⟩)
     have hkb : Keeps Non w wb := (hk7.non hWa.keep).non hKb
     have hkbd : Keeps Non w wb.drew := hkb.drew
     have hb2w : w.heap.size ≤ b2 := by have := (hk7.non hWa.keep).size; omega
     have d0 := HL0.out _ hkbd
     obtain ⟨Q, hQ⟩ : ∃ Q, Q = 18 + at_ := ⟨_, rfl⟩
     have HWb := Lib.hid (HWr.out _ b2 hkbd (hBb.non (Keeps.refl Non wb).drew) hb2w)
     rw [← hQ] at HWb
     have hwq : IntKind.i64.wrap ((18 : Int) + (at_ : Int)) = (Q : Int) := by rw [IntKind.wrap_i64]; omega
     clear hQ
     go_region_law (first
       | (go_simp; go_at_call 73; refine HWb.out.mono ?_; rintro e wd ⟨rfl, hDd⟩; go_must (have HDd := Lib.hid hDd))
       | (go_simp; go_at_call 72; refine (HC.out _ _).mono ?_; rintro e we ⟨rfl, hwe⟩; subst we; go_must (skip)))
     all_goals
       go_wp2_with fail
       go_ret
       exact ⟨rfl, HDd.out⟩
end
end Go.Proofs.YtolknnmaadkgiaaGreatDoor
