/- The document's Format. The document's Format, walked. The document's leaves and mirror: what they only read. The document's mirror made; the tops of a tank built. The document's tank: its one top built. -/
import Derived.Test.YtolknnmaadkgiaaGreatDoorG32
import Derived.Test.YtolknnmaadkgiaaGreatDoorG33
import Derived.Test.YtolknnmaadkgiaaGreatDoorG25
set_option linter.unusedVariables false
set_option linter.unusedSimpArgs false
namespace Go.Proofs.YtolknnmaadkgiaaGreatDoor
set_option maxRecDepth 100000
open Go.RowKit Go.Uc
def FmR (w0 w : World) (Q : Qb) (n : Nat) (pv : Sl) (k : Nat) (wr : World) : Prop := ∃ wv : Sl, Dd w0 wr Q n pv wv ∧ wv.n = k ∧ (∀ g ∈ own wv.v, w.heap.size ≤ g) ∧ Keeps (Fd Q pv ⟨none, 0, 0⟩) w wr
theorem FmR.non {w0 w wr w' : World} {Q : Qb} {n : Nat} {pv : Sl} {k : Nat} (h : FmR w0 w Q n pv k wr) (hk : Keeps Non wr w') : FmR w0 w Q n pv k w' := h.imp fun _ i => ⟨i.1.non hk, i.2.1, i.2.2.1, i.2.2.2.non hk⟩
def Bq (w : World) (g : Nat) (bs : List UInt8) : Prop := At w (some ⟨g, 0, none⟩) bs ∧ ∃ cs, Blk w g 5 cs
theorem fmr_write {w0 w wr : World} {Q : Qb} {n : Nat} {pv : Sl} {k : Nat} (h : FmR w0 w Q n pv k wr) (hn2 : n ≤ 8192) (hk : k ≤ 300) (p m g c M : Nat) (bs : List UInt8) (hM : M = 128 * m) (hbl : bs.length = 128 * m) (hb : Bq wr g bs) (hc : M ≤ c) (hpm : p + m ≤ n) (hm : m ≤ 300) :
   Calls Tryz.prog 109 #[.pointer (some ⟨Q.q, 0, none⟩), .int .i64 (Q.j : Int), .int .i64 (p : Int), .slice (some ⟨g, 0, none⟩) M c] wr fun e w' => e = .returned (.int .i64 0) ∧ FmR w0 w Q n pv (k + m) w' ∧ Keeps (fun i => Fd Q pv ⟨none, 0, 0⟩ i ∨ ∃ cs, Blk wr i 274 cs) wr w' := by
 subst hM
 obtain ⟨wv, hD, hw, ho, hK⟩ := h
 refine (write63_any hD hn2 p m g c bs hbl hb.2 hb.1 hc hpm (by omega)).mono ?_
 rintro e w' ⟨rfl, wv', hD', hw', ho', hK'⟩
 refine ⟨rfl, ⟨wv', hD', by omega, fun j hj => ?_, hK.then hK' fun i hi e => ?_⟩, hK'.mono fun i e => ?_⟩
 · rcases ho' j hj with e | e
   · exact ho j e
   · have := hK.size; omega
 · rcases e with e | e | e | e
   · exact .inl e
   · exact .inr (.inl e)
   · exact .inr (.inr (.inl e))
   · have := ho i e; omega
 · rcases e with e | e | e | e
   · exact .inl (.inl e)
   · exact .inl (.inr (.inl e))
   · exact .inl (.inr (.inr (.inl e)))
   · right
     obtain ⟨M, hM, -⟩ := hD.wt
     rcases hM.form with ⟨e1, -⟩ | ⟨g', cap, cur, e1, hB, -⟩
     · rw [e1] at e; exact (List.not_mem_nil e).elim
     · rw [e1, own_slice, List.mem_singleton] at e
       subst e
       exact ⟨_, hB⟩
theorem FmR.stay {w0 w wr w' : World} {Q : Qb} {n : Nat} {pv : Sl} {k : Nat} (h : FmR w0 w Q n pv k wr) (hk : Keeps (fun i => Fd Q pv ⟨none, 0, 0⟩ i ∨ ∃ cs, Blk wr i 274 cs) wr w') {g t : Nat} {cs : Array Value} (hg : Blk wr g t cs) (a : t ≠ 139) (b : t ≠ 143) (c : t ≠ 22) (d : t ≠ 274) : Blk w' g t cs := by
 obtain ⟨wv, hD, -⟩ := h
 refine hg.keep hk ?_
 rintro (e | ⟨cs', hB⟩)
 · exact hD.free hg a b c d (by
     rcases e with e | e | e | e
     · exact .inl e
     · exact .inr (.inl e)
     · exact .inr (.inr (.inl e))
     · exact (List.not_mem_nil e).elim)
 · exact hg.ne hB d rfl
theorem FmR.bq {w0 w wr w' : World} {Q : Qb} {n : Nat} {pv : Sl} {k : Nat} (h : FmR w0 w Q n pv k wr) (hk : Keeps (fun i => Fd Q pv ⟨none, 0, 0⟩ i ∨ ∃ cs, Blk wr i 274 cs) wr w') {g : Nat} {bs : List UInt8} (hb : Bq wr g bs) : Bq w' g bs := by
 obtain ⟨hA, cs, hB⟩ := hb
 have hB' := h.stay hk hB (by decide) (by decide) (by decide) (by decide)
 refine ⟨fun i hi => ?_, cs, hB'⟩
 obtain ⟨ad, e, hc⟩ := hA i hi
 injection e with e
 subst e
 refine ⟨_, rfl, ?_⟩
 rw [addr_add_none] at hc ⊢
 rw [hB'.cell]
 rw [hB.cell] at hc
 exact hc
theorem FmR.tb {w0 w wr w' : World} {Q : Qb} {n : Nat} {pv : Sl} {k : Nat} (h : FmR w0 w Q n pv k wr) (hk : Keeps (fun i => Fd Q pv ⟨none, 0, 0⟩ i ∨ ∃ cs, Blk wr i 274 cs) wr w') {tb kd lv m : Nat} (hb : Tb wr tb kd lv m) : Tb w' tb kd lv m :=
 hb.imp fun _ i => ⟨h.stay hk i.1 (by decide) (by decide) (by decide) (by decide), i.2⟩
end Go.Proofs.YtolknnmaadkgiaaGreatDoor
namespace Go.Proofs.YtolknnmaadkgiaaGreatDoor
set_option maxRecDepth 100000
open Go.RowKit Go.Uc
theorem Byt.bq {w0 w : World} {v : Value} {j : Nat} (h : Byt w0 w v j) (hj : 0 < j) : ∃ g c bs, v = .slice (some ⟨g, 0, none⟩) j c ∧ bs.length = j ∧ j ≤ c ∧ Bq w g bs ∧ Keeps Non w0 w := by
 obtain ⟨bs, rfl, hO, hK⟩ := h
 obtain ⟨A, c, rfl, hc, hA, -⟩ := OwnB.open hO
 rcases hO.form with ⟨-, rfl⟩ | ⟨g, cap, cur, e, -, hB, -⟩
 · simp at hj
 · injection e with e1 e2 e3
   subst e1 e3
   exact ⟨g, c, bs, rfl, rfl, hc, ⟨hA, cur, hB⟩, hK⟩
theorem Dd.far {w0 w w' : World} {Q : Qb} {n : Nat} {pv wv : Sl} (h : Dd w0 w Q n pv wv) {g t : Nat} {cs : Array Value} (hB : Blk w g t cs) (a : t ≠ 139) (b : t ≠ 140) (c : t ≠ 143) (d : t ≠ 22) (e : t ≠ 274) (hg : w0.heap.size ≤ g) (hk : Keeps (Only g) w w') : Dd w0 w' Q n pv wv := by
 obtain ⟨z0, hp⟩ := h.pw
 obtain ⟨cs, hd, hc0, hjn, hdc⟩ := h.ds
 obtain ⟨P, hP, hpn, hPn⟩ := h.pl
 obtain ⟨M, hM, hwl, hMa⟩ := h.wt
 exact ⟨⟨z0, hp.one hk (hp.ne hB (Ne.symm a))⟩, ⟨cs, hd.one hk (hd.ne hB (Ne.symm b)), hc0, hjn, hdc⟩, h.dk.one hk (h.dk.ne hB (Ne.symm c)), ⟨P, hP.keep hk fun q hq e => own_type hP hB d (by unfold Only at e; rw [← e]; exact hq), hpn, hPn⟩, ⟨M, hM.keep hk fun q hq e' => own_type hM hB e (by unfold Only at e'; rw [← e']; exact hq), hwl, hMa⟩, h.new, h.keep.then hk fun i hi e => by unfold Only at e; omega⟩
def FmE (w0 w : World) (Q : Qb) (n : Nat) (pv : Sl) (wr : World) : Prop := Dd w0 wr Q n pv ⟨none, 0, 0⟩ ∧ Keeps (Fd Q pv ⟨none, 0, 0⟩) w wr
def labC (pool tb tc pl : Nat) : Array Value := #[.int .u64 (pool : Int), .slice (some ⟨tb, 0, none⟩) 1 tc, .int .i64 0, .int .i64 (pl : Int)]
def plcC (n : Nat) : Array Value := #[.int .i64 0, .int .i64 9, .int .i64 ((n - 18 : Nat) : Int), .int .i64 ((n - 9 : Nat) : Int)]
structure FmS (w0 w : World) (Q : Qb) (n : Nat) (pv : Sl) (pool tb tc kd lv pl p1 lb p11 : Nat) (X : List UInt8) (k : Nat) (wr : World) : Prop where
 f : FmR w0 w Q n pv (292 + k) wr
 b : Blk wr p1 114 (labC pool tb tc pl)
 t : Tb wr tb kd lv n
 q : Bq wr lb X
 a : Blk wr p11 173 (plcC n)
set_option maxHeartbeats 8000000 in
theorem format27_one {w0 w : World} {Q : Qb} {n : Nat} {pv : Sl} (h : Dd w0 w Q n pv ⟨none, 0, 0⟩) (h1 : 324 ≤ n) (h2 : n ≤ 8192) (pool tb tc kd lv pl : Nat) (hmd : Md kd lv) (hpl : pl < lv) (hT : Tb w tb kd lv n) (htc : 1 ≤ tc) (hp : pool < 18446744073709551616) :
   Calls Tryz.prog 63 #[.pointer (some ⟨Q.q, 0, none⟩), .int .i64 (Q.j : Int), .agg #[.int .u64 (pool : Int), .slice (some ⟨tb, 0, none⟩) 1 tc, .int .i64 0, .int .i64 (pl : Int)]] w fun e w' => ∃ lf cs, e = .returned (.tuple #[.pointer (some ⟨lf, 0, none⟩), .int .i64 0]) ∧ FmE w0 w Q n pv w' ∧ w.heap.size ≤ lf ∧ Blk w' lf 216 cs ∧ cs[0]? = some (.pointer (some ⟨Q.q, 0, none⟩)) ∧ cs[1]? = some (.int .i64 (Q.j : Int)) := by
 have hF0 : FmR w0 w Q n pv 0 w := ⟨⟨none, 0, 0⟩, h, rfl, fun g hg => (List.not_mem_nil hg).elim, Keeps.refl _ _⟩
 have HW := Lib.hid (fun V k p m g c M bs (hV : FmR w0 w Q n pv k V) (hk : k ≤ 300) (hM : M = 128 * m) (hbl : bs.length = 128 * m) (hb : Bq V g bs) (hc : M ≤ c) (hpm : p + m ≤ n) (hm : m ≤ 300) => fmr_write hV h2 hk p m g c M bs hM hbl hb hc hpm hm)
 have hB := Blk.new w 114 #[.int .u64 (pool : Int), .slice (some ⟨tb, 0, none⟩) 1 tc, .int .i64 0, .int .i64 (pl : Int)]
 have hk := (Keeps.refl Non w).alloc (.cells #[.int .u64 (pool : Int), .slice (some ⟨tb, 0, none⟩) 1 tc, .int .i64 0, .int .i64 (pl : Int)] 114)
 go_enter Tryz.func63, Tryz.ntmps63
 go_upto_region 1 with fail
 obtain ⟨w1, hw1⟩ : ∃ V : World, V = w.alloc (.cells #[.int .u64 (pool : Int), .slice (some ⟨tb, 0, none⟩) 1 tc, .int .i64 0, .int .i64 (pl : Int)] 114) := ⟨_, rfl⟩
 rw [← hw1] at hB hk ⊢
 clear hw1
 obtain ⟨p1, hp1⟩ : ∃ z, z = w.heap.size := ⟨_, rfl⟩
 rw [← hp1] at hB ⊢
 have HP1 := Lib.hid (Nat.le_of_eq hp1.symm)
 clear hp1
 have hT1 := hT.non hk
 have hF1 := hF0.non hk
 have HH := Lib.hid h
 clear h hF0 hT hk
 have x0 : w1.cell? ⟨p1, 0, none⟩ = some (.int .u64 (pool : Int)) := hB.cell 0
 have x1 : w1.cell? ⟨p1, 1, none⟩ = some (.slice (some ⟨tb, 0, none⟩) 1 tc) := hB.cell 1
 have x2 : w1.cell? ⟨p1, 2, none⟩ = some (.int .i64 0) := hB.cell 2
 have x3 : w1.cell? ⟨p1, 3, none⟩ = some (.int .i64 (pl : Int)) := hB.cell 3
 have HE := Lib.hid (encodeLabel61_one pool tb tc kd lv n pl hmd hpl hT1 h1 h2 htc hp)
 go_upto_region 2 with (go_at_call 107; go_must (refine HE.out.mono ?_); rintro e w2 ⟨v2, rfl, hb2⟩; obtain ⟨lb, lc, X, rfl, hX, hlc, hq2, hK2⟩ := hb2.bq (by decide))
 clear x0 x1 x2 x3 HE hb2
 have hB2 := hB.non hK2
 have hT2 := hT1.non hK2
 have hF2 := hF1.non hK2
 have HX := Lib.hid hX
 clear hB hT1 hF1 hK2 hX
 have HS := Lib.hid (show Calls Tryz.prog 108 #[.pointer (some ⟨Q.q, 0, none⟩), .int .i64 (Q.j : Int)] w2 fun e w' => e = .returned (.int .i64 (n : Int)) ∧ w' = w2 by obtain ⟨wv, hD, -⟩ := hF2; exact sectors62_any hD)
 have x1 : w2.cell? ⟨p1, 1, none⟩ = some (.slice (some ⟨tb, 0, none⟩) 1 tc) := hB2.cell 1
 have x2 : w2.cell? ⟨p1, 2, none⟩ = some (.int .i64 0) := hB2.cell 2
 obtain ⟨-, -, y2⟩ := hT2.cells
 go_upto_region 7 with (go_at_call 108; go_must (refine HS.out.mono ?_); rintro e w9 ⟨rfl, hw9⟩; subst w9)
 clear x1 x2 y2 HS
 go_upto_region 8 with (first | (at_make; go_must (refine wpList_make_bytes rfl (.const (.int .i64 35072)) (.const (.int .i64 35072)) 22 rfl 5 Tryz.underlying22 info5 .i64 .i64 _ _ 35072 rfl rfl (by omega) (by omega) (by omega) ?_); intro w3 hB3 hK3; have HC3 := Lib.hid (HW.out w3 0 0 274 w2.heap.size 35072 35072 (zeros 35072) (hF2.non hK3) (by decide) rfl (zeros_length _) ⟨At.blk hB3, _, hB3⟩ (by decide) (by omega) (by decide))) | (go_at_call 109; go_must (refine HC3.out.mono ?_); rintro e w4 ⟨rfl, hF4, hK4⟩))
 have hB4 := (hF2.non hK3).stay hK4 (hB2.non hK3) (by decide) (by decide) (by decide) (by decide)
 have hT4 := (hF2.non hK3).tb hK4 (hT2.non hK3)
 have hq4 := (hF2.non hK3).bq hK4 ⟨hq2.1.non hK3, hq2.2.imp fun _ i => i.non hK3⟩
 clear hF2 hB2 hT2 hq2 hB3 hK3 hK4 HC3
 obtain ⟨p9, hp9⟩ : ∃ p9 : Nat, p9 = n - 18 := ⟨_, rfl⟩
 have hp9i : ((n : Int) - 18) = (p9 : Int) := by omega
 have hp9n : p9 + 18 ≤ n := by omega
 have HP9 := Lib.hid hp9
 clear hp9
 have HQ9 := Lib.hid hp9i
 clear hp9i
 go_upto_region 10 with (first | (at_make; go_must (refine wpList_make_bytes rfl (.const (.int .i64 2304)) (.const (.int .i64 2304)) 22 rfl 5 Tryz.underlying22 info5 .i64 .i64 _ _ 2304 rfl rfl (by omega) (by omega) (by omega) ?_); intro w5 hB5 hK5; rw [HQ9.out]; have HC5 := Lib.hid (HW.out w5 274 p9 18 w4.heap.size 2304 2304 (zeros 2304) (hF4.non hK5) (by decide) rfl (zeros_length _) ⟨At.blk hB5, _, hB5⟩ (by decide) hp9n (by decide))) | (go_at_call 109; go_must (refine HC5.out.mono ?_); rintro e w6 ⟨rfl, hF6, hK6⟩))
 have hB6 := (hF4.non hK5).stay hK6 (hB4.non hK5) (by decide) (by decide) (by decide) (by decide)
 have hT6 := (hF4.non hK5).tb hK6 (hT4.non hK5)
 have hq6 := (hF4.non hK5).bq hK6 ⟨hq4.1.non hK5, hq4.2.imp fun _ i => i.non hK5⟩
 clear hF4 hB4 hT4 hq4 hB5 hK5 hK6 HC5
 have HP := Lib.hid (places64_any w6 n h1 h2)
 go_upto_region 11 with (go_at_call 110; go_must (refine HP.out.mono ?_); rintro e w7 ⟨rfl, hK7⟩)
 have hBp := Blk.new w7 173 (plcC n)
 have hkp := (Keeps.refl Non w7).alloc (.cells (plcC n) 173)
 have hF7 := hF6.non (hK7.non hkp)
 have hB7 := hB6.non (hK7.non hkp)
 have hT7 := hT6.non (hK7.non hkp)
 have hq7 : Bq (w7.alloc (.cells (plcC n) 173)) lb X := ⟨hq6.1.non (hK7.non hkp), hq6.2.imp fun _ i => i.non (hK7.non hkp)⟩
 obtain ⟨p11, hp11⟩ : ∃ z, z = w7.heap.size := ⟨_, rfl⟩
 have HS0 : Hid (FmS w0 w Q n pv pool tb tc kd lv pl p1 lb p11 X 0 (w7.alloc (.cells (plcC n) 173))) := Lib.hid ⟨hF7, hB7, hT7, hq7, by rw [hp11]; exact hBp⟩
 rw [← hp11]
 clear hBp hkp hF7 hB7 hT7 hq7 hp11 hF6 hB6 hT6 hq6 HP
 obtain ⟨w8, hw8⟩ : ∃ V : World, V = w7.alloc (.cells (plcC n) 173) := ⟨_, rfl⟩
 rw [← hw8] at HS0
 have hw8' : w7.alloc (.cells #[.int .i64 0, .int .i64 9, .int .i64 ((n - 18 : Nat) : Int), .int .i64 ((n - 9 : Nat) : Int)] 173) = w8 := hw8.symm
 rw [hw8']
 clear hw8 hw8' hK7
 go_upto_region 12 with fail
 go_loopw [9, 12] (fun e i wr => ∃ k : Nat, k ≤ 4 ∧ e = .int .i64 0 ∧ i = .int .i64 (k : Int) ∧ FmS w0 w Q n pv pool tb tc kd lv pl p1 lb p11 X k wr) (fun _ i _ => 4 - (intOf i).toNat)
 case atStart => exact ⟨0, by omega, rfl, rfl, HS0.out⟩
 case round =>
   obtain ⟨k, hk, rfl, rfl, hS⟩ := hrel
   obtain ⟨wx, rfl⟩ : ∃ W : World, W = wr := ⟨_, rfl⟩
   obtain ⟨hF, hBx, hTx, hqx, hAx⟩ := hS
   by_cases hlt : k < 4
   · have hki : (k : Int) < 4 := by omega
     have c0 : wx.cell? ⟨p11, k, none⟩ = some (.int .i64 (plc n k : Int)) := by
       rw [hAx.cell]
       exact placesAgg n k hlt
     have hpl : plc n k + 1 ≤ n := by
       match k, hlt with
       | 0, _ => show 0 + 1 ≤ n; omega
       | 1, _ => show 9 + 1 ≤ n; omega
       | 2, _ => show n - 18 + 1 ≤ n; omega
       | 3, _ => show n - 9 + 1 ≤ n; omega
     have HC := Lib.hid (HW.out wx (292 + k) (plc n k) 1 lb lc 128 X hF (by omega) rfl HX.out hqx hlc hpl (by decide))
     have HSx : Hid (∀ V, FmR w0 w Q n pv (292 + k + 1) V → Keeps (fun i => Fd Q pv ⟨none, 0, 0⟩ i ∨ ∃ cs, Blk wx i 274 cs) wx V → FmS w0 w Q n pv pool tb tc kd lv pl p1 lb p11 X (k + 1) V) := Lib.hid (fun V hV hK => ⟨hV, hF.stay hK hBx (by decide) (by decide) (by decide) (by decide), hF.tb hK hTx, hF.bq hK hqx, hF.stay hK hAx (by decide) (by decide) (by decide) (by decide)⟩)
     generalize plc n k = pk at c0 HC hpl
     clear hF hBx hTx hqx hAx
     go_wp2_with (go_at_call 109; go_must (refine HC.out.mono ?_); rintro e w9 ⟨rfl, hF9, hK9⟩; have HS9 := Lib.hid (HSx.out w9 hF9 hK9); clear hF9 hK9)
     go_roundw
     case rel => exact ⟨k + 1, by omega, rfl, by go_num, HS9.out⟩
     case measure => simp [intOf]; omega
   · obtain rfl : k = 4 := by omega
     clear HS0
     have HFl : Hid (Calls Tryz.prog 111 #[.pointer (some ⟨Q.q, 0, none⟩), .int .i64 (Q.j : Int)] wx fun e w' => e = .returned (.int .i64 0) ∧ Keeps (fun i => Fd Q pv ⟨none, 0, 0⟩ i ∨ ∃ cs, Blk wx i 274 cs) wx w' ∧ FmE w0 w Q n pv w') := Lib.hid (by
       obtain ⟨wv, hD, hw, ho, hK⟩ := hF
       refine (flush65_any hD (by omega)).mono ?_
       rintro e w' ⟨rfl, hD', hK'⟩
       refine ⟨rfl, hK'.mono fun i e => ?_, hD', hK.then hK' fun i hi e => ?_⟩
       · rcases e with e | e | e | e
         · exact .inl (.inl e)
         · exact .inl (.inr (.inl e))
         · exact .inl (.inr (.inr (.inl e)))
         · right
           obtain ⟨M, hM, -⟩ := hD.wt
           rcases hM.form with ⟨e1, -⟩ | ⟨g', cap, cur, e1, hB, -⟩
           · rw [e1] at e; exact (List.not_mem_nil e).elim
           · rw [e1, own_slice, List.mem_singleton] at e
             subst e
             exact ⟨_, hB⟩
       · rcases e with e | e | e | e
         · exact .inl e
         · exact .inr (.inl e)
         · exact .inr (.inr (.inl e))
         · have := ho i e; omega)
     go_upto_region 18 with (go_at_call 111; go_must (refine HFl.out.mono ?_); rintro e w9 ⟨rfl, hK9, hF9⟩)
     have hB9 : Blk w9 p1 114 #[.int .u64 (pool : Int), .slice (some ⟨tb, 0, none⟩) 1 tc, .int .i64 0, .int .i64 (pl : Int)] := hF.stay hK9 hBx (by decide) (by decide) (by decide) (by decide)
     have hT9 := hF.tb hK9 hTx
     clear hF hBx hTx hqx hAx HFl hK9
     have x1 : w9.cell? ⟨p1, 1, none⟩ = some (.slice (some ⟨tb, 0, none⟩) 1 tc) := hB9.cell 1
     have hAt : Ats w9 (some ⟨tb, 0, none⟩) ([(⟨kd, lv, n⟩ : Tp)].flatMap encT) := fun _ => ⟨_, rfl, fun j u hj => by
       rw [addr_add_none, Nat.zero_add]
       obtain ⟨y0, y1, y2⟩ := hT9.cells
       match j, hj with
       | 0, hj => simp [encT] at hj; subst hj; exact y0
       | 1, hj => simp [encT] at hj; subst hj; exact y1
       | 2, hj => simp [encT] at hj; subst hj; exact y2⟩
     have HAt := Lib.hid hAt
     have HB1 : Hid (([] : List Tp).length + [(⟨kd, lv, n⟩ : Tp)].length ≤ maxLen ∧ (([] : List Tp).length + [(⟨kd, lv, n⟩ : Tp)].length) * 24 ≤ 140737488355328) := Lib.hid (by show 1 ≤ maxLen ∧ 1 * 24 ≤ _; decide)
     clear hAt hT9
     go_upto_region 21 with (at_builtin; go_must (refine wpList_append_row (o := ⟨some 70, _, _, _, _, _⟩) rfl (.const (.slice none 0 0)) (.tmp 69) 32 rfl 31 3 encT _ 24 Tryz.underlying32 info29 rfl (by decide) encT_len encT_one (.slice none 0 0) [] (by kernel_rfl) (RowP.nil _ _ _ _) (some ⟨tb, 0, none⟩) 1 tc [(⟨kd, lv, n⟩ : Tp)] (by kernel_rfl) rfl HAt.out HB1.out.1 HB1.out.2 ?_); intro u10 w10 hO10 hK10 hat10; obtain ⟨⟨A10, n10, c10⟩, rfl, h10⟩ := RowP.sl hO10; have hK10n : Keeps Non w9 w10 := hK10.mono fun k e => (List.not_mem_nil e).elim; have hB10 := hB9.non hK10n; have z10 := hB10.cell 1; have f10 := hB10.frozen 1; have HF10 := Lib.hid (hF9.1.non hK10n); have HF10k := Lib.hid (hF9.2.non hK10n); clear hO10 hK10 hat10 h10 hK10n)
     have hB11 : Blk (w10.setCell ⟨p1, 1, none⟩ (.slice A10 n10 c10)) p1 114 #[.int .u64 (pool : Int), .slice A10 n10 c10, .int .i64 0, .int .i64 (pl : Int)] := hB10.set 1 _
     have hk11 : Keeps (Only p1) w10 (w10.setCell ⟨p1, 1, none⟩ (.slice A10 n10 c10)) := (Keeps.refl (Only p1) _).set (p := ⟨p1, 1, none⟩) rfl _
     have hF11 := HF10.out.far hB10 (by decide) (by decide) (by decide) (by decide) (by decide) (by have := HH.out.keep.size; have := HP1.out; omega) hk11
     have hF11k := HF10k.out.then hk11 fun i hi e => by have := HP1.out; unfold Only at e; omega
     obtain ⟨w11, hw11⟩ : ∃ V : World, V = w10.setCell ⟨p1, 1, none⟩ (.slice A10 n10 c10) := ⟨_, rfl⟩
     rw [← hw11] at hB11 hF11 hF11k ⊢
     clear hw11 hk11 hB10 z10 f10 HF10
     have x0 : w11.cell? ⟨p1, 0, none⟩ = some (.int .u64 (pool : Int)) := hB11.cell 0
     have x1 : w11.cell? ⟨p1, 1, none⟩ = some (.slice A10 n10 c10) := hB11.cell 1
     have x2 : w11.cell? ⟨p1, 2, none⟩ = some (.int .i64 0) := hB11.cell 2
     have x3 : w11.cell? ⟨p1, 3, none⟩ = some (.int .i64 (pl : Int)) := hB11.cell 3
     go_wp2_with fail
     go_ret2
     have hsz := hF11k.size
     exact ⟨_, _, rfl, ⟨hF11.non ((Keeps.refl Non w11).alloc _), hF11k.non ((Keeps.refl Non w11).alloc _)⟩, hsz, Blk.new _ _ _, rfl, rfl⟩
end Go.Proofs.YtolknnmaadkgiaaGreatDoor
namespace Go.Proofs.YtolknnmaadkgiaaGreatDoor
set_option maxRecDepth 100000
open Go.RowKit Go.Uc Go.Shelf
def Ld (w : World) (lf q j : Nat) : Prop := ∃ cs, Blk w lf 216 cs ∧ cs[0]? = some (.pointer (some ⟨q, 0, none⟩)) ∧ cs[1]? = some (.int .i64 (j : Int))
theorem Ld.non {w w' : World} {lf q j : Nat} (h : Ld w lf q j) (hk : Keeps Non w w') : Ld w' lf q j := h.imp fun _ i => ⟨i.1.non hk, i.2⟩
section
variable {w0 w w' : World} {q m n : Nat} {dv : Sl} {D : Nat → Nat} {V : Nat → Sl}
theorem dg_sectors (h : Dg w0 w q dv m n D V) {j : Nat} (hj : j < m) : Calls Tryz.prog 108 #[.pointer (some ⟨q, 0, none⟩), .int .i64 (j : Int)] w fun e w' => e = .returned (.int .i64 (n : Int)) ∧ w' = w := by
 obtain ⟨Q, e1, e2, e3, e4, hd⟩ := h.dd hj
 have := sectors62_any hd
 rw [e1, e3] at this
 exact this
set_option maxHeartbeats 2000000 in
theorem dg_size (h : Dg w0 w q dv m n D V) {j lf : Nat} (hj : j < m) (hl : Ld w lf q j) (h1 : 292 ≤ n) (h2 : n ≤ 8192) : Calls Tryz.prog 177 #[.pointer (some ⟨lf, 0, none⟩)] w fun e w' => e = .returned (.int .i64 ((n - 292 : Nat) : Int)) ∧ Keeps Non w w' := by
 have HS := Lib.hid (fun k => dg_sectors (h.non ((Keeps.refl Non w).drewN k)) hj)
 obtain ⟨cs, hB, h3, h4⟩ := hl
 have c0 : w.cell? ⟨lf, 0, none⟩ = some (.pointer (some ⟨q, 0, none⟩)) := by rw [hB.cell]; exact h3
 have c1 : w.cell? ⟨lf, 1, none⟩ = some (.int .i64 (j : Int)) := by rw [hB.cell]; exact h4
 rw [show ((n - 292 : Nat) : Int) = (n : Int) - 292 by omega]
 clear h hB h3 h4
 go_enter Tryz.func177, Tryz.ntmps177
 go_upto_region 1 with fail
 go_quiet ((go_at_call 108; exact Calls.quiet_of_same (HS.out _)))
 go_wp2_with fail
 go_ret
 exact ⟨rfl, (Keeps.refl Non w).drewN nq⟩
set_option maxHeartbeats 4000000 in
theorem alike157 (h : Dg w0 w q dv m n D V) {fb l : Nat} {L : List (Option Nat)} {lf ix : Nat → Nat} (hl1 : 1 ≤ l) (hl5 : l ≤ 5) (hR : RowP w 151 1 encO (.slice (some ⟨fb, 0, none⟩) l l) L) (hL : ∀ i, i < l → L[i]? = some (some (lf i)) ∧ ix i < m ∧ Ld w (lf i) q (ix i)) (h1 : 292 ≤ n) (h2 : n ≤ 8192) :
   Calls Tryz.prog 157 #[.slice (some ⟨fb, 0, none⟩) l l] w fun e w' => e = .returned (.tuple #[.int .i64 ((n - 292 : Nat) : Int), .int .i64 (l : Int)]) ∧ Keeps Non w w' := by
 have HC : Hid (∀ V, Keeps Non w V → ∀ i, i < l → V.cell? ⟨fb, i, none⟩ = some (.pointer (some ⟨lf i, 0, none⟩))) := Lib.hid (fun V hV i hi => row_cellAt (s := ⟨some ⟨fb, 0, none⟩, l, l⟩) encO_len (hR.non hV) rfl (hL i hi).1)
 have HS := Lib.hid (fun W (hW : Keeps Non w W) i (hi : i < l) => dg_size (h.non hW) (hL i hi).2.1 ((hL i hi).2.2.non hW) h1 h2)
 obtain ⟨sz, hsz⟩ : ∃ z, z = n - 292 := ⟨_, rfl⟩
 rw [← hsz] at HS ⊢
 have hs2 : sz ≤ 8192 := by omega
 clear h hR hL hsz
 go_enter Tryz.func157, Tryz.ntmps157
 go_upto_region 4 with fail
 go_loopw [4, 5, 6] (fun a b i wr => ∃ k : Nat, k ≤ l ∧ i = .int .i64 (k : Int) ∧ b = .int .i64 (k : Int) ∧ a = .int .i64 ((if k = 0 then 0 else sz : Nat) : Int) ∧ Keeps Non w wr) (fun _ _ i _ => l - (intOf i).toNat)
 case atStart => exact ⟨0, Nat.zero_le _, rfl, rfl, rfl, Keeps.refl _ _⟩
 case round =>
   obtain ⟨k, hk, rfl, rfl, rfl, hK⟩ := hrel
   obtain ⟨wx, rfl⟩ : ∃ W : World, W = wr := ⟨_, rfl⟩
   have HK := Lib.hid hK
   clear hK
   by_cases hkl : k < l
   · have hki : (k : Int) < (l : Int) := by omega
     have c0 := HC.out wx HK.out k hkl
     by_cases hk0 : k = 0
     · subst hk0
       rw [if_pos rfl]
       have HS1 := Lib.hid (HS.out wx HK.out 0 hkl)
       rw [show ((0 : Nat) : Int) = 0 from rfl] at *
       go_wp2_with (go_at_call 177; go_must (refine HS1.out.mono ?_); rintro e w5 ⟨rfl, hK5⟩)
       go_roundw
       case rel => exact ⟨1, by omega, by go_num, by go_num, by rw [if_neg (by decide)], HK.out.non hK5⟩
       case measure => simp [intOf]; omega
     · rw [if_neg hk0]
       have h0k : (0 : Int) < (k : Int) := by omega
       have HS1 := Lib.hid (HS.out wx HK.out k hkl)
       go_upto_region 9 with (go_at_call 177; go_must (refine HS1.out.mono ?_); rintro e w5 ⟨rfl, hK5⟩)
       have hK6 := HK.out.non hK5
       have c1 := HC.out w5 hK6 k hkl
       have HS2 := Lib.hid (HS.out w5 hK6 k hkl)
       clear HS1
       go_wp2_with (go_at_call 177; go_must (refine HS2.out.mono ?_); rintro e w7 ⟨rfl, hK7⟩)
       go_roundw
       case rel => exact ⟨k + 1, by omega, by go_num, by go_num, by rw [if_neg (by omega)], hK6.non hK7⟩
       case measure => simp [intOf]; omega
   · obtain rfl : k = l := by omega
     rw [if_neg (by omega)]
     go_wp2_with fail
     go_ret2
     exact ⟨rfl, HK.out⟩
end
end Go.Proofs.YtolknnmaadkgiaaGreatDoor
namespace Go.Proofs.YtolknnmaadkgiaaGreatDoor
set_option maxRecDepth 100000
open Go.RowKit Go.Uc Go.Shelf
def nol (k : Nat) : Array Value := ((List.replicate k ([.int .u64 0, .int .u64 0, .bool false] : List Value)).flatMap id).toArray
theorem make278 (k : Nat) (h1 : 1 ≤ k) (h5 : k ≤ 5) (W : World) : (Instr.makeSlice 278 (.int .i64 (k : Int)) (.int .i64 (k : Int))).run Tryz.prog W = .ok (.slice (some ⟨W.heap.size, 0, none⟩) k k) (W.alloc (.cells (nol k) 324)) := by
 rcases (by omega : k = 1 ∨ k = 2 ∨ k = 3 ∨ k = 4 ∨ k = 5) with rfl | rfl | rfl | rfl | rfl <;> kernel_rfl
theorem info151 : (Tryz.prog.info? 151).map (fun i => (i.zero, i.size, i.bytes)) = some (some (.pointer none), 1, 8) := by kernel_rfl
theorem info217 : (Tryz.prog.info? 217).map (fun i => (i.zero, i.size, i.bytes)) = some (some (.pointer none), 1, 8) := by kernel_rfl
theorem ats_row {α : Type} {w : World} {e : TypeId} {kk g l c : Nat} {enc : α → List Value} {xs : List α} (henc : ∀ x, (enc x).length = kk) (h : RowP w e kk enc (.slice (some ⟨g, 0, none⟩) l c) xs) : Ats w (some ⟨g, 0, none⟩) (xs.flatMap enc) := by
 rcases h.form with ⟨e1, -⟩ | ⟨g', cap, cur, e1, hB, h4, h5, h6, h7⟩
 · injection e1 with e1 _ _; cases e1
 · injection e1 with e1 _ _
   injection e1 with e1
   injection e1 with e1
   subst e1
   intro _
   refine ⟨_, rfl, fun j u hj => ?_⟩
   rw [addr_add_none, Nat.zero_add, hB.cell]
   have := congrArg (fun l => l[j]?) h7
   simp only [List.getElem?_take] at this
   have hjl : j < (xs.flatMap enc).length := by
     rcases Nat.lt_or_ge j (xs.flatMap enc).length with h | h
     · exact h
     · rw [List.getElem?_eq_none h] at hj; cases hj
   rw [flat_len henc] at hjl
   rw [if_pos (by first | omega | (rw [Nat.mul_comm]; omega))] at this
   rw [← hj, ← this]
   simp
section
variable {w0 w w' : World} {q m n : Nat} {dv : Sl} {D : Nat → Nat} {V : Nat → Sl}
set_option maxHeartbeats 4000000 in
theorem new113 (h : Dg w0 w q dv m n D V) {fb l : Nat} {L : List (Option Nat)} {lf ix : Nat → Nat} (hl1 : 1 ≤ l) (hl5 : l ≤ 5) (hll : L.length = l) (hR : RowP w 151 1 encO (.slice (some ⟨fb, 0, none⟩) l l) L) (hL : ∀ i, i < l → L[i]? = some (some (lf i)) ∧ ix i < m ∧ Ld w (lf i) q (ix i)) (h1 : 292 ≤ n) (h2 : n ≤ 8192) :
   Calls Tryz.prog 113 #[.slice (some ⟨fb, 0, none⟩) l l] w fun e w' => ∃ t, e = .returned (.tuple #[.pointer (some ⟨t, 0, none⟩), .int .i64 0]) ∧ Keeps Non w w' := by
 have HA := Lib.hid (alike157 h hl1 hl5 hR hL h1 h2)
 have hmk := (Lib.hid (make278 l hl1 hl5)).out
 have HAt : Hid (∀ W, Keeps Non w W → Ats W (some ⟨fb, 0, none⟩) (L.flatMap encO)) := Lib.hid (fun W hW => ats_row encO_len (hR.non hW))
 have HBb : Hid (([] : List (Option Nat)).length + L.length ≤ maxLen ∧ (([] : List (Option Nat)).length + L.length) * 8 ≤ 140737488355328) := Lib.hid ⟨by unfold maxLen; simp; omega, by simp; omega⟩
 obtain ⟨sz, hsz⟩ : ∃ z, z = n - 292 := ⟨_, rfl⟩
 rw [← hsz] at HA
 have hs2 : sz ≤ 8192 := by omega
 have d1 : decide ((l : Int) < 1) = false := decide_eq_false (by omega)
 have d2 : decide ((5 : Int) < (l : Int)) = false := decide_eq_false (by omega)
 have d3 : ((l : Int) == 0) = false := beq_eq_false_iff_ne.2 (by omega)
 have HLl := Lib.hid hll
 have d4 : decide ((sz : Int) < 0) = false := decide_eq_false (by omega)
 clear h hR hL hsz hll
 go_enter Tryz.func113, Tryz.ntmps113
 go_upto_region 2 with (go_at_call 157; go_must (refine HA.out.mono ?_); rintro e w3 ⟨rfl, hK3⟩)
 have HAt3 : Hid (∀ W, Keeps Non w3 W → Ats W (some ⟨fb, 0, none⟩) (L.flatMap encO)) := Lib.hid (fun W hW => HAt.out W (hK3.non hW))
 clear HAt
 have HK3 := Lib.hid hK3
 clear hK3 HA
 go_upto_region 4 with fail
 refine wp_tame ?_
 go_region_law (first
   | ((with_reducible show (if Region.wanted ({ dst := some 28, op := _, type := _, pos := _, after := _, guard := _ } : Oper) _ = true then _ else _)); go_must (refine step_append_row (o := ⟨some 28, _, _, _, _, _⟩) rfl (.const (.slice none 0 0)) (.tmp 27) 154 rfl 151 1 encO (.pointer none) 8 Tryz.underlying154 info151 rfl (by decide) encO_len encO_one (.slice none 0 0) [] rfl (RowP.nil _ _ _ _) (some ⟨fb, 0, none⟩) l l L rfl HLl.out.symm (HAt3.out _ (by first | exact (Keeps.refl Non w3).drew | exact ((Keeps.refl Non w3).drew).alloc _ | exact Keeps.refl _ _ | exact (Keeps.refl Non w3).alloc _)) HBb.out.1 HBb.out.2 ?_); intro u8 w8 hO8 hK8 hat; obtain ⟨⟨A8, n8, c8⟩, rfl, h8⟩ := RowP.sl hO8; have hK8n : Keeps Non _ w8 := hK8.mono fun k e => (List.not_mem_nil e).elim))
 all_goals
   go_wp2_with fail
   go_ret2
   refine ⟨⟨_, rfl⟩, ?_⟩
   first
   | exact ((HK3.out.drew.non hK8n).alloc _).alloc _
   | exact (((HK3.out.alloc _).drew).non hK8n).alloc _
end
end Go.Proofs.YtolknnmaadkgiaaGreatDoor
namespace Go.Proofs.YtolknnmaadkgiaaGreatDoor
set_option maxRecDepth 100000
open Go.RowKit Go.Uc Go.Shelf
section
variable {w0 w w' : World} {q m n : Nat} {dv : Sl} {D : Nat → Nat} {V : Nat → Sl}
set_option maxHeartbeats 8000000 in
theorem built65 (h : Dg w0 w q dv m n D V) {u pool mb mc lb lc fb l : Nat} {dks lg : Value} {L : List (Option Nat)} {lf ix : Nat → Nat} (hl1 : 1 ≤ l) (hl5 : l ≤ 5) (hll : L.length = l) (hR : RowP w 151 1 encO (.slice (some ⟨fb, 0, none⟩) l l) L) (hL : ∀ i, i < l → L[i]? = some (some (lf i)) ∧ ix i < m ∧ Ld w (lf i) q (ix i)) (h1 : 292 ≤ n) (h2 : n ≤ 8192)
   (hB : Blk w u 150 #[.pointer (some ⟨q, 0, none⟩), .int .u64 (pool : Int), .slice (some ⟨mb, 0, none⟩) 1 mc, .slice none 0 0, .slice (some ⟨lb, 0, none⟩) 1 lc, dks, lg]) (hm0 : w.cell? ⟨mb, 0, none⟩ = some (.int .i64 2)) (hl0 : w.cell? ⟨lb, 0, none⟩ = some (.slice (some ⟨fb, 0, none⟩) l l)) :
   Calls Tryz.prog 65 #[.pointer (some ⟨u, 0, none⟩)] w fun e w' => e = .returned (.bool true) ∧ Keeps (Only u) w w' := by
 have HN := Lib.hid (fun W (hW : Keeps Non w W) => new113 (h.non hW) hl1 hl5 hll (hR.non hW) (fun i hi => ⟨(hL i hi).1, (hL i hi).2.1, (hL i hi).2.2.non hW⟩) h1 h2)
 have HB := Lib.hid hB
 have HM := Lib.hid (And.intro hm0 hl0)
 clear h hR hL hB hm0 hl0
 go_enter Tryz.func65, Tryz.ntmps65
 go_upto_region 2 with fail
 go_loopw [3] (fun i wr => ∃ (j : Nat) (t : Sl), j ≤ 1 ∧ i = .int .i64 (j : Int) ∧ (j = 0 → wr = w ∧ t = ⟨none, 0, 0⟩) ∧ Blk wr u 150 #[.pointer (some ⟨q, 0, none⟩), .int .u64 (pool : Int), .slice (some ⟨mb, 0, none⟩) 1 mc, t.v, .slice (some ⟨lb, 0, none⟩) 1 lc, dks, lg] ∧ Keeps (Only u) w wr) (fun i _ => 1 - (intOf i).toNat)
 case atStart => exact ⟨0, ⟨none, 0, 0⟩, by omega, rfl, fun _ => ⟨rfl, rfl⟩, HB.out, Keeps.refl _ _⟩
 case round =>
   obtain ⟨j, t, hj, rfl, h0', hBx, hKx⟩ := hrel
   by_cases hj0 : j = 0
   · obtain ⟨rfl, rfl⟩ := h0' hj0
     subst hj0
     rw [show ((0 : Nat) : Int) = 0 from rfl]
     clear h0' hKx
     obtain ⟨wz, rfl⟩ : ∃ V : World, V = wr := ⟨_, rfl⟩
     have hx := Blk.new wz 221 #[.pointer none, .pointer none]
     have ka := (Keeps.refl Non wz).alloc (.cells #[.pointer none, .pointer none] 221)
     have c2 : wz.cell? ⟨u, 2, none⟩ = some (.slice (some ⟨mb, 0, none⟩) 1 mc) := hBx.cell 2
     go_upto_region 5 with fail
     obtain ⟨w1, hw1⟩ : ∃ V : World, V = wz.alloc (.cells #[.pointer none, .pointer none] 221) := ⟨_, rfl⟩
     rw [← hw1] at hx ka ⊢
     clear hw1
     obtain ⟨x, hxx⟩ : ∃ z, z = wz.heap.size := ⟨_, rfl⟩
     rw [← hxx] at hx ⊢
     have HX := Lib.hid hxx
     clear hxx c2
     have hB1 := hBx.non ka
     have c2 : w1.cell? ⟨u, 2, none⟩ = some (.slice (some ⟨mb, 0, none⟩) 1 mc) := hB1.cell 2
     have c4 : w1.cell? ⟨u, 4, none⟩ = some (.slice (some ⟨lb, 0, none⟩) 1 lc) := hB1.cell 4
     have m0 := ka.cell HM.out.1 id
     have l0 := ka.cell HM.out.2 id
     have HN1 := Lib.hid (HN.out w1 ka)
     have hux : u ≠ x := hB1.ne hx (by decide)
     clear hBx
     go_upto_region 11 with (go_at_call 113; go_must (refine HN1.out.mono ?_); rintro e w4 ⟨tt, rfl, hK4⟩; have hx4 := hx.non hK4; have z0 := hx4.cell 0; have f0 := hx4.frozen 0)
     have kx : Keeps (Only x) w4 (w4.setCell ⟨x, 0, none⟩ (.pointer (some ⟨tt, 0, none⟩))) := (Keeps.refl (Only x) w4).set (p := ⟨x, 0, none⟩) rfl _
     have hB5 := (hB1.non hK4).one kx hux
     obtain ⟨w5, hw5⟩ : ∃ V : World, V = w4.setCell ⟨x, 0, none⟩ (.pointer (some ⟨tt, 0, none⟩)) := ⟨_, rfl⟩
     rw [← hw5] at kx hB5 ⊢
     clear hw5
     have hxz := HX.out
     have hk5 : Keeps Non wz w5 := (ka.non hK4).then kx fun i hi e => by unfold Only at e; omega
     clear hx hx4 z0 f0 m0 l0 c2 c4 HN1 kx hK4 hB1 hxz
     have x3 : w5.cell? ⟨u, 3, none⟩ = some (.slice none 0 0) := hB5.cell 3
     have k6 : Keeps Non w5 (w5.alloc (.cells #[.pointer (some ⟨x, 0, none⟩)] 217)) := (Keeps.refl Non w5).alloc _
     have HB6 := Lib.hid (hB5.non k6)
     have HAt := Lib.hid (Ats.lit w5 #[.pointer (some ⟨x, 0, none⟩)] 217 (([some x] : List (Option Nat)).flatMap encO) rfl)
     have HBb : Hid (([] : List (Option Nat)).length + ([some x] : List (Option Nat)).length ≤ maxLen ∧ (([] : List (Option Nat)).length + ([some x] : List (Option Nat)).length) * 8 ≤ 140737488355328) := Lib.hid ⟨by simp [maxLen], by simp⟩
     have HK6 := Lib.hid (hk5.non k6)
     clear hB5 k6 hk5
     go_wp2_with (at_builtin; go_must (refine wpList_append_row rfl (.tmp 72) (.tmp 74) 146 rfl 217 1 encO (.pointer none) 8 Tryz.underlying146 info217 rfl (by decide) encO_len encO_one (.slice none 0 0) [] rfl (RowP.nil _ _ _ _) (some ⟨w5.heap.size, 0, none⟩) 1 1 [some x] rfl rfl HAt.out HBb.out.1 HBb.out.2 ?_); intro v8 w8 hO8 hK8 hat; obtain ⟨⟨A8, n8, c8⟩, rfl, h8⟩ := RowP.sl hO8; have hK8n : Keeps Non _ w8 := hK8.mono fun k e => (List.not_mem_nil e).elim; have hB8 := HB6.out.non hK8n; have z8 := hB8.cell 3; have f8 := hB8.frozen 3)
     have hB9 := hB8.set 3 (.slice A8 n8 c8)
     have hk9 : Keeps (Only u) w8 (w8.setCell ⟨u, 3, none⟩ (.slice A8 n8 c8)) := (Keeps.refl (Only u) w8).set (p := ⟨u, 3, none⟩) rfl _
     have hkz := (HK6.out.non hK8n).of_non.trans hk9
     go_roundw
     case rel => exact ⟨1, ⟨A8, n8, c8⟩, by omega, by go_num, fun e => by omega, hB9, hkz⟩
     case measure => simp [intOf]
   · obtain rfl : j = 1 := by omega
     clear h0'
     have c2 : wr.cell? ⟨u, 2, none⟩ = some (.slice (some ⟨mb, 0, none⟩) 1 mc) := hBx.cell 2
     go_wp2_with fail
     go_ret
     exact ⟨rfl, hKx⟩
end
end Go.Proofs.YtolknnmaadkgiaaGreatDoor
