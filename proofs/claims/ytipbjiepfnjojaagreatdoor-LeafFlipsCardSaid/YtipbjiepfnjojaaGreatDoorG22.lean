/- The document's Format, walked. Program and document beside one another. A leaf on both sides, begun. -/
import Derived.Test.YtipbjiepfnjojaaGreatDoorG21
namespace Go.Proofs.YtipbjiepfnjojaaGreatDoor
set_option maxRecDepth 100000
open Go.RowKit Go.Uc

theorem Byt.bq {w0 w : World} {v : Value} {j : Nat} (h : Byt w0 w v j) (hj : 0 < j) : ∃ g c bs, v = .slice (some ⟨g, 0, none⟩) j c ∧ bs.length = j ∧ j ≤ c ∧ Bq w g bs ∧ Keeps Non w0 w := by
  obtain ⟨bs, rfl, hO, hK⟩ := h
  obtain ⟨A, c, rfl, hc, hA, -⟩ := OwnB.open hO
  rcases hO.form with ⟨-, rfl⟩ | ⟨g, cap, cur, e, -, hB, -⟩
  · simp at hj
  · injection e with e1 e2 e3
    subst e1 e3
    exact ⟨g, c, bs, rfl, rfl, hc, ⟨hA, cur, hB⟩, hK⟩
theorem Dd.far {w0 w w' : World} {Q : Qb} {n : Nat} {pv wv : Sl} (h : Dd w0 w Q n pv wv) {g t : Nat} {cs : Array Value} (hB : Blk w g t cs) (a : t ≠ 129) (b : t ≠ 130) (c : t ≠ 133) (d : t ≠ 55) (e : t ≠ 178) (hg : w0.heap.size ≤ g) (hk : Keeps (Only g) w w') : Dd w0 w' Q n pv wv := by
  obtain ⟨z0, hp⟩ := h.pw
  obtain ⟨cs, hd, hc0, hdc⟩ := h.ds
  obtain ⟨P, hP, hpn, hPn⟩ := h.pl
  obtain ⟨M, hM, hwl, hMa⟩ := h.wt
  exact ⟨⟨z0, hp.one hk (hp.ne hB (Ne.symm a))⟩, ⟨cs, hd.one hk (hd.ne hB (Ne.symm b)), hc0, hdc⟩, h.dk.one hk (h.dk.ne hB (Ne.symm c)), ⟨P, hP.keep hk fun q hq e => own_type hP hB d (by unfold Only at e; rw [← e]; exact hq), hpn, hPn⟩, ⟨M, hM.keep hk fun q hq e' => own_type hM hB e (by unfold Only at e'; rw [← e']; exact hq), hwl, hMa⟩, h.new, h.keep.then hk fun i hi e => by unfold Only at e; omega⟩
theorem FmR.far {w0 w wr w' : World} {Q : Qb} {n : Nat} {pv : Sl} {k : Nat} (h : FmR w0 w Q n pv k wr) {g t : Nat} {cs : Array Value} (hB : Blk wr g t cs) (a : t ≠ 129) (b : t ≠ 130) (c : t ≠ 133) (d : t ≠ 55) (e : t ≠ 178) (hz : w0.heap.size ≤ w.heap.size) (hg : w.heap.size ≤ g) (hk : Keeps (Only g) wr w') : FmR w0 w Q n pv k w' := by
  obtain ⟨wv, hD, hw, ho, hK⟩ := h
  exact ⟨wv, hD.far hB a b c d e (by omega) hk, hw, ho, hK.then hk fun i hi e => by unfold Only at e; omega⟩
def labC (pool tb tc : Nat) : Array Value := #[.int .u64 (pool : Int), .slice (some ⟨tb, 0, none⟩) 1 tc, .int .i64 0, .int .i64 0]
def plcC (n : Nat) : Array Value := #[.int .i64 0, .int .i64 9, .int .i64 ((n - 18 : Nat) : Int), .int .i64 ((n - 9 : Nat) : Int)]
structure FmS (w0 w : World) (Q : Qb) (n : Nat) (pv : Sl) (pool tb tc p1 lb p11 : Nat) (X : List UInt8) (k : Nat) (wr : World) : Prop where
  f : FmR w0 w Q n pv (292 + k) wr
  b : Blk wr p1 32 (labC pool tb tc)
  t : Tb wr tb n
  q : Bq wr lb X
  a : Blk wr p11 86 (plcC n)
set_option maxHeartbeats 8000000 in
theorem format27_one {w0 w : World} {Q : Qb} {n : Nat} {pv : Sl} (h : Dd w0 w Q n pv ⟨none, 0, 0⟩) (h1 : 324 ≤ n) (h2 : n ≤ 8192) (pool tb tc : Nat) (hT : Tb w tb n) (htc : 1 ≤ tc) (hp : pool < 18446744073709551616) :
    Calls Tryz.prog 27 #[.pointer (some ⟨Q.q, 0, none⟩), .int .i64 0, .agg #[.int .u64 (pool : Int), .slice (some ⟨tb, 0, none⟩) 1 tc, .int .i64 0, .int .i64 0]] w fun e w' => ∃ lf, e = .returned (.tuple #[.pointer (some ⟨lf, 0, none⟩), .int .i64 0]) ∧ FmR w0 w Q n pv 0 w' := by
  have hF0 : FmR w0 w Q n pv 0 w := ⟨⟨none, 0, 0⟩, h, rfl, fun g hg => (List.not_mem_nil hg).elim, Keeps.refl _ _⟩
  have HW := Lib.hid (fun V k p m g c M bs (hV : FmR w0 w Q n pv k V) (hk : k ≤ 300) (hM : M = 128 * m) (hbl : bs.length = 128 * m) (hb : Bq V g bs) (hc : M ≤ c) (hpm : p + m ≤ n) (hm : m ≤ 300) => fmr_write hV h2 hk p m g c M bs hM hbl hb hc hpm hm)
  have hB := Blk.new w 32 #[.int .u64 (pool : Int), .slice (some ⟨tb, 0, none⟩) 1 tc, .int .i64 0, .int .i64 0]
  have hk := (Keeps.refl Non w).alloc (.cells #[.int .u64 (pool : Int), .slice (some ⟨tb, 0, none⟩) 1 tc, .int .i64 0, .int .i64 0] 32)
  go_enter Tryz.func27, Tryz.ntmps27
  go_upto_region 1 with fail
  obtain ⟨w1, hw1⟩ : ∃ V : World, V = w.alloc (.cells #[.int .u64 (pool : Int), .slice (some ⟨tb, 0, none⟩) 1 tc, .int .i64 0, .int .i64 0] 32) := ⟨_, rfl⟩
  rw [← hw1] at hB hk ⊢
  clear hw1
  obtain ⟨p1, hp1⟩ : ∃ z, z = w.heap.size := ⟨_, rfl⟩
  rw [← hp1] at hB ⊢
  have HP1 := Lib.hid (Nat.le_of_eq hp1.symm)
  clear hp1
  have hT1 := hT.non hk
  have hF1 := hF0.non hk
  have HH := Lib.hid h
  clear h hF0 hT hk
  have x0 : w1.cell? ⟨p1, 0, none⟩ = some (.int .u64 (pool : Int)) := hB.cell 0
  have x1 : w1.cell? ⟨p1, 1, none⟩ = some (.slice (some ⟨tb, 0, none⟩) 1 tc) := hB.cell 1
  have x2 : w1.cell? ⟨p1, 2, none⟩ = some (.int .i64 0) := hB.cell 2
  have x3 : w1.cell? ⟨p1, 3, none⟩ = some (.int .i64 0) := hB.cell 3
  have HE := Lib.hid (encodeLabel61_one pool tb tc n hT1 h1 h2 htc hp)
  go_upto_region 2 with (go_at_call 61; go_must (refine HE.out.mono ?_); rintro e w2 ⟨v2, rfl, hb2⟩; obtain ⟨lb, lc, X, rfl, hX, hlc, hq2, hK2⟩ := hb2.bq (by decide))
  clear x0 x1 x2 x3 HE hb2
  have hB2 := hB.non hK2
  have hT2 := hT1.non hK2
  have hF2 := hF1.non hK2
  have HX := Lib.hid hX
  clear hB hT1 hF1 hK2 hX
  have HS := Lib.hid (show Calls Tryz.prog 62 #[.pointer (some ⟨Q.q, 0, none⟩), .int .i64 0] w2 fun e w' => e = .returned (.int .i64 (n : Int)) ∧ w' = w2 by obtain ⟨wv, hD, -⟩ := hF2; exact sectors62_any hD)
  have x1 : w2.cell? ⟨p1, 1, none⟩ = some (.slice (some ⟨tb, 0, none⟩) 1 tc) := hB2.cell 1
  have x2 : w2.cell? ⟨p1, 2, none⟩ = some (.int .i64 0) := hB2.cell 2
  obtain ⟨-, -, y2⟩ := hT2.cells
  go_upto_region 7 with (go_at_call 62; go_must (refine HS.out.mono ?_); rintro e w9 ⟨rfl, hw9⟩; subst w9)
  clear x1 x2 y2 HS
  go_upto_region 8 with (first | (at_make; go_must (refine wpList_make_bytes rfl (.const (.int .i64 35072)) (.const (.int .i64 35072)) 55 rfl 5 Tryz.underlying55 info5 .i64 .i64 _ _ 35072 rfl rfl (by omega) (by omega) (by omega) ?_); intro w3 hB3 hK3; have HC3 := Lib.hid (HW.out w3 0 0 274 w2.heap.size 35072 35072 (zeros 35072) (hF2.non hK3) (by decide) rfl (zeros_length _) ⟨At.blk hB3, _, hB3⟩ (by decide) (by omega) (by decide))) | (go_at_call 63; go_must (refine HC3.out.mono ?_); rintro e w4 ⟨rfl, hF4, hK4⟩))
  have hB4 := (hF2.non hK3).stay hK4 (hB2.non hK3) (by decide) (by decide) (by decide) (by decide)
  have hT4 := (hF2.non hK3).tb hK4 (hT2.non hK3)
  have hq4 := (hF2.non hK3).bq hK4 ⟨hq2.1.non hK3, hq2.2.imp fun _ i => i.non hK3⟩
  clear hF2 hB2 hT2 hq2 hB3 hK3 hK4 HC3
  obtain ⟨p9, hp9⟩ : ∃ p9 : Nat, p9 = n - 18 := ⟨_, rfl⟩
  have hp9i : ((n : Int) - 18) = (p9 : Int) := by omega
  have hp9n : p9 + 18 ≤ n := by omega
  have HP9 := Lib.hid hp9
  clear hp9
  have HQ9 := Lib.hid hp9i
  clear hp9i
  go_upto_region 10 with (first | (at_make; go_must (refine wpList_make_bytes rfl (.const (.int .i64 2304)) (.const (.int .i64 2304)) 55 rfl 5 Tryz.underlying55 info5 .i64 .i64 _ _ 2304 rfl rfl (by omega) (by omega) (by omega) ?_); intro w5 hB5 hK5; rw [HQ9.out]; have HC5 := Lib.hid (HW.out w5 274 p9 18 w4.heap.size 2304 2304 (zeros 2304) (hF4.non hK5) (by decide) rfl (zeros_length _) ⟨At.blk hB5, _, hB5⟩ (by decide) hp9n (by decide))) | (go_at_call 63; go_must (refine HC5.out.mono ?_); rintro e w6 ⟨rfl, hF6, hK6⟩))
  have hB6 := (hF4.non hK5).stay hK6 (hB4.non hK5) (by decide) (by decide) (by decide) (by decide)
  have hT6 := (hF4.non hK5).tb hK6 (hT4.non hK5)
  have hq6 := (hF4.non hK5).bq hK6 ⟨hq4.1.non hK5, hq4.2.imp fun _ i => i.non hK5⟩
  clear hF4 hB4 hT4 hq4 hB5 hK5 hK6 HC5
  have HP := Lib.hid (places64_any w6 n h1 h2)
  go_upto_region 11 with (go_at_call 64; go_must (refine HP.out.mono ?_); rintro e w7 ⟨rfl, hK7⟩)
  have hBp := Blk.new w7 86 (plcC n)
  have hkp := (Keeps.refl Non w7).alloc (.cells (plcC n) 86)
  have hF7 := hF6.non (hK7.non hkp)
  have hB7 := hB6.non (hK7.non hkp)
  have hT7 := hT6.non (hK7.non hkp)
  have hq7 : Bq (w7.alloc (.cells (plcC n) 86)) lb X := ⟨hq6.1.non (hK7.non hkp), hq6.2.imp fun _ i => i.non (hK7.non hkp)⟩
  obtain ⟨p11, hp11⟩ : ∃ z, z = w7.heap.size := ⟨_, rfl⟩
  have HS0 : Hid (FmS w0 w Q n pv pool tb tc p1 lb p11 X 0 (w7.alloc (.cells (plcC n) 86))) := Lib.hid ⟨hF7, hB7, hT7, hq7, by rw [hp11]; exact hBp⟩
  rw [← hp11]
  clear hBp hkp hF7 hB7 hT7 hq7 hp11 hF6 hB6 hT6 hq6 HP
  obtain ⟨w8, hw8⟩ : ∃ V : World, V = w7.alloc (.cells (plcC n) 86) := ⟨_, rfl⟩
  rw [← hw8] at HS0
  have hw8' : w7.alloc (.cells #[.int .i64 0, .int .i64 9, .int .i64 ((n - 18 : Nat) : Int), .int .i64 ((n - 9 : Nat) : Int)] 86) = w8 := hw8.symm
  rw [hw8']
  clear hw8 hw8' hK7
  go_upto_region 12 with fail
  go_loopw [9, 12] (fun e i wr => ∃ k : Nat, k ≤ 4 ∧ e = .int .i64 0 ∧ i = .int .i64 (k : Int) ∧ FmS w0 w Q n pv pool tb tc p1 lb p11 X k wr) (fun _ i _ => 4 - (intOf i).toNat)
  case atStart => exact ⟨0, by omega, rfl, rfl, HS0.out⟩
  case round =>
    obtain ⟨k, hk, rfl, rfl, hS⟩ := hrel
    obtain ⟨wx, rfl⟩ : ∃ W : World, W = wr := ⟨_, rfl⟩
    obtain ⟨hF, hBx, hTx, hqx, hAx⟩ := hS
    by_cases hlt : k < 4
    · have hki : (k : Int) < 4 := by omega
      have c0 : wx.cell? ⟨p11, k, none⟩ = some (.int .i64 (plc n k : Int)) := by
        rw [hAx.cell]
        exact placesAgg n k hlt
      have hpl : plc n k + 1 ≤ n := by
        match k, hlt with
        | 0, _ => show 0 + 1 ≤ n; omega
        | 1, _ => show 9 + 1 ≤ n; omega
        | 2, _ => show n - 18 + 1 ≤ n; omega
        | 3, _ => show n - 9 + 1 ≤ n; omega
      have HC := Lib.hid (HW.out wx (292 + k) (plc n k) 1 lb lc 128 X hF (by omega) rfl HX.out hqx hlc hpl (by decide))
      have HSx : Hid (∀ V, FmR w0 w Q n pv (292 + k + 1) V → Keeps (fun i => Fd Q pv ⟨none, 0, 0⟩ i ∨ ∃ cs, Blk wx i 178 cs) wx V → FmS w0 w Q n pv pool tb tc p1 lb p11 X (k + 1) V) := Lib.hid (fun V hV hK => ⟨hV, hF.stay hK hBx (by decide) (by decide) (by decide) (by decide), hF.tb hK hTx, hF.bq hK hqx, hF.stay hK hAx (by decide) (by decide) (by decide) (by decide)⟩)
      generalize plc n k = pk at c0 HC hpl
      clear hF hBx hTx hqx hAx
      go_wp2_with (go_at_call 63; go_must (refine HC.out.mono ?_); rintro e w9 ⟨rfl, hF9, hK9⟩; have HS9 := Lib.hid (HSx.out w9 hF9 hK9); clear hF9 hK9)
      go_roundw
      case rel => exact ⟨k + 1, by omega, rfl, by go_num, HS9.out⟩
      case measure => simp [intOf]; omega
    · obtain rfl : k = 4 := by omega
      clear HS0
      have HFl : Hid (Calls Tryz.prog 65 #[.pointer (some ⟨Q.q, 0, none⟩), .int .i64 0] wx fun e w' => e = .returned (.int .i64 0) ∧ Keeps (fun i => Fd Q pv ⟨none, 0, 0⟩ i ∨ ∃ cs, Blk wx i 178 cs) wx w' ∧ FmR w0 w Q n pv 0 w') := Lib.hid (by
        obtain ⟨wv, hD, hw, ho, hK⟩ := hF
        refine (flush65_any hD (by omega)).mono ?_
        rintro e w' ⟨rfl, hD', hK'⟩
        refine ⟨rfl, hK'.mono fun i e => ?_, ⟨none, 0, 0⟩, hD', rfl, fun g hg => (List.not_mem_nil hg).elim, hK.then hK' fun i hi e => ?_⟩
        · rcases e with e | e | e | e
          · exact .inl (.inl e)
          · exact .inl (.inr (.inl e))
          · exact .inl (.inr (.inr (.inl e)))
          · right
            obtain ⟨M, hM, -⟩ := hD.wt
            rcases hM.form with ⟨e1, -⟩ | ⟨g', cap, cur, e1, hB, -⟩
            · rw [e1] at e; exact (List.not_mem_nil e).elim
            · rw [e1, own_slice, List.mem_singleton] at e
              subst e
              exact ⟨_, hB⟩
        · rcases e with e | e | e | e
          · exact .inl e
          · exact .inr (.inl e)
          · exact .inr (.inr (.inl e))
          · have := ho i e; omega)
      go_upto_region 18 with (go_at_call 65; go_must (refine HFl.out.mono ?_); rintro e w9 ⟨rfl, hK9, hF9⟩)
      have hB9 : Blk w9 p1 32 #[.int .u64 (pool : Int), .slice (some ⟨tb, 0, none⟩) 1 tc, .int .i64 0, .int .i64 0] := hF.stay hK9 hBx (by decide) (by decide) (by decide) (by decide)
      have hT9 := hF.tb hK9 hTx
      clear hF hBx hTx hqx hAx HFl hK9
      have x1 : w9.cell? ⟨p1, 1, none⟩ = some (.slice (some ⟨tb, 0, none⟩) 1 tc) := hB9.cell 1
      have hAt : Ats w9 (some ⟨tb, 0, none⟩) ([(⟨1, 1, n⟩ : Tp)].flatMap encT) := fun _ => ⟨_, rfl, fun j u hj => by
        rw [addr_add_none, Nat.zero_add]
        obtain ⟨y0, y1, y2⟩ := hT9.cells
        match j, hj with
        | 0, hj => simp [encT] at hj; subst hj; exact y0
        | 1, hj => simp [encT] at hj; subst hj; exact y1
        | 2, hj => simp [encT] at hj; subst hj; exact y2⟩
      have HAt := Lib.hid hAt
      have HB1 : Hid (([] : List Tp).length + [(⟨1, 1, n⟩ : Tp)].length ≤ maxLen ∧ (([] : List Tp).length + [(⟨1, 1, n⟩ : Tp)].length) * 24 ≤ 140737488355328) := Lib.hid (by show 1 ≤ maxLen ∧ 1 * 24 ≤ _; decide)
      clear hAt hT9
      go_upto_region 21 with (at_builtin; go_must (refine wpList_append_row (o := ⟨some 70, _, _, _, _, _⟩) rfl (.const (.slice none 0 0)) (.tmp 69) 30 rfl 29 3 encT _ 24 Tryz.underlying30 info29 rfl (by decide) encT_len encT_one (.slice none 0 0) [] (by kernel_rfl) (RowP.nil _ _ _ _) (some ⟨tb, 0, none⟩) 1 tc [(⟨1, 1, n⟩ : Tp)] (by kernel_rfl) rfl HAt.out HB1.out.1 HB1.out.2 ?_); intro u10 w10 hO10 hK10 hat10; obtain ⟨⟨A10, n10, c10⟩, rfl, h10⟩ := RowP.sl hO10; have hK10n : Keeps Non w9 w10 := hK10.mono fun k e => (List.not_mem_nil e).elim; have hB10 := hB9.non hK10n; have z10 := hB10.cell 1; have f10 := hB10.frozen 1; have HF10 := Lib.hid (hF9.non hK10n); clear hO10 hK10 hat10 h10 hK10n)
      have hB11 : Blk (w10.setCell ⟨p1, 1, none⟩ (.slice A10 n10 c10)) p1 32 #[.int .u64 (pool : Int), .slice A10 n10 c10, .int .i64 0, .int .i64 0] := hB10.set 1 _
      have hk11 : Keeps (Only p1) w10 (w10.setCell ⟨p1, 1, none⟩ (.slice A10 n10 c10)) := (Keeps.refl (Only p1) _).set (p := ⟨p1, 1, none⟩) rfl _
      have hF11 := HF10.out.far hB10 (by decide) (by decide) (by decide) (by decide) (by decide) HH.out.keep.size HP1.out hk11
      obtain ⟨w11, hw11⟩ : ∃ V : World, V = w10.setCell ⟨p1, 1, none⟩ (.slice A10 n10 c10) := ⟨_, rfl⟩
      rw [← hw11] at hB11 hF11 ⊢
      clear hw11 hk11 hB10 z10 f10 HF10
      have x0 : w11.cell? ⟨p1, 0, none⟩ = some (.int .u64 (pool : Int)) := hB11.cell 0
      have x1 : w11.cell? ⟨p1, 1, none⟩ = some (.slice A10 n10 c10) := hB11.cell 1
      have x2 : w11.cell? ⟨p1, 2, none⟩ = some (.int .i64 0) := hB11.cell 2
      have x3 : w11.cell? ⟨p1, 3, none⟩ = some (.int .i64 0) := hB11.cell 3
      go_wp2_with fail
      go_ret2
      exact ⟨_, rfl, hF11.non ((Keeps.refl Non w11).alloc _)⟩
end Go.Proofs.YtipbjiepfnjojaaGreatDoor
namespace Go.Proofs.YtipbjiepfnjojaaGreatDoor
set_option maxRecDepth 100000
open Go.RowKit Go.Uc

/-- The types of the program's blocks, of the document's. -/
def proT (t : TypeId) : Bool := t == 94 || t == 100 || t == 5 || t == 35 || t == 97 || t == 85 || t == 29
def docT (t : TypeId) : Bool := t == 129 || t == 130 || t == 133 || t == 55 || t == 178
/-- S has no block of the program's. -/
def DocS (w : World) (S : Nat → Prop) : Prop := ∀ (g t : Nat) (cs : Array Value), Blk w g t cs → proT t = true → ¬ S g
/-- S has no block of the document's. -/
def ProS (w : World) (S : Nat → Prop) : Prop := ∀ (g t : Nat) (cs : Array Value), Blk w g t cs → docT t = true → ¬ S g
theorem RowP.freeS {α : Type} {w : World} {S : Nat → Prop} {e : TypeId} {k : Nat} {enc : α → List Value} {v : Value} {xs : List α} (hS : ∀ (g : Nat) (cs : Array Value), Blk w g e cs → ¬ S g) (hr : RowP w e k enc v xs) : ∀ q ∈ own v, ¬ S q := by
  intro q hq
  rcases hr.form with ⟨e1, -⟩ | ⟨g, cap, cur, e1, hB, -⟩
  · rw [e1] at hq; exact (List.not_mem_nil hq).elim
  · rw [e1, own_slice, List.mem_singleton] at hq
    subst hq
    exact hS _ _ hB
theorem Dm.over {w0 w w' : World} {K : Kb} {s : Dsk} {wv : Sl} {S : Nat → Prop} (h : Dm w0 w K s wv) (hk : Keeps S w w') (hS : DocS w S) (h0 : ∀ i, i < w0.heap.size → ¬ S i) : Dm w0 w' K s wv :=
  ⟨h.ok, h.pw.imp fun _ i => i.keep hk (hS _ _ _ i rfl), h.dk.keep hk (hS _ _ _ h.dk rfl), h.pl.keep hk (hS _ _ _ h.pl rfl), h.nw.keep hk (hS _ _ _ h.nw rfl), h.db.imp fun _ i => ⟨i.1.keep hk (hS _ _ _ i.1 rfl), i.2⟩, h.wt.keep hk (RowP.freeS (fun g cs hg => hS g _ cs hg rfl) h.wt), h.wn, h.ne, h.new, h.keep.then hk fun i hi e => (h0 i hi e).elim⟩
theorem Lm.over {w0 w w' : World} {lf : Nat} {K : Kb} {s : Dsk} {wv : Sl} {x : Lb} {tA : Option Addr} {tc : Nat} {S : Nat → Prop} (h : Lm w0 w lf K s wv x tA tc) (hk : Keeps S w w') (hS : DocS w S) (h0 : ∀ i, i < w0.heap.size → ¬ S i) : Lm w0 w' lf K s wv x tA tc :=
  ⟨h.dm.over hk hS h0, h.blk.keep hk (hS _ _ _ h.blk rfl), h.ts.keep hk (RowP.freeS (fun g cs hg => hS g _ cs hg rfl) h.ts), h.new⟩
theorem Dd.over {w0 w w' : World} {Q : Qb} {n : Nat} {pv wv : Sl} {S : Nat → Prop} (h : Dd w0 w Q n pv wv) (hk : Keeps S w w') (hS : ProS w S) (h0 : ∀ i, i < w0.heap.size → ¬ S i) : Dd w0 w' Q n pv wv := by
  obtain ⟨z0, hp⟩ := h.pw
  obtain ⟨cs, hd, hc0, hdc⟩ := h.ds
  obtain ⟨P, hP, hpn, hPn⟩ := h.pl
  obtain ⟨M, hM, hwl, hMa⟩ := h.wt
  exact ⟨⟨z0, hp.keep hk (hS _ _ _ hp rfl)⟩, ⟨cs, hd.keep hk (hS _ _ _ hd rfl), hc0, hdc⟩, h.dk.keep hk (hS _ _ _ h.dk rfl), ⟨P, hP.keep hk (RowP.freeS (fun g cs hg => hS g _ cs hg rfl) hP), hpn, hPn⟩, ⟨M, hM.keep hk (RowP.freeS (fun g cs hg => hS g _ cs hg rfl) hM), hwl, hMa⟩, h.new, h.keep.then hk fun i hi e => (h0 i hi e).elim⟩
theorem Dm.proS {w0 w : World} {K : Kb} {s : Dsk} {wv : Sl} (h : Dm w0 w K s wv) : ProS w (Fr K wv) := fun _ t _ hg ht => h.free hg (by rintro rfl; cases ht) (by rintro rfl; cases ht) (by rintro rfl; cases ht)
theorem Dd.docS {w0 w : World} {Q : Qb} {n : Nat} {pv wv : Sl} (h : Dd w0 w Q n pv wv) : DocS w (Fd Q pv wv) := fun _ t _ hg ht => h.free hg (by rintro rfl; cases ht) (by rintro rfl; cases ht) (by rintro rfl; cases ht) (by rintro rfl; cases ht)
theorem docS_only {w : World} {g t : Nat} {cs : Array Value} (hB : Blk w g t cs) (ht : proT t = false) : DocS w (Only g) := fun _ t' _ hg ht' e => hg.ne hB (by rintro rfl; rw [ht] at ht'; cases ht') e
theorem proS_only {w : World} {g t : Nat} {cs : Array Value} (hB : Blk w g t cs) (ht : docT t = false) : ProS w (Only g) := fun _ t' _ hg ht' e => hg.ne hB (by rintro rfl; rw [ht] at ht'; cases ht') e
/-- The label of all three laws: one top, one disk. -/
def lb1 (pool n : Nat) : Lb := ⟨pool, [⟨1, 1, n⟩], 0, 0⟩
theorem lb1_ok {pool n : Nat} (hp : pool < 18446744073709551616) (h1 : 324 ≤ n) (h2 : n ≤ 8192) : (lb1 pool n).ok :=
  ⟨hp, Nat.le_refl 1, by show 1 ≤ 4; decide, ⟨by show 0 < 1; decide, by show 0 < 1; decide⟩, fun t ht => by
    have e : t = ⟨1, 1, n⟩ := List.mem_singleton.1 ht
    subst e
    exact ⟨.inl ⟨rfl, rfl⟩, h1, h2⟩⟩
theorem lb1_row {w : World} {tb n : Nat} (hB : Blk w tb 29 #[.int .i64 1, .int .i64 1, .int .i64 (n : Int)]) : RowT w (.slice (some ⟨tb, 0, none⟩) 1 1) [⟨1, 1, n⟩] :=
  RowP.mk (xs := [(⟨1, 1, n⟩ : Tp)]) encT_len hB (Nat.le_refl 1) (by decide) rfl rfl
theorem lb1_tb {w : World} {tb n : Nat} (hB : Blk w tb 29 #[.int .i64 1, .int .i64 1, .int .i64 (n : Int)]) : Tb w tb n := ⟨_, hB, rfl, rfl, rfl⟩
end Go.Proofs.YtipbjiepfnjojaaGreatDoor
namespace Go.Proofs.YtipbjiepfnjojaaGreatDoor
set_option maxRecDepth 100000
open Go.RowKit Go.Uc

/-- What begun leaves: a pair in memory, the program's leaf. -/
def Begun (w : World) (pool n : Nat) (xb : Nat) (w' : World) : Prop := ∃ (K : Kb) (lf : Nat) (wv : Sl) (tA : Option Addr) (tc q mf : Nat),
  Blk w' xb 40 #[.pointer (some ⟨K.p, 0, none⟩), .pointer (some ⟨K.d, 0, none⟩), .pointer (some ⟨lf, 0, none⟩), .pointer (some ⟨q, 0, none⟩), .pointer (some ⟨mf, 0, none⟩)] ∧
  w.heap.size ≤ xb ∧ Lm w w' lf K ((Dsk.fresh n).fst (labelB (lb1 pool n)) 7) wv (lb1 pool n) tA tc ∧ Keeps Non w w'
set_option maxHeartbeats 8000000 in
theorem begun7_any {w : World} (pool n tb : Nat) (h1 : 324 ≤ n) (h2 : n ≤ 8192) (hp : pool < 18446744073709551616) (hB : Blk w tb 29 #[.int .i64 1, .int .i64 1, .int .i64 (n : Int)]) :
    Calls Tryz.prog 7 #[.int .i64 (n : Int), .agg #[.int .u64 (pool : Int), .slice (some ⟨tb, 0, none⟩) 1 1, .int .i64 0, .int .i64 0]] w fun e w' => ∃ xb, e = .returned (.tuple #[.pointer (some ⟨xb, 0, none⟩), .bool true, .bool true]) ∧ Begun w pool n xb w' := by
  have hBl := Blk.new w 32 (labC pool tb 1)
  have hk := (Keeps.refl Non w).alloc (.cells (labC pool tb 1) 32)
  go_enter Tryz.func7, Tryz.ntmps7
  go_upto_region 1 with fail
  obtain ⟨w1, hw1⟩ : ∃ V : World, V = w.alloc (.cells (labC pool tb 1) 32) := ⟨_, rfl⟩
  have hw1' : w.alloc (.cells #[.int .u64 (pool : Int), .slice (some ⟨tb, 0, none⟩) 1 1, .int .i64 0, .int .i64 0] 32) = w1 := hw1.symm
  rw [← hw1] at hBl hk
  rw [hw1']
  clear hw1 hw1'
  obtain ⟨lb, hlb⟩ : ∃ z, z = w.heap.size := ⟨_, rfl⟩
  rw [← hlb] at hBl ⊢
  have HLB := Lib.hid hlb
  clear hlb
  have hB1 := hB.non hk
  have HP := Lib.hid (newPower22_any w1)
  have HQ := Lib.hid (fun V => newPower23_any V)
  go_upto_region 2 with (first | (go_at_call 22; go_must (refine HP.out.mono ?_); rintro e w2 ⟨p, rfl, hp2, hpw, hK2⟩; have HQ2 := Lib.hid (HQ.out w2)) | (go_at_call 23; go_must (refine HQ2.out.mono ?_); rintro e w3 ⟨q, rfl, hq3, hqw, hK3⟩))
  have hX := Blk.new w3 40 #[.pointer (some ⟨p, 0, none⟩), .pointer none, .pointer none, .pointer (some ⟨q, 0, none⟩), .pointer none]
  have hkx := (Keeps.refl Non w3).alloc (.cells #[.pointer (some ⟨p, 0, none⟩), .pointer none, .pointer none, .pointer (some ⟨q, 0, none⟩), .pointer none] 40)
  obtain ⟨w4, hw4⟩ : ∃ V : World, V = w3.alloc (.cells #[.pointer (some ⟨p, 0, none⟩), .pointer none, .pointer none, .pointer (some ⟨q, 0, none⟩), .pointer none] 40) := ⟨_, rfl⟩
  rw [← hw4] at hX hkx ⊢
  clear hw4
  obtain ⟨xb, hxb⟩ : ∃ z, z = w3.heap.size := ⟨_, rfl⟩
  rw [← hxb] at hX ⊢
  have z1 := hk.size
  have z2 := hK2.size
  have z3 := hK3.size
  have HZ : Hid (w.heap.size ≤ xb ∧ w.heap.size ≤ xb ∧ w.heap.size ≤ p ∧ w.heap.size ≤ p ∧ w.heap.size ≤ q ∧ w.heap.size ≤ q) := Lib.hid (by omega)
  clear hxb z1 z2 z3 hpw hqw
  have hK14 : Keeps Non w1 w4 := (hK2.non hK3).non hkx
  have hKw4 : Keeps Non w w4 := hk.non hK14
  have hK04 := hKw4
  have hp4 := hp2.non (hK3.non hkx)
  have hq4 := hq3.non hkx
  have hB4 := hB1.non hK14
  have hBl4 := hBl.non hK14
  clear hp2 hq3 hB1 hBl hK2 hK3 hkx hK14 hk HP HQ hB
  have x0 : w4.cell? ⟨xb, 0, none⟩ = some (.pointer (some ⟨p, 0, none⟩)) := hX.cell 0
  have HN := Lib.hid (new24_any p n (by omega) h2 hp4 HZ.out.2.2.2.1 hK04)
  go_upto_region 5 with (go_at_call 24; go_must (refine HN.out.mono ?_); rintro e w5 ⟨K, hKp, rfl, hD5, hd5, hK5⟩)
  clear x0 HN
  have hX5 := hX.one hK5 (hX.ne hp4 (by decide))
  have hq5 := hq4.one hK5 (hq4.ne hp4 (by decide))
  have hB5 := hB4.one hK5 (hB4.ne hp4 (by decide))
  have hBl5 := hBl4.one hK5 (hBl4.ne hp4 (by decide))
  have hKw5 : Keeps Non w w5 := hKw4.then hK5 fun i hi e => by have := HZ.out.2.2.1; unfold Only at e; omega
  have HKp := Lib.hid hKp
  clear hKp hX hp4 hq4 hB4 hBl4 hKw4 hK04 hK5
  have x3 : w5.cell? ⟨xb, 3, none⟩ = some (.pointer (some ⟨q, 0, none⟩)) := hX5.cell 3
  have HN := Lib.hid (new25_any q n (by omega) h2 hq5 HZ.out.2.2.2.2.2 hD5.keep)
  go_upto_region 6 with (go_at_call 25; go_must (refine HN.out.mono ?_); rintro e w6 ⟨Q, pv, hQq, rfl, hE6, hd6, hK6⟩)
  clear x3 HN
  have hDs : DocS w5 (Only q) := docS_only hq5 rfl
  have hD6 := hD5.over hK6 hDs fun i hi e => by have := HZ.out.2.2.2.2.2; unfold Only at e; omega
  have hX6 := hX5.one hK6 (hX5.ne hq5 (by decide))
  have hB6 := hB5.one hK6 (hB5.ne hq5 (by decide))
  have hBl6 := hBl5.one hK6 (hBl5.ne hq5 (by decide))
  have hKw6 : Keeps Non w w6 := hKw5.then hK6 fun i hi e => by have := HZ.out.2.2.2.2.1; unfold Only at e; omega
  have HQq := Lib.hid hQq
  clear hQq hD5 hX5 hq5 hB5 hBl5 hKw5 hK6 hDs hd5 hd6
  have x1 := hX6.cell 1
  have f1 := hX6.frozen 1
  go_upto_region 11 with fail
  clear x1 f1
  have hk7 : Keeps (Only xb) w6 (w6.setCell ⟨xb, 1, none⟩ (.pointer (some ⟨K.d, 0, none⟩))) := (Keeps.refl (Only xb) _).set (p := ⟨xb, 1, none⟩) rfl _
  have hX7 : Blk (w6.setCell ⟨xb, 1, none⟩ (.pointer (some ⟨K.d, 0, none⟩))) xb 40 #[.pointer (some ⟨p, 0, none⟩), .pointer (some ⟨K.d, 0, none⟩), .pointer none, .pointer (some ⟨q, 0, none⟩), .pointer none] := hX6.set 1 _
  obtain ⟨w7, hw7⟩ : ∃ V : World, V = w6.setCell ⟨xb, 1, none⟩ (.pointer (some ⟨K.d, 0, none⟩)) := ⟨_, rfl⟩
  rw [← hw7] at hk7 hX7 ⊢
  clear hw7
  have HX0 : Hid (∀ i, i < w.heap.size → ¬ Only xb i) := Lib.hid (fun i hi e => by have := HZ.out.2.1; unfold Only at e; omega)
  have hD7 := hD6.over hk7 (docS_only hX6 rfl) HX0.out
  have hE7 := hE6.over hk7 (proS_only hX6 rfl) HX0.out
  have hB7 := hB6.one hk7 (hB6.ne hX6 (by decide))
  have hBl7 : Blk w7 lb 32 #[.int .u64 (pool : Int), .slice (some ⟨tb, 0, none⟩) 1 1, .int .i64 0, .int .i64 0] := hBl6.one hk7 (hBl6.ne hX6 (by decide))
  have hKw7 : Keeps Non w w7 := hKw6.then hk7 fun i hi e => by have := HZ.out.1; unfold Only at e; omega
  clear hD6 hE6 hB6 hBl6 hKw6 hX6 hk7
  have x0 : w7.cell? ⟨lb, 0, none⟩ = some (.int .u64 (pool : Int)) := hBl7.cell 0
  have x1 : w7.cell? ⟨lb, 1, none⟩ = some (.slice (some ⟨tb, 0, none⟩) 1 1) := hBl7.cell 1
  have x2 : w7.cell? ⟨lb, 2, none⟩ = some (.int .i64 0) := hBl7.cell 2
  have x3 : w7.cell? ⟨lb, 3, none⟩ = some (.int .i64 0) := hBl7.cell 3
  have HF : Hid (Calls Tryz.prog 26 #[.pointer (some ⟨K.d, 0, none⟩), .agg #[.int .u64 (pool : Int), .slice (some ⟨tb, 0, none⟩) 1 1, .int .i64 0, .int .i64 0]] w7 fun e w' => ∃ lf tA tc, e = .returned (.tuple #[.pointer (some ⟨lf, 0, none⟩), .int .i64 0]) ∧ w7.heap.size ≤ lf ∧ Did w w7 lf K ⟨none, 0, 0⟩ (lb1 pool n) tA tc ((Dsk.fresh n).fst (labelB (lb1 pool n)) 7) w') := Lib.hid (format26_any hD7 rfl rfl h1 (by show 0 ≤ 100000; decide) (lb1 pool n) (lb1_ok hp h1 h2) (fun _ => rfl) (some ⟨tb, 0, none⟩) 1 (lb1_row hB7))
  go_upto_region 12 with (go_at_call 26; go_must (refine HF.out.mono ?_); rintro e w8 ⟨lf, tA, tc, rfl, hlf, wv, hL8, hK8, -⟩)
  clear x0 x1 x2 x3 HF
  have HR0 : Hid (∀ i, i < w.heap.size → ¬ Fr K ⟨none, 0, 0⟩ i) := Lib.hid fun i hi => hD7.low hi
  have hE8 := hE7.over hK8 hD7.proS HR0.out
  have hB8 := hB7.keep hK8 (hD7.free hB7 (by decide) (by decide) (by decide))
  have hX8 := hX7.keep hK8 (hD7.free hX7 (by decide) (by decide) (by decide))
  have hBl8 := hBl7.keep hK8 (hD7.free hBl7 (by decide) (by decide) (by decide))
  have hKw8 : Keeps Non w w8 := hKw7.then hK8 HR0.out
  clear hD7 hE7 hB7 hX7 hBl7 hKw7 hK8
  have x0 : w8.cell? ⟨lb, 0, none⟩ = some (.int .u64 (pool : Int)) := hBl8.cell 0
  have x1 : w8.cell? ⟨lb, 1, none⟩ = some (.slice (some ⟨tb, 0, none⟩) 1 1) := hBl8.cell 1
  have x2 : w8.cell? ⟨lb, 2, none⟩ = some (.int .i64 0) := hBl8.cell 2
  have x3 : w8.cell? ⟨lb, 3, none⟩ = some (.int .i64 0) := hBl8.cell 3
  have y3 : w8.cell? ⟨xb, 3, none⟩ = some (.pointer (some ⟨q, 0, none⟩)) := hX8.cell 3
  have HG : Hid (Calls Tryz.prog 27 #[.pointer (some ⟨q, 0, none⟩), .int .i64 0, .agg #[.int .u64 (pool : Int), .slice (some ⟨tb, 0, none⟩) 1 1, .int .i64 0, .int .i64 0]] w8.drew fun e w' => ∃ mf, e = .returned (.tuple #[.pointer (some ⟨mf, 0, none⟩), .int .i64 0]) ∧ Keeps (Fd Q pv ⟨none, 0, 0⟩) w8 w') := Lib.hid (by
    have := format27_one hE8.drew h1 h2 pool tb 1 (lb1_tb hB8.drew) (Nat.le_refl 1) hp
    rw [HQq.out] at this
    refine this.mono ?_
    rintro e w' ⟨mf, rfl, wv, -, -, -, hk⟩
    exact ⟨mf, rfl, ((Keeps.refl Non w8).drew).of_non.trans hk⟩)
  go_region_law (first
    | (go_simp; go_at_call 27; refine HG.out.mono ?_; rintro e w9 ⟨mf, rfl, hK9⟩))
  all_goals
    have hDd : DocS w8 (Fd Q pv ⟨none, 0, 0⟩) := hE8.docS
    have hL9 := hL8.over hK9 hDd fun i hi => hE8.low hi
    have hX9 := hX8.keep hK9 (hE8.free hX8 (by decide) (by decide) (by decide) (by decide))
    have hKw9 : Keeps Non w w9 := hKw8.then hK9 fun i hi => hE8.low hi
    clear hL8 hX8 hKw8 hK9 hDd hE8 hB8 hBl8 x0 x1 x2 x3 y3 HG
    have z2 := hX9.cell 2
    have f2 := hX9.frozen 2
    go_upto_region 14 with fail
    have hk10 : Keeps (Only xb) w9 (w9.setCell ⟨xb, 2, none⟩ (.pointer (some ⟨lf, 0, none⟩))) := (Keeps.refl (Only xb) _).set (p := ⟨xb, 2, none⟩) rfl _
    have hX10 : Blk (w9.setCell ⟨xb, 2, none⟩ (.pointer (some ⟨lf, 0, none⟩))) xb 40 #[.pointer (some ⟨p, 0, none⟩), .pointer (some ⟨K.d, 0, none⟩), .pointer (some ⟨lf, 0, none⟩), .pointer (some ⟨q, 0, none⟩), .pointer none] := hX9.set 2 _
    have hL10 := hL9.over hk10 (docS_only hX9 rfl) HX0.out
    have hKw10 : Keeps Non w (w9.setCell ⟨xb, 2, none⟩ (.pointer (some ⟨lf, 0, none⟩))) := hKw9.then hk10 HX0.out
    obtain ⟨w10, hw10⟩ : ∃ V : World, V = w9.setCell ⟨xb, 2, none⟩ (.pointer (some ⟨lf, 0, none⟩)) := ⟨_, rfl⟩
    rw [← hw10] at hX10 hL10 hKw10 ⊢
    clear hw10 hk10 hX9 hL9 hKw9 z2 f2
    have z4 := hX10.cell 4
    have f4 := hX10.frozen 4
    go_upto_region 15 with fail
    have hk11 : Keeps (Only xb) w10 (w10.setCell ⟨xb, 4, none⟩ (.pointer (some ⟨mf, 0, none⟩))) := (Keeps.refl (Only xb) _).set (p := ⟨xb, 4, none⟩) rfl _
    have hX11 : Blk (w10.setCell ⟨xb, 4, none⟩ (.pointer (some ⟨mf, 0, none⟩))) xb 40 #[.pointer (some ⟨p, 0, none⟩), .pointer (some ⟨K.d, 0, none⟩), .pointer (some ⟨lf, 0, none⟩), .pointer (some ⟨q, 0, none⟩), .pointer (some ⟨mf, 0, none⟩)] := hX10.set 4 _
    have hL11 := hL10.over hk11 (docS_only hX10 rfl) HX0.out
    have hKw11 : Keeps Non w (w10.setCell ⟨xb, 4, none⟩ (.pointer (some ⟨mf, 0, none⟩))) := hKw10.then hk11 HX0.out
    obtain ⟨w11, hw11⟩ : ∃ V : World, V = w10.setCell ⟨xb, 4, none⟩ (.pointer (some ⟨mf, 0, none⟩)) := ⟨_, rfl⟩
    rw [← hw11] at hX11 hL11 hKw11 ⊢
    clear hw11 hk11 hX10 hL10 hKw10 z4 f4
    have HFin : Hid (Begun w pool n xb w11) := Lib.hid ⟨K, lf, wv, tA, tc, q, mf, by rw [HKp.out]; exact hX11, HZ.out.1, hL11, hKw11⟩
    clear hX11 hL11 hKw11
    go_wp2_with fail
    go_ret3
    exact ⟨xb, rfl, HFin.out⟩
end Go.Proofs.YtipbjiepfnjojaaGreatDoor
