/- Tops alike. What leaves lack behind an Import. behind: the walk. Disks taken into a pool one by one: what holds between two. -/
import Derived.Test.YtolknnmaadkgiaaGreatDoorG29
import Derived.StillTailTactics
set_option linter.unusedVariables false
set_option linter.unusedSimpArgs false
namespace Go.Proofs.YtolknnmaadkgiaaGreatDoor
set_option maxRecDepth 100000
open Go.RowKit Go.Uc Go.Shelf
section
variable {w : World} {tp : Tp}
set_option maxHeartbeats 2000000 in
theorem equal42_one {a b : Option Addr} {ca cb : Nat} (ha : RowT w (.slice a 1 ca) [tp]) (hb : RowT w (.slice b 1 cb) [tp]) : Calls Tryz.prog 42 #[.slice a 1 ca, .slice b 1 cb] w fun e w' => e = .returned (.bool true) ∧ ∃ q, w' = w.drewN q := by
 obtain ⟨ga, capa, ea, -, -, hca, -, -⟩ := ha.at_ encT_len (i := 0) (by simp)
 obtain ⟨gb, capb, eb, -, -, hcb, -, -⟩ := hb.at_ encT_len (i := 0) (by simp)
 injection ea with ea ea2 ea3
 injection eb with eb eb2 eb3
 subst ea eb
 clear ea2 ea3 eb2 eb3 ha hb
 have HA : Hid (∀ V, Keeps Non w V → V.cell? ⟨ga, 0, none⟩ = some (.int .i64 (tp.k : Int)) ∧ V.cell? ⟨ga, 1, none⟩ = some (.int .i64 (tp.l : Int)) ∧ V.cell? ⟨ga, 2, none⟩ = some (.int .i64 (tp.s : Int)) ∧ V.cell? ⟨gb, 0, none⟩ = some (.int .i64 (tp.k : Int)) ∧ V.cell? ⟨gb, 1, none⟩ = some (.int .i64 (tp.l : Int)) ∧ V.cell? ⟨gb, 2, none⟩ = some (.int .i64 (tp.s : Int))) := Lib.hid (fun V hV => ⟨hV.cell (hca 0 (by decide)) id, hV.cell (hca 1 (by decide)) id, hV.cell (hca 2 (by decide)) id, hV.cell (hcb 0 (by decide)) id, hV.cell (hcb 1 (by decide)) id, hV.cell (hcb 2 (by decide)) id⟩)
 clear hca hcb
 go_enter Tryz.func42, Tryz.ntmps42
 go_upto_region 4 with fail
 go_loopw [13] (fun i wr => ∃ j q : Nat, j ≤ 1 ∧ i = .int .i64 (j : Int) ∧ wr = w.drewN q) (fun i _ => 1 - (intOf i).toNat)
 case atStart => exact ⟨0, 0, by omega, rfl, rfl⟩
 case round =>
   obtain ⟨j, q, hj, rfl, rfl⟩ := hrel
   obtain ⟨wx, hwx⟩ : ∃ V : World, V = w.drewN q := ⟨_, rfl⟩
   rw [← hwx]
   have HWx := Lib.hid hwx
   have hK : Keeps Non w wx := by rw [hwx]; exact (Keeps.refl Non w).drewN q
   clear hwx
   by_cases hj0 : j = 0
   · subst hj0
     rw [show ((0 : Nat) : Int) = 0 from rfl]
     obtain ⟨a0, a1, a2, b0, b1, b2⟩ := HA.out wx hK
     go_upto_region 6 with fail
     go_quiet (fail)
     go_wp2_with fail
     go_roundw
     case rel => exact ⟨1, q + nq, by omega, by go_num, by rw [HWx.out, World.drewN_drewN]⟩
     case measure => simp [intOf]
   · obtain rfl : j = 1 := by omega
     go_wp2_with fail
     go_ret
     exact ⟨rfl, q, HWx.out⟩
end
end Go.Proofs.YtolknnmaadkgiaaGreatDoor
namespace Go.Proofs.YtolknnmaadkgiaaGreatDoor
set_option maxRecDepth 100000
open Go.RowKit Go.Uc Go.Shelf
def lkB (L : List (Option Nat)) (lk : List Lk) (tx : Nat) : Nat → List Lk
 | 0 => lk
 | j + 1 => match L[j]? with
   | some none => if tx = 0 then lkB L lk tx j else (lkB L lk tx j).set j ⟨1, tx, true⟩
   | _ => lkB L lk tx j
theorem lkB_at (L : List (Option Nat)) (lk : List Lk) (tx : Nat) : ∀ j i, j ≤ i → (lkB L lk tx j)[i]? = lk[i]?
 | 0, _, _ => rfl
 | j + 1, i, h => by
   rw [lkB]
   split
   · split
     · exact lkB_at L lk tx j i (by omega)
     · rw [List.getElem?_set_ne (by omega)]; exact lkB_at L lk tx j i (by omega)
   · exact lkB_at L lk tx j i (by omega)
section
variable {w0 w w' : World} {p m n k pool sz lg : Nat} {tp : Tp} {B : TB} {dv : Sl} {K : Nat → Kb} {T : St} {L Dk : List (Option Nat)} {lk : List Lk} {X : Nat → Lb} {F : Nat → Lr} {hd : Nat → Option UB}
structure Bh (w0 w wr : World) (k pool : Nat) (tp : Tp) (B : TB) (L Dk : List (Option Nat)) (lk : List Lk) (sz lg p m n : Nat) (dv : Sl) (K : Nat → Kb) (T : St) (X : Nat → Lb) (F : Nat → Lr) : Prop where
 tk : Tk wr k pool tp B L Dk lk sz lg
 l1 : 1 ≤ lg
 l2 : lg ≤ 281474976710657
 gs : Gs w0 wr p dv m n K T
 lv : Lvs w0 wr m K X F L
 kp : Keeps (fun g => g = k ∨ g ∈ own B.kv.v) w wr
theorem Bh.non {wr : World} (h : Bh w0 w wr k pool tp B L Dk lk sz lg p m n dv K T X F) (hk : Keeps Non wr w') : Bh w0 w w' k pool tp B L Dk lk sz lg p m n dv K T X F :=
 ⟨h.tk.non hk, h.l1, h.l2, h.gs.non hk, h.lv.non hk, h.kp.non hk⟩
theorem Bh.log {wr : World} (h : Bh w0 w wr k pool tp B L Dk lk sz lg p m n dv K T X F) (hk0 : w0.heap.size ≤ k) (lg' : Nat) (h1 : 1 ≤ lg') (h2 : lg' ≤ 281474976710657) : Bh w0 w (wr.setCell ⟨k, 5, none⟩ (.int .u64 (lg' : Int))) k pool tp B L Dk lk sz lg' p m n dv K T X F := by
 obtain ⟨a, b⟩ := h.tk.setLog lg'
 exact ⟨a, h1, h2, h.gs.far h.tk.blk (by decide) (by decide) (by decide) (by decide) (by decide) hk0 b, h.lv.far h.tk.blk (by decide) (by decide) b, h.kp.then b fun i hi e => .inl e⟩
theorem Bh.told {wr : World} (h : Bh w0 w wr k pool tp B L Dk lk sz lg p m n dv K T X F) (hkv : ∀ q ∈ own B.kv.v, w0.heap.size ≤ q) {lk' : List Lk} (hM : Mt w' B.t B.lv B.kv L lk' (sz : Int)) (hk : Keeps (fun g => g ∈ own B.kv.v) wr w') : Bh w0 w w' k pool tp B L Dk lk' sz lg p m n dv K T X F := by
 rcases h.tk.mt.kr.form with ⟨e1, -⟩ | ⟨g, cap, cur, e1, hB, -⟩
 · have hk' : Keeps Non wr w' := hk.mono fun q e => by rw [e1] at e; exact (List.not_mem_nil e).elim
   exact ⟨h.tk.told hM hk, h.l1, h.l2, h.gs.non hk', h.lv.non hk', h.kp.non hk'⟩
 · have hk' : Keeps (Only g) wr w' := hk.mono fun q e => by rw [e1, own_slice, List.mem_singleton] at e; exact e
   have hg : g ∈ own B.kv.v := by rw [e1, own_slice]; exact List.mem_singleton.2 rfl
   exact ⟨h.tk.told hM hk, h.l1, h.l2, h.gs.far hB (by decide) (by decide) (by decide) (by decide) (by decide) (hkv _ hg) hk', h.lv.far hB (by decide) (by decide) hk', h.kp.then hk fun i hi e => .inr e⟩
end
end Go.Proofs.YtolknnmaadkgiaaGreatDoor
namespace Go.Proofs.YtolknnmaadkgiaaGreatDoor
set_option maxRecDepth 100000
open Go.RowKit Go.Uc Go.Shelf
theorem bestE_form (o : UB) : ∃ (u : UB) (er : Int), bestE o = .tuple #[.agg #[.int .u64 (u.pool : Int), .int .u64 (u.txg : Int), .int .u64 (u.note : Int), .int .i64 (u.r.t : Int), .int .i64 (u.r.at_ : Int), .int .i64 (u.r.n : Int), .int .u64 (u.r.bi : Int), .int .i64 (u.r.k : Int), .int .u64 (u.r.s.a : Int), .int .u64 (u.r.s.b : Int), .int .u64 (u.r.s.c : Int), .int .u64 (u.r.s.d : Int)], .int .i64 er] ∧ u.txg = o.txg := by
 unfold bestE
 by_cases h : o.txg = 0
 · exact ⟨UB.zero, 82, by rw [if_pos h]; rfl, by rw [h]; rfl⟩
 · exact ⟨o, 0, by rw [if_neg h]; rfl, rfl⟩
section
variable {w0 w w' : World} {p m n k pool sz lg : Nat} {tp : Tp} {B : TB} {dv : Sl} {K : Nat → Kb} {T : St} {L Dk : List (Option Nat)} {lk : List Lk} {X : Nat → Lb} {F : Nat → Lr} {hd : Nat → Option UB}
set_option maxHeartbeats 16000000 in
theorem behind_tk (h : Tk w k pool tp B L Dk lk sz lg) (hG : Gs w0 w p dv m n K T) (hL : Lvs w0 w m K X F L) (h0 : 0 < L.length) (hn : 324 ≤ n) (ho : T.P.off = false) (hk0 : w0.heap.size ≤ k) (hkv : ∀ q ∈ own B.kv.v, w0.heap.size ≤ q) (hl1 : 1 ≤ lg) (hl2 : lg ≤ 281474976710657)
   (hU : ∀ V j b, Gs w0 V p dv m n K T → Lvs w0 V m K X F L → L[j]? = some (some b) → Calls Tryz.prog 55 #[.pointer (some ⟨b, 0, none⟩)] V fun e w' => ∃ (mA : Option Addr) (mc : Nat) (M : List UB), e = .returned (.slice mA M.length mc) ∧ RowB w' (.slice mA M.length mc) M ∧ M.head? = hd j ∧ M.length ≤ 19 ∧ Keeps Non V w')
   (hno : ∀ j, j < L.length → ∃ o, lk[j]? = some o ∧ o.is = false) (hall : ∀ j b, L[j]? = some (some b) → (bst hd L L.length).txg = 0 ∨ hd j ≠ none) (htx : (bst hd L L.length).txg ≤ 281474976710656) :
   Calls Tryz.prog 44 #[.pointer (some ⟨k, 0, none⟩)] w fun e w' => e = .returned (.tuple #[]) ∧ ∃ lg', Bh w0 w w' k pool tp B L Dk (lkB L lk (bst hd L L.length).txg L.length) sz lg' p m n dv K T X F := by
 have HBest := Lib.hid (best_tk h h0 (fun V j b hV => hU V j b (hG.non hV) (hL.non hV)))
 obtain ⟨u, er, hbe, hut⟩ := bestE_form (bst hd L L.length)
 obtain ⟨tx, htxe⟩ : ∃ tx, tx = (bst hd L L.length).txg := ⟨_, rfl⟩
 rw [hbe] at HBest
 rw [← htxe] at hut htx ⊢
 have HA : Hid (∀ j b, L[j]? = some (some b) → tx = 0 ∨ hd j ≠ none) := Lib.hid (by rw [htxe]; exact hall)
 have H0 := Lib.hid (show Bh w0 w w k pool tp B L Dk (lkB L lk tx 0) sz lg p m n dv K T X F from ⟨h, hl1, hl2, hG, hL, Keeps.refl _ _⟩)
 obtain ⟨tb, lb, db, fb, gb, hdd⟩ := h.hds h0
 have HHd := Lib.hid hdd
 have HU := Lib.hid hU
 have HNo := Lib.hid hno
 have hfew := h.mt.few
 have HKv := Lib.hid hkv
 clear h hG hL hU hno hall hbe htxe hdd hkv
 go_enter Tryz.func44, Tryz.ntmps44
 go_upto_region 1 with (go_at_call 18; go_must (refine HBest.out.mono ?_); rintro e w4 ⟨rfl, hK4⟩)
 have hQ := Blk.new w4 63 #[.int .u64 (u.pool : Int), .int .u64 (tx : Int), .int .u64 (u.note : Int), .int .i64 (u.r.t : Int), .int .i64 (u.r.at_ : Int), .int .i64 (u.r.n : Int), .int .u64 (u.r.bi : Int), .int .i64 (u.r.k : Int), .int .u64 (u.r.s.a : Int), .int .u64 (u.r.s.b : Int), .int .u64 (u.r.s.c : Int), .int .u64 (u.r.s.d : Int)]
 have ka := (Keeps.refl Non w4).alloc (.cells #[.int .u64 (u.pool : Int), .int .u64 (tx : Int), .int .u64 (u.note : Int), .int .i64 (u.r.t : Int), .int .i64 (u.r.at_ : Int), .int .i64 (u.r.n : Int), .int .u64 (u.r.bi : Int), .int .i64 (u.r.k : Int), .int .u64 (u.r.s.a : Int), .int .u64 (u.r.s.b : Int), .int .u64 (u.r.s.c : Int), .int .u64 (u.r.s.d : Int)] 63)
 obtain ⟨w5, hw5⟩ : ∃ V : World, V = w4.alloc (.cells #[.int .u64 (u.pool : Int), .int .u64 (tx : Int), .int .u64 (u.note : Int), .int .i64 (u.r.t : Int), .int .i64 (u.r.at_ : Int), .int .i64 (u.r.n : Int), .int .u64 (u.r.bi : Int), .int .i64 (u.r.k : Int), .int .u64 (u.r.s.a : Int), .int .u64 (u.r.s.b : Int), .int .u64 (u.r.s.c : Int), .int .u64 (u.r.s.d : Int)] 63) := ⟨_, rfl⟩
 rw [← hw5] at hQ ka ⊢
 clear hw5
 obtain ⟨q, hq⟩ : ∃ z, z = w4.heap.size := ⟨_, rfl⟩
 rw [← hq] at hQ ⊢
 clear hq
 have H5 := Lib.hid (H0.out.non (hK4.non ka))
 have HQ : Hid (∀ V, Keeps (fun g => g = k ∨ g ∈ own B.kv.v) w5 V → V.cell? ⟨q, 1, none⟩ = some (.int .u64 (tx : Int))) := Lib.hid (fun V hV => (hQ.keep hV fun e => by
   rcases e with e | e
   · exact hQ.ne H5.out.tk.blk (by decide) e
   · exact own_type H5.out.tk.mt.kr hQ (by decide) e).cell 1)
 clear hQ ka hK4 H0 HBest
 have c3 := (H5.out.tk.tc HHd.out).c3
 go_upto_region 2 with fail
 go_loopw [22] (fun i wr => ∃ j : Nat, j ≤ 1 ∧ i = .int .i64 (j : Int) ∧ (j = 0 → wr = w5) ∧ (j = 1 → ∃ lg', Bh w0 w wr k pool tp B L Dk (lkB L lk tx L.length) sz lg' p m n dv K T X F)) (fun i _ => 1 - (intOf i).toNat)
 case atStart => exact ⟨0, by omega, rfl, fun _ => rfl, fun e => by omega⟩
 case round =>
   obtain ⟨j, hj, rfl, h0', h1'⟩ := hrel
   by_cases hj0 : j = 0
   · obtain rfl := h0' hj0
     subst hj0
     rw [show ((0 : Nat) : Int) = 0 from rfl]
     clear h0' h1'
     obtain ⟨wz, rfl⟩ : ∃ V : World, V = wr := ⟨_, rfl⟩
     have cl := (H5.out.tk.tc HHd.out).cl
     go_upto_region 5 with fail
     clear c3 cl
     go_loopw [29] (fun i wr => ∃ (j lg' : Nat), j ≤ L.length ∧ i = .int .i64 (j : Int) ∧ Bh w0 w wr k pool tp B L Dk (lkB L lk tx j) sz lg' p m n dv K T X F ∧ Keeps (fun g => g = k ∨ g ∈ own B.kv.v) wz wr) (fun i _ => L.length - (intOf i).toNat)
     case atStart => exact ⟨0, _, Nat.zero_le _, rfl, H5.out, Keeps.refl _ _⟩
     case round =>
       obtain ⟨j, lg', hj, rfl, hBh, hKz⟩ := hrel
       obtain ⟨wx, rfl⟩ : ∃ V : World, V = wr := ⟨_, rfl⟩
       have HBh := Lib.hid (And.intro hBh hKz)
       clear hBh hKz
       by_cases hjl : j < L.length
       · have hji : (j : Int) < (L.length : Int) := by omega
         obtain ⟨e0, he0⟩ : ∃ e, L[j]? = some e := ⟨_, List.getElem?_eq_getElem hjl⟩
         have y0 := (HBh.out.1.tk.tc HHd.out).cf j _ he0
         cases e0 with
         | none =>
           replace y0 : wx.cell? ⟨fb, j, none⟩ = some (.pointer none) := y0
           have x1 := HQ.out wx HBh.out.2
           by_cases ht : tx = 0
           · have HS : Hid (lkB L lk tx j = lkB L lk tx (j + 1)) := Lib.hid (by rw [lkB, he0]; simp [ht])
             subst ht
             rw [show ((0 : Nat) : Int) = 0 from rfl] at x1
             clear he0
             go_wp2_with fail
             go_roundw
             case rel => exact ⟨j + 1, lg', by omega, by go_num, by rw [← HS.out]; exact HBh.out.1, HBh.out.2⟩
             case measure => simp [intOf]; omega
           · have h0t : (0 : Int) < (tx : Int) := by omega
             have d0 : decide (0 < tx) = true := decide_eq_true (by omega)
             have HS : Hid ((lkB L lk tx j).set j ⟨1, tx, true⟩ = lkB L lk tx (j + 1)) := Lib.hid (by rw [lkB, he0]; simp [ht])
             obtain ⟨t2, t0⟩ := And.intro (HBh.out.1.tk.tc HHd.out).c2 (HBh.out.1.tk.tc HHd.out).ct
             have hM := HBh.out.1.tk.mt
             clear he0
             obtain ⟨o, ho1, ho2⟩ := HNo.out j hjl
             have HBe := Lib.hid (fun V (hV : Keeps Non wx V) => behind_mt (hM.non hV) j hjl o (by rw [lkB_at L lk tx j j (Nat.le_refl _)]; exact ho1) ho2 1 tx (by omega) (by omega) htx)
             have HBx := Lib.hid (HBe.out wx.drew (Keeps.refl Non wx).drew)
             clear ho1 ho2 hM
             go_upto_region 15 with fail
             go_still_tail 11, (by kernel_rfl)
             obtain ⟨wd, hwd⟩ : ∃ V : World, V = wx.drew := ⟨_, rfl⟩
             change wpList _ _ _ _ _ wx.drew
             have HD := Lib.hid (HBh.out.1.non (Keeps.refl Non wx).drew)
             have HDk := Lib.hid (HBh.out.2.non (Keeps.refl Non wx).drew)
             rw [← hwd] at HBx HD HDk ⊢
             clear hwd HBe
             go_wp2_with (go_at_call 277; go_must (refine HBx.out.mono ?_); rintro e w9 ⟨rfl, hM9, hK9⟩)
             rw [HS.out] at hM9
             have hb9 := HD.out.told HKv.out hM9 hK9
             have hk9 := HDk.out.trans (hK9.mono fun q e => Or.inr e)
             clear hM9 hK9
             go_roundw
             case rel => exact ⟨j + 1, lg', by omega, by go_num, hb9, hk9⟩
             case measure => simp [intOf]; omega
         | some b =>
           replace y0 : wx.cell? ⟨fb, j, none⟩ = some (.pointer (some ⟨b, 0, none⟩)) := y0
           have HE := Lib.hid he0
           clear he0
           go_upto_region 9 with fail
           go_loopw [36] (fun i wr => ∃ (a lg' : Nat), a ≤ 256 ∧ i = .int .i64 (a : Int) ∧ Bh w0 w wr k pool tp B L Dk (lkB L lk tx j) sz lg' p m n dv K T X F ∧ Keeps (fun g => g = k ∨ g ∈ own B.kv.v) wz wr) (fun i _ => 256 - (intOf i).toNat)
           case atStart => exact ⟨0, lg', by omega, rfl, HBh.out.1, HBh.out.2⟩
           case round =>
             obtain ⟨a, lg2, ha, rfl, hB2, hK2⟩ := hrel
             obtain ⟨wy, rfl⟩ : ∃ V : World, V = wr := ⟨_, rfl⟩
             have HB2 := Lib.hid (And.intro hB2 hK2)
             clear hB2 hK2
             by_cases hal : a < 256
             · have hai : (a : Int) < 256 := by omega
               have HR : Hid (Calls Tryz.prog 66 #[.pointer (some ⟨b, 0, none⟩), .int .i64 (a : Int)] wy fun e w' => ∃ (no : Nat) (v : Value) (r : Bool), e = .returned (.tuple #[.int .u64 (no : Int), v, .bool r]) ∧ no ≤ 281474976710656 ∧ Keeps Non wy w') := Lib.hid (by
                 obtain ⟨e1, e2, e3⟩ := HB2.out.1.lv.lf j b HE.out
                 rw [e1]
                 refine (gs_logRead HB2.out.1.gs e2 e3 hn ho a hal).mono ?_
                 rintro e w' ⟨h, hk⟩
                 rcases h with ⟨hok, g, rfl, -, -⟩ | ⟨-, rfl⟩
                 · exact ⟨_, _, _, rfl, hok.2.2, hk⟩
                 · exact ⟨0, _, _, rfl, Nat.zero_le _, hk⟩)
               go_upto_region 12 with (go_at_call 66; go_must (refine HR.out.mono ?_); rintro e w7 ⟨no, v, r, rfl, hno, hK7⟩)
               have hB7 := HB2.out.1.non hK7
               have hk7 := HB2.out.2.non hK7
               have c5 : w7.cell? ⟨k, 5, none⟩ = some (.int .u64 (lg2 : Int)) := hB7.tk.blk.cell 5
               have f5 := hB7.tk.blk.frozen 5
               have hl2a := hB7.l1
               have hl2b := hB7.l2
               go_upto_region 13 with fail
               obtain ⟨mx, hmx, hm1, hm2⟩ : ∃ mx : Nat, (if (lg2 : Int) < (no : Int) + 1 then (no : Int) + 1 else (lg2 : Int)) = (mx : Int) ∧ 1 ≤ mx ∧ mx ≤ 281474976710657 := by
                 by_cases e : (lg2 : Int) < (no : Int) + 1
                 · exact ⟨no + 1, by rw [if_pos e]; omega, by omega, by omega⟩
                 · exact ⟨lg2, by rw [if_neg e], by omega, by omega⟩
               rw [hmx]
               have hB8 := Lib.hid (hB7.log hk0 mx hm1 hm2)
               have hk8 := Lib.hid (hk7.trans (((Keeps.refl (Only k) w7).set (p := ⟨k, 5, none⟩) rfl (.int .u64 (mx : Int))).mono fun g e => Or.inl e))
               clear hB7 hk7 c5 f5 hmx
               go_wp2_with fail
               go_roundw
               case rel => exact ⟨a + 1, mx, by omega, by go_num, hB8.out, hk8.out⟩
               case measure => simp [intOf]; omega
             · obtain rfl : a = 256 := by omega
               have x1 := HQ.out wy HB2.out.2
               have HS : Hid (lkB L lk tx j = lkB L lk tx (j + 1)) := Lib.hid (by rw [lkB, HE.out])
               by_cases ht : tx = 0
               · subst ht
                 rw [show ((0 : Nat) : Int) = 0 from rfl] at x1
                 go_wp2_with fail
                 go_roundw
                 case rel => exact ⟨j + 1, lg2, by omega, by go_num, by rw [← HS.out]; exact HB2.out.1, HB2.out.2⟩
                 case measure => simp [intOf]; omega
               · have h0t : (0 : Int) < (tx : Int) := by omega
                 have hne := Lib.hid ((HA.out j b HE.out).resolve_left ht)
                 have HU5 := Lib.hid (HU.out wy j b HB2.out.1.gs HB2.out.1.lv HE.out)
                 go_wp2_with (go_at_call 55; go_must (refine HU5.out.mono ?_); rintro e w7 ⟨mA, mc, M, rfl, hM7, hh7, hl7, hK7⟩; have hmn : ¬ (M.length : Int) = 0 := (fun e => by cases M with | nil => exact hne.out hh7.symm | cons a r => simp at e; omega); have hB7 := Lib.hid (HB2.out.1.non hK7); have hk7 := Lib.hid (HB2.out.2.non hK7); clear hM7 hh7 hl7 hK7)
                 go_roundw
                 case rel => exact ⟨j + 1, lg2, by omega, by go_num, by rw [← HS.out]; exact hB7.out, hk7.out⟩
                 case measure => simp [intOf]; omega
       · obtain rfl : j = L.length := by omega
         go_wp2_with fail
         go_roundw
         case rel => exact ⟨1, by omega, by go_num, fun e => by omega, fun _ => ⟨_, HBh.out.1⟩⟩
         case measure => simp [intOf]
   · obtain rfl : j = 1 := by omega
     obtain ⟨lg', g1⟩ := h1' rfl
     clear h0' h1'
     go_wp2_with fail
     go_end0
     exact ⟨rfl, lg', g1⟩
end
end Go.Proofs.YtolknnmaadkgiaaGreatDoor
namespace Go.Proofs.YtolknnmaadkgiaaGreatDoor
set_option maxRecDepth 100000
open Go.RowKit Go.Uc Go.Shelf
def who (po pc : Nat → Nat) (pool q : Nat) : Nat → Option Nat
 | 0 => none
 | j + 1 => match who po pc pool q j with
   | some i => some i
   | none => if po j = pool ∧ pc j = q then some j else none
theorem who_is {po pc : Nat → Nat} {pool q : Nat} : ∀ {j i : Nat}, who po pc pool q j = some i → i < j ∧ po i = pool ∧ pc i = q
 | 0, _, h => by cases h
 | j + 1, i, h => by
   rw [who] at h
   cases e : who po pc pool q j with
   | some i' =>
     rw [e] at h
     injection h with h
     subst h
     have := who_is e
     exact ⟨by omega, this.2⟩
   | none =>
     rw [e] at h
     simp only at h
     by_cases c : po j = pool ∧ pc j = q
     · rw [if_pos c] at h
       injection h with h
       subst h
       exact ⟨by omega, c⟩
     · rw [if_neg c] at h; cases h
theorem who_other {po pc : Nat → Nat} {pool q j : Nat} (h : ¬ (po j = pool ∧ pc j = q)) : who po pc pool q (j + 1) = who po pc pool q j := by
 rw [who]
 cases e : who po pc pool q j with
 | some i => rfl
 | none => simp only; rw [if_neg h]
theorem who_had {po pc : Nat → Nat} {pool q j i : Nat} (h : who po pc pool q j = some i) : who po pc pool q (j + 1) = some i := by rw [who, h]
theorem who_new {po pc : Nat → Nat} {pool q j : Nat} (h : who po pc pool q j = none) (hp : po j = pool) (hq : pc j = q) : who po pc pool q (j + 1) = some j := by rw [who, h]; simp only; rw [if_pos ⟨hp, hq⟩]
structure Im (w0 w wr : World) (m : Nat) (K : Nat → Kb) (pool : Nat) (tp : Tp) (ds po pc : Nat → Nat) (j k mb mc : Nat) (lvs dks : Sl) (fb gb : Nat) (L Dk : List (Option Nat)) (F : Nat → Lr) : Prop where
 blk : Blk wr k 99 #[.int .u64 (pool : Int), .slice (some ⟨mb, 0, none⟩) 1 mc, .slice none 0 0, lvs.v, dks.v, .int .u64 1]
 md : RowT wr (.slice (some ⟨mb, 0, none⟩) 1 mc) [tp]
 lr : RowP wr 91 1 encS lvs.v [⟨some ⟨fb, 0, none⟩, tp.l, tp.l⟩]
 lrn : lvs.n = 1
 dr : RowP wr 35 1 encS dks.v [⟨some ⟨gb, 0, none⟩, tp.l, tp.l⟩]
 drn : dks.n = 1
 lf : RowP wr 93 1 encO (.slice (some ⟨fb, 0, none⟩) tp.l tp.l) L
 dk : RowP wr 49 1 encO (.slice (some ⟨gb, 0, none⟩) tp.l tp.l) Dk
 ll : L.length = tp.l
 dl : Dk.length = tp.l
 le : ∀ q, q < tp.l → L[q]? = some ((who po pc pool q j).map fun _ => (F q).b)
 de : ∀ q, q < tp.l → Dk[q]? = some ((who po pc pool q j).map fun i => (K (ds i)).d)
 lv : Lvs w0 wr m K (lbX pool tp) F L
 ixe : ∀ q i, who po pc pool q j = some i → (F q).ix = ds i
 new : w.heap.size ≤ k ∧ w.heap.size ≤ fb ∧ w.heap.size ≤ gb
 kp : Keeps Non w wr
section
variable {w0 w wr w' : World} {m pool j k mb mc fb gb : Nat} {tp : Tp} {K : Nat → Kb} {ds po pc : Nat → Nat} {lvs dks : Sl} {L Dk : List (Option Nat)} {F : Nat → Lr}
theorem Im.non (h : Im w0 w wr m K pool tp ds po pc j k mb mc lvs dks fb gb L Dk F) (hk : Keeps Non wr w') : Im w0 w w' m K pool tp ds po pc j k mb mc lvs dks fb gb L Dk F :=
 ⟨h.blk.non hk, h.md.non hk, h.lr.non hk, h.lrn, h.dr.non hk, h.drn, h.lf.non hk, h.dk.non hk, h.ll, h.dl, h.le, h.de, h.lv.non hk, h.ixe, h.new, h.kp.non hk⟩
theorem Im.pass (h : Im w0 w wr m K pool tp ds po pc j k mb mc lvs dks fb gb L Dk F) (hp : po j = pool → ∃ i, who po pc pool (pc j) j = some i) : Im w0 w wr m K pool tp ds po pc (j + 1) k mb mc lvs dks fb gb L Dk F := by
 have e : ∀ q, who po pc pool q (j + 1) = who po pc pool q j := fun q => by
   by_cases c : po j = pool ∧ pc j = q
   · obtain ⟨i, hi⟩ := hp c.1
     rw [c.2] at hi
     rw [hi]
     exact who_had hi
   · exact who_other c
 exact ⟨h.blk, h.md, h.lr, h.lrn, h.dr, h.drn, h.lf, h.dk, h.ll, h.dl, fun q hq => by rw [e]; exact h.le q hq, fun q hq => by rw [e]; exact h.de q hq, h.lv, fun q i hi => by rw [e] at hi; exact h.ixe q i hi, h.new, h.kp⟩
theorem Im.put {lf : Nat} {tA : Option Addr} {tc : Nat} (h : Im w0 w wr m K pool tp ds po pc j k mb mc lvs dks fb gb L Dk F) (hp : po j = pool) (hw : who po pc pool (pc j) j = none) (hq : pc j < tp.l) (hm : ds j < m) (hinj : ∀ i, i < j → ds i ≠ ds j)
   (hl : Lq w0 wr lf (K (ds j)).d (lbX pool tp (pc j)) tA tc) :
   Im w0 w ((wr.setCell ⟨fb, pc j, none⟩ (.pointer (some ⟨lf, 0, none⟩))).setCell ⟨gb, pc j, none⟩ (.pointer (some ⟨(K (ds j)).d, 0, none⟩))) m K pool tp ds po pc (j + 1) k mb mc lvs dks fb gb (L.set (pc j) (some lf)) (Dk.set (pc j) (some (K (ds j)).d)) (fun i => if i = pc j then ⟨lf, ds j, tA, tc⟩ else F i) := by
 obtain ⟨cf, hf⟩ := row_blk (s := ⟨some ⟨fb, 0, none⟩, tp.l, tp.l⟩) h.lf rfl
 obtain ⟨cg, hg⟩ := row_blk (s := ⟨some ⟨gb, 0, none⟩, tp.l, tp.l⟩) h.dk rfl
 obtain ⟨r1, k1⟩ := row_set1 (s := ⟨some ⟨fb, 0, none⟩, tp.l, tp.l⟩) encO_len h.lf h.ll.symm rfl (i := pc j) (by rw [h.ll]; exact hq) (some lf) (v := .pointer (some ⟨lf, 0, none⟩)) rfl
 have hfg : fb ≠ gb := hf.ne hg (by decide)
 have hg1 := hg.one k1 (fun e => hfg e.symm)
 have hdk1 : RowP _ 49 1 encO (.slice (some ⟨gb, 0, none⟩) tp.l tp.l) Dk := h.dk.keep k1 fun q hq e => by unfold Only at e; subst e; exact own_type h.dk hf (by decide) hq
 obtain ⟨r2, k2⟩ := row_set1 (s := ⟨some ⟨gb, 0, none⟩, tp.l, tp.l⟩) encO_len hdk1 h.dl.symm rfl (i := pc j) (by rw [h.dl]; exact hq) (some (K (ds j)).d) (v := .pointer (some ⟨(K (ds j)).d, 0, none⟩)) rfl
 have sb : ∀ {g t : Nat} {cs : Array Value}, Blk wr g t cs → t ≠ 93 → t ≠ 49 → Blk ((wr.setCell ⟨fb, pc j, none⟩ (.pointer (some ⟨lf, 0, none⟩))).setCell ⟨gb, pc j, none⟩ (.pointer (some ⟨(K (ds j)).d, 0, none⟩))) g t cs := fun hb a b => (hb.one k1 (hb.ne hf a)).one k2 (hb.ne hg b)
 have sr : ∀ {α : Type} {e : TypeId} {kk : Nat} {enc : α → List Value} {v : Value} {xs : List α}, RowP wr e kk enc v xs → e ≠ 93 → e ≠ 49 → RowP ((wr.setCell ⟨fb, pc j, none⟩ (.pointer (some ⟨lf, 0, none⟩))).setCell ⟨gb, pc j, none⟩ (.pointer (some ⟨(K (ds j)).d, 0, none⟩))) e kk enc v xs := fun hr a b =>
   (hr.keep k1 fun q hq e => by unfold Only at e; subst e; exact own_type hr hf (Ne.symm a) hq).keep k2 fun q hq e => by unfold Only at e; subst e; exact own_type hr hg (Ne.symm b) hq
 have r1' : RowP ((wr.setCell ⟨fb, pc j, none⟩ (.pointer (some ⟨lf, 0, none⟩))).setCell ⟨gb, pc j, none⟩ (.pointer (some ⟨(K (ds j)).d, 0, none⟩))) 93 1 encO (.slice (some ⟨fb, 0, none⟩) tp.l tp.l) (L.set (pc j) (some lf)) := r1.keep k2 fun q hq e => by unfold Only at e; subst e; exact own_type r1 hg1 (by decide) hq
 have hLq2 : ∀ {lf' d : Nat} {x : Lb} {tA : Option Addr} {tc : Nat}, Lq w0 wr lf' d x tA tc → Lq w0 ((wr.setCell ⟨fb, pc j, none⟩ (.pointer (some ⟨lf, 0, none⟩))).setCell ⟨gb, pc j, none⟩ (.pointer (some ⟨(K (ds j)).d, 0, none⟩))) lf' d x tA tc := fun hl => ⟨sb hl.blk (by decide) (by decide), sr hl.ts (by decide) (by decide), hl.new⟩
 refine ⟨sb h.blk (by decide) (by decide), sr h.md (by decide) (by decide), sr h.lr (by decide) (by decide), h.lrn, sr h.dr (by decide) (by decide), h.drn, r1', r2, by rw [List.length_set]; exact h.ll, by rw [List.length_set]; exact h.dl, fun q hq' => ?_, fun q hq' => ?_, ⟨fun q b hb => ?_, fun q q' b b' hb hb' hne => ?_⟩, fun q i hi => ?_, h.new, (h.kp.then k1 fun i hi e => by have := h.new; unfold Only at e; omega).then k2 fun i hi e => by have := h.new; unfold Only at e; omega⟩
 · by_cases e : q = pc j
   · subst e
     rw [List.getElem?_set_self (by rw [h.ll]; exact hq), who_new hw hp rfl, if_pos rfl]
     rfl
   · rw [List.getElem?_set_ne (Ne.symm e), h.le q hq', who_other (fun c => e c.2.symm), if_neg e]
 · by_cases e : q = pc j
   · subst e
     rw [List.getElem?_set_self (by rw [h.dl]; exact hq), who_new hw hp rfl]
     rfl
   · rw [List.getElem?_set_ne (Ne.symm e), h.de q hq', who_other (fun c => e c.2.symm)]
 · by_cases e : q = pc j
   · subst e
     rw [List.getElem?_set_self (by rw [h.ll]; exact hq)] at hb
     injection hb with hb
     injection hb with hb
     subst hb
     simp only [if_true]
     exact ⟨trivial, hm, hLq2 hl⟩
   · rw [List.getElem?_set_ne (Ne.symm e)] at hb
     obtain ⟨a1, a2, a3⟩ := h.lv.lf q b hb
     simp only [if_neg e]
     exact ⟨a1, a2, hLq2 a3⟩
 · have hlt : ∀ {q b : Nat}, (L.set (pc j) (some lf))[q]? = some (some b) → q ≠ pc j → L[q]? = some (some b) ∧ ∃ i, i < j ∧ (F q).ix = ds i := fun {q b} hb e => by
     rw [List.getElem?_set_ne (Ne.symm e)] at hb
     have hql : q < tp.l := by
       rcases Nat.lt_or_ge q tp.l with h1 | h1
       · exact h1
       · rw [List.getElem?_eq_none (by rw [h.ll]; exact h1)] at hb; cases hb
     have h2 := h.le q hql
     rw [hb] at h2
     cases e3 : who po pc pool q j with
     | none => rw [e3] at h2; cases h2
     | some i => exact ⟨hb, i, (who_is e3).1, h.ixe q i e3⟩
   by_cases e : q = pc j
   · have e' : q' ≠ pc j := fun c => hne (e.trans c.symm)
     obtain ⟨-, i, hi, hx⟩ := hlt hb' e'
     show (if q = pc j then _ else _ : Lr).ix ≠ (if q' = pc j then _ else _ : Lr).ix
     rw [if_pos e, if_neg e', hx]
     exact fun c => hinj i hi c.symm
   · obtain ⟨hb1, i, hi, hx⟩ := hlt hb e
     by_cases e' : q' = pc j
     · show (if q = pc j then _ else _ : Lr).ix ≠ (if q' = pc j then _ else _ : Lr).ix
       rw [if_neg e, if_pos e', hx]
       exact hinj i hi
     · obtain ⟨hb2, -⟩ := hlt hb' e'
       show (if q = pc j then _ else _ : Lr).ix ≠ (if q' = pc j then _ else _ : Lr).ix
       rw [if_neg e, if_neg e']
       exact h.lv.inj q q' b b' hb1 hb2 hne
 · by_cases e : q = pc j
   · subst e
     rw [who_new hw hp rfl] at hi
     injection hi with hi
     subst hi
     rw [if_pos rfl]
   · rw [who_other (fun c => e c.2.symm)] at hi
     rw [if_neg e]
     exact h.ixe q i hi
end
end Go.Proofs.YtolknnmaadkgiaaGreatDoor
