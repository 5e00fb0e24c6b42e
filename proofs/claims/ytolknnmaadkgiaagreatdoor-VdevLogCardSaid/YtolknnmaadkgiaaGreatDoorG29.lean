/- Leaves formatted one by one: what holds between two. Create: a tank of one mirror. -/
import Derived.Test.YtolknnmaadkgiaaGreatDoorG28
set_option linter.unusedVariables false
set_option linter.unusedSimpArgs false
namespace Go.Proofs.YtolknnmaadkgiaaGreatDoor
set_option maxRecDepth 100000
open Go.RowKit Go.Uc Go.Shelf
def lbX (pool : Nat) (tp : Tp) (i : Nat) : Lb := ⟨pool, [tp], 0, i⟩
structure Fi (w0 wx wr : World) (p m n : Nat) (dv : Sl) (K : Nat → Kb) (T : St) (pool : Nat) (tp : Tp) (l : Nat) (ix : Nat → Nat) (fb : Nat) (j : Nat) (F : Nat → Lr) (Tj : St) (L : List (Option Nat)) : Prop where
 gs : Gs w0 wr p dv m n K Tj
 P : Tj.P = T.P
 ff : ∀ i, i < j → Tj.f (ix i) = fmtG n (labelB (lbX pool tp i)) (T.f (ix i)) ∧ Tj.g (ix i) = fmtG n (labelB (lbX pool tp i)) (T.f (ix i))
 fo : ∀ i, (∀ i', i' < j → ix i' ≠ i) → Tj.f i = T.f i ∧ Tj.g i = T.g i
 ll : L.length = l
 le : ∀ i, i < l → L[i]? = some (if i < j then some (F i).b else none)
 row : RowP wr 93 1 encO (.slice (some ⟨fb, 0, none⟩) l l) L
 lv : Lvs w0 wr m K (lbX pool tp) F L
 ixe : ∀ i, i < j → (F i).ix = ix i
 tn : ∀ i, i < j → ∀ q ∈ own (.slice (F i).tA 1 (F i).tc), wx.heap.size ≤ q
 kp : Keeps (fun g => Fg wx p m K g ∨ g = fb) wx wr
section
variable {w0 wx wr w' : World} {p m n pool l fb j lf : Nat} {tp : Tp} {dv : Sl} {K : Nat → Kb} {T Tj : St} {L : List (Option Nat)} {F : Nat → Lr} {ix : Nat → Nat} {tA : Option Addr} {tc : Nat}
theorem lvs_nil {X : Nat → Lb} (F : Nat → Lr) (l : Nat) : Lvs w0 wr m K X F (List.replicate l none) := by
 have h : ∀ (i b : Nat), (List.replicate l (none : Option Nat))[i]? = some (some b) → False := fun i b hb => by
   rw [List.getElem?_replicate] at hb
   split at hb
   · injection hb with hb; cases hb
   · cases hb
 exact ⟨fun i b hb => (h i b hb).elim, fun i i' b b' hb _ _ => (h i b hb).elim⟩
theorem Fi.non (h : Fi w0 wx wr p m n dv K T pool tp l ix fb j F Tj L) (hk : Keeps Non wr w') : Fi w0 wx w' p m n dv K T pool tp l ix fb j F Tj L :=
 ⟨h.gs.non hk, h.P, h.ff, h.fo, h.ll, h.le, h.row.non hk, h.lv.non hk, h.ixe, h.tn, h.kp.non hk⟩
theorem Fi.step (h : Fi w0 wx wr p m n dv K T pool tp l ix fb j F Tj L) (hj : j < l) (hix : ix j < m) (hinj : ∀ i, i < l → i ≠ j → ix i ≠ ix j) (hW : T.P.waits = []) (hfx : fb < wx.heap.size) (hfw : w0.heap.size ≤ fb) (hbx : ∃ cs, Blk wx fb 93 cs)
   (hG : Gs w0 w' p dv m n K (Tj.fmt (ix j) (K (ix j)).d n (labelB (lbX pool tp j)))) (hq : Lq w0 w' lf (K (ix j)).d (lbX pool tp j) tA tc) (hts : ∀ q ∈ own (.slice tA 1 tc), wr.heap.size ≤ q) (hk : Keeps (Fg wr p m K) wr w') :
   Fi w0 wx (w'.setCell ⟨fb, j, none⟩ (.pointer (some ⟨lf, 0, none⟩))) p m n dv K T pool tp l ix fb (j + 1) (fun i => if i = j then ⟨lf, ix j, tA, tc⟩ else F i) (Tj.fmt (ix j) (K (ix j)).d n (labelB (lbX pool tp j))) (L.set j (some lf)) := by
 have hr' := h.gs.stayRow hk h.row (by decide) (by decide) (by decide)
 obtain ⟨r1, k1⟩ := row_set1 (s := ⟨some ⟨fb, 0, none⟩, l, l⟩) encO_len hr' h.ll.symm rfl (i := j) (by rw [h.ll]; exact hj) (some lf) (v := .pointer (some ⟨lf, 0, none⟩)) rfl
 obtain ⟨cf, hf⟩ := row_blk (s := ⟨some ⟨fb, 0, none⟩, l, l⟩) hr' rfl
 have hjx : Tj.f (ix j) = T.f (ix j) := (h.fo (ix j) fun i' hi' e => hinj i' (by omega) (by omega) e).1
 refine ⟨hG.far hf (by decide) (by decide) (by decide) (by decide) (by decide) hfw k1, ?_, fun i hi => ?_, fun i hi => ?_, by rw [List.length_set]; exact h.ll, fun i hi => ?_, r1, ⟨fun i b hb => ?_, fun i i' b b' hb hb' hne => ?_⟩, fun i hi => ?_, fun i hi => ?_, ?_⟩
 · show (⟨kept _ Tj.P.waits, Tj.P.left, Tj.P.off⟩ : Pow) = T.P
   rw [h.P, hW]
   obtain ⟨⟨a, b, c⟩⟩ : ∃ q : Pow, True := ⟨T.P, trivial⟩
   cases hT : T.P with
   | mk a b c => rw [hT] at hW; simp at hW; subst hW; rfl
 · show (if ix i = ix j then _ else _) = _ ∧ (if ix i = ix j then _ else _) = _
   by_cases e : i = j
   · subst e
     rw [if_pos rfl, if_pos rfl, hjx]
     exact ⟨rfl, rfl⟩
   · have hne : ix i ≠ ix j := hinj i (by omega) e
     rw [if_neg hne, if_neg hne]
     exact h.ff i (by omega)
 · have hne : i ≠ ix j := fun e => hi j (by omega) e.symm
   show (if i = ix j then _ else _) = _ ∧ (if i = ix j then _ else _) = _
   rw [if_neg hne, if_neg hne]
   exact h.fo i fun i' hi' => hi i' (by omega)
 · by_cases e : i = j
   · subst e
     rw [List.getElem?_set_self (by rw [h.ll]; exact hj), if_pos (by omega), if_pos rfl]
   · rw [List.getElem?_set_ne (Ne.symm e), h.le i hi, if_neg e]
     by_cases e2 : i < j
     · rw [if_pos e2, if_pos (by omega)]
     · rw [if_neg e2, if_neg (by omega)]
 · by_cases e : i = j
   · subst e
     rw [List.getElem?_set_self (by rw [h.ll]; exact hj)] at hb
     injection hb with hb
     injection hb with hb
     subst hb
     simp only [if_true]
     refine ⟨trivial, hix, ?_⟩
     exact ⟨hq.blk.one k1 (hq.blk.ne hf (by decide)), hq.ts.keep k1 (fun q hq' e => by unfold Only at e; subst e; exact own_type hq.ts hf (by decide) hq'), hq.new⟩
   · rw [List.getElem?_set_ne (Ne.symm e)] at hb
     obtain ⟨a1, a2, a3⟩ := ((h.lv.fg h.gs hk).far hf (by decide) (by decide) k1).lf i b hb
     simp only [if_neg e]
     exact ⟨a1, a2, a3⟩
 · have hlt : ∀ {i : Nat} {b : Nat}, (L.set j (some lf))[i]? = some (some b) → i < l ∧ (i ≠ j → i < j ∧ L[i]? = some (some b)) := fun {i b} hb => by
     have hil : i < l := by
       rcases Nat.lt_or_ge i l with h1 | h1
       · exact h1
       · rw [List.getElem?_eq_none (by rw [List.length_set, h.ll]; exact h1)] at hb; cases hb
     refine ⟨hil, fun e => ?_⟩
     rw [List.getElem?_set_ne (Ne.symm e)] at hb
     refine ⟨?_, hb⟩
     have := h.le i hil
     rw [this] at hb
     by_cases e2 : i < j
     · exact e2
     · rw [if_neg e2] at hb; cases hb
   obtain ⟨l1, g1⟩ := hlt hb
   obtain ⟨l2, g2⟩ := hlt hb'
   by_cases e : i = j
   · subst e
     have e' : i' ≠ i := Ne.symm hne
     obtain ⟨g3, g4⟩ := g2 e'
     show (if i = i then _ else _ : Lr).ix ≠ (if i' = i then _ else _ : Lr).ix
     rw [if_pos rfl, if_neg e', h.ixe i' g3]
     exact fun e => hinj i' l2 e' e.symm
   · obtain ⟨g3, g4⟩ := g1 e
     by_cases e' : i' = j
     · subst e'
       show (if i = i' then _ else _ : Lr).ix ≠ (if i' = i' then _ else _ : Lr).ix
       rw [if_neg e, if_pos rfl, h.ixe i g3]
       exact hinj i l1 e
     · obtain ⟨g5, g6⟩ := g2 e'
       show (if i = j then _ else _ : Lr).ix ≠ (if i' = j then _ else _ : Lr).ix
       rw [if_neg e, if_neg e']
       exact h.lv.inj i i' b b' g4 g6 hne
 · show (if i = j then _ else _ : Lr).ix = ix i
   by_cases e : i = j
   · rw [if_pos e, e]
   · rw [if_neg e]; exact h.ixe i (by omega)
 · by_cases e : i = j
   · simp only [if_pos e]
     exact fun q hq => by have := hts q hq; have := h.kp.size; omega
   · simp only [if_neg e]
     exact h.tn i (by omega)
 · refine (h.kp.then hk fun i hi e => ?_).then k1 fun i hi e => .inr e
   by_cases c1 : i = fb
   · exact .inr c1
   · by_cases c2 : Fg wx p m K i
     · exact .inl c2
     · exact absurd e (fg_not' h.kp hi c2 c1)
end
end Go.Proofs.YtolknnmaadkgiaaGreatDoor
namespace Go.Proofs.YtolknnmaadkgiaaGreatDoor
set_option maxRecDepth 100000
open Go.RowKit Go.Uc Go.Shelf
section
variable {w0 w w' : World} {p m n k pool sz lg : Nat} {tp : Tp} {B : TB} {dv : Sl} {K : Nat → Kb} {T : St} {L Dk : List (Option Nat)} {lk : List Lk} {X : Nat → Lb} {F : Nat → Lr}
structure Crd (w0 w : World) (p m n : Nat) (dv : Sl) (K : Nat → Kb) (T : St) (pool : Nat) (tp : Tp) (tA : Option Addr) (tc : Nat) (ix : Nat → Nat) (gd od cd : Nat) : Prop where
 gs : Gs w0 w p dv m n K T
 on : T.P.on
 wt : T.P.waits = []
 n3 : 324 ≤ n
 po : pool < 18446744073709551616
 tok : tp.ok
 k2 : tp.k = 2
 tsn : tp.s = n
 rts : RowT w (.slice tA 1 tc) [tp]
 ixm : ∀ j, j < tp.l → ix j < m
 inj : ∀ i j, i < tp.l → j < tp.l → i ≠ j → ix i ≠ ix j
 cdl : tp.l ≤ cd
 ds : ∀ j, j < tp.l → w.cell? ⟨gd, od + j, none⟩ = some (.pointer (some ⟨(K (ix j)).d, 0, none⟩))
theorem Crd.l5 {tA : Option Addr} {tc : Nat} {ix : Nat → Nat} {gd od cd : Nat} (h : Crd w0 w p m n dv K T pool tp tA tc ix gd od cd) : 2 ≤ tp.l ∧ tp.l ≤ 5 := by
 have := h.tok.1
 have := h.k2
 omega
def Pd (w wr : World) (gb l : Nat) (ix : Nat → Nat) (K : Nat → Kb) (j : Nat) : Prop := ∃ Dk : List (Option Nat), Dk.length = l ∧ (∀ i, i < l → Dk[i]? = some (if i < j then some (K (ix i)).d else none)) ∧ RowP wr 49 1 encO (.slice (some ⟨gb, 0, none⟩) l l) Dk ∧ Keeps (Only gb) w wr
theorem row_headAt3 {A : Option Addr} {c : Nat} {t : Tp} (h : RowT w (.slice A 1 c) [t]) : ∃ g, A = some ⟨g, 0, none⟩ := by
 obtain ⟨g', cap, em, -⟩ := h.at_ encT_len (i := 0) (by simp)
 injection em with em _ _
 exact ⟨g', em⟩
structure Mk (w0 w w' : World) (p m n : Nat) (dv : Sl) (K : Nat → Kb) (T : St) (pool : Nat) (tp : Tp) (ix : Nat → Nat) (k : Nat) (B : TB) (L Dk : List (Option Nat)) (F : Nat → Lr) (Tj : St) : Prop where
 tk : Tk w' k pool tp B L Dk (List.replicate tp.l Lk.no) (n - 292) 1
 gs : Gs w0 w' p dv m n K Tj
 P : Tj.P = T.P
 ff : ∀ i, i < tp.l → Tj.f (ix i) = fmtG n (labelB (lbX pool tp i)) (T.f (ix i)) ∧ Tj.g (ix i) = fmtG n (labelB (lbX pool tp i)) (T.f (ix i))
 fo : ∀ i, (∀ i', i' < tp.l → ix i' ≠ i) → Tj.f i = T.f i ∧ Tj.g i = T.g i
 ll : L.length = tp.l
 le : ∀ i, i < tp.l → L[i]? = some (some (F i).b)
 lv : Lvs w0 w' m K (lbX pool tp) F L
 ixe : ∀ i, i < tp.l → (F i).ix = ix i
 mn : ∀ q ∈ own B.made.v, w.heap.size ≤ q
 tn : ∀ i, i < tp.l → ∀ q ∈ own (.slice (F i).tA 1 (F i).tc), w.heap.size ≤ q
 new : w.heap.size ≤ k ∧ ∀ q, q ∈ own B.lf.v ∨ q ∈ own B.dk.v ∨ q ∈ own B.lv.v ∨ q ∈ own B.kv.v → w.heap.size ≤ q
 kp : Keeps (Fg w p m K) w w'
set_option maxHeartbeats 16000000 in
theorem create_one {tA : Option Addr} {tc : Nat} {ix : Nat → Nat} {gd od cd : Nat} (h : Crd w0 w p m n dv K T pool tp tA tc ix gd od cd) :
   Calls Tryz.prog 15 #[.int .u64 (pool : Int), .slice tA 1 tc, .slice (some ⟨gd, od, none⟩) tp.l cd] w fun e w' => ∃ k B L Dk F Tj, e = .returned (.tuple #[.pointer (some ⟨k, 0, none⟩), .int .i64 0]) ∧ Mk w0 w w' p m n dv K T pool tp ix k B L Dk F Tj := by
 have hl := h.l5
 have HC := Lib.hid (clone54_any [tp] tA tc w h.rts (by simp) (by simp))
 have HH := Lib.hid h
 clear h
 go_enter Tryz.func15, Tryz.ntmps15
 go_upto_region 2 with (go_at_call 45; go_must (refine HC.out.mono ?_); rintro e w1 ⟨mA, mc, rfl, hm1, hmo, hK1⟩)
 obtain ⟨mb, hmb⟩ := row_headAt3 hm1
 subst hmb
 have hB := Blk.new w1 99 #[.int .u64 (pool : Int), .slice (some ⟨mb, 0, none⟩) 1 mc, .slice none 0 0, .slice none 0 0, .slice none 0 0, .int .u64 1]
 have ka := (Keeps.refl Non w1).alloc (.cells #[.int .u64 (pool : Int), .slice (some ⟨mb, 0, none⟩) 1 mc, .slice none 0 0, .slice none 0 0, .slice none 0 0, .int .u64 1] 99)
 obtain ⟨w2, hw2⟩ : ∃ V : World, V = w1.alloc (.cells #[.int .u64 (pool : Int), .slice (some ⟨mb, 0, none⟩) 1 mc, .slice none 0 0, .slice none 0 0, .slice none 0 0, .int .u64 1] 99) := ⟨_, rfl⟩
 rw [← hw2] at hB ka ⊢
 clear hw2
 obtain ⟨k, hk⟩ : ∃ z, z = w1.heap.size := ⟨_, rfl⟩
 rw [← hk] at hB ⊢
 have HK := Lib.hid (show w.heap.size ≤ k by rw [hk]; exact hK1.size)
 clear hk
 have hk12 := hK1.non ka
 have hm2 := hm1.non ka
 have HLb : Hid (Calls Tryz.prog 47 #[.pointer (some ⟨k, 0, none⟩), .int .i64 0, .int .i64 0] w2 fun e w' => e = .returned (.agg #[.int .u64 (pool : Int), .slice (some ⟨mb, 0, none⟩) 1 mc, .int .i64 0, .int .i64 0]) ∧ Keeps Non w2 w') := Lib.hid (labelOf_any (w := w2) (k := k) (pool := pool) (some ⟨mb, 0, none⟩) 1 mc 0 0 (hB.cell 0) (hB.cell 1))
 have HCk : Hid (∀ V, Keeps Non w2 V → Calls Tryz.prog 46 #[.agg #[.int .u64 (pool : Int), .slice (some ⟨mb, 0, none⟩) 1 mc, .int .i64 0, .int .i64 0]] V fun e w' => e = .returned (.int .i64 0) ∧ Keeps Non V w') := Lib.hid (fun V hV => checkLabel96_any ⟨pool, [tp], 0, 0⟩ ⟨HH.out.po, by simp, by simp, ⟨by simp, by simp; omega⟩, by intro t ht; simp at ht; subst ht; exact HH.out.tok⟩ (some ⟨mb, 0, none⟩) mc V (hm2.non hV))
 have HPl : Hid (∀ V, Keeps Non w2 V → _) := Lib.hid (fun V (hV : Keeps Non w2 V) => places_one (lg := 1) (hB.non hV) (hm2.non hV) (by omega) hl.2)
 have H2 := Lib.hid (show _ ∧ _ ∧ _ from ⟨hm2, hmo, hk12⟩)
 have HBo := Lib.hid hB
 clear hm1 hmo hK1 ka hB hm2 hk12 HC
 go_upto_region 5 with (first
   | (go_at_call 47; go_must (refine HLb.out.mono ?_); rintro e w3 ⟨rfl, hK3⟩; have HCk3 := Lib.hid (HCk.out w3 hK3))
   | (go_at_call 46; go_must (refine HCk3.out.mono ?_); rintro e w4 ⟨rfl, hK4⟩; have HPl4 := Lib.hid (HPl.out w4 (hK3.non hK4)))
   | (go_at_call 41; go_must (refine HPl4.out.mono ?_); rintro e w5 ⟨rfl, lA, lc, dA, dc, fb, gb, hB5, hl5, hd5, hf5, hg5, hnw, hK5⟩))
 have hk0 := HK.out
 have kw5 : Keeps Non w w5 := ((H2.out.2.2.non hK3).non hK4).then hK5 fun i hi e => by unfold Only at e; omega
 have hgw : w.heap.size ≤ fb ∧ w.heap.size ≤ gb := by have := ((H2.out.2.2.non hK3).non hK4).size; omega
 have hBo : ∃ cs, Blk w4 k 99 cs := ⟨_, (HBo.out.non hK3).non hK4⟩
 have hm5 : RowT w5 (.slice (some ⟨mb, 0, none⟩) 1 mc) [tp] := ((H2.out.1.non hK3).non hK4).keep hK5 fun q hq e => by
   unfold Only at e
   subst e
   obtain ⟨cs, hcs⟩ := hBo
   exact own_type ((H2.out.1.non hK3).non hK4) hcs (by decide) hq
 obtain ⟨g0, cap0, em, -, -, hmc2, -, -⟩ := hm5.at_ encT_len (i := 0) (by simp)
 injection em with em emn emc
 injection em with em
 injection em with em
 subst em
 clear emn emc
 have m0 : w5.cell? ⟨mb, 0, none⟩ = some (.int .i64 (tp.k : Int)) := hmc2 0 (by decide)
 have m1 : w5.cell? ⟨mb, 1, none⟩ = some (.int .i64 (tp.l : Int)) := hmc2 1 (by decide)
 have m2 : w5.cell? ⟨mb, 2, none⟩ = some (.int .i64 (tp.s : Int)) := hmc2 2 (by decide)
 rw [HH.out.tsn] at m2
 obtain ⟨l, hle⟩ : ∃ l, l = tp.l := ⟨_, rfl⟩
 have HLe := Lib.hid hle
 rw [← hle] at hl hl5 hd5 hf5 hg5 m1 ⊢
 have H5 := Lib.hid (show _ ∧ _ ∧ _ ∧ _ ∧ _ ∧ _ ∧ _ ∧ _ ∧ _ from ⟨hB5, hl5, hd5, hf5, hg5, hgw, hK5, kw5, hm5⟩)
 have c1 := hB5.cell 1
 clear hle hmc2 hB5 hl5 hd5 hf5 hg5 hnw hgw hK5 kw5 hm5 hBo HBo HPl HPl4 HCk HCk3 HLb hK3 hK4
 go_upto_region 7 with fail
 go_loopw [9, 37] (fun t9 i wr => ∃ j : Nat, j ≤ 1 ∧ i = .int .i64 (j : Int) ∧ (j = 0 → wr = w5 ∧ t9 = .slice (some ⟨gd, od, none⟩) l cd) ∧ (j = 1 → (∃ A2 c2, t9 = .slice A2 0 c2) ∧ Pd w5 wr gb l ix K l)) (fun _ i _ => 1 - (intOf i).toNat)
 case atStart => exact ⟨0, by omega, rfl, fun _ => ⟨rfl, by rw [HLe.out]⟩, fun e => by omega⟩
 case round =>
   obtain ⟨j, hj, rfl, h0', h1'⟩ := hrel
   by_cases hj0 : j = 0
   · obtain ⟨rfl, rfl⟩ := h0' hj0
     subst hj0
     rw [show ((0 : Nat) : Int) = 0 from rfl]
     clear h0' h1'
     obtain ⟨wz, rfl⟩ : ∃ V : World, V = wr := ⟨_, rfl⟩
     have hT := Blk.new wz 31 #[.int .i64 (tp.k : Int), .int .i64 (l : Int), .int .i64 (n : Int)]
     have ka := (Keeps.refl Non wz).alloc (.cells #[.int .i64 (tp.k : Int), .int .i64 (l : Int), .int .i64 (n : Int)] 31)
     go_upto_region 9 with fail
     obtain ⟨w6, hw6⟩ : ∃ V : World, V = wz.alloc (.cells #[.int .i64 (tp.k : Int), .int .i64 (l : Int), .int .i64 (n : Int)] 31) := ⟨_, rfl⟩
     rw [← hw6] at hT ka ⊢
     clear hw6
     obtain ⟨q, hq⟩ : ∃ z, z = wz.heap.size := ⟨_, rfl⟩
     rw [← hq] at hT ⊢
     have HQ := Lib.hid (show _ ∧ _ from ⟨hq, hT⟩)
     have x1 := hT.cell 1
     clear hq
     have HP0 : Hid (Pd w6 w6 gb l ix K 0) := Lib.hid ⟨List.replicate l none, by simp, fun i hi => by rw [List.getElem?_replicate, if_pos hi, if_neg (Nat.not_lt_zero i)], H5.out.2.2.2.2.1.non ka, Keeps.refl _ _⟩
     clear m0 m1 m2 c1 hT
     go_upto_region 10 with fail
     go_loopw [9, 44] (fun t9 i wr => ∃ (j : Nat) (A' : Option Addr) (u c' : Nat), j + u = l ∧ i = .int .i64 (j : Int) ∧ t9 = .slice A' u c' ∧ u ≤ c' ∧ (0 < u → A' = some ⟨gd, od + j, none⟩) ∧ Pd w6 wr gb l ix K j) (fun _ i _ => l - (intOf i).toNat)
     case atStart => exact ⟨0, some ⟨gd, od, none⟩, l, cd, by omega, rfl, rfl, by have := HH.out.cdl; have := HLe.out; omega, fun _ => rfl, HP0.out⟩
     case round =>
       obtain ⟨j, A', u, c', hju, rfl, rfl, huc, hA', hPd⟩ := hrel
       obtain ⟨wx, rfl⟩ : ∃ V : World, V = wr := ⟨_, rfl⟩
       by_cases hu : 0 < u
       · obtain rfl := hA' hu
         obtain ⟨Dk, hDl, hDe, hDr, hDk⟩ := hPd
         have hji : (j : Int) < (l : Int) := by omega
         have hjl : j < l := by omega
         have HLo := HLe.out
         have hkx : Keeps Non w wx := (H5.out.2.2.2.2.2.2.2.1.non ka).then hDk fun i hi e => by have := H5.out.2.2.2.2.2.1; unfold Only at e; omega
         have y0 : wx.cell? ⟨gd, od + j, none⟩ = some (.pointer (some ⟨(K (ix j)).d, 0, none⟩)) := hkx.cell (HH.out.ds j (by omega)) id
         have hgb6 : ∃ cur, Blk w6 gb 49 cur := row_blk (s := ⟨some ⟨gb, 0, none⟩, l, l⟩) (H5.out.2.2.2.2.1.non ka) rfl
         obtain ⟨cg, hcg⟩ := hgb6
         have hTx := HQ.out.2.one hDk (HQ.out.2.ne hcg (by decide))
         have y2 := hTx.cell 2
         have HS := Lib.hid (fun V (hV : Keeps Non wx V) => gs_sectors ((HH.out.gs.non hkx).non hV) (HH.out.ixm j (by omega)))
         have hCt : ∀ V, Keeps Non wx V → ∀ (A2 : Option Addr) (c2 : Nat), (0 < u - 1 → A2 = some ⟨gd, od + (j + 1), none⟩) → Calls Tryz.prog 48 #[.slice A2 (u - 1) c2, .pointer (some ⟨(K (ix j)).d, 0, none⟩)] V fun e w' => e = .returned (.bool false) ∧ w' = V := fun V hV A2 c2 hA2 => contains48_no A2 (u - 1) c2 _ ((HH.out.gs.non (hkx.non hV)).dk (HH.out.ixm j (by omega))) (fun i hi => ⟨gd, od + (j + 1), (K (ix (j + 1 + i))).d, hA2 (by omega), by
           have := (hkx.non hV).cell (HH.out.ds (j + 1 + i) (by omega)) id
           rw [show od + (j + 1) + i = od + (j + 1 + i) by omega]
           exact this, (HH.out.gs.non hkx).dne (HH.out.ixm _ (by omega)) (HH.out.ixm _ (by omega)) (HH.out.inj _ _ (by omega) (by omega) (by omega)), (HH.out.gs.non (hkx.non hV)).dk (HH.out.ixm _ (by omega))⟩) (by omega)
         have HCt := Lib.hid hCt
         have HD := Lib.hid (show _ ∧ _ ∧ _ ∧ _ from ⟨hDl, hDe, hDr, hDk⟩)
         obtain ⟨db, hdb⟩ := row_headAt (s := ⟨dA, 1, dc⟩) encS_len H5.out.2.2.1 (by simp)
         have hdb' : dA = some ⟨db, 0, none⟩ := hdb
         obtain ⟨cdb, hcdb⟩ := row_blk (s := ⟨dA, 1, dc⟩) H5.out.2.2.1 hdb
         have z4 : wx.cell? ⟨k, 4, none⟩ = some (.slice dA 1 dc) := (((H5.out.1.non ka).one hDk ((H5.out.1.non ka).ne hcg (by decide))).cell 4)
         rw [hdb'] at z4
         have zd : wx.cell? ⟨db, 0, none⟩ = some (.slice (some ⟨gb, 0, none⟩) l l) := hDk.cell (ka.cell (row_cellAt (s := ⟨dA, 1, dc⟩) encS_len H5.out.2.2.1 hdb (i := 0) rfl) id) ((hcdb.non ka).ne hcg (by decide))
         obtain ⟨cgx, hgx⟩ := row_blk (s := ⟨some ⟨gb, 0, none⟩, l, l⟩) hDr rfl
         have zg : wx.cell? ⟨gb, j, none⟩ = some (.pointer none) := by
           have := row_cellAt (s := ⟨some ⟨gb, 0, none⟩, l, l⟩) encO_len hDr rfl (hDe j hjl)
           rw [if_neg (Nat.lt_irrefl j)] at this
           exact this
         have fg := hgx.frozen j
         have HZ := Lib.hid (show _ ∧ _ ∧ _ ∧ _ ∧ _ from ⟨z4, zd, zg, fg, y0⟩)
         have HPd : Hid (∀ V, Keeps Non wx V → Pd w6 ((V.setCell ⟨gb, j, none⟩ (.pointer (some ⟨(K (ix j)).d, 0, none⟩))).drew) gb l ix K (j + 1)) := Lib.hid (fun V hV => by
           obtain ⟨r1, k1⟩ := row_set1 (s := ⟨some ⟨gb, 0, none⟩, l, l⟩) encO_len (hDr.non hV) hDl.symm rfl (i := j) (by omega) (some (K (ix j)).d) (v := .pointer (some ⟨(K (ix j)).d, 0, none⟩)) rfl
           refine ⟨Dk.set j (some (K (ix j)).d), by rw [List.length_set]; exact hDl, fun i hi => ?_, r1.keep (Keeps.drew (Keeps.refl Non _)) (fun q hq e => e), ((hDk.non hV).trans k1).drew⟩
           by_cases e : i = j
           · subst e
             rw [List.getElem?_set_self (by omega), if_pos (by omega)]
           · rw [List.getElem?_set_ne (Ne.symm e), hDe i hi]
             by_cases e2 : i < j
             · rw [if_pos e2, if_pos (by omega)]
             · rw [if_neg e2, if_neg (by omega)])
         clear z4 zd zg fg hgx hcdb hdb hdb'
         have hui : (1 : Int) ≤ (u : Int) := by omega
         have hci : (1 : Int) ≤ (c' : Int) := by omega
         have hui2 : (0 : Int) < (u : Int) := by omega
         have hu0 : ¬ (u : Int) = 0 := by omega
         have hu1 : ¬ u = 0 := by omega
         clear hA' hDl hDe hDr hDk hkx hcg hTx hCt HLo
         go_upto_region 12 with fail
         by_cases hc1 : c' = 1
         · subst hc1
           obtain rfl : u = 1 := by omega
           go_quiet (first
             | (go_at_call 48; exact Calls.quiet_of_same (HCt.out _ (by first | exact Keeps.refl _ _ | exact (Keeps.refl _ _).drewN _ | exact (Keeps.refl _ _).drew) _ _ (fun h => absurd h (by omega))))
             | (go_at_call 49; exact Calls.quiet_of_same (HS.out _ (by first | exact Keeps.refl _ _ | exact (Keeps.refl _ _).drewN _ | exact (Keeps.refl _ _).drew))))
           obtain ⟨w7, hw7⟩ : ∃ V : World, V = wx.drewN nq := ⟨_, rfl⟩
           rw [← hw7]
           have hcc : ∀ a, w7.cell? a = wx.cell? a := fun a => by rw [hw7]; rfl
           have k7 : Keeps Non wx w7 := by rw [hw7]; exact (Keeps.refl _ _).drewN nq
           have z4 := (hcc _).trans HZ.out.1
           have zd := (hcc _).trans HZ.out.2.1
           have zg := (hcc _).trans HZ.out.2.2.1
           have fg : w7.frozen? ⟨gb, j, none⟩ = false := by rw [hw7]; exact HZ.out.2.2.2.1
           have y0' := (hcc _).trans HZ.out.2.2.2.2
           clear hcc hw7 y0 y2 HCt HS
           go_upto_region 14 with fail
           have HR7 := Lib.hid (HD.out.2.2.1.non k7)
           have HK7 := Lib.hid k7
           clear k7
           go_region
           have hp := HPd.out w7 HK7.out
           have HQ9 := Lib.hid hp
           clear hp z4 zd zg fg y0'
           obtain ⟨w8, hw8⟩ : ∃ V : World, V = (w7.setCell ⟨gb, j, none⟩ (.pointer (some ⟨(K (ix j)).d, 0, none⟩))).drew := ⟨_, rfl⟩
           rw [← hw8]
           rw [← hw8] at HQ9
           clear hw8
           go_wp2_with fail
           go_roundw
           case rel => exact ⟨j + 1, _, 0, 0, by omega, by go_num, rfl, by omega, fun h => absurd h (by omega), HQ9.out⟩
           case measure => simp [intOf]; omega
         · go_quiet (first
             | (go_at_call 48; exact Calls.quiet_of_same (HCt.out _ (by first | exact Keeps.refl _ _ | exact (Keeps.refl _ _).drewN _ | exact (Keeps.refl _ _).drew) _ _ (fun _ => rfl)))
             | (go_at_call 49; exact Calls.quiet_of_same (HS.out _ (by first | exact Keeps.refl _ _ | exact (Keeps.refl _ _).drewN _ | exact (Keeps.refl _ _).drew))))
           obtain ⟨w7, hw7⟩ : ∃ V : World, V = wx.drewN nq := ⟨_, rfl⟩
           rw [← hw7]
           have hcc : ∀ a, w7.cell? a = wx.cell? a := fun a => by rw [hw7]; rfl
           have k7 : Keeps Non wx w7 := by rw [hw7]; exact (Keeps.refl _ _).drewN nq
           have z4 := (hcc _).trans HZ.out.1
           have zd := (hcc _).trans HZ.out.2.1
           have zg := (hcc _).trans HZ.out.2.2.1
           have fg : w7.frozen? ⟨gb, j, none⟩ = false := by rw [hw7]; exact HZ.out.2.2.2.1
           have y0' := (hcc _).trans HZ.out.2.2.2.2
           clear hcc hw7 y0 y2 HCt HS
           go_upto_region 14 with fail
           have HR7 := Lib.hid (HD.out.2.2.1.non k7)
           have HK7 := Lib.hid k7
           clear k7
           go_region
           have hp := HPd.out w7 HK7.out
           have HQ9 := Lib.hid hp
           clear hp z4 zd zg fg y0'
           obtain ⟨w8, hw8⟩ : ∃ V : World, V = (w7.setCell ⟨gb, j, none⟩ (.pointer (some ⟨(K (ix j)).d, 0, none⟩))).drew := ⟨_, rfl⟩
           rw [← hw8]
           rw [← hw8] at HQ9
           clear hw8
           go_wp2_with fail
           go_roundw
           case rel => exact ⟨j + 1, _, u - 1, c' - 1, by omega, by go_num, rfl, by omega, fun _ => rfl, HQ9.out⟩
           case measure => simp [intOf]; omega
       · obtain rfl : u = 0 := by omega
         obtain rfl : j = l := by omega
         clear hA'
         have HPe : Hid (Pd wz wx gb j ix K j) := Lib.hid (by
           obtain ⟨Dk, e1, e2, e3, e4⟩ := hPd
           exact ⟨Dk, e1, e2, e3, ka.of_non.trans e4⟩)
         clear hPd
         go_wp2_with fail
         go_roundw
         case rel => exact ⟨1, by omega, by go_num, fun e => by omega, fun _ => ⟨⟨_, _, rfl⟩, HPe.out⟩⟩
         case measure => simp [intOf]
   · obtain rfl : j = 1 := by omega
     obtain ⟨⟨A2, c2, rfl⟩, hPd⟩ := h1' rfl
     clear h0' h1' m0 m1 m2 c1
     obtain ⟨wx, rfl⟩ : ∃ V : World, V = wr := ⟨_, rfl⟩
     go_upto_region 19 with fail
     obtain ⟨db, hdb⟩ := row_headAt (s := ⟨dA, 1, dc⟩) encS_len H5.out.2.2.1 (by simp)
     have hdb' : dA = some ⟨db, 0, none⟩ := hdb
     obtain ⟨lb, hlb⟩ := row_headAt (s := ⟨lA, 1, lc⟩) encS_len H5.out.2.1 (by simp)
     have hlb' : lA = some ⟨lb, 0, none⟩ := hlb
     subst hdb' hlb'
     obtain ⟨Dk, hDl, hDe, hDr, hDk⟩ := hPd
     obtain ⟨cg, hcg⟩ := row_blk (s := ⟨some ⟨gb, 0, none⟩, l, l⟩) H5.out.2.2.2.2.1 rfl
     obtain ⟨cf, hcf⟩ := row_blk (s := ⟨some ⟨fb, 0, none⟩, l, l⟩) H5.out.2.2.2.1 rfl
     obtain ⟨cd', hcd'⟩ := row_blk (s := ⟨some ⟨db, 0, none⟩, 1, dc⟩) H5.out.2.2.1 rfl
     obtain ⟨cl', hcl'⟩ := row_blk (s := ⟨some ⟨lb, 0, none⟩, 1, lc⟩) H5.out.2.1 rfl
     have hgw := H5.out.2.2.2.2.2.1
     have hkx : Keeps Non w wx := H5.out.2.2.2.2.2.2.2.1.then hDk fun i hi e => by unfold Only at e; omega
     have hBx := H5.out.1.one hDk (H5.out.1.ne hcg (by decide))
     have hfx := hcf.one hDk (hcf.ne hcg (by decide))
     have hlx := H5.out.2.1.keep hDk fun q hq e => by unfold Only at e; subst e; exact own_type H5.out.2.1 hcg (by decide) hq
     have hdx := H5.out.2.2.1.keep hDk fun q hq e => by unfold Only at e; subst e; exact own_type H5.out.2.2.1 hcg (by decide) hq
     have hmx := H5.out.2.2.2.2.2.2.2.2.keep hDk fun q hq e => by unfold Only at e; subst e; exact own_type H5.out.2.2.2.2.2.2.2.2 hcg (by decide) hq
     have hrx := H5.out.2.2.2.1.keep hDk fun q hq e => by unfold Only at e; subst e; exact own_type H5.out.2.2.2.1 hcg (by decide) hq
     have hgx := HH.out.gs.non hkx
     have hw0 := HH.out.gs.keep.size
     have HF0 : Hid (Fi w0 wx wx p m n dv K T pool tp l ix fb 0 (fun _ => ⟨0, 0, none, 0⟩) T (List.replicate l none)) := Lib.hid ⟨hgx, rfl, fun i hi => absurd hi (Nat.not_lt_zero i), fun i _ => ⟨rfl, rfl⟩, by simp, fun i hi => by rw [List.getElem?_replicate, if_pos hi, if_neg (Nat.not_lt_zero i)], hrx, lvs_nil _ _, fun i hi => absurd hi (Nat.not_lt_zero i), fun i hi => absurd hi (Nat.not_lt_zero i), Keeps.refl _ _⟩
     have HX := Lib.hid (show _ ∧ _ ∧ _ ∧ _ ∧ _ ∧ _ ∧ _ ∧ _ ∧ _ ∧ _ from ⟨hkx, hBx, hlx, hdx, hmx, hgx, hDl, hDe, hDr, hfx⟩)
     have c4 : wx.cell? ⟨k, 4, none⟩ = some (.slice (some ⟨db, 0, none⟩) 1 dc) := hBx.cell 4
     have cd0 : wx.cell? ⟨db, 0, none⟩ = some (.slice (some ⟨gb, 0, none⟩) l l) := row_cellAt (s := ⟨some ⟨db, 0, none⟩, 1, dc⟩) encS_len hdx rfl (i := 0) rfl
     have HW0 := Lib.hid hw0
     clear hkx hBx hlx hdx hmx hrx hgx hDl hDe hDr hDk hcg hcf hcd' hcl' hfx hw0
     go_upto_region 20 with fail
     go_loopw [97] (fun i wr => ∃ j : Nat, j ≤ 1 ∧ i = .int .i64 (j : Int) ∧ (j = 0 → wr = wx) ∧ (j = 1 → ∃ F Tj L, Fi w0 wx wr p m n dv K T pool tp l ix fb l F Tj L)) (fun i _ => 1 - (intOf i).toNat)
     case atStart => exact ⟨0, by omega, rfl, fun _ => rfl, fun e => by omega⟩
     case round =>
       obtain ⟨j, hj, rfl, h0', h1'⟩ := hrel
       by_cases hj0 : j = 0
       · obtain rfl := h0' hj0
         subst hj0
         rw [show ((0 : Nat) : Int) = 0 from rfl]
         clear h0' h1'
         obtain ⟨wz, rfl⟩ : ∃ V : World, V = wr := ⟨_, rfl⟩
         go_upto_region 23 with fail
         have HKp : Hid (∀ V, Keeps (fun g => Fg wz p m K g ∨ g = fb) wz V → ∀ g t cs, Blk wz g t cs → t ≠ 104 → t ≠ 5 → t ≠ 107 → t ≠ 93 → Blk V g t cs) := Lib.hid (fun V hV g t cs hb a1 a2 a3 a4 => hb.keep hV fun e => by
           rcases e with e | e
           · exact HX.out.2.2.2.2.2.1.free hb a1 a2 a3 e
           · obtain ⟨c, hc⟩ := row_blk (s := ⟨some ⟨fb, 0, none⟩, l, l⟩) HF0.out.row rfl
             exact hb.ne hc a4 e)
         go_loopw [104] (fun i wr => ∃ (j : Nat) (F : Nat → Lr) (Tj : St) (L : List (Option Nat)), j ≤ l ∧ i = .int .i64 (j : Int) ∧ Fi w0 wz wr p m n dv K T pool tp l ix fb j F Tj L) (fun i _ => l - (intOf i).toNat)
         case atStart => exact ⟨0, _, _, _, Nat.zero_le _, rfl, HF0.out⟩
         case round =>
           obtain ⟨j, F, Tj, L, hj, rfl, hFi⟩ := hrel
           obtain ⟨wy, rfl⟩ : ∃ V : World, V = wr := ⟨_, rfl⟩
           have HFi := Lib.hid hFi
           clear hFi
           by_cases hjl : j < l
           · have hji : (j : Int) < (l : Int) := by omega
             have hBy := HKp.out wy HFi.out.kp k 99 _ HX.out.2.1 (by decide) (by decide) (by decide) (by decide)
             obtain ⟨cg, hcg⟩ := row_blk (s := ⟨some ⟨gb, 0, none⟩, l, l⟩) HX.out.2.2.2.2.2.2.2.2.1 rfl
             have y0 : wy.cell? ⟨gb, j, none⟩ = some (.pointer (some ⟨(K (ix j)).d, 0, none⟩)) := by
               have h1 := row_cellAt (s := ⟨some ⟨gb, 0, none⟩, l, l⟩) encO_len HX.out.2.2.2.2.2.2.2.2.1 rfl (HX.out.2.2.2.2.2.2.2.1 j hjl)
               rw [if_pos hjl] at h1
               have h2 := HKp.out wy HFi.out.kp gb 49 _ hcg (by decide) (by decide) (by decide) (by decide)
               rw [h2.cell]
               rw [hcg.cell] at h1
               exact h1
             have HLb : Hid (Calls Tryz.prog 47 #[.pointer (some ⟨k, 0, none⟩), .int .i64 0, .int .i64 (j : Int)] wy fun e w' => e = .returned (.agg #[.int .u64 (pool : Int), .slice (some ⟨mb, 0, none⟩) 1 mc, .int .i64 0, .int .i64 (j : Int)]) ∧ Keeps Non wy w') := Lib.hid (labelOf_any (w := wy) (k := k) (pool := pool) (some ⟨mb, 0, none⟩) 1 mc 0 j (hBy.cell 0) (hBy.cell 1))
             have hmy : RowT wy (.slice (some ⟨mb, 0, none⟩) 1 mc) [tp] := HX.out.2.2.2.2.1.keep HFi.out.kp fun q hq e => by
               obtain ⟨cm, hcm⟩ := row_blk (s := ⟨some ⟨mb, 0, none⟩, 1, mc⟩) HX.out.2.2.2.2.1 rfl
               rw [show own (.slice (some ⟨mb, 0, none⟩) 1 mc) = [mb] from own_slice _ _ _, List.mem_singleton] at hq
               subst hq
               rcases e with e | e
               · exact HX.out.2.2.2.2.2.1.free hcm (by decide) (by decide) (by decide) e
               · obtain ⟨c, hc⟩ := row_blk (s := ⟨some ⟨fb, 0, none⟩, l, l⟩) HF0.out.row rfl
                 exact hcm.ne hc (by decide) e
             have HFm : Hid (∀ V, Keeps Non wy V → Calls Tryz.prog 50 #[.pointer (some ⟨(K (ix j)).d, 0, none⟩), .agg #[.int .u64 (pool : Int), .slice (some ⟨mb, 0, none⟩) 1 mc, .int .i64 0, .int .i64 (j : Int)]] V fun e w' => ∃ lf tA tc, e = .returned (.tuple #[.pointer (some ⟨lf, 0, none⟩), .int .i64 0]) ∧ V.heap.size ≤ lf ∧ (∀ q ∈ own (.slice tA 1 tc), V.heap.size ≤ q) ∧ Lq w0 w' lf (K (ix j)).d (lbX pool tp j) tA tc ∧ Gs w0 w' p dv m n K (Tj.fmt (ix j) (K (ix j)).d n (labelB (lbX pool tp j))) ∧ Keeps (Fg V p m K) V w') := Lib.hid (fun V hV => by
               have hL := HLe.out
               exact gs_format_own (x := lbX pool tp j) (HFi.out.gs.non hV) (HH.out.ixm j (by omega)) HH.out.n3 (by rw [HFi.out.P]; exact HH.out.on) (by rw [HFi.out.P, HH.out.wt]; exact Nat.zero_le _) ⟨HH.out.po, by simp [lbX], by simp [lbX], ⟨by simp [lbX], by simp [lbX]; omega⟩, by intro t ht; simp [lbX] at ht; subst ht; exact HH.out.tok⟩ (fun _ => HH.out.tsn) (some ⟨mb, 0, none⟩) mc (hmy.non hV))
             clear hmy hBy hcg
             go_upto_region 28 with (first
               | (go_at_call 47; go_must (refine HLb.out.mono ?_); rintro e w3 ⟨rfl, hK3⟩; have HF3 := Lib.hid (HFm.out w3 hK3))
               | (go_at_call 50; go_must (refine HF3.out.mono ?_); rintro e w4 ⟨lf, fA, fc, rfl, hlf, hts4, hq4, hG4, hK4⟩))
             have hg3 := HFi.out.gs.non hK3
             have hk4 := hg3.stay hK4 ((HKp.out wy HFi.out.kp k 99 _ HX.out.2.1 (by decide) (by decide) (by decide) (by decide)).non hK3) (by decide) (by decide) (by decide)
             have c3 : w4.cell? ⟨k, 3, none⟩ = some (.slice (some ⟨lb, 0, none⟩) 1 lc) := hk4.cell 3
             have cl0 : w4.cell? ⟨lb, 0, none⟩ = some (.slice (some ⟨fb, 0, none⟩) l l) := by
               obtain ⟨cl, hcl⟩ := row_blk (s := ⟨some ⟨lb, 0, none⟩, 1, lc⟩) HX.out.2.2.1 rfl
               have h1 := row_cellAt (s := ⟨some ⟨lb, 0, none⟩, 1, lc⟩) encS_len HX.out.2.2.1 rfl (i := 0) rfl
               have h2 := hg3.stay hK4 ((HKp.out wy HFi.out.kp lb 91 _ hcl (by decide) (by decide) (by decide) (by decide)).non hK3) (by decide) (by decide) (by decide)
               rw [h2.cell]
               rw [hcl.cell] at h1
               exact h1
             have hr4 := hg3.stayRow hK4 (HFi.out.row.non hK3) (by decide) (by decide) (by decide)
             obtain ⟨cf4, hf4⟩ := row_blk (s := ⟨some ⟨fb, 0, none⟩, l, l⟩) hr4 rfl
             have zf := row_cellAt (s := ⟨some ⟨fb, 0, none⟩, l, l⟩) encO_len hr4 rfl (HFi.out.le j hjl)
             rw [if_neg (Nat.lt_irrefl j)] at zf
             replace zf : w4.cell? ⟨fb, j, none⟩ = some (.pointer none) := zf
             have ff := hf4.frozen j
             have HSt := Lib.hid ((HFi.out.non hK3).step hjl (HH.out.ixm j (by have := HLe.out; omega)) (fun i hi hne => HH.out.inj i j (by have := HLe.out; omega) (by have := HLe.out; omega) hne) HH.out.wt HX.out.2.2.2.2.2.2.2.2.2.lt (by have := HW0.out; have := H5.out.2.2.2.2.2.1; omega) ⟨_, HX.out.2.2.2.2.2.2.2.2.2⟩ hG4 hq4 hts4 hK4)
             clear hg3 hk4 hr4 hf4 hG4 hq4 hK4 hK3 hlf hts4 HF3 HLb HFm y0
             go_wp2_with fail
             go_roundw
             case rel => exact ⟨j + 1, _, _, _, by omega, by go_num, HSt.out⟩
             case measure => simp [intOf]; omega
           · obtain rfl : j = l := by omega
             have HE := Lib.hid (show ∃ F Tj L, Fi w0 wz wy p m n dv K T pool tp j ix fb j F Tj L from ⟨_, _, _, HFi.out⟩)
             clear HFi
             go_wp2_with fail
             go_roundw
             case rel => exact ⟨1, by omega, by go_num, fun e => by omega, fun _ => HE.out⟩
             case measure => simp [intOf]
       · obtain rfl : j = 1 := by omega
         obtain ⟨F, Tj, L, hFi⟩ := h1' rfl
         clear h0' h1' c4 cd0
         obtain ⟨wy, rfl⟩ : ∃ V : World, V = wr := ⟨_, rfl⟩
         have hgx := HX.out.2.2.2.2.2.1
         obtain ⟨cfb, hcfb⟩ := row_blk (s := ⟨some ⟨fb, 0, none⟩, l, l⟩) HF0.out.row rfl
         have sr : ∀ {α : Type} {e : TypeId} {kk : Nat} {enc : α → List Value} {v : Value} {xs : List α}, RowP wx e kk enc v xs → e ≠ 104 → e ≠ 5 → e ≠ 107 → e ≠ 93 → RowP wy e kk enc v xs := fun hr a1 a2 a3 a4 => hr.keep hFi.kp fun q hq e => by
           rcases hr.form with ⟨e1, -⟩ | ⟨g, cap, cur, e1, hB, -⟩
           · rw [e1] at hq; exact (List.not_mem_nil hq).elim
           · rw [e1, own_slice, List.mem_singleton] at hq
             subst hq
             rcases e with e | e
             · exact hgx.free hB a1 a2 a3 e
             · exact hB.ne hcfb a4 e
         have hBy : Blk wy k 99 _ := HX.out.2.1.keep hFi.kp fun e => by
           rcases e with e | e
           · exact hgx.free HX.out.2.1 (by decide) (by decide) (by decide) e
           · exact HX.out.2.1.ne hcfb (by decide) e
         have hly := sr HX.out.2.2.1 (by decide) (by decide) (by decide) (by decide)
         have hdy := sr HX.out.2.2.2.1 (by decide) (by decide) (by decide) (by decide)
         have hmy := sr HX.out.2.2.2.2.1 (by decide) (by decide) (by decide) (by decide)
         have hgy := sr HX.out.2.2.2.2.2.2.2.2.1 (by decide) (by decide) (by decide) (by decide)
         have hll := hFi.ll
         have hLE := HLe.out
         have hle : ∀ i, i < L.length → ∃ b, L[i]? = some (some b) := fun i hi => by
           have := hFi.le i (by omega)
           rw [if_pos (by omega)] at this
           exact ⟨_, this⟩
         have hP : pres L L.length ≠ [] := fun e => by
           have := (pres_all hle L.length (Nat.le_refl _)).1
           rw [e] at this
           simp at this
           omega
         have HBu := Lib.hid (build_one (lvs := ⟨some ⟨lb, 0, none⟩, 1, lc⟩) (lf := ⟨some ⟨fb, 0, none⟩, l, l⟩) (w := wy) hBy hmy HH.out.k2 rfl hly hll.symm hFi.row hFi.gs hFi.lv (by omega) (by omega) HH.out.n3 hP)
         have HFi := Lib.hid hFi
         have HR := Lib.hid (show _ ∧ _ ∧ _ ∧ _ ∧ _ from ⟨hly, hdy, hmy, hgy, hBy⟩)
         clear hBy hly hdy hmy hgy hFi hle hP sr hcfb hgx hll hLE
         go_wp2_with (go_at_call 43; go_must (refine HBu.out.mono ?_); rintro e w9 ⟨rfl, t, lv, kv, tA9, tc9, hB9, ht9, hM9, hlv9, hkv9, htn9, hK9⟩)
         go_ret2
         obtain ⟨hly, hdy, hmy, hgy, hBy⟩ := HR.out
         have hF := HFi.out
         have hLE := HLe.out
         have hll := hF.ll
         have hgw := H5.out.2.2.2.2.2.1
         have hw0 := HW0.out
         have hws := HX.out.1.size
         have hxs := hF.kp.size
         have hfl := HX.out.2.2.2.2.2.2.2.2.2.lt
         have sk : ∀ {α : Type} {e : TypeId} {kk : Nat} {enc : α → List Value} {v : Value} {xs : List α}, RowP wy e kk enc v xs → e ≠ 99 → RowP w9 e kk enc v xs := fun hr he => hr.keep hK9 fun q hq e => by unfold Only at e; subst e; exact own_type hr hBy (Ne.symm he) hq
         have hM9' : Mt w9 t lv kv L (List.replicate tp.l Lk.no) ((n - 292 : Nat) : Int) := by rw [← hLE, ← hll]; exact hM9
         refine ⟨k, ⟨⟨some ⟨mb, 0, none⟩, 1, mc⟩, ⟨tA9, 1, tc9⟩, ⟨some ⟨lb, 0, none⟩, 1, lc⟩, ⟨some ⟨db, 0, none⟩, 1, dc⟩, ⟨some ⟨fb, 0, none⟩, l, l⟩, ⟨some ⟨gb, 0, none⟩, l, l⟩, t, lv, kv⟩, L, Dk, F, Tj, rfl, ⟨⟨hB9, sk hmy (by decide), rfl, ht9, rfl, sk hly (by decide), rfl, sk hdy (by decide), rfl, sk hF.row (by decide), hll.symm, sk hgy (by decide), HX.out.2.2.2.2.2.2.1.symm, by rw [hll]; exact HX.out.2.2.2.2.2.2.1, hM9', fun q hq hq2 => ?_⟩, hF.gs.far hBy (by decide) (by decide) (by decide) (by decide) (by decide) (by omega) hK9, hF.P, by rw [← hLE]; exact hF.ff, by rw [← hLE]; exact hF.fo, by rw [← hLE]; exact hll, fun i hi => ?_, hF.lv.far hBy (by decide) (by decide) hK9, by rw [← hLE]; exact hF.ixe, H2.out.2.1, fun i hi q hq => (by have := hF.tn i (by omega) q hq; omega), ⟨hk0, fun q hq => ?_⟩, ?_⟩⟩
         · rw [show own (.slice (some ⟨fb, 0, none⟩) l l) = [fb] from own_slice _ _ _, List.mem_singleton] at hq
           subst hq
           have := hlv9 _ hq2
           omega
         · have := hF.le i (by omega)
           rw [if_pos (by omega)] at this
           exact this
         · rcases hq with hq | hq | hq | hq
           · rw [show own (.slice (some ⟨fb, 0, none⟩) l l) = [fb] from own_slice _ _ _, List.mem_singleton] at hq
             omega
           · rw [show own (.slice (some ⟨gb, 0, none⟩) l l) = [gb] from own_slice _ _ _, List.mem_singleton] at hq
             omega
           · have := hlv9 _ hq; omega
           · have := hkv9 _ hq; omega
         · refine ((fg_non HX.out.1).then hF.kp fun i hi e => ?_).then hK9 fun i hi e => by unfold Only at e; omega
           rcases e with e | e
           · by_cases c : Fg w p m K i
             · exact c
             · exact absurd e (fg_not_non HX.out.1 hi c)
           · omega
end
end Go.Proofs.YtolknnmaadkgiaaGreatDoor
