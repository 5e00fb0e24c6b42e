/- A label taken up. A label read. How arguments of any depth are read: 'Rd': these cells read as a value of that type, none of whose slices is longer than a machine reaches. A disk of one power in memory; what only reads of it. A disk is read. -/
import Derived.Test.YtolknnmaadkgiaaGreatDoorG7
import Derived.Test.YtolknnmaadkgiaaGreatDoorG1
import Derived.Lib.SmallJoins
import Derived.Deep.Slices
import Derived.Deep.Fields
import Derived.Deep.Strs
set_option linter.unusedVariables false
set_option linter.unusedSimpArgs false
namespace Go.Proofs.YtolknnmaadkgiaaGreatDoor
set_option maxRecDepth 100000
open Go.RowKit Go.Uc
theorem info29 : (Tryz.prog.info? 31).map (fun i => (i.zero, i.size, i.bytes)) = some (some (.agg #[.int .i64 0, .int .i64 0, .int .i64 0]), 3, 24) := by kernel_rfl
theorem Rg.stay {w0 w w' : World} {g at_ : Nat} {bs : List UInt8} {S : Nat → Prop} (h : Rg w0 w g bs at_) (hk : Keeps S w w') (hS : ∀ b t cs, Blk w b t cs → t = 282 ∨ t = 5 → ¬ S b) (hn : ∀ b, S b → w0.heap.size ≤ b) : Rg w0 w' g bs at_ := by
 obtain ⟨b, i1, i2, i3, i4, i5, i6, i7⟩ := h
 exact ⟨b, i1.keep hk (hS _ _ _ i1 (.inl rfl)), i2.keep hk (hS _ _ _ i2 (.inr rfl)), i3, i4, i5, i6, i7.then hk fun i hi e => by have := hn i e; omega⟩
theorem Rg.base {w0 w : World} {g at_ : Nat} {bs : List UInt8} (h : Rg w0 w g bs at_) : w0.heap.size ≤ g ∧ w0.heap.size ≤ w.heap.size ∧ g < w.heap.size ∧ Keeps Non w0 w := by
 obtain ⟨b, i1, i2, i3, i4, i5, i6, i7⟩ := h
 exact ⟨i5, i7.size, i1.lt, i7⟩
theorem own_type {α : Type} {w : World} {e : TypeId} {k : Nat} {enc : α → List Value} {v : Value} {xs : List α} (h : RowP w e k enc v xs) {b t : Nat} {cs : Array Value} (hb : Blk w b t cs) (ht : t ≠ e) : b ∉ own v := fun hq => by
 rcases h.form with ⟨rfl, -⟩ | ⟨g, cap, cur, rfl, hB, -⟩
 · exact (List.not_mem_nil hq).elim
 · rw [own_slice, List.mem_singleton] at hq
   subst hq
   exact (hb.ne hB ht) rfl
theorem label_pool (x : Lb) : ((label96 x).drop 4).take 8 = le 8 x.pool :=
 mid_eq _ [85, 67, 76, 66] _ (le 1 x.top ++ le 1 x.place ++ le 1 x.ts.length ++ x.ts.flatMap tB ++ zeros (96 - (labelH x).length)) (by simp [label96, labelH, labelT]) _ _ rfl (le_length _ _)
theorem label_top (x : Lb) : ((label96 x).drop 12).take 1 = le 1 x.top :=
 mid_eq _ ([85, 67, 76, 66] ++ le 8 x.pool) _ (le 1 x.place ++ le 1 x.ts.length ++ x.ts.flatMap tB ++ zeros (96 - (labelH x).length)) (by simp [label96, labelH, labelT]) _ _ (by simp [le_length]) (le_length _ _)
theorem label_place (x : Lb) : ((label96 x).drop 13).take 1 = le 1 x.place :=
 mid_eq _ ([85, 67, 76, 66] ++ le 8 x.pool ++ le 1 x.top) _ (le 1 x.ts.length ++ x.ts.flatMap tB ++ zeros (96 - (labelH x).length)) (by simp [label96, labelH, labelT]) _ _ (by simp [le_length]) (le_length _ _)
theorem label_many (x : Lb) : ((label96 x).drop 14).take 1 = le 1 x.ts.length :=
 mid_eq _ ([85, 67, 76, 66] ++ le 8 x.pool ++ le 1 x.top ++ le 1 x.place) _ (x.ts.flatMap tB ++ zeros (96 - (labelH x).length)) (by simp [label96, labelH, labelT]) _ _ (by simp [le_length]) (le_length _ _)
theorem label_split (x : Lb) (j : Nat) (hj : j < x.ts.length) : ∃ r, label96 x = (labelT x ++ (x.ts.take j).flatMap tB) ++ (tB x.ts[j] ++ r) := by
 refine ⟨(x.ts.drop (j + 1)).flatMap tB ++ zeros (96 - (labelH x).length), ?_⟩
 unfold label96
 conv => lhs; arg 1; rw [labelH, ← List.take_append_drop j x.ts, List.drop_eq_getElem_cons hj, List.flatMap_append, List.flatMap_cons]
 simp
theorem label_k (x : Lb) (j : Nat) (hj : j < x.ts.length) : ((label96 x).drop (15 + 6 * j)).take 1 = le 1 x.ts[j].k := by
 obtain ⟨r, e⟩ := label_split x j hj
 exact mid_eq _ (labelT x ++ (x.ts.take j).flatMap tB) _ (le 1 x.ts[j].l ++ le 4 x.ts[j].s ++ r) (by rw [e]; simp [tB]) _ _ (by rw [List.length_append, labelT_len, tBs_len, List.length_take, Nat.min_eq_left (by omega)]) (le_length _ _)
theorem label_l (x : Lb) (j : Nat) (hj : j < x.ts.length) : ((label96 x).drop (15 + 6 * j + 1)).take 1 = le 1 x.ts[j].l := by
 obtain ⟨r, e⟩ := label_split x j hj
 exact mid_eq _ (labelT x ++ (x.ts.take j).flatMap tB ++ le 1 x.ts[j].k) _ (le 4 x.ts[j].s ++ r) (by rw [e]; simp [tB]) _ _ (by rw [List.length_append, List.length_append, labelT_len, tBs_len, List.length_take, Nat.min_eq_left (by omega), le_length]) (le_length _ _)
theorem label_s (x : Lb) (j : Nat) (hj : j < x.ts.length) : ((label96 x).drop (15 + 6 * j + 2)).take 4 = le 4 x.ts[j].s := by
 obtain ⟨r, e⟩ := label_split x j hj
 exact mid_eq _ (labelT x ++ (x.ts.take j).flatMap tB ++ le 1 x.ts[j].k ++ le 1 x.ts[j].l) _ r (by rw [e]; simp [tB]) _ _ (by rw [List.length_append, List.length_append, List.length_append, labelT_len, tBs_len, List.length_take, Nat.min_eq_left (by omega), le_length, le_length]) (le_length _ _)
theorem label_pad (x : Lb) (h : x.ts.length ≤ 4) : (label96 x).drop (15 + 6 * x.ts.length) = zeros ((label96 x).length - (15 + 6 * x.ts.length)) := by
 rw [label96_len x h, ← labelH_len x]
 unfold label96
 rw [List.drop_left]
set_option maxHeartbeats 4000000 in
theorem takeLabel97_any {w0 w : World} {g : Nat} (x : Lb) (hx : x.ok) (h : Rg w0 w g (label96 x) 0) :
   Calls Tryz.prog 134 #[.pointer (some ⟨g, 0, none⟩)] w fun e w' => ∃ A c, e = .returned (.agg #[.int .u64 (x.pool : Int), .slice A x.ts.length c, .int .i64 (x.top : Int), .int .i64 (x.place : Int)]) ∧ RowT w' (.slice A x.ts.length c) x.ts ∧ (∀ q ∈ own (.slice A x.ts.length c), w.heap.size ≤ q) ∧ Rg w0 w' g (label96 x) (15 + 6 * x.ts.length) ∧ Keeps (Only g) w w' := by
 have hl := label96_len x hx.2.2.1
 have hok := Lib.hid hx.2.2.2.2
 have hpl : x.place < 5 := by obtain ⟨q1, q2, q3, ⟨q4, q5⟩, q6⟩ := hx; have := (q6 _ (List.getElem_mem q4)).l5; omega
 have v1 : leVal (((label96 x).drop 4).take 8) = x.pool := by rw [label_pool, leVal_le, Nat.mod_eq_of_lt hx.1]
 have v2 : leVal (((label96 x).drop 12).take 1) = x.top := by rw [label_top, leVal_le, Nat.mod_eq_of_lt (by have := hx.2.2.1; obtain ⟨h, -⟩ := hx.2.2.2.1; omega)]
 have v3 : leVal (((label96 x).drop 13).take 1) = x.place := by rw [label_place, leVal_le, Nat.mod_eq_of_lt (by omega)]
 have v4 : leVal (((label96 x).drop 14).take 1) = x.ts.length := by rw [label_many, leVal_le, Nat.mod_eq_of_lt (by have := hx.2.2.1; omega)]
 have v5 : Hid (∀ j (hj : j < x.ts.length), leVal (((label96 x).drop (15 + 6 * j)).take 1) = x.ts[j].k ∧ leVal (((label96 x).drop (15 + 6 * j + 1)).take 1) = x.ts[j].l ∧ leVal (((label96 x).drop (15 + 6 * j + 2)).take 4) = x.ts[j].s) := Lib.hid (fun j hj => by
   have ho := hok.out _ (List.getElem_mem hj)
   have := ho.k3; have := ho.l5; have := ho.2.2
   rw [label_k x j hj, label_l x j hj, label_s x j hj, leVal_le, leVal_le, leVal_le]
   exact ⟨Nat.mod_eq_of_lt (by omega), Nat.mod_eq_of_lt (by omega), Nat.mod_eq_of_lt (by omega)⟩)
 generalize label96 x = bs at h hl v1 v2 v3 v4 v5 ⊢
 obtain ⟨pool, ts, top, place⟩ := x
 obtain ⟨q1, q2, q3, ⟨q4, q5⟩, q6⟩ := hx
 simp only at q1 q2 q3 q4 q5 q6 hpl v1 v2 v3 v4 v5 hok ⊢
 clear q5 q6
 have H0 := Lib.hid (fun (V : World) (hV : Rg w0 V g bs 0) => rbytes50_any hV 4 (by decide) (by omega))
 have HN : Hid (∀ (V : World) (k n m : Nat), Rg w0 V g bs k → leVal ((bs.drop k).take m) = n → 1 ≤ m → m ≤ 8 → k + m ≤ bs.length → Calls Tryz.prog 115 #[.pointer (some ⟨g, 0, none⟩), .int .i64 (m : Int)] V fun e w' => e = .returned (.int .u64 (n : Int)) ∧ Rg w0 w' g bs (k + m) ∧ Keeps (Only g) V w') := Lib.hid (fun V k n m hV hn h1 h8 hk => by
   have := rnum49_any hV m h1 h8 hk
   rw [hn] at this
   exact this)
 have V1 := Lib.hid v1
 have V2 := Lib.hid v2
 have V3 := Lib.hid v3
 have V4 := Lib.hid v4
 clear v1 v2 v3 v4
 have e1 := wrapi top (by omega)
 have e2 := wrapi place (by omega)
 have e3 := wrapi ts.length (by omega)
 have hB := Blk.new w 114 #[.int .u64 0, .slice none 0 0, .int .i64 0, .int .i64 0]
 have hk := (Keeps.refl Non w).alloc (.cells #[.int .u64 0, .slice none 0 0, .int .i64 0, .int .i64 0] 114)
 have hgl : g < w.heap.size := h.base.2.2.1
 go_enter Tryz.func134, Tryz.ntmps134
 go_upto_region 1 with fail
 obtain ⟨w1, hw1⟩ : ∃ V : World, V = w.alloc (.cells #[.int .u64 0, .slice none 0 0, .int .i64 0, .int .i64 0] 114) := ⟨_, rfl⟩
 rw [← hw1] at hB hk ⊢
 clear hw1
 obtain ⟨pb, hpb⟩ : ∃ z, z = w.heap.size := ⟨_, rfl⟩
 rw [← hpb] at hB hgl ⊢
 have hpg : pb ≠ g := by omega
 have hpw : w.heap.size ≤ pb := by omega
 clear hpb
 go_wp2_with fail
 refine (H0.out w1 (h.non hk)).mono ?_
 rintro e w2 ⟨nb, rfl, hR2, hN2, hn2, hK2⟩
 go_wp2_with fail
 refine (HN.out w2 4 pool 8 hR2 V1.out (by decide) (by decide) (by omega)).mono ?_
 rintro e w3 ⟨rfl, hR3, hK3⟩
 go_wp2_with fail
 refine (HN.out w3 12 top 1 hR3 V2.out (by decide) (by decide) (by omega)).mono ?_
 rintro e w4 ⟨rfl, hR4, hK4⟩
 go_wp2_with fail
 refine (HN.out w4 13 place 1 hR4 V3.out (by decide) (by decide) (by omega)).mono ?_
 rintro e w5 ⟨rfl, hR5, hK5⟩
 have hKx : Keeps (Only g) w1 w5 := ((hK2.trans hK3).trans hK4).trans hK5
 have hB5 := hB.one hKx hpg
 have hK5' : Keeps (Only g) w w5 := (hk.of_non (S := Only g)).trans hKx
 clear hK2 hK3 hK4 hK5 hKx hR2 hR3 hR4 hN2 hB
 have hQ := Blk.new w5 114 #[.int .u64 (pool : Int), .slice none 0 0, .int .i64 (top : Int), .int .i64 (place : Int)]
 have hkq := (Keeps.refl Non w5).alloc (.cells #[.int .u64 (pool : Int), .slice none 0 0, .int .i64 (top : Int), .int .i64 (place : Int)] 114)
 go_upto_region 3 with fail
 obtain ⟨w6, hw6⟩ : ∃ V : World, V = w5.alloc (.cells #[.int .u64 (pool : Int), .slice none 0 0, .int .i64 (top : Int), .int .i64 (place : Int)] 114) := ⟨_, rfl⟩
 rw [← hw6] at hQ hkq ⊢
 clear hw6
 have hpq3 : w5.heap.size ≠ g ∧ w5.heap.size ≠ pb ∧ w.heap.size ≤ w5.heap.size := by
   have := hB5.lt; have := hK5'.size; have := hR5.base; omega
 obtain ⟨pq, hpq⟩ : ∃ z, z = w5.heap.size := ⟨_, rfl⟩
 rw [← hpq] at hQ hpq3 ⊢
 clear hpq
 have hB6 := hB5.non hkq
 have hK6 := hK5'.non hkq
 have HN6 := Lib.hid (HN.out w6 14 ts.length 1 (hR5.non hkq) V4.out (by decide) (by decide) (by omega))
 go_upto_region 4 with ((go_at_call 115; go_must (refine HN6.out.mono ?_); rintro e w7 ⟨rfl, hR7, hK7⟩))
 have hQ7 := hQ.one hK7 hpq3.1
 have hB7 := hB6.one hK7 hpg
 have hK7' := hK6.trans hK7
 clear hB5 hB6 hQ hK6 hK7 hR5 hkq hK5' HN6
 go_upto_region 7 with fail
 go_loopw [25] (fun i wr => ∃ (j : Nat) (tA : Option Addr) (tc : Nat), j ≤ ts.length ∧ i = .int .i64 (j : Int) ∧ Rg w0 wr g bs (15 + 6 * j) ∧ Blk wr pq 114 #[.int .u64 (pool : Int), .slice tA j tc, .int .i64 (top : Int), .int .i64 (place : Int)] ∧ Blk wr pb 114 #[.int .u64 0, .slice none 0 0, .int .i64 0, .int .i64 0] ∧ RowT wr (.slice tA j tc) (ts.take j) ∧ (∀ q ∈ own (.slice tA j tc), w.heap.size ≤ q) ∧ Keeps (Only g) w wr) (fun i _ => ts.length - (intOf i).toNat)
 case atStart => exact ⟨0, none, 0, Nat.zero_le _, rfl, hR7, hQ7, hB7, RowP.nil _ _ _ _, fun q hq => (List.not_mem_nil hq).elim, hK7'⟩
 case round =>
   obtain ⟨j, tA, tc, hj, rfl, hR, hQ, hB, hT, hN, hK⟩ := hrel
   obtain ⟨wx, rfl⟩ : ∃ V : World, V = wr := ⟨_, rfl⟩
   clear hR7 hQ7 hB7 hK7'
   by_cases hlt : j < ts.length
   · have hji : (j : Int) < (ts.length : Int) := by omega
     obtain ⟨u1, u2, u3⟩ := v5.out j hlt
     have ho := hok.out _ (List.getElem_mem hlt)
     have b1 := ho.k3
     have b2 := ho.l5
     have b3 : ts[j].s ≤ 8192 := ho.2.2
     have HTk : Hid (ts.take (j + 1) = ts.take j ++ [⟨ts[j].k, ts[j].l, ts[j].s⟩]) := Lib.hid (by rw [← List.take_append_getElem hlt])
     clear ho
     generalize ts[j].k = tk at u1 b1 HTk
     generalize ts[j].l = tl at u2 b2 HTk
     generalize ts[j].s = tz at u3 b3 HTk
     have HTl : Hid ((ts.take j).length = j) := Lib.hid (by rw [List.length_take]; omega)
     generalize ts.take j = tsj at hT HTk HTl
     have U1 := Lib.hid u1
     have U2 := Lib.hid u2
     have U3 := Lib.hid u3
     clear u1 u2 u3
     have f1 := wrapi tk (by omega)
     have f2 := wrapi tl (by omega)
     have f3 := wrapi tz (by omega)
     have kd : Keeps (Only g) wx wx.drew := (Keeps.refl (Only g) wx).drew
     have HQ : Hid (∀ V, Keeps (Only g) wx V → Blk V pq 114 #[.int .u64 (pool : Int), .slice tA j tc, .int .i64 (top : Int), .int .i64 (place : Int)]) := Lib.hid (fun V hV => hQ.one hV hpq3.1)
     have HTT : Hid (∀ V, Keeps (Only g) wx V → RowT V (.slice tA j tc) tsj) := Lib.hid (fun V hV => hT.keep hV fun q hq e => by unfold Only at e; obtain ⟨b', i1, -⟩ := hR; exact own_type hT i1 (by decide) (e ▸ hq))
     have c1 : wx.cell? ⟨pq, 1, none⟩ = some (.slice tA j tc) := (HQ.out wx (Keeps.refl _ _)).cell 1
     have HR0 := Lib.hid (HN.out wx.drew (15 + 6 * j) tk 1 (hR.non (Keeps.refl Non _).drew) U1.out (by decide) (by decide) (by omega))
     have HB : Hid (tsj.length + [(⟨tk, tl, tz⟩ : Tp)].length ≤ maxLen ∧ (tsj.length + [(⟨tk, tl, tz⟩ : Tp)].length) * 24 ≤ 140737488355328) := Lib.hid (by rw [HTl.out, List.length_singleton]; unfold maxLen; omega)
     go_upto_region 8 with fail
     go_region_law (first
       | ((with_reducible show (if Region.wanted ({ dst := some 30, op := _, type := _, pos := _, after := _, guard := _ } : Oper) _ = true then _ else _)); go_simp; go_at_call 115; refine HR0.out.mono ?_; rintro e w2 ⟨rfl, hR2, hK2⟩; go_must (have hK2' := kd.trans hK2; have d1 := (HQ.out w2 hK2').cell 1; have HR2 := Lib.hid (HN.out w2 (15 + 6 * j + 1) tl 1 hR2 U2.out (by decide) (by decide) (by omega))))
       | ((with_reducible show (if Region.wanted ({ dst := some 33, op := _, type := _, pos := _, after := _, guard := _ } : Oper) _ = true then _ else _)); go_simp; go_at_call 115; refine HR2.out.mono ?_; rintro e w3 ⟨rfl, hR3, hK3⟩; go_must (have hK3' := hK2'.trans hK3; have d2 := (HQ.out w3 hK3').cell 1; have HR3 := Lib.hid (HN.out w3 (15 + 6 * j + 2) tz 4 hR3 U3.out (by decide) (by decide) (by omega))))
       | ((with_reducible show (if Region.wanted ({ dst := some 36, op := _, type := _, pos := _, after := _, guard := _ } : Oper) _ = true then _ else _)); go_simp; go_at_call 115; refine HR3.out.mono ?_; rintro e w4 ⟨rfl, hR4, hK4⟩; go_must (have hK4' := hK3'.trans hK4; have d3 := (HQ.out w4 hK4').cell 1; have ka := (Keeps.refl Non w4).alloc (.cells #[.int .i64 (tk : Int), .int .i64 (tl : Int), .int .i64 (tz : Int)] 31); have hT4 := (HTT.out w4 hK4').non ka; have hQ4 := (HQ.out w4 hK4').non ka; have d4 : (w4.alloc (.cells #[.int .i64 (tk : Int), .int .i64 (tl : Int), .int .i64 (tz : Int)] 31)).cell? ⟨pq, 1, none⟩ = some (.slice tA j tc) := hQ4.cell 1; have hA4 : Ats (w4.alloc (.cells #[.int .i64 (tk : Int), .int .i64 (tl : Int), .int .i64 (tz : Int)] 31)) (some ⟨w4.heap.size, 0, none⟩) ([(⟨tk, tl, tz⟩ : Tp)].flatMap encT) := Ats.lit w4 _ 31 _ rfl))
       | ((with_reducible show (if Region.wanted ({ dst := some 40, op := _, type := _, pos := _, after := _, guard := _ } : Oper) _ = true then _ else _)); go_must (refine step_append_row (o := ⟨some 40, _, _, _, _, _⟩) rfl (.tmp 28) (.tmp 39) 32 rfl 31 3 encT _ 24 Tryz.underlying32 info29 rfl (by decide) encT_len encT_one (.slice tA j tc) tsj rfl hT4 (some ⟨w4.heap.size, 0, none⟩) 1 1 [⟨tk, tl, tz⟩] rfl rfl hA4 HB.out.1 HB.out.2 ?_); intro u8 w8 hO8 hK8 hat; obtain ⟨⟨A8, n8, c8⟩, rfl, h8⟩ := RowP.sl hO8; have hn8 : n8 = j + 1 := (by rw [show n8 = (tsj ++ [(⟨tk, tl, tz⟩ : Tp)]).length from h8, List.length_append, HTl.out]; rfl); clear h8; subst hn8; have hB8 := hQ4.keep hK8 (own_type hT4 hQ4 (by decide)); have z8 := hB8.cell 1; have f8 := hB8.frozen 1))
     all_goals
       go_wp2_with fail
       go_roundw
       case rel =>
         have hz1 : w.heap.size ≤ w4.heap.size := by have := hK.size; have := hK4'.size; omega
         have hz0 : w0.heap.size ≤ w.heap.size := h.base.2.1
         have hown : ∀ q ∈ own (.slice tA j tc), w.heap.size ≤ q := hN
         have hN8 : ∀ q ∈ own (.slice A8 (j + 1) c8), w.heap.size ≤ q := fun q hq => by
           rw [mem_own] at hq
           rcases hat with e | e
           · have e' := e.symm.trans hq
             exact hown q (mem_own.2 e')
           · have e' := e.symm.trans hq
             injection e' with e'
             subst e'
             simp
             omega
         have k9 : Keeps (Only pq) w8 (w8.setCell ⟨pq, 1, none⟩ (.slice A8 (j + 1) c8)) := (Keeps.refl (Only pq) _).set (p := ⟨pq, 1, none⟩) rfl _
         have hR8 := (hR4.non ka).stay hK8 (fun b t cs hb ht => own_type hT4 hb (by rcases ht with rfl | rfl <;> decide)) (fun b hb => by have := hown b hb; omega)
         have hR9 := hR8.one hB8 (by decide) (by decide) (by omega) k9
         have hBb := ((hB.one (kd.then (hK2.trans (hK3.trans hK4)) fun i hi e => e) hpg).non ka).keep hK8 (own_type hT4 ((hB.one (kd.then (hK2.trans (hK3.trans hK4)) fun i hi e => e) hpg).non ka) (by decide))
         have hT9 : RowT (w8.setCell ⟨pq, 1, none⟩ (.slice A8 (j + 1) c8)) (.slice A8 (j + 1) c8) (ts.take (j + 1)) := by
           rw [HTk.out]
           exact hO8.keep k9 fun q hq e => by unfold Only at e; exact own_type hO8 hB8 (by decide) (e ▸ hq)
         refine ⟨j + 1, A8, c8, by omega, by go_num, ?_, hB8.set 1 _, hBb.one k9 (Ne.symm hpq3.2.1), hT9, hN8, ?_⟩
         · rw [show 15 + 6 * (j + 1) = 15 + 6 * j + 2 + 4 by omega]
           exact hR9
         · exact (((hK.trans hK4').non ka).then hK8 fun i hi e => by have := hown i e; omega).then k9 fun i hi e => by unfold Only at e; omega
       case measure => simp [intOf]; omega
   · obtain rfl : j = ts.length := by omega
     rw [List.take_length] at hT
     go_wp2_with (first
       | ((with_reducible show wpList _ _ _ ({ dst := _, op := Op.load 114 _, type := _, pos := _, after := _, guard := _ } :: _) _ _); go_must (refine wpList_load_row rfl 114 (.tmp 3) rfl pq rfl 114 #[.int .u64 (pool : Int), .slice tA ts.length tc, .int .i64 (top : Int), .int .i64 (place : Int)] (0, 0) _ hQ Tryz.underlying114 rfl (by kernel_rfl) ?_))
       | ((with_reducible show wpList _ _ _ ({ dst := none, op := Op.store 114 _ _, type := _, pos := _, after := _, guard := _ } :: _) _ _); go_must (refine wpList_store_blk rfl 114 (.tmp 2) (.tmp 43) rfl pb #[.int .u64 (pool : Int), .slice tA ts.length tc, .int .i64 (top : Int), .int .i64 (place : Int)] rfl rfl 114 _ hB (by kernel_rfl) rfl (by simp [Value.oneCell']) ?_); intro w8 hB8 hK8))
     refine bodyPost_ret (results_cell_blk (ty := 114) rfl _ pb 114 _ _ rfl hB8 Tryz.underlying114 rfl (by kernel_rfl)) rfl ⟨tA, tc, rfl, ?_, hN, ?_, ?_⟩
     · exact hT.keep hK8 fun q hq e => by unfold Only at e; exact own_type hT hB (by decide) (e ▸ hq)
     · exact hR.one hB (by decide) (by decide) (by have := h.base.2.1; omega) hK8
     · exact hK.then hK8 fun i hi e => by unfold Only at e; omega
end Go.Proofs.YtolknnmaadkgiaaGreatDoor
namespace Go.Proofs.YtolknnmaadkgiaaGreatDoor
set_option maxRecDepth 100000
open Go.RowKit Go.Uc
set_option maxHeartbeats 4000000 in
theorem taken95_any (x : Lb) (hx : x.ok) (A : Option Addr) (w : World) (hA : At w A (label96 x)) :
   Calls Tryz.prog 133 #[.slice A 96 128, .int .i64 43, .func (.func 46) #[] #[], .func (.func 134) #[] #[]] w fun e w' => ∃ tA tc, e = .returned (.tuple #[.agg #[.int .u64 (x.pool : Int), .slice tA x.ts.length tc, .int .i64 (x.top : Int), .int .i64 (x.place : Int)], .int .i64 0]) ∧ RowT w' (.slice tA x.ts.length tc) x.ts ∧ (∀ q ∈ own (.slice tA x.ts.length tc), w.heap.size ≤ q) ∧ Keeps Non w w' := by
 have hl := label96_len x hx.2.2.1
 have h3 := hx.2.2.1
 have HCk := Lib.hid (fun V tA tc (hV : RowT V (.slice tA x.ts.length tc) x.ts) => checkLabel96_any x hx tA tc V hV)
 have HNr : Hid (∀ V, Keeps Non w V → Calls Tryz.prog 114 #[.slice A 96 128] V fun e w' => ∃ g, e = .returned (.pointer (some ⟨g, 0, none⟩)) ∧ Rg V w' g (label96 x) 0) := Lib.hid (fun V hV => by
   have := newReader_any A 128 (label96 x) V (hA.non hV) (by omega)
   rw [hl] at this
   exact this)
 have HT := Lib.hid (fun (V0 V : World) (g : Nat) (hV : Rg V0 V g (label96 x) 0) => takeLabel97_any x hx hV)
 have HPd : Hid (∀ (V0 V : World) (g : Nat), Rg V0 V g (label96 x) (15 + 6 * x.ts.length) → Calls Tryz.prog 164 #[.pointer (some ⟨g, 0, none⟩), .int .i64 96] V fun e w' => e = .returned (.tuple #[]) ∧ Rg V0 w' g (label96 x) (label96 x).length ∧ Keeps (Only g) V w') := Lib.hid (fun V0 V g hV => by
   have := rpad111_any hV (by omega) (label_pad x h3)
   rw [hl] at this
   rw [hl]
   exact this)
 have HDn := Lib.hid (fun (V0 V : World) (g : Nat) (hV : Rg V0 V g (label96 x) (label96 x).length) => done112_any hV)
 clear hl hA
 generalize label96 x = bs at HNr HT HPd HDn
 obtain ⟨pool, ts, top, place⟩ := x
 simp only at HCk HT HPd h3 ⊢
 clear hx
 obtain ⟨hB8, hB10, hk⟩ := two_new w #[.int .u64 0, .slice none 0 0, .int .i64 0, .int .i64 0] #[.int .u64 0, .slice none 0 0, .int .i64 0, .int .i64 0] 114 114
 go_enter Tryz.func133, Tryz.ntmps133
 go_upto_region 2 with fail
 obtain ⟨w1, hw1⟩ : ∃ V : World, V = (w.alloc (.cells #[.int .u64 0, .slice none 0 0, .int .i64 0, .int .i64 0] 114)).alloc (.cells #[.int .u64 0, .slice none 0 0, .int .i64 0, .int .i64 0] 114) := ⟨_, rfl⟩
 rw [← hw1] at hB8 hB10 hk ⊢
 clear hw1
 obtain ⟨p8, hp8⟩ : ∃ z, z = w.heap.size := ⟨_, rfl⟩
 rw [← hp8] at hB8 hB10 ⊢
 have h8w : w.heap.size ≤ p8 := by omega
 clear hp8
 go_wp2_with fail
 refine (HNr.out w1 hk).mono ?_
 rintro e w2 ⟨g, rfl, hR2⟩
 obtain ⟨hg1, -, hg2, hk12⟩ := hR2.base
 have h8g : p8 ≠ g := by have := hB8.lt; omega
 go_wp2_with fail
 refine (HT.out w1 w2 g hR2).mono ?_
 rintro e w3 ⟨tA, tc, rfl, hT3, hN3, hR3, hK3⟩
 have hB83 := (hB8.non hk12).one hK3 h8g
 have hK13 : Keeps (Only g) w1 w3 := (hk12.of_non (S := Only g)).trans hK3
 have hQ := Blk.new w3 114 #[.int .u64 (pool : Int), .slice tA ts.length tc, .int .i64 (top : Int), .int .i64 (place : Int)]
 have hkq := (Keeps.refl Non w3).alloc (.cells #[.int .u64 (pool : Int), .slice tA ts.length tc, .int .i64 (top : Int), .int .i64 (place : Int)] 114)
 have hpq : w3.heap.size ≠ g ∧ w3.heap.size ≠ p8 ∧ w.heap.size ≤ w3.heap.size := by
   have := hB83.lt; have := hk.size; have := hK13.size
   have := hR3.base
   omega
 go_upto_region 4 with fail
 obtain ⟨w4, hw4⟩ : ∃ V : World, V = w3.alloc (.cells #[.int .u64 (pool : Int), .slice tA ts.length tc, .int .i64 (top : Int), .int .i64 (place : Int)] 114) := ⟨_, rfl⟩
 rw [← hw4] at hQ hkq ⊢
 clear hw4
 obtain ⟨pq, hpqe⟩ : ∃ z, z = w3.heap.size := ⟨_, rfl⟩
 rw [← hpqe] at hpq hQ ⊢
 clear hpqe
 have hB84 := hB83.non hkq
 have hR4 := hR3.non hkq
 have hT4 := hT3.non hkq
 have hK14 := hK13.non hkq
 have HP4 := Lib.hid (HPd.out w1 w4 g hR4)
 go_upto_region 5 with ((go_at_call 164; go_must (refine HP4.out.mono ?_); rintro e w5 ⟨rfl, hR5, hK5⟩))
 have hB85 := hB84.one hK5 h8g
 have hQ5 := hQ.one hK5 hpq.1
 have hT5 : RowT w5 (.slice tA ts.length tc) ts := hT4.keep hK5 fun q hq e => by unfold Only at e; obtain ⟨b', i1, -⟩ := hR4; exact own_type hT4 i1 (by decide) (e ▸ hq)
 have hK15 := hK14.trans hK5
 have HD5 := Lib.hid (HDn.out w1 w5 g hR5)
 go_upto_region 7 with ((go_at_call 165; go_must (refine HD5.out.mono ?_); rintro e _ ⟨rfl, q, rfl⟩))
 obtain ⟨w6, hw6⟩ : ∃ V : World, V = w5.drewN q := ⟨_, rfl⟩
 have hk6 : Keeps Non w5 w6 := by rw [hw6]; exact (Keeps.refl _ _).drewN q
 rw [← hw6]
 clear hw6
 have hB86 := hB85.non hk6
 have hQ6 := hQ5.non hk6
 have hT6 := hT5.non hk6
 have HC6 := Lib.hid (HCk.out w6 tA tc hT6)
 go_upto_region 8 with (first
   | ((with_reducible show wpList _ _ _ ({ dst := _, op := Op.load 114 _, type := _, pos := _, after := _, guard := _ } :: _) _ _); go_must (refine wpList_load_row rfl 114 (.tmp 12) rfl pq rfl 114 #[.int .u64 (pool : Int), .slice tA ts.length tc, .int .i64 (top : Int), .int .i64 (place : Int)] (0, 0) _ hQ6 Tryz.underlying114 rfl (by kernel_rfl) ?_))
   | (go_at_call 46; go_must (refine HC6.out.mono ?_); rintro e w7 ⟨rfl, hK7⟩))
 have hB87 := hB86.non hK7
 have hQ7 := hQ6.non hK7
 have hT7 := hT6.non hK7
 go_wp2_with (first
   | ((with_reducible show wpList _ _ _ ({ dst := _, op := Op.load 114 _, type := _, pos := _, after := _, guard := _ } :: _) _ _); go_must (refine wpList_load_row rfl 114 (.tmp 12) rfl pq rfl 114 #[.int .u64 (pool : Int), .slice tA ts.length tc, .int .i64 (top : Int), .int .i64 (place : Int)] (0, 0) _ hQ7 Tryz.underlying114 rfl (by kernel_rfl) ?_))
   | ((with_reducible show wpList _ _ _ ({ dst := none, op := Op.store 114 _ _, type := _, pos := _, after := _, guard := _ } :: _) _ _); go_must (refine wpList_store_blk rfl 114 (.tmp 8) (.tmp 35) rfl p8 #[.int .u64 (pool : Int), .slice tA ts.length tc, .int .i64 (top : Int), .int .i64 (place : Int)] rfl rfl 114 _ hB87 (by kernel_rfl) rfl (by simp [Value.oneCell']) ?_); intro w8 hB88 hK8))
 refine bodyPost_ret (results_cell_tmp (ty := 114) rfl _ p8 114 _ _ rfl hB88 Tryz.underlying114 rfl (by kernel_rfl)) rfl ⟨tA, tc, rfl, ?_, ?_, ?_⟩
 · exact hT7.keep hK8 fun q hq e => by unfold Only at e; exact own_type hT7 hB87 (by decide) (e ▸ hq)
 · exact fun q hq => by have := hN3 q hq; have := hk.size; have := hk12.size; omega
 · have ha : Keeps Non w w3 := hk.then hK13 fun i hi e => by unfold Only at e; have := hk.size; omega
   have hc : Keeps Non w w5 := (ha.non hkq).then hK5 fun i hi e => by unfold Only at e; have := hk.size; omega
   exact ((hc.non hk6).non hK7).then hK8 fun i hi e => by unfold Only at e; omega
theorem labelB_take (x : Lb) (h : x.ts.length ≤ 4) : (labelB x).take 96 = label96 x := by
 unfold labelB withSum
 rw [← label96_len x h, List.take_left]
theorem labelB_opens (x : Lb) (h : x.ts.length ≤ 4) : Opens [85, 67, 76, 66] (labelB x) := opens_withSum _ _ (label96_len x h) (by simp [label96, labelH, labelT])
set_option maxHeartbeats 4000000 in
theorem decodeLabel53_any (x : Lb) (hx : x.ok) (b : Nat) (w : World) (hb : Blk w b 5 (pc (labelB x))) :
   Calls Tryz.prog 78 #[.slice (some ⟨b, 0, none⟩) 128 128] w fun e w' => ∃ tA tc, e = .returned (.tuple #[.agg #[.int .u64 (x.pool : Int), .slice tA x.ts.length tc, .int .i64 (x.top : Int), .int .i64 (x.place : Int)], .int .i64 0]) ∧ RowT w' (.slice tA x.ts.length tc) x.ts ∧ (∀ q ∈ own (.slice tA x.ts.length tc), w.heap.size ≤ q) ∧ Keeps Non w w' := by
 have h3 := hx.2.2.1
 have hB := Blk.new w 114 #[.int .u64 0, .slice none 0 0, .int .i64 0, .int .i64 0]
 have hk := (Keeps.refl Non w).alloc (.cells #[.int .u64 0, .slice none 0 0, .int .i64 0, .int .i64 0] 114)
 have HO : Hid (∀ V, Keeps Non w V → Calls Tryz.prog 132 #[.slice (some ⟨b, 0, none⟩) 128 128, .string (str [85, 67, 76, 66])] V fun e w' => e = .returned (.tuple #[.slice (some ⟨b, 0, none⟩) 96 128, .bool true]) ∧ Keeps Non V w') := Lib.hid (fun V hV => by
   refine (opened74_any [85, 67, 76, 66] _ rfl (labelB_len _ h3) b V (hb.non hV)).mono ?_
   rintro e w' ⟨h, hK⟩
   rcases h with ⟨-, h⟩ | ⟨h, -⟩
   · exact ⟨h, hK⟩
   · exact (h (labelB_opens _ h3)).elim)
 have HT := Lib.hid (fun V (hV : Keeps Non w V) => taken95_any x hx (some ⟨b, 0, none⟩) V (by
   have := (At.blk (hb.non hV)).take 96
   rw [labelB_take x h3] at this
   exact this))
 unfold str at HO
 obtain ⟨pool, ts, top, place⟩ := x
 simp only at HT h3 ⊢
 clear hb hx
 go_enter Tryz.func78, Tryz.ntmps78
 go_upto_region 1 with fail
 obtain ⟨w1, hw1⟩ : ∃ V : World, V = w.alloc (.cells #[.int .u64 0, .slice none 0 0, .int .i64 0, .int .i64 0] 114) := ⟨_, rfl⟩
 rw [← hw1] at hB hk ⊢
 clear hw1
 obtain ⟨pb, hpb⟩ : ∃ z, z = w.heap.size := ⟨_, rfl⟩
 rw [← hpb] at hB ⊢
 have hpw : w.heap.size ≤ pb := by omega
 clear hpb
 have HO1 := Lib.hid (HO.out w1 hk)
 go_upto_region 2 with ((go_at_call 132; go_must (refine HO1.out.mono ?_); rintro e w2 ⟨rfl, hK2⟩))
 have hk2 := hk.non hK2
 have HT2 := Lib.hid (HT.out w2 hk2)
 have hB2 := hB.non hK2
 go_wp2_with (first
   | (go_at_call 133; go_must (refine HT2.out.mono ?_); rintro e w3 ⟨tA, tc, rfl, hT3, hN3, hK3⟩; have hB3 := hB2.non hK3)
   | ((with_reducible show wpList _ _ _ ({ dst := none, op := Op.store 114 _ _, type := _, pos := _, after := _, guard := _ } :: _) _ _); go_must (refine wpList_store_blk rfl 114 (.tmp 2) (.tmp 16) rfl pb #[.int .u64 (pool : Int), .slice tA ts.length tc, .int .i64 (top : Int), .int .i64 (place : Int)] rfl rfl 114 _ hB3 (by kernel_rfl) rfl (by simp [Value.oneCell']) ?_); intro w4 hB4 hK4))
 refine bodyPost_ret (results_cell_tmp (ty := 114) rfl _ pb 114 _ _ rfl hB4 Tryz.underlying114 rfl (by kernel_rfl)) rfl ⟨tA, tc, rfl, ?_, ?_, ?_⟩
 · exact hT3.keep hK4 fun q hq e => by unfold Only at e; exact own_type hT3 hB3 (by decide) (e ▸ hq)
 · exact fun q hq => by have := hN3 q hq; have := hk2.size; omega
 · exact (hk2.non hK3).then hK4 fun i hi e => by unfold Only at e; omega
set_option maxHeartbeats 4000000 in
theorem decodeLabel53_not (bs : List UInt8) (hl : bs.length = 128) (b : Nat) (w : World) (hb : Blk w b 5 (pc bs)) (ho : ¬ Opens [85, 67, 76, 66] bs) :
   Calls Tryz.prog 78 #[.slice (some ⟨b, 0, none⟩) 128 128] w fun e w' => e = .returned (.tuple #[.agg #[.int .u64 0, .slice none 0 0, .int .i64 0, .int .i64 0], .int .i64 43]) ∧ Keeps Non w w' := by
 have hB := Blk.new w 114 #[.int .u64 0, .slice none 0 0, .int .i64 0, .int .i64 0]
 have hk := (Keeps.refl Non w).alloc (.cells #[.int .u64 0, .slice none 0 0, .int .i64 0, .int .i64 0] 114)
 have HO : Hid (∀ V, Keeps Non w V → Calls Tryz.prog 132 #[.slice (some ⟨b, 0, none⟩) 128 128, .string (str [85, 67, 76, 66])] V fun e w' => e = .returned (.tuple #[.slice none 0 0, .bool false]) ∧ Keeps Non V w') := Lib.hid (fun V hV => by
   refine (opened74_any [85, 67, 76, 66] bs rfl hl b V (hb.non hV)).mono ?_
   rintro e w' ⟨h, hK⟩
   rcases h with ⟨h, -⟩ | ⟨-, h⟩
   · exact (ho h).elim
   · exact ⟨h, hK⟩)
 unfold str at HO
 clear hb ho
 go_enter Tryz.func78, Tryz.ntmps78
 go_upto_region 1 with fail
 obtain ⟨w1, hw1⟩ : ∃ V : World, V = w.alloc (.cells #[.int .u64 0, .slice none 0 0, .int .i64 0, .int .i64 0] 114) := ⟨_, rfl⟩
 rw [← hw1] at hB hk ⊢
 clear hw1
 obtain ⟨pb, hpb⟩ : ∃ z, z = w.heap.size := ⟨_, rfl⟩
 rw [← hpb] at hB ⊢
 have hpw : w.heap.size ≤ pb := by omega
 clear hpb
 have HO1 := Lib.hid (HO.out w1 hk)
 go_upto_region 2 with ((go_at_call 132; go_must (refine HO1.out.mono ?_); rintro e w2 ⟨rfl, hK2⟩))
 have hk2 := hk.non hK2
 have hB2 := hB.non hK2
 go_wp2_with ((with_reducible show wpList _ _ _ ({ dst := none, op := Op.store 114 _ _, type := _, pos := _, after := _, guard := _ } :: _) _ _); go_must (refine wpList_store_blk rfl 114 (.tmp 2) (.tmp 13) rfl pb #[.int .u64 0, .slice none 0 0, .int .i64 0, .int .i64 0] rfl rfl 114 _ hB2 (by kernel_rfl) rfl (by kernel_rfl) ?_); intro w4 hB4 hK4)
 refine bodyPost_ret (results_cell_tmp (ty := 114) rfl _ pb 114 _ _ rfl hB4 Tryz.underlying114 rfl (by kernel_rfl)) rfl ⟨rfl, ?_⟩
 exact hk2.then hK4 fun i hi e => by unfold Only at e; omega
end Go.Proofs.YtolknnmaadkgiaaGreatDoor
namespace Go.Uc
open Go.RowKit Go.ChangeShapes Go.WideShapes Go.Joins Go.Deep
section
variable {H : Type} (enc : TypeId × Value → H) (P : Program) (w : World) (base : Nat) (held : Bool)
def Rd (t : TypeId) (cs : List Value) : Prop := ∃ fuel x, DataW.trod enc P w base (fun _ => true) held fuel t cs = some x ∧ ∀ m ∈ x.1.weights P t, m ≤ reachBytes
end
def StrsAt (w : World) (A : Option Addr) (xs : List ByteArray) : Prop := ∀ i (h : i < xs.length), ∃ ad, A = some ad ∧ w.cell? (ad.add i) = some (.string xs[i])
section
variable {H : Type} {enc : TypeId × Value → H} {P : Program} {w : World} {base : Nat} {held : Bool} {t : TypeId} {cs : List Value}
theorem addr_add_none (b off j : Nat) : (⟨b, off, none⟩ : Addr).add j = ⟨b, off + j, none⟩ := by unfold Addr.add; split <;> simp_all
end
end Go.Uc
namespace Go.Proofs.YtolknnmaadkgiaaGreatDoor
set_option maxRecDepth 100000
open Go.RowKit Go.Uc
structure Wt where
 d : Nat
 at_ : Nat
 b : List UInt8
 hb : b.length = 128
structure Dsk where
 d : Nat
 n : Nat
 plat : List UInt8
 now : List UInt8
 waits : List Wt
 left : Int
 off : Bool
def encW (x : Wt) : List Value := .pointer (some ⟨x.d, 0, none⟩) :: .int .i64 (x.at_ : Int) :: x.b.map bv
theorem encW_len (x : Wt) : (encW x).length = 130 := by simp [encW, x.hb]
theorem encW_one (x : Wt) : ∀ u ∈ encW x, u.oneCell' = true := by
 intro u hu
 simp only [encW, List.mem_cons] at hu
 rcases hu with rfl | rfl | hu
 · rfl
 · rfl
 · exact pc_one _ u hu
structure Kb where
 p : Nat
 d : Nat
 pl : Nat
 nw : Nat
 dv : Sl
structure Dsk.ok (s : Dsk) : Prop where
 n1 : 1 ≤ s.n
 n2 : s.n ≤ 8192
 pl : s.plat.length = 128 * s.n
 nw : s.now.length = 128 * s.n
 l1 : -1 ≤ s.left
 l2 : s.left ≤ 9223372036854775807
structure Dm (w0 w : World) (K : Kb) (s : Dsk) (wv : Sl) : Prop where
 ok : s.ok
 pw : ∃ z, Blk w K.p 104 #[wv.v, .int .i64 s.left, .bool s.off, .int .i64 z, K.dv.v]
 dk : Blk w K.d 110 #[.pointer (some ⟨K.p, 0, none⟩), .slice (some ⟨K.pl, 0, none⟩) (128 * s.n) (128 * s.n), .slice (some ⟨K.nw, 0, none⟩) (128 * s.n) (128 * s.n), .bool false]
 pl : Blk w K.pl 5 (pc s.plat)
 nw : Blk w K.nw 5 (pc s.now)
 hd : s.d = K.d
 od : ∀ x ∈ s.waits, ∃ cs, Blk w x.d 110 cs
 wt : RowP w 107 130 encW wv.v s.waits
 wn : wv.n = s.waits.length
 ne : K.pl ≠ K.nw
 new : w0.heap.size ≤ K.p ∧ w0.heap.size ≤ K.d ∧ w0.heap.size ≤ K.pl ∧ w0.heap.size ≤ K.nw ∧ ∀ q ∈ own wv.v, w0.heap.size ≤ q
 keep : Keeps Non w0 w
def Fr (K : Kb) (wv : Sl) (g : Nat) : Prop := g = K.p ∨ g = K.pl ∨ g = K.nw ∨ g ∈ own wv.v
section
variable {w0 w w' : World} {K : Kb} {s : Dsk} {wv : Sl}
theorem Dm.non (h : Dm w0 w K s wv) (hk : Keeps Non w w') : Dm w0 w' K s wv :=
 ⟨h.ok, h.pw.imp fun _ i => i.non hk, h.dk.non hk, h.pl.non hk, h.nw.non hk, h.hd, fun x hx => (h.od x hx).imp fun _ i => i.non hk, h.wt.non hk, h.wn, h.ne, h.new, h.keep.non hk⟩
theorem Dm.old (h : Dm w0 w K s wv) {g : Nat} (hg : w.heap.size ≤ g) : ¬ Fr K wv g ∧ g ≠ K.d := by
 obtain ⟨z, hp⟩ := h.pw
 have h1 := hp.lt
 have h2 := h.dk.lt
 have h3 := h.pl.lt
 have h4 := h.nw.lt
 refine ⟨?_, by omega⟩
 rintro (e | e | e | e)
 · omega
 · omega
 · omega
 · have := RowP.lt h.wt _ e; omega
theorem Dm.free (h : Dm w0 w K s wv) {g t : Nat} {cs : Array Value} (hg : Blk w g t cs) (h1 : t ≠ 104) (h5 : t ≠ 5) (h97 : t ≠ 107) : ¬ Fr K wv g := by
 obtain ⟨z, hp⟩ := h.pw
 rintro (e | e | e | e)
 · exact hg.ne hp h1 e
 · exact hg.ne h.pl h5 e
 · exact hg.ne h.nw h5 e
 · exact own_type h.wt hg h97 e
theorem Dm.low (h : Dm w0 w K s wv) {g : Nat} (hg : g < w0.heap.size) : ¬ Fr K wv g := by
 obtain ⟨n1, n2, n3, n4, n6⟩ := h.new
 rintro (e | e | e | e)
 · omega
 · omega
 · omega
 · have := n6 _ e; omega
end
set_option maxHeartbeats 1000000 in
theorem sectors52_any {w0 w : World} {K : Kb} {s : Dsk} {wv : Sl} (h : Dm w0 w K s wv) : Calls Tryz.prog 49 #[.pointer (some ⟨K.d, 0, none⟩)] w fun e w' => e = .returned (.int .i64 (s.n : Int)) ∧ w' = w := by
 have c1 : w.cell? ⟨K.d, 1, none⟩ = some (.slice (some ⟨K.pl, 0, none⟩) (128 * s.n) (128 * s.n)) := h.dk.cell 1
 have hq : wrap64 (s.n : Int) = (s.n : Int) := IntWalk.wrap64_in _ (by have := h.ok.n2; exact ⟨by omega, by omega⟩)
 go_enter Tryz.func49, Tryz.ntmps49
 go_wp2_with fail
 go_ret
 exact ⟨by show Ending.returned (.int .i64 (wrap64 (s.n : Int))) = _; rw [hq], rfl⟩
set_option maxHeartbeats 1000000 in
theorem down70_any {w0 w : World} {K : Kb} {s : Dsk} {wv : Sl} (h : Dm w0 w K s wv) : Calls Tryz.prog 127 #[.pointer (some ⟨K.d, 0, none⟩)] w fun e w' => e = .returned (.int .i64 (if s.off then 5 else 0)) ∧ w' = w := by
 obtain ⟨z, hp⟩ := h.pw
 have c0 : w.cell? ⟨K.d, 0, none⟩ = some (.pointer (some ⟨K.p, 0, none⟩)) := h.dk.cell 0
 have c3 : w.cell? ⟨K.d, 3, none⟩ = some (.bool false) := h.dk.cell 3
 have p2 : w.cell? ⟨K.p, 2, none⟩ = some (.bool s.off) := hp.cell 2
 generalize s.off = o at p2 ⊢
 clear h hp
 go_enter Tryz.func127, Tryz.ntmps127
 cases o
 · go_wp2_with fail
   go_ret
   exact ⟨rfl, rfl⟩
 · go_wp2_with fail
   go_ret
   exact ⟨rfl, rfl⟩
set_option maxHeartbeats 1000000 in
theorem sector34_any (v : Value) (b n at_ : Nat) (w : World) (ha : at_ < n) (hn : n ≤ 8192) : Calls Tryz.prog 38 #[v, .slice (some ⟨b, 0, none⟩) (128 * n) (128 * n), .int .i64 (at_ : Int)] w fun e w' => e = .returned (.slice (some ⟨b, 128 * at_, none⟩) 128 (128 * n - 128 * at_)) ∧ w' = w := by
 go_enter Tryz.func38, Tryz.ntmps38
 go_wp2_with fail
 go_ret
 refine ⟨?_, rfl⟩
 show Ending.returned (.slice (some ⟨b, at_ * 128, none⟩) ((at_ + 1) * 128 - at_ * 128) (128 * n - at_ * 128)) = _
 rw [show (at_ + 1) * 128 - at_ * 128 = 128 by omega, Nat.mul_comm at_]
set_option maxHeartbeats 1000000 in
theorem has71_yes {w0 w : World} {K : Kb} {s : Dsk} {wv : Sl} (h : Dm w0 w K s wv) (at_ m : Nat) (ha : at_ + m ≤ s.n) : Calls Tryz.prog 128 #[.pointer (some ⟨K.d, 0, none⟩), .int .i64 (at_ : Int), .int .i64 (m : Int)] w fun e w' => e = .returned (.bool true) ∧ w' = w := by
 have HS := Lib.hid (sectors52_any h)
 have hn := h.ok.n2
 have d1 : decide ((at_ : Int) ≤ (s.n : Int)) = true := decide_eq_true (by omega)
 have d2 : decide ((m : Int) ≤ (s.n : Int) - (at_ : Int)) = true := decide_eq_true (by omega)
 clear h
 generalize s.n = n at *
 go_enter Tryz.func128, Tryz.ntmps128
 go_wp2_with ((go_at_call 49; go_must (refine HS.out.mono ?_); rintro e _ ⟨rfl, rfl⟩))
 go_ret
 exact ⟨rfl, rfl⟩
end Go.Proofs.YtolknnmaadkgiaaGreatDoor
namespace Go.Proofs.YtolknnmaadkgiaaGreatDoor
set_option maxRecDepth 100000
open Go.RowKit Go.Uc
def secs (L : List UInt8) (at_ m : Nat) : List UInt8 := (L.drop (128 * at_)).take (128 * m)
theorem secs_len {L : List UInt8} {n at_ m : Nat} (hl : L.length = 128 * n) (h : at_ + m ≤ n) : (secs L at_ m).length = 128 * m := by
 unfold secs
 rw [List.length_take, List.length_drop]
 omega
set_option maxHeartbeats 2000000 in
theorem read35_ok {w0 w : World} {K : Kb} {s : Dsk} {wv : Sl} (h : Dm w0 w K s wv) (ho : s.off = false) (at_ m : Nat) (ha : at_ + m ≤ s.n) (hlt : at_ < s.n) :
   Calls Tryz.prog 77 #[.pointer (some ⟨K.d, 0, none⟩), .int .i64 (at_ : Int), .int .i64 (m : Int)] w fun e w' => ∃ b, e = .returned (.tuple #[.slice (some ⟨b, 0, none⟩) (128 * m) (128 * m), .int .i64 0]) ∧ Blk w' b 5 (pc (secs s.now at_ m)) ∧ w.heap.size ≤ b ∧ Keeps Non w w' := by
 have HD : Hid (Calls Tryz.prog 127 #[.pointer (some ⟨K.d, 0, none⟩)] w fun e w' => e = .returned (.int .i64 0) ∧ w' = w) := Lib.hid (by have := down70_any h; rw [ho] at this; exact this)
 have HH := Lib.hid (has71_yes h at_ m ha)
 have hn := h.ok.n2
 have hl := secs_len h.ok.nw ha
 have HZ : Hid ((zeros (128 * m)).take 0 ++ (secs s.now at_ m ++ (zeros (128 * m)).drop (0 + (secs s.now at_ m).length)) = secs s.now at_ m) := Lib.hid (by rw [hl, zeros_drop]; simp [zeros])
 have HA : Hid (∀ V, Keeps Non w V → At V (some ⟨K.nw, at_ * 128, none⟩) (secs s.now at_ m)) := Lib.hid (fun V hV => by
   have := At.dropx (At.blk (h.nw.non hV)) rfl (128 * at_) (128 * m)
   rw [Nat.zero_add, Nat.mul_comm 128 at_] at this
   unfold secs
   rw [Nat.mul_comm 128 at_]
   exact this)
 have HC : Hid (∀ V, Keeps Non w V → V.cell? ⟨K.d, 2, none⟩ = some (.slice (some ⟨K.nw, 0, none⟩) (128 * s.n) (128 * s.n))) := Lib.hid (fun V hV => (h.dk.non hV).cell 2)
 generalize secs s.now at_ m = X at hl HZ HA ⊢
 generalize s.n = n at *
 clear h
 have hne : ¬ 128 * n = at_ * 128 := by omega
 go_enter Tryz.func77, Tryz.ntmps77
 go_upto_region 6 with (first
   | (go_at_call 127; go_must (refine HD.out.mono ?_); rintro e w9 ⟨rfl, hw9⟩; subst w9)
   | (go_at_call 128; go_must (refine HH.out.mono ?_); rintro e w9 ⟨rfl, hw9⟩; subst w9))
 go_upto_region 7 with (at_make; go_must (refine wpList_make_bytes rfl _ _ 22 rfl 5 Tryz.underlying22 info5 .i64 .i64 _ _ (128 * m) rfl rfl (by omega) (by omega) (by omega) ?_); intro w1 hB1 hK1)
 obtain ⟨g, hg⟩ : ∃ g, g = w.heap.size := ⟨_, rfl⟩
 rw [← hg] at hB1 ⊢
 have HG := Lib.hid hg
 clear hg
 have c2 := HC.out w1 hK1
 have hA1 := HA.out w1 hK1
 go_wp2_with ((with_reducible show wpList _ _ _ ({ dst := some 31, op := _, type := _, pos := _, after := _, guard := _ } :: _) _ _); go_must (refine wpList_copy_bytes rfl (.tmp 23) (.tmp 30) 22 22 rfl 5 Tryz.underlying22 infoS5 (some ⟨g, 0, none⟩) (some ⟨K.nw, at_ * 128, none⟩) (128 * m) (128 * m) (128 * n - at_ * 128) (128 * n - at_ * 128) rfl rfl g 0 (zeros (128 * m)) 5 hB1 X (by rw [hl]; show _ = min _ _; omega) (fun _ => rfl) hA1 (by rw [zeros_length, hl]; omega) ?_); intro w3 hB3 hK3)
 go_ret2
 obtain rfl := HG.out
 rw [HZ.out] at hB3
 exact ⟨_, rfl, hB3, Nat.le_refl _, hK1.then hK3 fun i hi e => by unfold Only at e; omega⟩
end Go.Proofs.YtolknnmaadkgiaaGreatDoor
