/- A label: may it be? (CheckLabel). A label laid down. A label as a sector. -/
import Derived.Test.YtolknnmaadkgiaaGreatDoorG6
set_option linter.unusedVariables false
set_option linter.unusedSimpArgs false
namespace Go.Proofs.YtolknnmaadkgiaaGreatDoor
set_option maxRecDepth 100000
open Go.RowKit Go.Uc
structure Lb where
 pool : Nat
 ts : List Tp
 top : Nat
 place : Nat
def Lb.ok (x : Lb) : Prop := x.pool < 18446744073709551616 ∧ 1 ≤ x.ts.length ∧ x.ts.length ≤ 4 ∧ (∃ h : x.top < x.ts.length, x.place < (x.ts[x.top]).l) ∧ ∀ t ∈ x.ts, t.ok
theorem Tp.ok.l5 {t : Tp} (h : t.ok) : t.l ≤ 5 := by
 obtain ⟨h, -⟩ := h
 rcases h with ⟨-, h⟩ | ⟨-, -, h⟩ | ⟨-, -, h⟩ <;> omega
theorem Tp.ok.k3 {t : Tp} (h : t.ok) : 1 ≤ t.k ∧ t.k ≤ 3 := by
 obtain ⟨h, -⟩ := h
 rcases h with ⟨h, -⟩ | ⟨h, -, -⟩ | ⟨h, -, -⟩ <;> omega
set_option maxHeartbeats 4000000 in
theorem bad121_any (t : Tp) (h : t.ok) (w : World) : Calls Tryz.prog 84 #[.agg #[.int .i64 (t.k : Int), .int .i64 (t.l : Int), .int .i64 (t.s : Int)]] w fun e w' => e = .returned (.bool false) ∧ Keeps Non w w' := by
 have HM := Lib.hid (fun V => made122_any t h V)
 obtain ⟨k, l, s⟩ := t
 simp only at HM ⊢
 clear h
 have hB := Blk.new w 31 #[.int .i64 (k : Int), .int .i64 (l : Int), .int .i64 (s : Int)]
 have hk := (Keeps.refl Non w).alloc (.cells #[.int .i64 (k : Int), .int .i64 (l : Int), .int .i64 (s : Int)] 31)
 go_enter Tryz.func84, Tryz.ntmps84
 go_upto_region 1 with fail
 obtain ⟨w1, hw1⟩ : ∃ V : World, V = w.alloc (.cells #[.int .i64 (k : Int), .int .i64 (l : Int), .int .i64 (s : Int)] 31) := ⟨_, rfl⟩
 rw [← hw1] at hB hk ⊢
 clear hw1
 obtain ⟨p1, hp1⟩ : ∃ z, z = w.heap.size := ⟨_, rfl⟩
 rw [← hp1] at hB ⊢
 clear hp1
 have x0 : w1.cell? ⟨p1, 0, none⟩ = some (.int .i64 (k : Int)) := hB.cell 0
 have x1 : w1.cell? ⟨p1, 1, none⟩ = some (.int .i64 (l : Int)) := hB.cell 1
 have x2 : w1.cell? ⟨p1, 2, none⟩ = some (.int .i64 (s : Int)) := hB.cell 2
 go_wp2_with ((go_at_call 85; go_must (refine (HM.out _).mono ?_); rintro e w2 ⟨rfl, hK2⟩))
 go_ret
 exact ⟨rfl, hk.non hK2⟩
set_option maxHeartbeats 4000000 in
theorem indexFunc133_any (ts : List Tp) (A : Option Addr) (c : Nat) (w : World) (hR : RowT w (.slice A ts.length c) ts) (hl : ts.length ≤ 4) (ho : ∀ t ∈ ts, t.ok) :
   Calls Tryz.prog 137 #[.slice A ts.length c, .func (.func 84) #[] #[]] w fun e w' => e = .returned (.int .i64 (-1)) ∧ Keeps Non w w' := by
 have HM := Lib.hid (fun (i : Nat) (hi : i < ts.length) V => bad121_any ts[i] (ho _ (List.getElem_mem hi)) V)
 have HR := Lib.hid (fun V (hV : Keeps Non w V) => hR.non hV)
 clear ho hR
 go_enter Tryz.func137, Tryz.ntmps137
 go_upto_region 2 with fail
 go_loopw [8] (fun i wr => ∃ j : Nat, j ≤ ts.length ∧ i = .int .i64 (j : Int) ∧ Keeps Non w wr) (fun i _ => ts.length - (intOf i).toNat)
 case atStart => exact ⟨0, Nat.zero_le _, rfl, Keeps.refl _ _⟩
 case round =>
   obtain ⟨j, hj, rfl, hK⟩ := hrel
   obtain ⟨wx, rfl⟩ : ∃ V : World, V = wr := ⟨_, rfl⟩
   by_cases hlt : j < ts.length
   · obtain ⟨g, cap, e1, h2, h3, hc, -, -⟩ := (HR.out wx hK).at_ encT_len hlt
     injection e1 with e1 _ e2
     subst e1 e2
     have HMj := Lib.hid (HM.out j hlt)
     have c0 : wx.cell? ⟨g, j * 3, none⟩ = some (.int .i64 (ts[j].k : Int)) := hc 0 (by decide)
     have c1 : wx.cell? ⟨g, j * 3 + 1, none⟩ = some (.int .i64 (ts[j].l : Int)) := hc 1 (by decide)
     have c2 : wx.cell? ⟨g, j * 3 + 2, none⟩ = some (.int .i64 (ts[j].s : Int)) := hc 2 (by decide)
     have hji : (j : Int) < (ts.length : Int) := by omega
     clear hc
     go_wp2_with ((go_at_call 84; go_must (refine (HMj.out _).mono ?_); rintro e w2 ⟨rfl, hK2⟩))
     go_roundw
     case rel => exact ⟨j + 1, by omega, by go_num, hK.non hK2⟩
     case measure => simp [intOf]; omega
   · obtain rfl : j = ts.length := by omega
     go_wp2_with fail
     go_ret
     exact ⟨rfl, hK⟩
set_option maxHeartbeats 4000000 in
theorem containsFunc120_any (ts : List Tp) (A : Option Addr) (c : Nat) (w : World) (hR : RowT w (.slice A ts.length c) ts) (hl : ts.length ≤ 4) (ho : ∀ t ∈ ts, t.ok) :
   Calls Tryz.prog 83 #[.slice A ts.length c, .func (.func 84) #[] #[]] w fun e w' => e = .returned (.bool false) ∧ Keeps Non w w' := by
 have HM := Lib.hid (indexFunc133_any ts A c w hR hl ho)
 go_enter Tryz.func83, Tryz.ntmps83
 go_wp2_with ((go_at_call 137; go_must (refine HM.out.mono ?_); rintro e w2 ⟨rfl, hK2⟩))
 go_ret
 exact ⟨rfl, hK2⟩
set_option maxHeartbeats 4000000 in
theorem checkLabel96_any (x : Lb) (hx : x.ok) (A : Option Addr) (c : Nat) (w : World) (hR : RowT w (.slice A x.ts.length c) x.ts) :
   Calls Tryz.prog 46 #[.agg #[.int .u64 (x.pool : Int), .slice A x.ts.length c, .int .i64 (x.top : Int), .int .i64 (x.place : Int)]] w fun e w' => e = .returned (.int .i64 0) ∧ Keeps Non w w' := by
 obtain ⟨pool, ts, top, place⟩ := x
 obtain ⟨q1, q2, q3, ⟨q4, q5⟩, q6⟩ := hx
 simp only at q1 q2 q3 q4 q5 q6 hR ⊢
 have hB := Blk.new w 114 #[.int .u64 (pool : Int), .slice A ts.length c, .int .i64 (top : Int), .int .i64 (place : Int)]
 have hk := (Keeps.refl Non w).alloc (.cells #[.int .u64 (pool : Int), .slice A ts.length c, .int .i64 (top : Int), .int .i64 (place : Int)] 114)
 have HM := Lib.hid (fun V (hV : Keeps Non w V) => containsFunc120_any ts A c V (hR.non hV) q3 q6)
 go_enter Tryz.func46, Tryz.ntmps46
 go_upto_region 1 with fail
 obtain ⟨w1, hw1⟩ : ∃ V : World, V = w.alloc (.cells #[.int .u64 (pool : Int), .slice A ts.length c, .int .i64 (top : Int), .int .i64 (place : Int)] 114) := ⟨_, rfl⟩
 rw [← hw1] at hB hk ⊢
 clear hw1
 obtain ⟨p1, hp1⟩ : ∃ z, z = w.heap.size := ⟨_, rfl⟩
 rw [← hp1] at hB ⊢
 clear hp1
 obtain ⟨g, cap, e1, h2, h3, hc, -, -⟩ := (hR.non hk).at_ encT_len q4
 injection e1 with e1 _ e2
 subst e1 e2
 have c1 : w1.cell? ⟨g, top * 3 + 1, none⟩ = some (.int .i64 (ts[top].l : Int)) := hc 1 (by decide)
 have x0 : w1.cell? ⟨p1, 0, none⟩ = some (.int .u64 (pool : Int)) := hB.cell 0
 have x1 : w1.cell? ⟨p1, 1, none⟩ = some (.slice (some ⟨g, 0, none⟩) ts.length c) := hB.cell 1
 have x2 : w1.cell? ⟨p1, 2, none⟩ = some (.int .i64 (top : Int)) := hB.cell 2
 have x3 : w1.cell? ⟨p1, 3, none⟩ = some (.int .i64 (place : Int)) := hB.cell 3
 have HE := Lib.hid (fun V (hV : Keeps Non w1 V) => (hB.non hV).cell 1)
 clear hc hR
 generalize ts[top].l = ll at c1 q5
 have d1 : decide ((ts.length : Int) < 1) = false := decide_eq_false (by omega)
 have d2 : decide ((4 : Int) < (ts.length : Int)) = false := decide_eq_false (by omega)
 have d3 : decide ((top : Int) < 0) = false := decide_eq_false (by omega)
 have d4 : decide ((ts.length : Int) ≤ (top : Int)) = false := decide_eq_false (by omega)
 have d5 : decide ((place : Int) < 0) = false := decide_eq_false (by omega)
 have d6 : decide ((ll : Int) ≤ (place : Int)) = false := decide_eq_false (by omega)
 go_quiet (fail)
 obtain ⟨w2, hw2⟩ : ∃ V : World, V = w1.drewN nq := ⟨_, rfl⟩
 have hk2 : Keeps Non w1 w2 := by rw [hw2]; exact (Keeps.refl _ _).drewN _
 rw [← hw2]
 clear hw2
 have y1 : w2.cell? ⟨p1, 1, none⟩ = some (.slice (some ⟨g, 0, none⟩) ts.length c) := HE.out w2 hk2
 have HM2 := Lib.hid (HM.out w2 (hk.non hk2))
 clear x0 x1 x2 x3
 go_wp2_with ((go_at_call 83; go_must (refine HM2.out.mono ?_); rintro e w3 ⟨rfl, hK3⟩))
 go_ret
 exact ⟨rfl, (hk.non hk2).non hK3⟩
end Go.Proofs.YtolknnmaadkgiaaGreatDoor
namespace Go.Proofs.YtolknnmaadkgiaaGreatDoor
set_option maxRecDepth 100000
open Go.RowKit Go.Uc
theorem RowP.oth {α : Type} {w w' : World} {e : TypeId} {k : Nat} {enc : α → List Value} {v : Value} {xs : List α} (h : RowP w e k enc v xs) (hO : Oth w w') (h1 : e ≠ 234) (h5 : e ≠ 5) : RowP w' e k enc v xs := by
 rcases h.2 with h2 | ⟨g, cap, cur, e1, h2, h3, r⟩
 · exact ⟨h.1, .inl h2⟩
 · exact ⟨h.1, .inr ⟨g, cap, cur, e1, h2, hO g e cur h3 h1 h5, r⟩⟩
def tB (t : Tp) : List UInt8 := le 1 t.k ++ le 1 t.l ++ le 4 t.s
theorem tB_len (t : Tp) : (tB t).length = 6 := by simp [tB, le_length]
theorem tBs_len (ts : List Tp) : (ts.flatMap tB).length = 6 * ts.length := by
 induction ts with
 | nil => rfl
 | cons t ts ih => rw [List.flatMap_cons, List.length_append, tB_len, ih, List.length_cons]; omega
def labelT (x : Lb) : List UInt8 := [85, 67, 76, 66] ++ le 8 x.pool ++ le 1 x.top ++ le 1 x.place ++ le 1 x.ts.length
theorem labelT_len (x : Lb) : (labelT x).length = 15 := by simp [labelT, le_length]
def labelH (x : Lb) : List UInt8 := labelT x ++ x.ts.flatMap tB
theorem labelH_len (x : Lb) : (labelH x).length = 15 + 6 * x.ts.length := by rw [labelH, List.length_append, labelT_len, tBs_len]
set_option maxHeartbeats 4000000 in
theorem layLabel99_any {w0 w : World} {g room : Nat} (h : Wr w0 w g room []) (x : Lb) (hx : x.ok) (A : Option Addr) (c : Nat) (hR : RowT w (.slice A x.ts.length c) x.ts) (hf : 39 ≤ room) (hr : room ≤ 1099511627776) :
   Calls Tryz.prog 140 #[.pointer (some ⟨g, 0, none⟩), .agg #[.int .u64 (x.pool : Int), .slice A x.ts.length c, .int .i64 (x.top : Int), .int .i64 (x.place : Int)]] w fun e w' => e = .returned (.tuple #[]) ∧ Wr w0 w' g room (labelH x) ∧ Oth w w' := by
 have HLl := Lib.hid (labelT_len x)
 have HLt : Hid (labelT x = [85, 67, 76, 66] ++ le 8 x.pool ++ le 1 x.top ++ le 1 x.place ++ le 1 x.ts.length) := Lib.hid rfl
 have HLh : Hid (labelH x = labelT x ++ x.ts.flatMap tB) := Lib.hid rfl
 generalize labelT x = LT at HLl HLt HLh
 generalize labelH x = LH at HLh ⊢
 obtain ⟨pool, ts, top, place⟩ := x
 obtain ⟨q1, q2, q3, ⟨q4, q5⟩, q6⟩ := hx
 simp only at q1 q2 q3 q4 q5 q6 hR HLt HLh ⊢
 have hpl : place < 5 := by have := (q6 _ (List.getElem_mem q4)).l5; omega
 clear q5
 have HN : Hid (∀ (V : World) (xs : List UInt8) (n k : Nat), Wr w0 V g room xs → 1 ≤ k → k ≤ 8 → n < 256 ^ k → xs.length + k ≤ room → Calls Tryz.prog 69 #[.pointer (some ⟨g, 0, none⟩), .int .u64 (n : Int), .int .i64 (k : Int)] V fun e w' => e = .returned (.tuple #[]) ∧ Wr w0 w' g room (xs ++ le k n) ∧ Oth V w') := Lib.hid (fun V xs n k hV h1 h8 hn hx => num42_any hV n k h1 h8 hn hx hr)
 have HB : Hid (∀ (V : World) (b : Nat), Wr w0 V g room [] → At V (some ⟨b, 0, none⟩) [85, 67, 76, 66] → Calls Tryz.prog 70 #[.pointer (some ⟨g, 0, none⟩), .slice (some ⟨b, 0, none⟩) 4 4] V fun e w' => e = .returned (.tuple #[]) ∧ Wr w0 w' g room [85, 67, 76, 66] ∧ Oth V w') := Lib.hid (fun V b hV hb => bytes43_any hV (some ⟨b, 0, none⟩) 4 [85, 67, 76, 66] hb (by show 0 + 4 ≤ room; omega) hr)
 have hB := Blk.new w 114 #[.int .u64 (pool : Int), .slice A ts.length c, .int .i64 (top : Int), .int .i64 (place : Int)]
 have hk := (Keeps.refl Non w).alloc (.cells #[.int .u64 (pool : Int), .slice A ts.length c, .int .i64 (top : Int), .int .i64 (place : Int)] 114)
 have wt := wrapu top (by omega)
 have wp := wrapu place (by omega)
 have wl := wrapu ts.length (by omega)
 go_enter Tryz.func140, Tryz.ntmps140
 go_upto_region 1 with fail
 have h1 := h.non hk
 have hR1 := hR.non hk
 obtain ⟨w1, hw1⟩ : ∃ V : World, V = w.alloc (.cells #[.int .u64 (pool : Int), .slice A ts.length c, .int .i64 (top : Int), .int .i64 (place : Int)] 114) := ⟨_, rfl⟩
 have hY1 := Oth.of hk
 rw [← hw1] at hB h1 hR1 hY1 ⊢
 clear hw1 hk hR
 obtain ⟨pb, hpb⟩ : ∃ z, z = w.heap.size := ⟨_, rfl⟩
 rw [← hpb] at hB ⊢
 clear hpb
 have HC : Hid (∀ V, Oth w1 V → ∀ i v, (#[.int .u64 (pool : Int), .slice A ts.length c, .int .i64 (top : Int), .int .i64 (place : Int)] : Array Value)[i]? = some v → V.cell? ⟨pb, i, none⟩ = some v) := Lib.hid (fun V hV i v hi => by rw [(hV pb 114 _ hB (by decide) (by decide)).cell]; exact hi)
 have HRo : Hid (∀ V, Oth w1 V → RowT V (.slice A ts.length c) ts) := Lib.hid (fun V hV => RowP.oth hR1 hV (by decide) (by decide))
 clear hB hR1
 have hka := (Keeps.refl Non w1).alloc (.cells #[.int .u8 85, .int .u8 67, .int .u8 76, .int .u8 66] 5 (4, 5))
 have H0 := Lib.hid (HB.out _ w1.heap.size (h1.non hka) (At.lit w1 5 (4, 5) _ [85, 67, 76, 66] rfl))
 have hcv : (convert 22 22 (.slice (some ⟨w1.heap.size, 0, none⟩) 4 4)).run Tryz.prog (w1.alloc (.cells #[.int .u8 85, .int .u8 67, .int .u8 76, .int .u8 66] 5)) = .ok (.slice (some ⟨w1.heap.size, 0, none⟩) 4 4) (w1.alloc (.cells #[.int .u8 85, .int .u8 67, .int .u8 76, .int .u8 66] 5 (4, 5))) := Joins.run_convert_bytes_const_at w1 22 5 #[.int .u8 85, .int .u8 67, .int .u8 76, .int .u8 66] 4 4 w1.heap.size rfl Tryz.underlying22 Tryz.underlying5
 go_upto_region 2 with ((go_at_call 70; go_must (refine H0.out.mono ?_); rintro e w2 ⟨rfl, hW2, hY2'⟩))
 have hY2 := (Oth.of hka).trans hY2'
 have x0 : w2.cell? ⟨pb, 0, none⟩ = some (.int .u64 (pool : Int)) := HC.out w2 hY2 0 _ rfl
 have H1 := Lib.hid (HN.out w2 _ pool 8 hW2 (by decide) (by decide) q1 (by show 4 + 8 ≤ room; omega))
 clear hka hY2'
 go_upto_region 3 with ((go_at_call 69; go_must (refine H1.out.mono ?_); rintro e w3 ⟨rfl, hW3, hY3'⟩))
 have hY3 := hY2.trans hY3'
 have x1 : w3.cell? ⟨pb, 2, none⟩ = some (.int .i64 (top : Int)) := HC.out w3 hY3 2 _ rfl
 have H2 := Lib.hid (HN.out w3 _ top 1 hW3 (by decide) (by decide) (by omega) (by simp [le_length]; omega))
 go_upto_region 4 with ((go_at_call 69; go_must (refine H2.out.mono ?_); rintro e w4 ⟨rfl, hW4, hY4'⟩))
 have hY4 := hY3.trans hY4'
 have x2 : w4.cell? ⟨pb, 3, none⟩ = some (.int .i64 (place : Int)) := HC.out w4 hY4 3 _ rfl
 have H3 := Lib.hid (HN.out w4 _ place 1 hW4 (by decide) (by decide) (by omega) (by simp [le_length]; omega))
 go_upto_region 5 with ((go_at_call 69; go_must (refine H3.out.mono ?_); rintro e w5 ⟨rfl, hW5, hY5'⟩))
 have hY5 := hY4.trans hY5'
 have x3 : w5.cell? ⟨pb, 1, none⟩ = some (.slice A ts.length c) := HC.out w5 hY5 1 _ rfl
 have H4 := Lib.hid (HN.out w5 _ ts.length 1 hW5 (by decide) (by decide) (by omega) (by simp [le_length]; omega))
 go_upto_region 6 with ((go_at_call 69; go_must (refine H4.out.mono ?_); rintro e w6 ⟨rfl, hW6, hY6'⟩))
 have hY6 := hY5.trans hY6'
 have x4 : w6.cell? ⟨pb, 1, none⟩ = some (.slice A ts.length c) := HC.out w6 hY6 1 _ rfl
 rw [← HLt.out] at hW6
 clear x0 x1 x2 x3 hY2 hY3 hY4 hY5 hY3' hY4' hY5' hY6' H0 H1 H2 H3 H4 hW2 hW3 hW4 hW5
 go_upto_region 7 with fail
 go_loopw [33] (fun i wr => ∃ j : Nat, j ≤ ts.length ∧ i = .int .i64 (j : Int) ∧ Wr w0 wr g room (LT ++ (ts.take j).flatMap tB) ∧ Oth w1 wr) (fun i _ => ts.length - (intOf i).toNat)
 case atStart => exact ⟨0, Nat.zero_le _, rfl, by simpa using hW6, hY6⟩
 case round =>
   obtain ⟨j, hj, rfl, hW, hY⟩ := hrel
   obtain ⟨wx, rfl⟩ : ∃ V : World, V = wr := ⟨_, rfl⟩
   clear hW6 hY6 x4
   by_cases hlt : j < ts.length
   · obtain ⟨tb, cap, e1, h2, h3, hc, -, -⟩ := (HRo.out wx hY).at_ encT_len hlt
     injection e1 with e1 _ e2
     subst e1 e2
     have c0 : wx.cell? ⟨tb, j * 3, none⟩ = some (.int .i64 (ts[j].k : Int)) := hc 0 (by decide)
     have c1 : wx.cell? ⟨tb, j * 3 + 1, none⟩ = some (.int .i64 (ts[j].l : Int)) := hc 1 (by decide)
     have c2 : wx.cell? ⟨tb, j * 3 + 2, none⟩ = some (.int .i64 (ts[j].s : Int)) := hc 2 (by decide)
     have hji : (j : Int) < (ts.length : Int) := by omega
     have hok := q6 _ (List.getElem_mem hlt)
     have HS : Hid ((LT ++ (ts.take j).flatMap tB) ++ le 1 ts[j].k ++ le 1 ts[j].l ++ le 4 ts[j].s = LT ++ (ts.take (j + 1)).flatMap tB) := Lib.hid (by
       rw [← List.take_append_getElem hlt, List.flatMap_append]
       simp [tB])
     have HLn : Hid ((LT ++ (ts.take j).flatMap tB).length = 15 + 6 * j) := Lib.hid (by rw [List.length_append, HLl.out, tBs_len, List.length_take, Nat.min_eq_left (by omega)])
     have b1 := hok.k3
     have b2 := hok.l5
     have b3 : ts[j].s ≤ 8192 := hok.2.2
     clear hc hok
     generalize ts[j].k = tk at c0 b1 HS
     generalize ts[j].l = tl at c1 b2 HS
     generalize ts[j].s = tz at c2 b3 HS
     generalize LT ++ (ts.take j).flatMap tB = X at HS HLn hW
     have w1' := wrapu tk (by omega)
     have w2' := wrapu tl (by omega)
     have w3' := wrapu tz (by omega)
     have hBt := Blk.new wx 31 #[.int .i64 (tk : Int), .int .i64 (tl : Int), .int .i64 (tz : Int)]
     have hkt := (Keeps.refl Non wx).alloc (.cells #[.int .i64 (tk : Int), .int .i64 (tl : Int), .int .i64 (tz : Int)] 31)
     go_upto_region 9 with fail
     obtain ⟨wy, hwy⟩ : ∃ V : World, V = wx.alloc (.cells #[.int .i64 (tk : Int), .int .i64 (tl : Int), .int .i64 (tz : Int)] 31) := ⟨_, rfl⟩
     rw [← hwy] at hBt hkt ⊢
     clear hwy
     obtain ⟨pt, hpt⟩ : ∃ z, z = wx.heap.size := ⟨_, rfl⟩
     rw [← hpt] at hBt ⊢
     clear hpt
     have HT : Hid (∀ V, Oth wy V → ∀ i v, (#[.int .i64 (tk : Int), .int .i64 (tl : Int), .int .i64 (tz : Int)] : Array Value)[i]? = some v → V.cell? ⟨pt, i, none⟩ = some v) := Lib.hid (fun V hV i v hi => by rw [(hV pt 31 _ hBt (by decide) (by decide)).cell]; exact hi)
     have y0 : wy.cell? ⟨pt, 0, none⟩ = some (.int .i64 (tk : Int)) := hBt.cell 0
     have G1 := Lib.hid (HN.out wy X tk 1 (hW.non hkt) (by decide) (by decide) (by omega) (by have := HLn.out; omega))
     clear c0 c1 c2 hBt
     go_upto_region 10 with ((go_at_call 69; go_must (refine G1.out.mono ?_); rintro e v2 ⟨rfl, gW2, gY2⟩))
     have y1 : v2.cell? ⟨pt, 1, none⟩ = some (.int .i64 (tl : Int)) := HT.out v2 gY2 1 _ rfl
     have G2 := Lib.hid (HN.out v2 _ tl 1 gW2 (by decide) (by decide) (by omega) (by have := HLn.out; rw [List.length_append, le_length]; omega))
     go_upto_region 11 with ((go_at_call 69; go_must (refine G2.out.mono ?_); rintro e v3 ⟨rfl, gW3, gY3⟩))
     have gY23 := gY2.trans gY3
     have y2 : v3.cell? ⟨pt, 2, none⟩ = some (.int .i64 (tz : Int)) := HT.out v3 gY23 2 _ rfl
     have G3 := Lib.hid (HN.out v3 _ tz 4 gW3 (by decide) (by decide) (by omega) (by have := HLn.out; rw [List.length_append, List.length_append, le_length, le_length]; omega))
     go_wp2_with ((go_at_call 69; go_must (refine G3.out.mono ?_); rintro e v4 ⟨rfl, gW4, gY4⟩))
     go_roundw
     case rel =>
       rw [HS.out] at gW4
       exact ⟨j + 1, by omega, by go_num, gW4, (hY.trans (Oth.of hkt)).trans (gY23.trans gY4)⟩
     case measure => simp [intOf]; omega
   · obtain rfl : j = ts.length := by omega
     go_wp2_with fail
     go_end0
     rw [List.take_length, ← HLh.out] at hW
     exact ⟨rfl, hW, hY1.trans hY⟩
end Go.Proofs.YtolknnmaadkgiaaGreatDoor
namespace Go.Proofs.YtolknnmaadkgiaaGreatDoor
set_option maxRecDepth 100000
open Go.RowKit Go.Uc
def label96 (x : Lb) : List UInt8 := labelH x ++ zeros (96 - (labelH x).length)
theorem label96_len (x : Lb) (h : x.ts.length ≤ 4) : (label96 x).length = 96 := by
 unfold label96
 rw [List.length_append, zeros_length, labelH_len]
 omega
def labelB (x : Lb) : List UInt8 := withSum (label96 x)
theorem labelB_len (x : Lb) (h : x.ts.length ≤ 4) : (labelB x).length = 128 := by unfold labelB; rw [withSum_len, label96_len x h]
set_option maxHeartbeats 4000000 in
theorem laid98_any (x : Lb) (hx : x.ok) (A : Option Addr) (c : Nat) (w : World) (hR : RowT w (.slice A x.ts.length c) x.ts) :
   Calls Tryz.prog 139 #[.agg #[.int .u64 (x.pool : Int), .slice A x.ts.length c, .int .i64 (x.top : Int), .int .i64 (x.place : Int)], .func (.func 46) #[] #[], .int .i64 96, .func (.func 140) #[] #[]] w fun e w' => ∃ b, e = .returned (.tuple #[.slice (some ⟨b, 0, none⟩) 96 96, .int .i64 0]) ∧ Blk w' b 5 (pc (label96 x)) ∧ w.heap.size ≤ b ∧ Keeps Non w w' := by
 have hH := labelH_len x
 have h3 : x.ts.length ≤ 4 := hx.2.2.1
 have HCk := Lib.hid (fun V (hV : Keeps Non w V) => checkLabel96_any x hx A c V (hR.non hV))
 have HNw := Lib.hid (fun V => newWriter_any 96 (by decide) V)
 have HLu := Lib.hid (fun (V0 V : World) (g : Nat) (hV : Wr V0 V g 96 []) (hk : Keeps Non w V) => layLabel99_any hV x hx A c (hR.non hk) (by decide) (by decide))
 have HPd : Hid (∀ (V0 V : World) (g : Nat), Wr V0 V g 96 (labelH x) → Calls Tryz.prog 168 #[.pointer (some ⟨g, 0, none⟩), .int .i64 96] V fun e w' => e = .returned (.tuple #[]) ∧ Wr V0 w' g 96 (label96 x) ∧ Oth V w') := Lib.hid (fun V0 V g hV => pad106_any hV 96 (by omega) (by decide) (by decide))
 have HDn : Hid (∀ (V0 V : World) (g : Nat), Wr V0 V g 96 (label96 x) → Calls Tryz.prog 71 #[.pointer (some ⟨g, 0, none⟩)] V fun e w' => ∃ b, e = .returned (.tuple #[.slice (some ⟨b, 0, none⟩) 96 96, .int .i64 0]) ∧ Blk w' b 5 (pc (label96 x)) ∧ V.heap.size ≤ b ∧ Keeps Non V w') := Lib.hid (fun V0 V g hV => by
   have := done44_any hV (by rw [label96_len x h3]; decide)
   rw [label96_len x h3] at this
   exact this)
 generalize label96 x = L96 at HPd HDn ⊢
 generalize labelH x = LH at HLu HPd
 clear hH
 obtain ⟨pool, ts, top, place⟩ := x
 simp only at HCk HLu hR h3 ⊢
 clear hx hR
 have hB := Blk.new w 114 #[.int .u64 (pool : Int), .slice A ts.length c, .int .i64 (top : Int), .int .i64 (place : Int)]
 have hk := (Keeps.refl Non w).alloc (.cells #[.int .u64 (pool : Int), .slice A ts.length c, .int .i64 (top : Int), .int .i64 (place : Int)] 114)
 go_enter Tryz.func139, Tryz.ntmps139
 go_upto_region 1 with fail
 obtain ⟨w1, hw1⟩ : ∃ V : World, V = w.alloc (.cells #[.int .u64 (pool : Int), .slice A ts.length c, .int .i64 (top : Int), .int .i64 (place : Int)] 114) := ⟨_, rfl⟩
 rw [← hw1] at hB hk ⊢
 clear hw1
 obtain ⟨pb, hpb⟩ : ∃ z, z = w.heap.size := ⟨_, rfl⟩
 rw [← hpb] at hB ⊢
 clear hpb
 have HX := Lib.hid (fun V (hV : Keeps Non w1 V) => hB.non hV)
 have x0 : w1.cell? ⟨pb, 0, none⟩ = some (.int .u64 (pool : Int)) := hB.cell 0
 have x1 : w1.cell? ⟨pb, 1, none⟩ = some (.slice A ts.length c) := hB.cell 1
 have x2 : w1.cell? ⟨pb, 2, none⟩ = some (.int .i64 (top : Int)) := hB.cell 2
 have x3 : w1.cell? ⟨pb, 3, none⟩ = some (.int .i64 (place : Int)) := hB.cell 3
 clear hB
 go_upto_region 2 with ((go_at_call 46; go_must (refine (HCk.out _ hk).mono ?_); rintro e w2 ⟨rfl, hK2⟩))
 clear x0 x1 x2 x3
 go_upto_region 5 with ((go_at_call 68; go_must (refine (HNw.out _).mono ?_); rintro e w3 ⟨g, rfl, hW3⟩))
 have hK3 := hK2.non hW3.keep
 have hB3 := HX.out w3 hK3
 have x0 : w3.cell? ⟨pb, 0, none⟩ = some (.int .u64 (pool : Int)) := hB3.cell 0
 have x1 : w3.cell? ⟨pb, 1, none⟩ = some (.slice A ts.length c) := hB3.cell 1
 have x2 : w3.cell? ⟨pb, 2, none⟩ = some (.int .i64 (top : Int)) := hB3.cell 2
 have x3 : w3.cell? ⟨pb, 3, none⟩ = some (.int .i64 (place : Int)) := hB3.cell 3
 clear hB3
 have HL3 := Lib.hid (HLu.out _ _ _ hW3 (hk.non hK3))
 go_upto_region 6 with ((go_at_call 140; go_must (refine HL3.out.mono ?_); rintro e w4 ⟨rfl, hW4, -⟩))
 clear x0 x1 x2 x3
 have HP4 := Lib.hid (HPd.out _ _ _ hW4)
 go_upto_region 7 with ((go_at_call 168; go_must (refine HP4.out.mono ?_); rintro e w5 ⟨rfl, hW5, -⟩))
 have HD5 := Lib.hid (HDn.out _ _ _ hW5)
 go_wp2_with ((go_at_call 71; go_must (refine HD5.out.mono ?_); rintro e w6 ⟨b, rfl, hB6, hb6, hK6⟩))
 go_ret2
 have hK5 := (hk.non hK2).non hW5.keep
 exact ⟨b, rfl, hB6, Nat.le_trans hK5.size hb6, hK5.non hK6⟩
set_option maxHeartbeats 4000000 in
theorem encodeLabel57_any (x : Lb) (hx : x.ok) (A : Option Addr) (c : Nat) (w : World) (hR : RowT w (.slice A x.ts.length c) x.ts) :
   Calls Tryz.prog 86 #[.agg #[.int .u64 (x.pool : Int), .slice A x.ts.length c, .int .i64 (x.top : Int), .int .i64 (x.place : Int)]] w fun e w' => ∃ b, e = .returned (.tuple #[.slice (some ⟨b, 0, none⟩) 128 128, .int .i64 0]) ∧ Blk w' b 5 (pc (labelB x)) ∧ w.heap.size ≤ b ∧ Keeps Non w w' := by
 have h3 : x.ts.length ≤ 4 := hx.2.2.1
 have HL := Lib.hid (fun V (hV : Keeps Non w V) => laid98_any x hx A c V (hR.non hV))
 have HW : Hid (∀ (V : World) (b : Nat), Blk V b 5 (pc (label96 x)) → Calls Tryz.prog 138 #[.slice (some ⟨b, 0, none⟩) 96 96, .int .i64 0] V fun e w' => ∃ b', e = .returned (.tuple #[.slice (some ⟨b', 0, none⟩) 128 128, .int .i64 0]) ∧ Blk w' b' 5 (pc (labelB x)) ∧ V.heap.size ≤ b' ∧ Keeps Non V w') := Lib.hid (fun V b hb => whole66_any hb (label96_len x h3))
 generalize label96 x = L96 at HL HW
 generalize labelB x = LB at HW ⊢
 obtain ⟨pool, ts, top, place⟩ := x
 simp only at HL hR h3 ⊢
 clear hx hR
 have hB := Blk.new w 114 #[.int .u64 (pool : Int), .slice A ts.length c, .int .i64 (top : Int), .int .i64 (place : Int)]
 have hk := (Keeps.refl Non w).alloc (.cells #[.int .u64 (pool : Int), .slice A ts.length c, .int .i64 (top : Int), .int .i64 (place : Int)] 114)
 go_enter Tryz.func86, Tryz.ntmps86
 go_upto_region 1 with fail
 obtain ⟨w1, hw1⟩ : ∃ V : World, V = w.alloc (.cells #[.int .u64 (pool : Int), .slice A ts.length c, .int .i64 (top : Int), .int .i64 (place : Int)] 114) := ⟨_, rfl⟩
 rw [← hw1] at hB hk ⊢
 clear hw1
 obtain ⟨pb, hpb⟩ : ∃ z, z = w.heap.size := ⟨_, rfl⟩
 rw [← hpb] at hB ⊢
 clear hpb
 have x0 : w1.cell? ⟨pb, 0, none⟩ = some (.int .u64 (pool : Int)) := hB.cell 0
 have x1 : w1.cell? ⟨pb, 1, none⟩ = some (.slice A ts.length c) := hB.cell 1
 have x2 : w1.cell? ⟨pb, 2, none⟩ = some (.int .i64 (top : Int)) := hB.cell 2
 have x3 : w1.cell? ⟨pb, 3, none⟩ = some (.int .i64 (place : Int)) := hB.cell 3
 clear hB
 have HL1 := Lib.hid (HL.out w1 hk)
 go_wp2_with (first
   | (go_at_call 139; go_must (refine HL1.out.mono ?_); rintro e w2 ⟨b, rfl, hB2, hb2, hK2⟩; have HW2 := Lib.hid (HW.out w2 b hB2))
   | (go_at_call 138; go_must (refine HW2.out.mono ?_); rintro e w3 ⟨b', rfl, hB3, hb3, hK3⟩))
 go_ret2
 have hK12 := hk.non hK2
 exact ⟨b', rfl, hB3, Nat.le_trans hK12.size hb3, hK12.non hK3⟩
end Go.Proofs.YtolknnmaadkgiaaGreatDoor
