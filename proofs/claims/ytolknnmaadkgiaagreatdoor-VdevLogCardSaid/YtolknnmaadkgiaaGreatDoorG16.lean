/- Uberblocks in a row: is one among them? Which is greater?. Uberblocks sorted: insertion. -/
import Derived.Test.YtolknnmaadkgiaaGreatDoorG15
set_option linter.unusedVariables false
set_option linter.unusedSimpArgs false
namespace Go.Proofs.YtolknnmaadkgiaaGreatDoor
set_option maxRecDepth 100000
open Go.RowKit Go.Uc
def encB (u : UB) : List Value := [.int .u64 (u.pool : Int), .int .u64 (u.txg : Int), .int .u64 (u.note : Int), .int .i64 (u.r.t : Int), .int .i64 (u.r.at_ : Int), .int .i64 (u.r.n : Int), .int .u64 (u.r.bi : Int), .int .i64 (u.r.k : Int), .int .u64 (u.r.s.a : Int), .int .u64 (u.r.s.b : Int), .int .u64 (u.r.s.c : Int), .int .u64 (u.r.s.d : Int)]
theorem encB_len (u : UB) : (encB u).length = 12 := rfl
theorem encB_one (u : UB) : ∀ v ∈ encB u, v.oneCell' = true := by
 intro v hv
 simp [encB] at hv
 rcases hv with rfl | rfl | rfl | rfl | rfl | rfl | rfl | rfl | rfl | rfl | rfl | rfl <;> rfl
abbrev RowB (w : World) (v : Value) (us : List UB) : Prop := RowP w 63 12 encB v us
theorem info47 : (Tryz.prog.info? 63).map (fun i => (i.zero, i.size, i.bytes)) = some (some (.agg #[.int .u64 0, .int .u64 0, .int .u64 0, .int .i64 0, .int .i64 0, .int .i64 0, .int .u64 0, .int .i64 0, .int .u64 0, .int .u64 0, .int .u64 0, .int .u64 0]), 12, 96) := by kernel_rfl
set_option maxHeartbeats 1000000 in
theorem isNaN79_any (n : Nat) (w : World) : Calls Tryz.prog 152 #[.int .u64 (n : Int)] w fun e w' => e = .returned (.bool false) ∧ w' = w := by
 go_enter Tryz.func152, Tryz.ntmps152
 go_wp2_with fail
 go_ret
 exact ⟨by simp, rfl⟩
set_option maxHeartbeats 2000000 in
theorem compare40_any (a b : Nat) (w : World) : Calls Tryz.prog 102 #[.int .u64 (a : Int), .int .u64 (b : Int)] w fun e w' => (∃ r : Int, e = .returned (.int .i64 r) ∧ (r < 0 ↔ a < b)) ∧ w' = w := by
 have HN := Lib.hid (fun n V => isNaN79_any n V)
 by_cases h1 : a < b
 · have d1 : decide ((a : Int) < (b : Int)) = true := decide_eq_true (by omega)
   go_enter Tryz.func102, Tryz.ntmps102
   go_wp2_with (go_at_call 152; go_must (refine (HN.out _ _).mono ?_); rintro e w9 ⟨rfl, hw9⟩; subst w9)
   go_ret
   exact ⟨⟨-1, rfl, by simp; omega⟩, rfl⟩
 · have d1 : decide ((a : Int) < (b : Int)) = false := decide_eq_false (by omega)
   by_cases h2 : b < a
   · have d2 : decide ((b : Int) < (a : Int)) = true := decide_eq_true (by omega)
     go_enter Tryz.func102, Tryz.ntmps102
     go_wp2_with (go_at_call 152; go_must (refine (HN.out _ _).mono ?_); rintro e w9 ⟨rfl, hw9⟩; subst w9)
     go_ret
     exact ⟨⟨1, rfl, by simp; omega⟩, rfl⟩
   · have d2 : decide ((b : Int) < (a : Int)) = false := decide_eq_false (by omega)
     go_enter Tryz.func102, Tryz.ntmps102
     go_wp2_with (go_at_call 152; go_must (refine (HN.out _ _).mono ?_); rintro e w9 ⟨rfl, hw9⟩; subst w9)
     go_ret
     exact ⟨⟨0, rfl, by simp; omega⟩, rfl⟩
set_option maxHeartbeats 2000000 in
theorem less39_any (u v : UB) (w : World) : Calls Tryz.prog 101 #[.agg (encB u).toArray, .agg (encB v).toArray] w fun e w' => (∃ r : Int, e = .returned (.int .i64 r) ∧ (r < 0 ↔ v.txg < u.txg)) ∧ Keeps Non w w' := by
 have HC := Lib.hid (fun V => compare40_any v.txg u.txg V)
 obtain ⟨hA, hB, hk⟩ := two_new w (encB u).toArray (encB v).toArray 63 63
 obtain ⟨p, t, n, r⟩ := u
 obtain ⟨p', t', n', r'⟩ := v
 unfold encB at *
 simp only at *
 go_enter Tryz.func101, Tryz.ntmps101
 go_upto_region 1 with fail
 obtain ⟨w1, hw1⟩ : ∃ V : World, V = (w.alloc (.cells #[.int .u64 (p : Int), .int .u64 (t : Int), .int .u64 (n : Int), .int .i64 (r.t : Int), .int .i64 (r.at_ : Int), .int .i64 (r.n : Int), .int .u64 (r.bi : Int), .int .i64 (r.k : Int), .int .u64 (r.s.a : Int), .int .u64 (r.s.b : Int), .int .u64 (r.s.c : Int), .int .u64 (r.s.d : Int)] 63)).alloc (.cells #[.int .u64 (p' : Int), .int .u64 (t' : Int), .int .u64 (n' : Int), .int .i64 (r'.t : Int), .int .i64 (r'.at_ : Int), .int .i64 (r'.n : Int), .int .u64 (r'.bi : Int), .int .i64 (r'.k : Int), .int .u64 (r'.s.a : Int), .int .u64 (r'.s.b : Int), .int .u64 (r'.s.c : Int), .int .u64 (r'.s.d : Int)] 63) := ⟨_, rfl⟩
 rw [← hw1] at hA hB hk ⊢
 clear hw1
 obtain ⟨pa, hpa⟩ : ∃ z, z = w.heap.size := ⟨_, rfl⟩
 rw [← hpa] at hA hB ⊢
 clear hpa
 have x1 : w1.cell? ⟨pa, 1, none⟩ = some (.int .u64 (t : Int)) := hA.cell 1
 have x2 : w1.cell? ⟨pa + 1, 1, none⟩ = some (.int .u64 (t' : Int)) := hB.cell 1
 go_wp2_with (go_at_call 102; go_must (refine (HC.out _).mono ?_); rintro e w9 ⟨⟨ri, rfl, hr⟩, hw9⟩; subst w9)
 go_ret
 exact ⟨⟨ri, rfl, hr⟩, hk⟩
set_option maxHeartbeats 4000000 in
theorem index77_any (L : List UB) (u : UB) (A : Option Addr) (c : Nat) (w : World) (hR : RowB w (.slice A L.length c) L) (hl : L.length ≤ 1000) :
   Calls Tryz.prog 150 #[.slice A L.length c, .agg (encB u).toArray] w fun e w' => (∃ r : Int, e = .returned (.int .i64 r) ∧ (0 ≤ r ↔ u ∈ L)) ∧ Keeps Non w w' := by
 have hB := Blk.new w 63 (encB u).toArray
 have hk := (Keeps.refl Non w).alloc (.cells (encB u).toArray 63)
 obtain ⟨pool, txg, note, r⟩ := u
 unfold encB at *
 simp only at *
 go_enter Tryz.func150, Tryz.ntmps150
 go_upto_region 1 with fail
 obtain ⟨w1, hw1⟩ : ∃ V : World, V = w.alloc (.cells #[.int .u64 (pool : Int), .int .u64 (txg : Int), .int .u64 (note : Int), .int .i64 (r.t : Int), .int .i64 (r.at_ : Int), .int .i64 (r.n : Int), .int .u64 (r.bi : Int), .int .i64 (r.k : Int), .int .u64 (r.s.a : Int), .int .u64 (r.s.b : Int), .int .u64 (r.s.c : Int), .int .u64 (r.s.d : Int)] 63) := ⟨_, rfl⟩
 rw [← hw1] at hB hk ⊢
 clear hw1
 obtain ⟨pb, hpb⟩ : ∃ z, z = w.heap.size := ⟨_, rfl⟩
 rw [← hpb] at hB ⊢
 clear hpb
 have HR := Lib.hid (fun V (hV : Keeps Non w V) => hR.non hV)
 have HB := Lib.hid (fun V (hV : Keeps Non w1 V) => hB.non hV)
 clear hR hB
 go_upto_region 2 with fail
 go_loopw [8] (fun i wr => ∃ j : Nat, j ≤ L.length ∧ i = .int .i64 (j : Int) ∧ (⟨pool, txg, note, r⟩ : UB) ∉ L.take j ∧ Keeps Non w1 wr) (fun i _ => L.length - (intOf i).toNat)
 case atStart => exact ⟨0, Nat.zero_le _, rfl, by simp, Keeps.refl _ _⟩
 case round =>
   obtain ⟨j, hj, rfl, hni, hK⟩ := hrel
   obtain ⟨wx, rfl⟩ : ∃ V : World, V = wr := ⟨_, rfl⟩
   have HNI := Lib.hid hni
   clear hni
   by_cases hlt : j < L.length
   · obtain ⟨g, cap, e1, -, -, hc, -, -⟩ := (HR.out wx (hk.trans hK)).at_ (by intro x; rfl) hlt
     injection e1 with e1 _ e2
     subst e1 e2
     have hb := HB.out wx hK
     have hji : (j : Int) < (L.length : Int) := by omega
     obtain ⟨v, hv⟩ : ∃ v, v = L[j] := ⟨_, rfl⟩
     rw [← hv] at hc
     have HV := Lib.hid hv
     clear hv
     obtain ⟨p', t', n', r'⟩ := v
     have x0 : wx.cell? ⟨pb, 0, none⟩ = some (.int .u64 (pool : Int)) := hb.cell 0
     have x1 : wx.cell? ⟨pb, 1, none⟩ = some (.int .u64 (txg : Int)) := hb.cell 1
     have x2 : wx.cell? ⟨pb, 2, none⟩ = some (.int .u64 (note : Int)) := hb.cell 2
     have x3 : wx.cell? ⟨pb, 3, none⟩ = some (.int .i64 (r.t : Int)) := hb.cell 3
     have x4 : wx.cell? ⟨pb, 4, none⟩ = some (.int .i64 (r.at_ : Int)) := hb.cell 4
     have x5 : wx.cell? ⟨pb, 5, none⟩ = some (.int .i64 (r.n : Int)) := hb.cell 5
     have x6 : wx.cell? ⟨pb, 6, none⟩ = some (.int .u64 (r.bi : Int)) := hb.cell 6
     have x7 : wx.cell? ⟨pb, 7, none⟩ = some (.int .i64 (r.k : Int)) := hb.cell 7
     have x8 : wx.cell? ⟨pb, 8, none⟩ = some (.int .u64 (r.s.a : Int)) := hb.cell 8
     have x9 : wx.cell? ⟨pb, 9, none⟩ = some (.int .u64 (r.s.b : Int)) := hb.cell 9
     have x10 : wx.cell? ⟨pb, 10, none⟩ = some (.int .u64 (r.s.c : Int)) := hb.cell 10
     have x11 : wx.cell? ⟨pb, 11, none⟩ = some (.int .u64 (r.s.d : Int)) := hb.cell 11
     have y0 : wx.cell? ⟨g, j * 12, none⟩ = some (.int .u64 (p' : Int)) := hc 0 (by decide)
     have y1 : wx.cell? ⟨g, j * 12 + 1, none⟩ = some (.int .u64 (t' : Int)) := hc 1 (by decide)
     have y2 : wx.cell? ⟨g, j * 12 + 2, none⟩ = some (.int .u64 (n' : Int)) := hc 2 (by decide)
     have y3 : wx.cell? ⟨g, j * 12 + 3, none⟩ = some (.int .i64 (r'.t : Int)) := hc 3 (by decide)
     have y4 : wx.cell? ⟨g, j * 12 + 4, none⟩ = some (.int .i64 (r'.at_ : Int)) := hc 4 (by decide)
     have y5 : wx.cell? ⟨g, j * 12 + 5, none⟩ = some (.int .i64 (r'.n : Int)) := hc 5 (by decide)
     have y6 : wx.cell? ⟨g, j * 12 + 6, none⟩ = some (.int .u64 (r'.bi : Int)) := hc 6 (by decide)
     have y7 : wx.cell? ⟨g, j * 12 + 7, none⟩ = some (.int .i64 (r'.k : Int)) := hc 7 (by decide)
     have y8 : wx.cell? ⟨g, j * 12 + 8, none⟩ = some (.int .u64 (r'.s.a : Int)) := hc 8 (by decide)
     have y9 : wx.cell? ⟨g, j * 12 + 9, none⟩ = some (.int .u64 (r'.s.b : Int)) := hc 9 (by decide)
     have y10 : wx.cell? ⟨g, j * 12 + 10, none⟩ = some (.int .u64 (r'.s.c : Int)) := hc 10 (by decide)
     have y11 : wx.cell? ⟨g, j * 12 + 11, none⟩ = some (.int .u64 (r'.s.d : Int)) := hc 11 (by decide)
     clear hc hb
     go_upto_region 4 with fail
     have hkd : ∀ q, Keeps Non w1 (wx.drewN q) := fun q => hK.drewN q
     have HKD := Lib.hid hkd
     clear hkd
     have HE := Lib.hid (fun V => eqlB pool txg note r p' t' n' r' V)
     obtain ⟨q, hq⟩ : ∃ q, q = decide ((⟨pool, txg, note, r⟩ : UB) = ⟨p', t', n', r'⟩) := ⟨_, rfl⟩
     rw [← hq] at HE
     have HQ := Lib.hid hq
     clear hq
     have he := HE.out
     cases q
     · have HN1 : Hid ((⟨pool, txg, note, r⟩ : UB) ∉ L.take (j + 1)) := Lib.hid (by
         rw [← List.take_append_getElem hlt, List.mem_append, not_or]
         refine ⟨HNI.out, ?_⟩
         rw [List.mem_singleton, ← HV.out]
         exact of_decide_eq_false HQ.out.symm)
       go_quiet (fail)
       clear he
       go_wp2_with fail
       go_roundw
       case rel => exact ⟨j + 1, by omega, by go_num, HN1.out, HKD.out _⟩
       case measure => simp [intOf]; omega
     · have HN1 : Hid ((⟨pool, txg, note, r⟩ : UB) ∈ L) := Lib.hid (by
         rw [of_decide_eq_true HQ.out.symm, HV.out]
         exact List.getElem_mem hlt)
       go_quiet (fail)
       clear he
       go_wp2_with fail
       go_ret
       exact ⟨⟨(j : Int), rfl, fun _ => HN1.out, fun _ => by omega⟩, hk.trans (HKD.out _)⟩
   · obtain rfl : j = L.length := by omega
     go_wp2_with fail
     go_ret
     have := HNI.out
     rw [List.take_length] at this
     exact ⟨⟨-1, rfl, by constructor; intro h; omega; intro h; exact (this h).elim⟩, hk.trans hK⟩
set_option maxHeartbeats 2000000 in
theorem contains37_any (L : List UB) (u : UB) (A : Option Addr) (c : Nat) (w : World) (hR : RowB w (.slice A L.length c) L) (hl : L.length ≤ 1000) :
   Calls Tryz.prog 99 #[.slice A L.length c, .agg (encB u).toArray] w fun e w' => e = .returned (.bool (decide (u ∈ L))) ∧ Keeps Non w w' := by
 have hB := Blk.new w 63 (encB u).toArray
 have hk := (Keeps.refl Non w).alloc (.cells (encB u).toArray 63)
 have HI := Lib.hid (fun V (hV : Keeps Non w V) => index77_any L u A c V (hR.non hV) hl)
 obtain ⟨rb, hrb⟩ : ∃ rb, rb = decide (u ∈ L) := ⟨_, rfl⟩
 rw [← hrb]
 have HRB := Lib.hid hrb
 clear hrb
 obtain ⟨pool, txg, note, r⟩ := u
 unfold encB at *
 simp only at *
 go_enter Tryz.func99, Tryz.ntmps99
 go_upto_region 1 with fail
 obtain ⟨w1, hw1⟩ : ∃ V : World, V = w.alloc (.cells #[.int .u64 (pool : Int), .int .u64 (txg : Int), .int .u64 (note : Int), .int .i64 (r.t : Int), .int .i64 (r.at_ : Int), .int .i64 (r.n : Int), .int .u64 (r.bi : Int), .int .i64 (r.k : Int), .int .u64 (r.s.a : Int), .int .u64 (r.s.b : Int), .int .u64 (r.s.c : Int), .int .u64 (r.s.d : Int)] 63) := ⟨_, rfl⟩
 rw [← hw1] at hB hk ⊢
 clear hw1
 obtain ⟨pb, hpb⟩ : ∃ z, z = w.heap.size := ⟨_, rfl⟩
 rw [← hpb] at hB ⊢
 clear hpb
 have HI1 := Lib.hid (HI.out w1 hk)
 go_wp2_with (first
   | ((with_reducible show wpList _ _ _ ({ dst := _, op := Op.load 63 _, type := _, pos := _, after := _, guard := _ } :: _) _ _); go_must (refine wpList_load_row rfl 63 (.tmp 3) rfl pb rfl 63 #[.int .u64 (pool : Int), .int .u64 (txg : Int), .int .u64 (note : Int), .int .i64 (r.t : Int), .int .i64 (r.at_ : Int), .int .i64 (r.n : Int), .int .u64 (r.bi : Int), .int .i64 (r.k : Int), .int .u64 (r.s.a : Int), .int .u64 (r.s.b : Int), .int .u64 (r.s.c : Int), .int .u64 (r.s.d : Int)] (0, 0) _ hB Tryz.underlying63 rfl (by kernel_rfl) ?_))
   | (go_at_call 150; go_must (refine HI1.out.mono ?_); rintro e w9 ⟨⟨ri, rfl, hr⟩, hK9⟩))
 go_ret
 refine ⟨?_, hk.non hK9⟩
 rw [HRB.out]
 rfl
end Go.Proofs.YtolknnmaadkgiaaGreatDoor
namespace Go.Proofs.YtolknnmaadkgiaaGreatDoor
set_option maxRecDepth 100000
open Go.RowKit Go.Uc
theorem step_load_mid {P : Program} {ops : Array Oper} {o : Oper} {a : Act} {w : World} {K : Act → World → Prop} {Q : Exit → Act → World → Prop} {E : Prop} (hgd : o.guard = none) (ty : TypeId) (x : Operand) (ho : o.op = .load ty x)
   (b off : Nat) (hx : a.eval x = .pointer (some ⟨b, off, none⟩)) (cs : List Value) (d : TypeDesc) (hc : w.rangeAt b off cs)
   (hu : P.underlying ty = some d) (hd : d.isRow = true) (hi : (P.info? ty).map (·.size) = some cs.length)
   (h : K (a.put o.dst (.agg cs.toArray)) w) : if Region.wanted o (yielded ops a.tmps) = true then Oper.wp P o a w K Q else E := by
 have hw : Region.wanted o (yielded ops a.tmps) = true := by simp [Region.wanted, hgd]
 rw [if_pos hw]
 exact wp_load_mid ty x ho b off hx cs d hc hu hd hi h
theorem step_store_mid {P : Program} {ops : Array Oper} {o : Oper} {a : Act} {w : World} {K : Act → World → Prop} {Q : Exit → Act → World → Prop} {E : Prop} (hgd : o.guard = none) (ty : TypeId) (x y : Operand) (ho : o.op = .store ty x y)
   (b off : Nat) (cells : Array Value) (hx : a.eval x = .pointer (some ⟨b, off, none⟩)) (hy : a.eval y = .agg cells) (ht : w.there b off cells.size) (hi : (P.info? ty).map (·.size) = some cells.size) (h1 : cells.all (·.oneCell') = true)
   (h : K (a.put o.dst undef) (w.setCells b off cells.toList)) : if Region.wanted o (yielded ops a.tmps) = true then Oper.wp P o a w K Q else E := by
 have hw : Region.wanted o (yielded ops a.tmps) = true := by simp [Region.wanted, hgd]
 rw [if_pos hw]
 exact wp_store_mid ty x y ho b off cells hx hy ht hi h1 h
theorem RowP.setAt {α : Type} {w : World} {e : TypeId} {k : Nat} {enc : α → List Value} {g cap : Nat} {xs : List α} (henc : ∀ x, (enc x).length = k) (h : RowP w e k enc (.slice (some ⟨g, 0, none⟩) xs.length cap) xs) {i : Nat} (hi : i < xs.length) (x : α) : RowP (w.setCells g (i * k) (enc x)) e k enc (.slice (some ⟨g, 0, none⟩) xs.length cap) (xs.set i x) := by
 rcases h.form with ⟨e1, -⟩ | ⟨g', cap', cur, e1, hB, h4, h5, h6, h7⟩
 · cases e1
 · injection e1 with e1 _ e2
   injection e1 with e1
   injection e1 with e1
   subst e1 e2
   obtain ⟨cur', hB', hs', hg'⟩ := Blk.cellsAt (enc x) (i * k) w cur hB
   have hl : (xs.set i x).length = xs.length := by simp
   have := RowP.put (ys := xs.set i x) h henc hB' (by rw [hl]; exact h4) (by rw [hs', h6]) (fun p hp => by
     rw [hl] at hp
     rw [hg' p, henc]
     have hcur : cur[p]? = (xs.flatMap enc)[p]? := by
       have hh := congrArg (fun l => l[p]?) h7
       simp only [List.getElem?_take, if_pos hp] at hh
       rw [← hh]
       simp
     have hk : 0 < k := by
       rcases Nat.eq_zero_or_pos k with h0 | h0
       · subst h0; simp at hp
       · exact h0
     obtain ⟨q, r, hr, rfl⟩ : ∃ q r, r < k ∧ p = q * k + r := ⟨p / k, p % k, Nat.mod_lt _ hk, by rw [Nat.mul_comm]; exact (Nat.div_add_mod p k).symm⟩
     have hq : q < xs.length := by
       rcases Nat.lt_or_ge q xs.length with h | h
       · exact h
       · have := Nat.mul_le_mul_right k h; omega
     rw [flat_get henc (xs.set i x) q r (by rw [hl]; exact hq) hr, hcur, flat_get henc xs q r hq hr, List.getElem_set]
     by_cases hqi : i = q
     · subst hqi
       rw [if_pos rfl, if_pos ⟨by omega, by omega, by rw [h6]; have := Nat.mul_le_mul_right k h4; omega⟩, show i * k + r - i * k = r by omega]
     · rw [if_neg hqi, if_neg]
       rintro ⟨h1, h2, -⟩
       rcases Nat.lt_or_ge i q with h3 | h3
       · have := Nat.mul_le_mul_right k (show i + 1 ≤ q from h3)
         rw [Nat.succ_mul] at this
         omega
       · have := Nat.mul_le_mul_right k (show q + 1 ≤ i by omega)
         rw [Nat.succ_mul] at this
         omega)
   rw [hl] at this
   exact this
def Ord (m : Nat) (L : List UB) : Prop := ∀ p q (hp : p < L.length) (hq : q < L.length), p < q → q < m → L[q].txg ≤ L[p].txg
def Inv1 (i j : Nat) (L : List UB) : Prop := (∀ p q (hp : p < L.length) (hq : q < L.length), p < q → q ≤ i → p ≠ j → q ≠ j → L[q].txg ≤ L[p].txg) ∧ ∀ q (hq : q < L.length) (hj : j < L.length), j < q → q ≤ i → L[q].txg ≤ L[j].txg
theorem Inv1.start {i : Nat} {L : List UB} (h : Ord i L) : Inv1 i i L := ⟨fun p q hp hq h1 h2 h3 h4 => h p q hp hq h1 (by omega), fun q hq hj h1 h2 => by omega⟩
theorem Inv1.stop {i j : Nat} {L : List UB} (h : Inv1 i j L) (hji : j ≤ i) (hs : j = 0 ∨ ∃ (h1 : j < L.length) (h0 : j - 1 < L.length), L[j].txg ≤ L[j - 1].txg) : Ord (i + 1) L := by
 intro p q hp hq hpq hqi
 by_cases hpj : p = j
 · subst hpj
   exact h.2 q hq hp hpq (by omega)
 · by_cases hqj : q = j
   · subst hqj
     rcases hs with h0 | ⟨h1, h0, h2⟩
     · omega
     · by_cases hp1 : p = q - 1
       · subst hp1
         exact h2
       · exact Nat.le_trans h2 (h.1 p (q - 1) hp h0 (by omega) (by omega) hpj (by omega))
   · exact h.1 p q hp hq hpq (by omega) hpj hqj
theorem Inv1.swap {i j : Nat} {L : List UB} (h : Inv1 i j L) (hji : j ≤ i) (hj : 0 < j) (h1 : j < L.length) (h2 : L[j - 1].txg < L[j].txg) : Inv1 i (j - 1) ((L.set j L[j - 1]).set (j - 1) L[j]) := by
 have hg : ∀ p (hp : p < ((L.set j L[j - 1]).set (j - 1) L[j]).length), ((L.set j L[j - 1]).set (j - 1) L[j])[p].txg = if p = j - 1 then L[j].txg else if p = j then L[j - 1].txg else (L[p]'(by simpa using hp)).txg := by
   intro p hp
   rw [List.getElem_set, List.getElem_set]
   by_cases e1 : j - 1 = p
   · rw [if_pos e1, if_pos (show p = j - 1 from e1.symm)]
   · rw [if_neg e1, if_neg (show ¬ p = j - 1 from fun e => e1 e.symm)]
     by_cases e2 : j = p
     · rw [if_pos e2, if_pos (show p = j from e2.symm)]
     · rw [if_neg e2, if_neg (show ¬ p = j from fun e => e2 e.symm)]
 refine ⟨fun p q hp hq hpq hqi hp1 hq1 => ?_, fun q hq hj1 hjq hqi => ?_⟩
 · rw [hg p hp, hg q hq, if_neg hp1, if_neg hq1]
   have hp' : p < L.length := by simpa using hp
   have hq' : q < L.length := by simpa using hq
   by_cases ep : p = j
   · subst ep
     rw [if_pos rfl, if_neg (by omega)]
     exact h.1 (p - 1) q (by omega) hq' (by omega) hqi (by omega) (by omega)
   · rw [if_neg ep]
     by_cases eq : q = j
     · subst eq
       rw [if_pos rfl]
       exact h.1 p (q - 1) hp' (by omega) (by omega) (by omega) ep (by omega)
     · rw [if_neg eq]
       exact h.1 p q hp' hq' hpq hqi ep eq
 · rw [hg q hq, hg (j - 1) hj1, if_pos rfl, if_neg (by omega)]
   have hq' : q < L.length := by simpa using hq
   by_cases eq : q = j
   · rw [if_pos eq]; omega
   · rw [if_neg eq]
     exact h.2 q hq' h1 (by omega) hqi
end Go.Proofs.YtolknnmaadkgiaaGreatDoor
