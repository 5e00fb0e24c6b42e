/- Format. A leaf: its size, whether it can be asked, whether there are such sectors. A leaf flushed, written, read; its label. -/
import Derived.Test.YtolknnmaadkgiaaGreatDoorG11
set_option linter.unusedVariables false
set_option linter.unusedSimpArgs false
namespace Go.Proofs.YtolknnmaadkgiaaGreatDoor
set_option maxRecDepth 100000
open Go.RowKit Go.Uc
def Dsk.stp (n : Nat) (lb : List UInt8) (j : Nat) (t : Dsk) : Dsk :=
 match j with
 | 0 => (t.wr 0 274 (zeros 35072)).1
 | 1 => (t.wr (n - 18) 18 (zeros 2304)).1
 | 2 => (t.wr 0 1 lb).1
 | 3 => (t.wr 9 1 lb).1
 | 4 => (t.wr (n - 18) 1 lb).1
 | 5 => (t.wr (n - 9) 1 lb).1
 | _ => t.flush
def Dsk.fst (s : Dsk) (lb : List UInt8) : Nat → Dsk
 | 0 => s
 | j + 1 => Dsk.stp s.n lb j (s.fst lb j)
def Dsk.on (s t : Dsk) (k : Nat) : Prop := t.left = -1 ∧ t.n = s.n ∧ t.off = false ∧ t.waits.length ≤ s.waits.length + k
theorem Dsk.on.wr {s t : Dsk} {k : Nat} (h : s.on t k) (m at_ : Nat) (bs : List UInt8) : s.on (t.wr at_ m bs).1 (k + m) := by
 obtain ⟨h1, h2, h3, h4⟩ := h
 obtain ⟨i1, i2, i3, i4, i5, i6⟩ := Dsk.wr_on m t at_ bs h1
 exact ⟨i2, i3.trans h2, i4.trans h3, by rw [i6]; omega⟩
theorem Dsk.fst_on (s : Dsk) (lb : List UInt8) (h1 : s.left = -1) (h2 : s.off = false) : s.on (s.fst lb 0) 0 ∧ s.on (s.fst lb 1) 274 ∧ s.on (s.fst lb 2) 292 ∧ s.on (s.fst lb 3) 293 ∧ s.on (s.fst lb 4) 294 ∧ s.on (s.fst lb 5) 295 ∧ s.on (s.fst lb 6) 296 := by
 have g0 : s.on (s.fst lb 0) 0 := ⟨h1, rfl, h2, Nat.le_refl _⟩
 have g1 : s.on (s.fst lb 1) 274 := g0.wr 274 0 _
 have g2 : s.on (s.fst lb 2) 292 := g1.wr 18 _ _
 have g3 : s.on (s.fst lb 3) 293 := g2.wr 1 0 lb
 have g4 : s.on (s.fst lb 4) 294 := g3.wr 1 9 lb
 have g5 : s.on (s.fst lb 5) 295 := g4.wr 1 _ lb
 exact ⟨g0, g1, g2, g3, g4, g5, g5.wr 1 _ lb⟩
theorem fst1 (s : Dsk) (lb : List UInt8) : s.fst lb 1 = ((s.fst lb 0).wr 0 274 (zeros 35072)).1 := rfl
theorem fst2 (s : Dsk) (lb : List UInt8) : s.fst lb 2 = ((s.fst lb 1).wr (s.n - 18) 18 (zeros 2304)).1 := rfl
theorem fst3 (s : Dsk) (lb : List UInt8) : s.fst lb 3 = ((s.fst lb 2).wr 0 1 lb).1 := rfl
theorem fst4 (s : Dsk) (lb : List UInt8) : s.fst lb 4 = ((s.fst lb 3).wr 9 1 lb).1 := rfl
theorem fst5 (s : Dsk) (lb : List UInt8) : s.fst lb 5 = ((s.fst lb 4).wr (s.n - 18) 1 lb).1 := rfl
theorem fst6 (s : Dsk) (lb : List UInt8) : s.fst lb 6 = ((s.fst lb 5).wr (s.n - 9) 1 lb).1 := rfl
theorem fst7 (s : Dsk) (lb : List UInt8) : s.fst lb 7 = (s.fst lb 6).flush := rfl
theorem flush33_wrote {w0 w : World} {K : Kb} {s : Dsk} {wv : Sl} (h : Dm w0 w K s wv) (ho : s.off = false) (hW : s.waits.length ≤ 1099511627776) :
   Calls Tryz.prog 90 #[.pointer (some ⟨K.d, 0, none⟩)] w fun e w' => e = .returned (.int .i64 0) ∧ Wrote w0 w K wv s.flush w' := by
 refine (flush33_any h ho hW).mono ?_
 rintro e w' ⟨rfl, h1, h2⟩
 refine ⟨rfl, _, h1, h2, fun q hq => .inl ?_⟩
 obtain ⟨A, n, c⟩ := wv
 cases A <;> exact hq
def plc (n : Nat) : Nat → Nat
 | 0 => 0
 | 1 => 9
 | 2 => n - 18
 | _ => n - 9
def f60 (p2 p6 : Nat) (a : Nat) : Fn × Array Value × Array Value := (.func 89, #[], #[.pointer (some ⟨p2, 0, none⟩), .pointer (some ⟨a, 0, none⟩), .pointer (some ⟨p6, 0, none⟩)])
def steps2 (p2 : Nat) : List (Fn × Array Value × Array Value) := [(.func 87, #[], #[.pointer (some ⟨p2, 0, none⟩)]), (.func 88, #[], #[.pointer (some ⟨p2, 0, none⟩)])]
theorem placesAgg (n : Nat) (j : Nat) (hj : j < 4) : (#[.int .i64 0, .int .i64 9, .int .i64 ((n - 18 : Nat) : Int), .int .i64 ((n - 9 : Nat) : Int)] : Array Value)[j]? = some (.int .i64 (plc n j : Int)) := by
 match j, hj with
 | 0, _ => rfl
 | 1, _ => rfl
 | 2, _ => rfl
 | 3, _ => rfl
theorem RowP.carry {α : Type} {w w' : World} {e : TypeId} {k : Nat} {enc : α → List Value} {v : Value} {xs : List α} (h : RowP w e k enc v xs) (hc : ∀ b (cs : Array Value), Blk w b e cs → Blk w' b e cs) : RowP w' e k enc v xs := by
 rcases h.2 with h2 | ⟨g, cap, cur, e1, h2, h3, r⟩
 · exact ⟨h.1, .inl h2⟩
 · exact ⟨h.1, .inr ⟨g, cap, cur, e1, h2, hc g cur h3, r⟩⟩
theorem Dm.carry {w0 w w' : World} {K : Kb} {s : Dsk} {wv : Sl} (h : Dm w0 w K s wv) (T : TypeId) (h1 : 104 ≠ T) (h2 : 110 ≠ T) (h3 : 5 ≠ T) (h4 : 49 ≠ T) (h5 : 107 ≠ T) (hk : ∀ b t (cs : Array Value), Blk w b t cs → t ≠ T → Blk w' b t cs) (hw : Keeps Non w0 w') : Dm w0 w' K s wv :=
 ⟨h.ok, h.pw.imp fun _ i => hk _ _ _ i h1, hk _ _ _ h.dk h2, hk _ _ _ h.pl h3, hk _ _ _ h.nw h3, h.hd, fun x hx => (h.od x hx).imp fun _ i => hk _ _ _ i h2, RowP.carry h.wt fun b cs hb => hk b 107 cs hb h5, h.wn, h.ne, h.new, hw⟩
theorem index86 (n j : Nat) (hj : j < 4) (V : World) : (Instr.index 173 (.agg #[.int .i64 0, .int .i64 9, .int .i64 ((n - 18 : Nat) : Int), .int .i64 ((n - 9 : Nat) : Int)]) (.int .i64 (j : Int))).run Tryz.prog V = .ok (.int .i64 (plc n j : Int)) V := by
 rcases (by omega : j = 0 ∨ j = 1 ∨ j = 2 ∨ j = 3) with rfl | rfl | rfl | rfl <;> kernel_rfl
set_option maxHeartbeats 8000000 in
theorem format26_any {w0 w : World} {K : Kb} {s : Dsk} {wv : Sl} (h : Dm w0 w K s wv) (ho : s.off = false) (hl1 : s.left = -1) (hn : 324 ≤ s.n) (hW : s.waits.length ≤ 100000) (x : Lb) (hx : x.ok) (hs : ∀ hh : x.top < x.ts.length, (x.ts[x.top]).s = s.n) (A : Option Addr) (c : Nat) (hR : RowT w (.slice A x.ts.length c) x.ts) :
   Calls Tryz.prog 50 #[.pointer (some ⟨K.d, 0, none⟩), .agg #[.int .u64 (x.pool : Int), .slice A x.ts.length c, .int .i64 (x.top : Int), .int .i64 (x.place : Int)]] w fun e w' => ∃ lf tA tc, e = .returned (.tuple #[.pointer (some ⟨lf, 0, none⟩), .int .i64 0]) ∧ w.heap.size ≤ lf ∧ Did w0 w lf K wv x tA tc (s.fst (labelB x) 7) w' := by
 have h4 : x.ts.length ≤ 4 := hx.2.2.1
 have hlb := labelB_len x h4
 have HEn := Lib.hid (fun V (hV : Keeps Non w V) => encodeLabel57_any x hx A c V (hR.non hV))
 obtain ⟨X, hX⟩ : ∃ X, X = labelB x := ⟨_, rfl⟩
 rw [← hX] at hlb HEn ⊢
 clear hX
 obtain ⟨htop, -⟩ := hx.2.2.2.1
 have hs' := hs htop
 have h1x := hx.2.1
 obtain ⟨pool, ts, top, place⟩ := x
 simp only at HEn hR h4 htop hs' h1x ⊢
 clear hx hs
 obtain ⟨hB2, hB3, hk⟩ := two_new w #[.pointer (some ⟨K.d, 0, none⟩)] #[.int .u64 (pool : Int), .slice A ts.length c, .int .i64 (top : Int), .int .i64 (place : Int)] 49 114
 go_enter Tryz.func50, Tryz.ntmps50
 go_upto_region 1 with fail
 obtain ⟨w1, hw1⟩ : ∃ V : World, V = (w.alloc (.cells #[.pointer (some ⟨K.d, 0, none⟩)] 49)).alloc (.cells #[.int .u64 (pool : Int), .slice A ts.length c, .int .i64 (top : Int), .int .i64 (place : Int)] 114) := ⟨_, rfl⟩
 rw [← hw1] at hB2 hB3 hk ⊢
 clear hw1
 obtain ⟨p2, hp2⟩ : ∃ z, z = w.heap.size := ⟨_, rfl⟩
 rw [← hp2] at hB2 hB3 ⊢
 obtain ⟨p3, hp3⟩ : ∃ z, z = p2 + 1 := ⟨_, rfl⟩
 rw [← hp3] at hB3 ⊢
 have hp3w : w.heap.size ≤ p3 := by omega
 clear hp2 hp3
 have x0 : w1.cell? ⟨p3, 0, none⟩ = some (.int .u64 (pool : Int)) := hB3.cell 0
 have x1 : w1.cell? ⟨p3, 1, none⟩ = some (.slice A ts.length c) := hB3.cell 1
 have x2 : w1.cell? ⟨p3, 2, none⟩ = some (.int .i64 (top : Int)) := hB3.cell 2
 have x3 : w1.cell? ⟨p3, 3, none⟩ = some (.int .i64 (place : Int)) := hB3.cell 3
 have HE1 := Lib.hid (HEn.out w1 hk)
 go_upto_region 4 with (go_at_call 86; go_must (refine HE1.out.mono ?_); rintro e w2 ⟨lbk, rfl, hL2, hln, hK2⟩)
 have hS := Blk.new w2 22 #[.slice (some ⟨lbk, 0, none⟩) 128 128]
 have hks := (Keeps.refl Non w2).alloc (.cells #[.slice (some ⟨lbk, 0, none⟩) 128 128] 22)
 obtain ⟨w3, hw3⟩ : ∃ V : World, V = w2.alloc (.cells #[.slice (some ⟨lbk, 0, none⟩) 128 128] 22) := ⟨_, rfl⟩
 rw [← hw3] at hS hks ⊢
 clear hw3
 obtain ⟨p6, hp6⟩ : ∃ z, z = w2.heap.size := ⟨_, rfl⟩
 rw [← hp6] at hS ⊢
 clear hp6
 have hK13 := hK2.non hks
 have hK3 := hk.non hK13
 have hL3 := hL2.non hks
 have hlbw : w.heap.size ≤ lbk := by have := hk.size; omega
 have hB23 := hB2.non hK13
 have hB33 := hB3.non hK13
 have hR3 := hR.non hK3
 have h3 := h.non hK3
 clear hB2 hB3 hL2 hK2 hks HEn HE1 x0 x1 x2 x3 hR
 obtain ⟨g, cap, e1, hle, -, hc, -, -⟩ := hR3.at_ encT_len htop
 injection e1 with e1 _ e2
 subst e1 e2
 have y0 : w3.cell? ⟨p2, 0, none⟩ = some (.pointer (some ⟨K.d, 0, none⟩)) := one_cell hB23
 have y1 : w3.cell? ⟨p3, 1, none⟩ = some (.slice (some ⟨g, 0, none⟩) ts.length c) := hB33.cell 1
 have y2 : w3.cell? ⟨p3, 2, none⟩ = some (.int .i64 (top : Int)) := hB33.cell 2
 have y3 : w3.cell? ⟨g, top * 3 + 2, none⟩ = some (.int .i64 (s.n : Int)) := by rw [← hs']; exact hc 2 (by decide)
 have HSc := Lib.hid (fun q => sectors52_any (h3.non ((Keeps.refl Non w3).drewN q)))
 clear hc hs'
 have hnn : ((s.n : Int) != (s.n : Int)) = false := by simp
 generalize hsn : s.n = n at y3 HSc hnn
 have HSN := Lib.hid hsn
 clear hsn
 go_quiet ((go_at_call 49; exact Calls.quiet_of_same (HSc.out _)))
 obtain ⟨w4, hw4⟩ : ∃ V : World, V = w3.drewN nq := ⟨_, rfl⟩
 have hk4 : Keeps Non w3 w4 := by rw [hw4]; exact (Keeps.refl _ _).drewN _
 rw [← hw4]
 clear hw4 y0 y1 y2 y3
 have hB24 := hB23.non hk4
 have hB34 := hB33.non hk4
 have hS4 := hS.non hk4
 have hL4 := hL3.non hk4
 have hR4 := hR3.non hk4
 have h4' := h3.non hk4
 have hK4 := hK3.non hk4
 clear hB23 hB33 hS hL3 hR3 h3 hK3 HSc
 have y0 : w4.cell? ⟨p2, 0, none⟩ = some (.pointer (some ⟨K.d, 0, none⟩)) := one_cell hB24
 go_upto_region 7 with fail
 have hSt : RowP (w4.alloc (.cells #[.func (.func 87) #[] #[.pointer (some ⟨p2, 0, none⟩)], .func (.func 88) #[] #[.pointer (some ⟨p2, 0, none⟩)]] 43)) 43 1 encF (.slice (some ⟨w4.heap.size, 0, none⟩) 2 2) (steps2 p2) := RowP.lit encF_len w4 43 (steps2 p2) _ rfl (by show 2 ≤ maxLen; decide)
 have hk5 := (Keeps.refl Non w4).alloc (.cells #[.func (.func 87) #[] #[.pointer (some ⟨p2, 0, none⟩)], .func (.func 88) #[] #[.pointer (some ⟨p2, 0, none⟩)]] 43)
 obtain ⟨w5, hw5⟩ : ∃ V : World, V = w4.alloc (.cells #[.func (.func 87) #[] #[.pointer (some ⟨p2, 0, none⟩)], .func (.func 88) #[] #[.pointer (some ⟨p2, 0, none⟩)]] 43) := ⟨_, rfl⟩
 rw [← hw5] at hSt hk5 ⊢
 clear hw5
 obtain ⟨rb, hrb⟩ : ∃ z, z = w4.heap.size := ⟨_, rfl⟩
 rw [← hrb] at hSt ⊢
 have hrbw : w.heap.size ≤ rb := by have := hK4.size; omega
 have hrb4 : w4.heap.size ≤ rb := by omega
 clear hrb
 have hPl := Lib.hid (places29_any (h4'.non hk5) hn)
 rw [HSN.out] at hPl
 have y5 : w5.cell? ⟨p2, 0, none⟩ = some (.pointer (some ⟨K.d, 0, none⟩)) := one_cell (hB24.non hk5)
 go_upto_region 8 with (go_at_call 76; go_must (refine hPl.out.mono ?_); rintro e w6 ⟨rfl, hk6⟩)
 have hk46 := hk5.non hk6
 have hB26 := hB24.non hk46
 have hB36 := hB34.non hk46
 have hS6 := hS4.non hk46
 have hL6 := hL4.non hk46
 have hR6 := hR4.non hk46
 have h6 := h4'.non hk46
 have hK6 := hK4.non hk46
 have hSt6 := hSt.non hk6
 have hrb6 : rb < w6.heap.size := RowP.lt hSt6 _ (by rw [own_slice]; simp)
 clear hB24 hB34 hS4 hL4 hR4 h4' hK4 hSt hPl y0 y5 hk5 hk6
 have hpa := Lib.hid (fun j hj => placesAgg n j hj)
 go_loopw [8, 37] (fun l i wr => ∃ (axs : List Nat) (lA : Option Addr) (lc : Nat), axs.length ≤ 4 ∧ i = .int .i64 (axs.length : Int) ∧ l = .slice lA (2 + axs.length) lc ∧ RowP wr 43 1 encF (.slice lA (2 + axs.length) lc) (steps2 p2 ++ axs.map (f60 p2 p6)) ∧ (∀ j (hj : j < axs.length), Blk wr axs[j] 3 #[.int .i64 (plc n j : Int)]) ∧ (∀ q ∈ own (.slice lA (2 + axs.length) lc), q = rb ∨ w6.heap.size ≤ q) ∧ Keeps (Only rb) w6 wr) (fun _ i _ => 4 - (intOf i).toNat)
 case atStart => exact ⟨[], some ⟨rb, 0, none⟩, 2, by simp, rfl, rfl, by simpa using hSt6, fun j hj => absurd hj (by simp), fun q hq => by rw [own_slice, List.mem_singleton] at hq; exact .inl hq, Keeps.refl _ _⟩
 case round =>
   obtain ⟨axs, lA, lc, hj, rfl, rfl, hRow, hAx, hOwn, hK⟩ := hrel
   obtain ⟨wx, rfl⟩ : ∃ V : World, V = wr := ⟨_, rfl⟩
   by_cases hlt : axs.length < 4
   · have hji : (axs.length : Int) < 4 := by omega
     have hpj := hpa.out axs.length hlt
     have hix := fun V => index86 n axs.length hlt V
     have hAb := Blk.new wx 3 #[.int .i64 (plc n axs.length : Int)]
     have hka := (Keeps.refl Non wx).alloc (.cells #[.int .i64 (plc n axs.length : Int)] 3)
     go_upto_region 10 with fail
     obtain ⟨wy, hwy⟩ : ∃ V : World, V = wx.alloc (.cells #[.int .i64 (plc n axs.length : Int)] 3) := ⟨_, rfl⟩
     rw [← hwy] at hAb hka ⊢
     clear hwy
     obtain ⟨ax, hax⟩ : ∃ z, z = wx.heap.size := ⟨_, rfl⟩
     rw [← hax] at hAb ⊢
     have haxw : wx.heap.size ≤ ax := by omega
     clear hax
     have hRy := hRow.non hka
     have hkb := (Keeps.refl Non wy).alloc (.cells #[.func (.func 89) #[] #[.pointer (some ⟨p2, 0, none⟩), .pointer (some ⟨ax, 0, none⟩), .pointer (some ⟨p6, 0, none⟩)]] 43)
     have hRz := hRy.non hkb
     have hAt : Ats (wy.alloc (.cells #[.func (.func 89) #[] #[.pointer (some ⟨p2, 0, none⟩), .pointer (some ⟨ax, 0, none⟩), .pointer (some ⟨p6, 0, none⟩)]] 43)) (some ⟨wy.heap.size, 0, none⟩) ([f60 p2 p6 ax].flatMap encF) := Ats.lit wy _ 43 _ rfl
     have hml : (steps2 p2 ++ axs.map (f60 p2 p6)).length = 2 + axs.length := by simp [steps2]; omega
     have HB : Hid ((steps2 p2 ++ axs.map (f60 p2 p6)).length + [f60 p2 p6 ax].length ≤ maxLen ∧ ((steps2 p2 ++ axs.map (f60 p2 p6)).length + [f60 p2 p6 ax].length) * 8 ≤ 140737488355328) := Lib.hid (by rw [hml, List.length_singleton]; unfold maxLen; omega)
     have Hml := Lib.hid hml
     have Hrow := Lib.hid hRz
     clear hml hRz hRy
     go_wp2_with (at_builtin; go_must (refine wpList_append_row (o := ⟨some 43, _, _, _, _, _⟩) rfl (.tmp 40) (.tmp 42) 190 rfl 43 1 encF .nilFunc 8 Tryz.underlying190 info48 rfl (by decide) encF_len encF_one (.slice lA (2 + axs.length) lc) (steps2 p2 ++ axs.map (f60 p2 p6)) (by kernel_rfl) Hrow.out (some ⟨wy.heap.size, 0, none⟩) 1 1 [f60 p2 p6 ax] (by kernel_rfl) rfl hAt HB.out.1 HB.out.2 ?_); intro u8 w8 hO8 hK8 hat; obtain ⟨⟨A8, n8, c8⟩, rfl, h8⟩ := RowP.sl hO8; have hn8 : n8 = 2 + (axs.length + 1) := (by rw [show n8 = (steps2 p2 ++ axs.map (f60 p2 p6) ++ [f60 p2 p6 ax]).length from h8, List.length_append, Hml.out]; rfl); clear h8; subst hn8)
     go_roundw
     case rel =>
       have hkab := hka.non hkb
       refine ⟨axs ++ [ax], A8, c8, ?_, ?_, ?_, ?_, ?_, ?_, ?_⟩
       · rw [List.length_append, List.length_singleton]; omega
       · rw [List.length_append, List.length_singleton]; go_num
       · rw [List.length_append, List.length_singleton]
       · rw [List.length_append, List.length_singleton, List.map_append]
         simpa using hO8
       · intro j hj'
         rw [List.length_append, List.length_singleton] at hj'
         by_cases hjl : j < axs.length
         · rw [List.getElem_append_left hjl]
           have hb1 := (hAx j hjl).non hkab
           exact hb1.keep hK8 (own_type Hrow.out hb1 (by decide))
         · obtain rfl : j = axs.length := by omega
           have hb1 := hAb.non hkb
           simpa using hb1.keep hK8 (own_type Hrow.out hb1 (by decide))
       · intro q hq
         rw [List.length_append, List.length_singleton, mem_own] at hq
         rcases hat with e | e
         · exact hOwn q (mem_own.2 (e.symm.trans hq))
         · have e2 := e.symm.trans hq
           injection e2 with e2
           right
           have := hK.size
           have := hka.size
           rw [← e2]
           simp
           omega
       · exact (hK.non hkab).then hK8 fun i hi e => by
           rcases hOwn i e with e' | e'
           · exact e'
           · omega
     case measure => simp [intOf]; omega
   · have hj4 : axs.length = 4 := by omega
     obtain ⟨a0, a1, a2, a3, rfl⟩ : ∃ a0 a1 a2 a3, axs = [a0, a1, a2, a3] := by
       match axs, hj4 with
       | [a0, a1, a2, a3], _ => exact ⟨a0, a1, a2, a3, rfl⟩
     have hA0 : Blk wx a0 3 #[.int .i64 0] := hAx 0 (by simp)
     have hA1 : Blk wx a1 3 #[.int .i64 9] := hAx 1 (by simp)
     have hA2 : Blk wx a2 3 #[.int .i64 ((n - 18 : Nat) : Int)] := hAx 2 (by simp)
     have hA3 : Blk wx a3 3 #[.int .i64 ((n - 9 : Nat) : Int)] := hAx 3 (by simp)
     have hRow6 : RowP wx 43 1 encF (.slice lA 6 lc) [(.func 87, #[], #[.pointer (some ⟨p2, 0, none⟩)]), (.func 88, #[], #[.pointer (some ⟨p2, 0, none⟩)]), f60 p2 p6 a0, f60 p2 p6 a1, f60 p2 p6 a2, f60 p2 p6 a3] := hRow
     have hrbt : ∀ b t (cs : Array Value), Blk w6 b t cs → t ≠ 43 → b ≠ rb := fun b t cs hb ht e => by
       rcases hSt6.form with ⟨e1, -⟩ | ⟨g', cap', cur', e1, hb', -⟩
       · cases e1
       · injection e1 with e1
         injection e1 with e1
         injection e1 with e1
         subst e1
         exact (hb.ne hb' ht) e
     have hB2x := hB26.one hK (hrbt _ _ _ hB26 (by decide))
     have hB3x := hB36.one hK (hrbt _ _ _ hB36 (by decide))
     have hSx := hS6.one hK (hrbt _ _ _ hS6 (by decide))
     have hLx := hL6.one hK (hrbt _ _ _ hL6 (by decide))
     have hRx : RowT wx (.slice (some ⟨g, 0, none⟩) ts.length c) ts := hR6.keep hK fun q hq e => by
       rcases hR6.form with ⟨e1, -⟩ | ⟨g', cap', cur', e1, hb', -⟩
       · cases e1
       · injection e1 with e1
         injection e1 with e1
         injection e1 with e1
         subst e1
         rw [own_slice, List.mem_singleton] at hq
         subst hq
         exact hrbt _ _ _ hb' (by decide) e
     have hDx : Dm w0 wx K s wv := by
       have hKr : Keeps (Only rb) w6 wx := hK
       obtain ⟨z, hp6'⟩ := h6.pw
       have hnrb : w0.heap.size ≤ rb := by have := h.keep.size; omega
       refine ⟨h6.ok, ⟨z, hp6'.one hK (hrbt _ _ _ hp6' (by decide))⟩, h6.dk.one hK (hrbt _ _ _ h6.dk (by decide)), h6.pl.one hK (hrbt _ _ _ h6.pl (by decide)), h6.nw.one hK (hrbt _ _ _ h6.nw (by decide)), h6.hd, fun y hy => (h6.od y hy).imp fun _ i => i.one hK (hrbt _ _ _ i (by decide)), h6.wt.keep hK fun q hq e => ?_, h6.wn, h6.ne, h6.new, h6.keep.then hK fun i hi e => by unfold Only at e; omega⟩
       rcases h6.wt.form with ⟨e1, -⟩ | ⟨g', cap', cur', e1, hb', -⟩
       · rw [e1] at hq; exact (List.not_mem_nil hq).elim
       · rw [e1, own_slice, List.mem_singleton] at hq
         subst hq
         exact hrbt _ _ _ hb' (by decide) e
     have hKx : Keeps Non w wx := hK6.then hK fun i hi e => by unfold Only at e; omega
     have hKn : ∀ q ∈ own (.slice lA 6 lc), w.heap.size ≤ q := fun q hq => by
       rcases hOwn q hq with e | e
       · omega
       · have := hK6.size; omega
     clear hAx hRow hB26 hB36 hS6 hL6 hR6 h6 hSt6 hOwn
     have z0 : wx.cell? ⟨p2, 0, none⟩ = some (.pointer (some ⟨K.d, 0, none⟩)) := one_cell hB2x
     have hkb := (Keeps.refl Non wx).alloc (.cells #[.func (.func 90) #[.pointer (some ⟨K.d, 0, none⟩)] #[]] 43)
     have Hrow := Lib.hid (hRow6.non hkb)
     have hAt : Ats (wx.alloc (.cells #[.func (.func 90) #[.pointer (some ⟨K.d, 0, none⟩)] #[]] 43)) (some ⟨wx.heap.size, 0, none⟩) ([((.func 90, #[.pointer (some ⟨K.d, 0, none⟩)], #[]) : Fn × Array Value × Array Value)].flatMap encF) := Ats.lit wx _ 43 _ rfl
     have HB : Hid ((6 : Nat) + 1 ≤ maxLen ∧ (6 + 1) * 8 ≤ 140737488355328) := Lib.hid (by unfold maxLen; decide)
     go_upto_region 13 with (at_builtin; go_must (refine wpList_append_row (o := ⟨some 49, _, _, _, _, _⟩) rfl (.tmp 45) (.tmp 48) 190 rfl 43 1 encF .nilFunc 8 Tryz.underlying190 info48 rfl (by decide) encF_len encF_one (.slice lA 6 lc) [(.func 87, #[], #[.pointer (some ⟨p2, 0, none⟩)]), (.func 88, #[], #[.pointer (some ⟨p2, 0, none⟩)]), f60 p2 p6 a0, f60 p2 p6 a1, f60 p2 p6 a2, f60 p2 p6 a3] (by kernel_rfl) Hrow.out (some ⟨wx.heap.size, 0, none⟩) 1 1 [(.func 90, #[.pointer (some ⟨K.d, 0, none⟩)], #[])] (by kernel_rfl) rfl hAt HB.out.1 HB.out.2 ?_); intro u8 w8 hO8 hK8 hat; obtain ⟨lA8, lc8, hue, -⟩ := hO8.val; subst hue)
     have hk8 : ∀ b t (cs : Array Value), Blk wx b t cs → t ≠ 43 → Blk w8 b t cs := fun b t cs hb ht => by
       have hb1 := hb.non hkb
       exact hb1.keep hK8 (own_type Hrow.out hb1 ht)
     have hK8w : Keeps Non w w8 := (hKx.non hkb).then hK8 fun i hi e => by have := hKn i e; omega
     have hB28 := hk8 _ _ _ hB2x (by decide)
     have hB38 := hk8 _ _ _ hB3x (by decide)
     have hS8 := hk8 _ _ _ hSx (by decide)
     have hL8 := hk8 _ _ _ hLx (by decide)
     have hA08 := hk8 _ _ _ hA0 (by decide)
     have hA18 := hk8 _ _ _ hA1 (by decide)
     have hA28 := hk8 _ _ _ hA2 (by decide)
     have hA38 := hk8 _ _ _ hA3 (by decide)
     have hR8 : RowT w8 (.slice (some ⟨g, 0, none⟩) ts.length c) ts := RowP.carry hRx fun b cs hb => hk8 b 31 cs hb (by decide)
     have hD8 := hDx.carry 43 (by decide) (by decide) (by decide) (by decide) (by decide) hk8 (h.keep.non hK8w)
     have hlbf : ¬ Fr K wv lbk := (h.old hlbw).1
     have hlb8 := hL8.lt
     have hRow7 : RowP w8 43 1 encF (.slice lA8 7 lc8) [(.func 87, #[], #[.pointer (some ⟨p2, 0, none⟩)]), (.func 88, #[], #[.pointer (some ⟨p2, 0, none⟩)]), f60 p2 p6 a0, f60 p2 p6 a1, f60 p2 p6 a2, f60 p2 p6 a3, (.func 90, #[.pointer (some ⟨K.d, 0, none⟩)], #[])] := hO8
     clear hB2x hB3x hSx hLx hA0 hA1 hA2 hA3 hRx hDx hRow6 Hrow hAt hKx hkb hO8 hk8 z0 hat hK8
     obtain ⟨g0, g1, g2, g3, g4, g5, g6⟩ := Dsk.fst_on s X hl1 ho
     go_upto_region 14 with fail
     go_loopw [52] (fun i wr => ∃ (j : Nat) (wx : Sl), j ≤ 7 ∧ i = .int .i64 (j : Int) ∧ Dm w0 wr K (s.fst X j) wx ∧ Keeps (Fr K wv) w8 wr ∧ (∀ q ∈ own wx.v, q ∈ own wv.v ∨ w8.heap.size ≤ q)) (fun i _ => 7 - (intOf i).toNat)
     case atStart => exact ⟨0, wv, Nat.zero_le _, rfl, hD8, Keeps.refl _ _, fun q hq => .inl hq⟩
     case round =>
       obtain ⟨j, wx', hj, rfl, hDj, hkr, hoj⟩ := hrel
       obtain ⟨wr', rfl⟩ : ∃ V : World, V = wr := ⟨_, rfl⟩
       have b2 := hB28.keep hkr (hD8.free hB28 (by decide) (by decide) (by decide))
       have b3 := hB38.keep hkr (hD8.free hB38 (by decide) (by decide) (by decide))
       have b6 := hS8.keep hkr (hD8.free hS8 (by decide) (by decide) (by decide))
       have e0 := hA08.keep hkr (hD8.free hA08 (by decide) (by decide) (by decide))
       have e1 := hA18.keep hkr (hD8.free hA18 (by decide) (by decide) (by decide))
       have e2 := hA28.keep hkr (hD8.free hA28 (by decide) (by decide) (by decide))
       have e3 := hA38.keep hkr (hD8.free hA38 (by decide) (by decide) (by decide))
       have bl := hL8.keep hkr hlbf
       have fl : ¬ Fr K wx' lbk := fun e => hlbf (e.back hoj hlb8)
       have hrow := hRow7.keep hkr (hD8.freeRow (v := ⟨lA8, 7, lc8⟩) hRow7 (by decide) (by decide) (by decide))
       by_cases hlt : j < 7
       · obtain ⟨sg, cap, hse, -, -, hc, -, -⟩ := hrow.at_ encF_len (i := j) (by simpa using hlt)
         injection hse with hse _ hse2
         subst hse hse2
         have hcj := hc 0 (by decide)
         clear hc hrow
         rcases (by omega : j = 0 ∨ j = 1 ∨ j = 2 ∨ j = 3 ∨ j = 4 ∨ j = 5 ∨ j = 6) with rfl | rfl | rfl | rfl | rfl | rfl | rfl
         · have HJ := step58_any hDj g0.2.2.1 g0.1 (by rw [g0.2.1]; exact hn) (by have := g0.2.2.2; omega) p2 b2
           rw [← fst1] at HJ
           have HJh := Lib.hid HJ
           have hcell : wr'.cell? ⟨sg, 0, none⟩ = some (.func (.func 87) #[] #[.pointer (some ⟨p2, 0, none⟩)]) := hcj
           clear HJ hcj
           go_wp2_with (go_at_call 87; go_must (refine HJh.out.mono ?_); rintro e w9 ⟨rfl, hW9⟩)
           go_roundw
           case rel =>
             obtain ⟨wn, hd9, hk9, ho9⟩ := hW9
             exact ⟨1, wn, by omega, by go_num, hd9, hkr.then hk9 fun i hi e => e.back hoj hi, fun q hq => by rcases ho9 q hq with e | e; exact hoj q e; right; have := hkr.size; omega⟩
           case measure => simp [intOf]
         · have HJ := step59_any hDj g1.2.2.1 g1.1 (by rw [g1.2.1]; exact hn) (by have := g1.2.2.2; omega) p2 b2
           rw [g1.2.1] at HJ
           rw [← fst2] at HJ
           have HJh := Lib.hid HJ
           have hcell : wr'.cell? ⟨sg, 1, none⟩ = some (.func (.func 88) #[] #[.pointer (some ⟨p2, 0, none⟩)]) := hcj
           clear HJ hcj
           go_wp2_with (go_at_call 88; go_must (refine HJh.out.mono ?_); rintro e w9 ⟨rfl, hW9⟩)
           go_roundw
           case rel =>
             obtain ⟨wn, hd9, hk9, ho9⟩ := hW9
             exact ⟨2, wn, by omega, by go_num, hd9, hkr.then hk9 fun i hi e => e.back hoj hi, fun q hq => by rcases ho9 q hq with e | e; exact hoj q e; right; have := hkr.size; omega⟩
           case measure => simp [intOf]
         · have HJ := step60_any hDj g2.2.2.1 g2.1 (by have := g2.2.2.2; omega) p2 a0 p6 lbk 0 X hlb (by rw [g2.2.1, HSN.out]; have := HSN.out; omega) b2 e0 b6 bl fl
           rw [← fst3] at HJ
           have HJh := Lib.hid HJ
           have hcell : wr'.cell? ⟨sg, 2, none⟩ = some (.func (.func 89) #[] #[.pointer (some ⟨p2, 0, none⟩), .pointer (some ⟨a0, 0, none⟩), .pointer (some ⟨p6, 0, none⟩)]) := hcj
           clear HJ hcj
           go_wp2_with (go_at_call 89; go_must (refine HJh.out.mono ?_); rintro e w9 ⟨rfl, hW9⟩)
           go_roundw
           case rel =>
             obtain ⟨wn, hd9, hk9, ho9⟩ := hW9
             exact ⟨3, wn, by omega, by go_num, hd9, hkr.then hk9 fun i hi e => e.back hoj hi, fun q hq => by rcases ho9 q hq with e | e; exact hoj q e; right; have := hkr.size; omega⟩
           case measure => simp [intOf]
         · have HJ := step60_any hDj g3.2.2.1 g3.1 (by have := g3.2.2.2; omega) p2 a1 p6 lbk 9 X hlb (by rw [g3.2.1, HSN.out]; have := HSN.out; omega) b2 e1 b6 bl fl
           rw [← fst4] at HJ
           have HJh := Lib.hid HJ
           have hcell : wr'.cell? ⟨sg, 3, none⟩ = some (.func (.func 89) #[] #[.pointer (some ⟨p2, 0, none⟩), .pointer (some ⟨a1, 0, none⟩), .pointer (some ⟨p6, 0, none⟩)]) := hcj
           clear HJ hcj
           go_wp2_with (go_at_call 89; go_must (refine HJh.out.mono ?_); rintro e w9 ⟨rfl, hW9⟩)
           go_roundw
           case rel =>
             obtain ⟨wn, hd9, hk9, ho9⟩ := hW9
             exact ⟨4, wn, by omega, by go_num, hd9, hkr.then hk9 fun i hi e => e.back hoj hi, fun q hq => by rcases ho9 q hq with e | e; exact hoj q e; right; have := hkr.size; omega⟩
           case measure => simp [intOf]
         · have HJ := step60_any hDj g4.2.2.1 g4.1 (by have := g4.2.2.2; omega) p2 a2 p6 lbk (n - 18) X hlb (by rw [g4.2.1, HSN.out]; have := HSN.out; omega) b2 e2 b6 bl fl
           rw [← HSN.out] at HJ
           rw [← fst5] at HJ
           have HJh := Lib.hid HJ
           have hcell : wr'.cell? ⟨sg, 4, none⟩ = some (.func (.func 89) #[] #[.pointer (some ⟨p2, 0, none⟩), .pointer (some ⟨a2, 0, none⟩), .pointer (some ⟨p6, 0, none⟩)]) := hcj
           clear HJ hcj
           go_wp2_with (go_at_call 89; go_must (refine HJh.out.mono ?_); rintro e w9 ⟨rfl, hW9⟩)
           go_roundw
           case rel =>
             obtain ⟨wn, hd9, hk9, ho9⟩ := hW9
             exact ⟨5, wn, by omega, by go_num, hd9, hkr.then hk9 fun i hi e => e.back hoj hi, fun q hq => by rcases ho9 q hq with e | e; exact hoj q e; right; have := hkr.size; omega⟩
           case measure => simp [intOf]
         · have HJ := step60_any hDj g5.2.2.1 g5.1 (by have := g5.2.2.2; omega) p2 a3 p6 lbk (n - 9) X hlb (by rw [g5.2.1, HSN.out]; have := HSN.out; omega) b2 e3 b6 bl fl
           rw [← HSN.out] at HJ
           rw [← fst6] at HJ
           have HJh := Lib.hid HJ
           have hcell : wr'.cell? ⟨sg, 5, none⟩ = some (.func (.func 89) #[] #[.pointer (some ⟨p2, 0, none⟩), .pointer (some ⟨a3, 0, none⟩), .pointer (some ⟨p6, 0, none⟩)]) := hcj
           clear HJ hcj
           go_wp2_with (go_at_call 89; go_must (refine HJh.out.mono ?_); rintro e w9 ⟨rfl, hW9⟩)
           go_roundw
           case rel =>
             obtain ⟨wn, hd9, hk9, ho9⟩ := hW9
             exact ⟨6, wn, by omega, by go_num, hd9, hkr.then hk9 fun i hi e => e.back hoj hi, fun q hq => by rcases ho9 q hq with e | e; exact hoj q e; right; have := hkr.size; omega⟩
           case measure => simp [intOf]
         · have HJ := flush33_wrote hDj g6.2.2.1 (by have := g6.2.2.2; omega)
           rw [← fst7] at HJ
           have HJh := Lib.hid HJ
           have hcell : wr'.cell? ⟨sg, 6, none⟩ = some (.func (.func 90) #[.pointer (some ⟨K.d, 0, none⟩)] #[]) := hcj
           clear HJ hcj
           go_wp2_with (go_at_call 90; go_must (refine HJh.out.mono ?_); rintro e w9 ⟨rfl, hW9⟩)
           go_roundw
           case rel =>
             obtain ⟨wn, hd9, hk9, ho9⟩ := hW9
             exact ⟨7, wn, by omega, by go_num, hd9, hkr.then hk9 fun i hi e => e.back hoj hi, fun q hq => by rcases ho9 q hq with e | e; exact hoj q e; right; have := hkr.size; omega⟩
           case measure => simp [intOf]
       · have hj7 : j = 7 := by omega
         subst hj7
         clear hrow
         have y1 : wr'.cell? ⟨p3, 1, none⟩ = some (.slice (some ⟨g, 0, none⟩) ts.length c) := b3.cell 1
         have hRr : RowT wr' (.slice (some ⟨g, 0, none⟩) ts.length c) ts := hR8.keep hkr (hD8.freeRow (v := ⟨some ⟨g, 0, none⟩, ts.length, c⟩) hR8 (by decide) (by decide) (by decide))
         have HCl := Lib.hid (clone54_any ts (some ⟨g, 0, none⟩) c wr' hRr (by omega) (by omega))
         go_upto_region 21 with (go_at_call 45; go_must (refine HCl.out.mono ?_); rintro e wc ⟨tA, tc, rfl, hTc, hNc, hKc⟩; have b3c := b3.non hKc; have z1 := b3c.cell 1; have f1 := b3c.frozen 1)
         have b3d := b3c.set 1 (.slice tA ts.length tc)
         have hkd : Keeps (Only p3) wc (wc.setCell ⟨p3, 1, none⟩ (.slice tA ts.length tc)) := (Keeps.refl (Only p3) _).set (p := ⟨p3, 1, none⟩) rfl _
         obtain ⟨wd, hwd⟩ : ∃ V : World, V = wc.setCell ⟨p3, 1, none⟩ (.slice tA ts.length tc) := ⟨_, rfl⟩
         rw [← hwd] at b3d hkd ⊢
         clear hwd z1 f1 y1
         have hp23 : p2 ≠ p3 := b2.ne b3 (by decide)
         have b2d := (b2.non hKc).one hkd hp23
         have y0 : wd.cell? ⟨p2, 0, none⟩ = some (.pointer (some ⟨K.d, 0, none⟩)) := one_cell b2d
         have u0 : wd.cell? ⟨p3, 0, none⟩ = some (.int .u64 (pool : Int)) := b3d.cell 0
         have u1 : wd.cell? ⟨p3, 1, none⟩ = some (.slice tA ts.length tc) := b3d.cell 1
         have u2 : wd.cell? ⟨p3, 2, none⟩ = some (.int .i64 (top : Int)) := b3d.cell 2
         have u3 : wd.cell? ⟨p3, 3, none⟩ = some (.int .i64 (place : Int)) := b3d.cell 3
         have hDd : Dm w0 wd K (s.fst X 7) wx' := by
           have hz := h.keep.size
           have hkk : Keeps Non w0 wd := (hDj.keep.non hKc).then hkd fun i hi e => by unfold Only at e; omega
           exact (hDj.non hKc).carry 114 (by decide) (by decide) (by decide) (by decide) (by decide) (fun b t cs hb ht => hb.one hkd (hb.ne b3c ht)) hkk
         go_wp2_with fail
         go_ret2
         have hBl := Blk.new wd 171 #[.pointer (some ⟨K.d, 0, none⟩), .int .u64 (pool : Int), .slice tA ts.length tc, .int .i64 (top : Int), .int .i64 (place : Int), .int .i64 0, .int .i64 0, .int .i64 0]
         have hke := (Keeps.refl Non wd).alloc (.cells #[.pointer (some ⟨K.d, 0, none⟩), .int .u64 (pool : Int), .slice tA ts.length tc, .int .i64 (top : Int), .int .i64 (place : Int), .int .i64 0, .int .i64 0, .int .i64 0] 171)
         have hk1 : Keeps (Fr K wv) w wr' := (hK8w.of_non).trans hkr
         have hk2 : Keeps (Fr K wv) w wd := (hk1.non hKc).then hkd fun i hi e => by unfold Only at e; omega
         have hTd : RowT wd (.slice tA ts.length tc) ts := hTc.keep hkd fun q hq e => by unfold Only at e; exact own_type hTc b3c (by decide) (e ▸ hq)
         have hz := h.keep.size
         have hz2 := hk2.size
         have hz3 := hk1.size
         refine ⟨wd.heap.size, tA, tc, rfl, hz2, wx', ⟨hDd.non hke, hBl, hTd.non hke, by omega, fun q hq => by have := hNc q hq; omega⟩, hk2.non hke, fun q hq => ?_⟩
         rcases hoj q hq with e | e
         · exact .inl e
         · right; have := hK8w.size; omega
end Go.Proofs.YtolknnmaadkgiaaGreatDoor
namespace Go.Proofs.YtolknnmaadkgiaaGreatDoor
set_option maxRecDepth 100000
open Go.RowKit Go.Uc
section
variable {w0 w : World} {lf : Nat} {K : Kb} {s : Dsk} {wv : Sl} {x : Lb} {tA : Option Addr} {tc : Nat}
theorem Lm.d0 (h : Lm w0 w lf K s wv x tA tc) : w.cell? ⟨lf, 0, none⟩ = some (.pointer (some ⟨K.d, 0, none⟩)) := h.blk.cell 0
set_option maxHeartbeats 1000000 in
theorem size21_any (h : Lm w0 w lf K s wv x tA tc) (hn : 324 ≤ s.n) : Calls Tryz.prog 135 #[.pointer (some ⟨lf, 0, none⟩)] w fun e w' => e = .returned (.int .i64 ((s.n - 292 : Nat) : Int)) ∧ w' = w := by
 have d0 := h.d0
 have HS := Lib.hid (sectors52_any h.dm)
 have hn8 := h.dm.ok.n2
 have e1 : ((s.n - 292 : Nat) : Int) = (s.n : Int) - 274 - 18 := by omega
 rw [e1]
 generalize s.n = n at *
 clear h e1
 go_enter Tryz.func135, Tryz.ntmps135
 go_wp2_with (go_at_call 49; go_must (refine HS.out.mono ?_); rintro e w9 ⟨rfl, hw9⟩; subst w9)
 go_ret
 exact ⟨rfl, rfl⟩
set_option maxHeartbeats 1000000 in
theorem counted32_any (n : Int) (hn : n ≠ 30) (v : Value) (w : World) : Calls Tryz.prog 72 #[.int .i64 n, v] w fun e w' => e = .returned (.int .i64 n) ∧ w' = w := by
 have hd : (n == 30) = false := by simpa using hn
 go_enter Tryz.func72, Tryz.ntmps72
 go_wp2_with fail
 go_ret
 exact ⟨rfl, rfl⟩
set_option maxHeartbeats 1000000 in
theorem asked46_on (h : Lm w0 w lf K s wv x tA tc) (ho : s.off = false) : Calls Tryz.prog 130 #[.pointer (some ⟨lf, 0, none⟩)] w fun e w' => e = .returned (.int .i64 0) ∧ Keeps Non w w' := by
 have d0 := h.d0
 have HR := Lib.hid (read35_ok h.dm ho 0 0 (by omega) (by have := h.dm.ok.n1; omega))
 clear h
 go_enter Tryz.func130, Tryz.ntmps130
 go_wp2_with (go_at_call 77; go_must (refine HR.out.mono ?_); rintro e w9 ⟨b, rfl, -, -, hK9⟩)
 go_ret
 exact ⟨rfl, hK9⟩
set_option maxHeartbeats 1000000 in
theorem has47_yes (h : Lm w0 w lf K s wv x tA tc) (hn : 324 ≤ s.n) (at_ m : Nat) (ha : at_ + m ≤ s.n - 292) : Calls Tryz.prog 131 #[.pointer (some ⟨lf, 0, none⟩), .int .i64 (at_ : Int), .int .i64 (m : Int)] w fun e w' => e = .returned (.bool true) ∧ w' = w := by
 have HS := Lib.hid (size21_any h hn)
 have hn8 := h.dm.ok.n2
 obtain ⟨z, hz⟩ : ∃ z, z = s.n - 292 := ⟨_, rfl⟩
 rw [← hz] at HS ha
 have hz8 : z ≤ 8192 := by omega
 have d1 : decide ((at_ : Int) ≤ (z : Int)) = true := decide_eq_true (by omega)
 have d2 : decide ((m : Int) ≤ (z : Int) - (at_ : Int)) = true := decide_eq_true (by omega)
 clear h hz hn hn8
 go_enter Tryz.func131, Tryz.ntmps131
 go_wp2_with ((go_at_call 135; go_must (refine HS.out.mono ?_); rintro e w9 ⟨rfl, hw9⟩; subst w9))
 go_ret
 exact ⟨rfl, rfl⟩
end
set_option maxHeartbeats 1000000 in
theorem slot31_any (l t : Nat) (hl : l ≤ 8192) (ht : t < 18446744073709551616) (w : World) : Calls Tryz.prog 97 #[.int .i64 (l : Int), .int .u64 (t : Int)] w fun e w' => e = .returned (.int .i64 ((l + 1 + t % 8 : Nat) : Int)) ∧ w' = w := by
 go_enter Tryz.func97, Tryz.ntmps97
 go_wp2_with fail
 go_ret
 refine ⟨?_, rfl⟩
 show Ending.returned (.int .i64 ((l : Int) + 1 + (t : Int) % 8)) = _
 rw [show ((l + 1 + t % 8 : Nat) : Int) = (l : Int) + 1 + (t : Int) % 8 by omega]
end Go.Proofs.YtolknnmaadkgiaaGreatDoor
namespace Go.Proofs.YtolknnmaadkgiaaGreatDoor
set_option maxRecDepth 100000
open Go.RowKit Go.Uc
theorem Wrote.did {w0 w w' : World} {lf : Nat} {K : Kb} {s s' : Dsk} {wv : Sl} {x : Lb} {tA : Option Addr} {tc : Nat} (h : Lm w0 w lf K s wv x tA tc) (hw : Wrote w0 w K wv s' w') : Did w0 w lf K wv x tA tc s' w' := by
 obtain ⟨wv', h1, h2, h3⟩ := hw
 exact ⟨wv', h.step h1 h2, h2, h3⟩
section
variable {w0 w : World} {lf : Nat} {K : Kb} {s : Dsk} {wv : Sl} {x : Lb} {tA : Option Addr} {tc : Nat}
set_option maxHeartbeats 2000000 in
theorem flush9_on (h : Lm w0 w lf K s wv x tA tc) (ho : s.off = false) (hW : s.waits.length ≤ 1099511627776) : Calls Tryz.prog 248 #[.pointer (some ⟨lf, 0, none⟩)] w fun e w' => e = .returned (.int .i64 0) ∧ Did w0 w lf K wv x tA tc s.flush w' := by
 have hkd : Keeps Non w w.drew := (Keeps.refl Non w).drew
 have d0 : w.drew.cell? ⟨lf, 0, none⟩ = some (.pointer (some ⟨K.d, 0, none⟩)) := (h.non hkd).d0
 have HF : Hid (Calls Tryz.prog 90 #[.pointer (some ⟨K.d, 0, none⟩)] w.drew fun e w' => e = .returned (.int .i64 0) ∧ Did w0 w lf K wv x tA tc s.flush w') := Lib.hid (by
   refine (flush33_wrote (h.non hkd).dm ho hW).mono ?_
   rintro e w' ⟨rfl, hw⟩
   obtain ⟨wv', h1, h2, h3⟩ := Wrote.did (h.non hkd) hw
   exact ⟨rfl, wv', h1, (hkd.of_non).trans h2, h3⟩)
 have HC := Lib.hid (fun v V => counted32_any 0 (by decide) v V)
 clear h
 go_enter Tryz.func248, Tryz.ntmps248
 go_upto_region 1 with fail
 go_region_law (first
   | (go_simp; go_at_call 90; refine HF.out.mono ?_; rintro e w2 ⟨rfl, hD2⟩; go_must (have HD2 := Lib.hid hD2))
   | (go_simp; go_at_call 72; refine (HC.out _ _).mono ?_; rintro e w3 ⟨rfl, hw3⟩; subst w3; go_must (skip)))
 all_goals
   go_wp2_with fail
   go_ret
   exact ⟨rfl, HD2.out⟩
set_option maxHeartbeats 2000000 in
theorem write14_any (h : Lm w0 w lf K s wv x tA tc) (ho : s.off = false) (hn : 324 ≤ s.n) (at_ m : Nat) (bs : List UInt8) (A : Option Addr) (c : Nat) (hA : At w A bs) (hl : bs.length = 128 * m) (hc : bs.length ≤ c) (ha : at_ + m ≤ s.n - 292) (hF : ∀ ad, A = some ad → ad.block < w.heap.size ∧ ¬ Fr K wv ad.block) (hW : s.waits.length + m ≤ 1073741824) :
   Calls Tryz.prog 249 #[.pointer (some ⟨lf, 0, none⟩), .int .i64 (at_ : Int), .slice A (128 * m) c] w fun e w' => e = .returned (.int .i64 (if (s.wr (274 + at_) m bs).2 then 0 else 5)) ∧ Did w0 w lf K wv x tA tc (s.wr (274 + at_) m bs).1 w' := by
 have HA := Lib.hid (asked46_on h ho)
 have HH := Lib.hid (fun V (hV : Keeps Non w V) => has47_yes (h.non hV) hn at_ m ha)
 have HW : Hid (∀ V, Keeps Non w V → Calls Tryz.prog 73 #[.pointer (some ⟨K.d, 0, none⟩), .int .i64 ((274 : Int) + (at_ : Int)), .slice A (128 * m) c] V fun e w' => e = .returned (.int .i64 (if (s.wr (274 + at_) m bs).2 then 0 else 5)) ∧ Did w0 w lf K wv x tA tc (s.wr (274 + at_) m bs).1 w') := Lib.hid (fun V hV => by
   have := write30_any (h.dm.non hV) ho (274 + at_) m bs A c (hA.non hV) hl hc (by omega) (fun ad e => (hF ad e).2) hW
   rw [show ((274 + at_ : Nat) : Int) = (274 : Int) + (at_ : Int) by omega] at this
   refine this.mono ?_
   rintro e w' ⟨wv', rfl, h1, h2, h3⟩
   refine ⟨rfl, wv', (h.non hV).step h1 h2, (hV.of_non).trans h2, fun q hq => ?_⟩
   rcases h3 q hq with e | e
   · exact .inl e
   · right; have := hV.size; omega)
 have HL := Lib.hid (fun V (hV : Keeps Non w V) => (h.non hV).d0)
 have hn8 := h.dm.ok.n2
 obtain ⟨rv, hrv⟩ : ∃ rv : Int, rv = if (s.wr (274 + at_) m bs).2 then 0 else 5 := ⟨_, rfl⟩
 obtain ⟨S1, hS1⟩ : ∃ S1, S1 = (s.wr (274 + at_) m bs).1 := ⟨_, rfl⟩
 rw [← hrv, ← hS1] at HW ⊢
 clear hrv hS1 hA h
 have e1 : wrap64 (m : Int) = (m : Int) := IntWalk.wrap64_in _ ⟨by omega, by omega⟩
 go_enter Tryz.func249, Tryz.ntmps249
 go_upto_region 4 with (go_at_call 130; go_must (refine HA.out.mono ?_); rintro e w2 ⟨rfl, hK2⟩)
 have HH2 := Lib.hid (HH.out w2 hK2)
 have HW2 := Lib.hid (HW.out w2 hK2)
 have d0 := HL.out w2 hK2
 go_wp2_with (first
   | (go_at_call 131; go_must (refine HH2.out.mono ?_); rintro e w9 ⟨rfl, hw9⟩; subst w9)
   | (go_at_call 73; go_must (refine HW2.out.mono ?_); rintro e w3 ⟨rfl, hD3⟩))
 go_ret
 exact ⟨rfl, hD3⟩
end
end Go.Proofs.YtolknnmaadkgiaaGreatDoor
