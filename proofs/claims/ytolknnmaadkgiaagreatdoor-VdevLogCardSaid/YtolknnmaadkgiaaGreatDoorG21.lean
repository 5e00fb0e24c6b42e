/- A mirror flushed. A mirror made of leaves. Blocks of the boxes' kinds are turned: disks, leaves and mirrors stay. -/
import Derived.Test.YtolknnmaadkgiaaGreatDoorG20
import Derived.Sort.CutIn
set_option linter.unusedVariables false
set_option linter.unusedSimpArgs false
namespace Go.Proofs.YtolknnmaadkgiaaGreatDoor
set_option maxRecDepth 100000
open Go.RowKit Go.Uc Go.Shelf
attribute [local go_sem] Oper.semAt_some
section
variable {w0 w w' : World} {p m n t sz : Nat} {dv lv kv wv : Sl} {K : Nat → Kb} {T : St} {L : List (Option Nat)} {lk : List Lk} {X : Nat → Lb} {F : Nat → Lr} {S : Nat → Prop}
structure FlI (w0 w W : World) (p m n : Nat) (dv : Sl) (K : Nat → Kb) (T : St) (X : Nat → Lb) (F : Nat → Lr) (L : List (Option Nat)) (q2 q3 : Nat) (pre : List (Pl L)) : Prop where
 a : Blk W q2 33 #[.int .i64 0]
 b : Blk W q3 33 #[.int .i64 (if pre = [] then 4 else 0)]
 g : Gs w0 W p dv m n K (T.flN K (pix F pre))
 l : Lvs w0 W m K X F L
 k : Keeps (Fg w p m K) w W
theorem FlI.own {q2 q3 B : Nat} (hB0 : w0.heap.size ≤ B) (hB1 : w.heap.size ≤ B) : OwnFrom B (fun (pre : List (Pl L)) W => FlI w0 w W p m n dv K T X F L q2 q3 pre) := fun s A C row hs hg hr => by
 obtain ⟨hk, hS⟩ := off_grown (w0 := w0) hB0 hg hr
 exact ⟨blk_offs hs.a hk hS, blk_offs hs.b hk hS, hs.g.offs hk hS, hs.l.offs hk hS, hs.k.then hk fun i hi e => by have := (hr i e).1; omega⟩
set_option maxHeartbeats 8000000 in
theorem flush_mt (hM : Mt w t lv kv L lk sz) (hG : Gs w0 w p dv m n K T) (hL : Lvs w0 w m K X F L) (h0L : 0 < L.length) (hP : pres L L.length ≠ []) (ho : T.P.on) (hw : T.P.waits.length ≤ 1000000000) :
   Calls Tryz.prog 278 #[.pointer (some ⟨t, 0, none⟩)] w fun e w' => e = .returned (.int .i64 0) ∧ Gs w0 w' p dv m n K (T.flN K ((pres L L.length).map fun x => (F x.1).ix)) ∧ Keeps (Fg w p m K) w w' := by
 refine (callsIn_wide (n := 3)).1 ?_
 refine callsIn_of_wp_marks Tryz.func278 rfl trivial ?_ rfl
 simp only [Tryz.ntmps278, List.size_toArray, List.length_cons, List.length_nil, Nat.reduceAdd, Nat.reduceSub, Array.replicate_succ, Array.replicate_zero, List.push_toArray, List.append_toArray, List.nil_append, List.cons_append]
 gi_wp2_with (refine ⟨trivial, ?_⟩; gi_at_call 136; refine (callsIn_wide.2 (there_any t _)).mono ?_; rintro e w3 ⟨bx, rfl, hbx, hbl, hK3⟩)
 have hG0 := hG.keep.size
 obtain ⟨hA, hB, hk2⟩ := two_new w #[.int .i64 0] #[.int .i64 4] 33 33
 have hA3 := hA.non hK3
 have hB3 := hB.non hK3
 have hk3 := hk2.non hK3
 obtain ⟨q2, hq2⟩ : ∃ z, z = w.heap.size := ⟨_, rfl⟩
 rw [← hq2] at hA3 hB3 ⊢
 have hz3 := hk3.size
 have hM3 := hM.non hk3
 have HFl : Hid (∀ (V : World) (pre : List (Pl L)) (x : Pl L), Gs w0 V p dv m n K (T.flN K (pix F pre)) → Lvs w0 V m K X F L → Calls Tryz.prog 248 #[.pointer (some ⟨x.1.2, 0, none⟩)] V fun e w' => e = .returned (.int .i64 0) ∧ Gs w0 w' p dv m n K (T.flN K (pix F (pre ++ [x]))) ∧ Keeps (Fg V p m K) V w') := Lib.hid (fun V pre x hg hl => by
   obtain ⟨e1, e2, e3⟩ := hl.lf x.1.1 x.1.2 x.2
   rw [e1]
   have := gs_flush hg e2 e3 ho (Nat.le_trans (T.flN_len K _) hw)
   rw [St.flN_snoc] at this
   rw [show pix F (pre ++ [x]) = pix F pre ++ [(F x.1.1).ix] by simp [pix]]
   exact this)
 have hq2w : w.heap.size ≤ q2 := by omega
 clear hA hB hk2 hK3
 have HQ := Lib.hid hq2
 clear hq2
 refine wpIn_rangeFunc_ownF rfl (by omega) (gf := 166) (lb := #[.pointer (some ⟨bx, 0, none⟩)]) rfl trivial (enters_of Tryz.func166 (by kernel_rfl) rfl)
   (there_stops (3 - 1) (by omega) bx h0L hbx hM3) KpL.trans (fun W l o o' _ h1 h2 _ => KpL.put W l o o' h1 h2) (Below.refl _ _) (fun _ => rfl)
   (fun pre W => FlI w0 w W p m n dv K T X F L q2 (q2 + 1) pre) (fun _ _ _ => False)
   (FlI.own (by omega) hz3) (fun _ _ _ _ _ hs _ _ => hs)
   ⟨hA3, hB3, by show Gs _ _ _ _ _ _ _ (T.flN K []); rw [St.flN_nil]; exact hG.non hk3, hL.non hk3, hk3.of_non⟩
   (fun x => { tmps := #[.pointer (some ⟨t, 0, none⟩), undef, .pointer (some ⟨q2, 0, none⟩), .pointer (some ⟨q2 + 1, 0, none⟩), undef, .pointer (some ⟨x.1.2, 0, none⟩), .pointer (some ⟨t, 0, none⟩), .func (.func 166) #[] #[.pointer (some ⟨bx, 0, none⟩)], .int .i64 (x.1.1 : Int), .pointer (some ⟨x.1.2, 0, none⟩), undef, undef, undef, undef, undef, undef, undef], defers := [] }) ?assign ?body ?done ?stop
 case assign =>
   intro l x W Kk hKk
   unfold encX
   gi_wp2
   exact hKk
 case body =>
   rintro l pre x W ⟨hA, hB, hg, hl, hk⟩ hlen
   have HC := Lib.hid (HFl.out W pre x hg hl)
   have HI := Lib.hid (And.intro hA (And.intro hB (And.intro hg (And.intro hl hk))))
   clear hA hB hg hl hk
   have hq3W := HI.out.2.1
   have hc3 := hq3W.cell 0
   gi_wp2_with (refine ⟨trivial, ?_⟩; gi_at_call 248; refine (CallsIn.inRound l (callsIn_wide.2 HC.out)).mono ?_; rintro e w5 ⟨rfl, hG5, hK5⟩; have z5 := (HI.out.2.2.1.stay hK5 HI.out.2.1 (by decide) (by decide) (by decide)).cell 0; have f5 := (HI.out.2.2.1.stay hK5 HI.out.2.1 (by decide) (by decide) (by decide)).frozen 0)
   obtain ⟨iA, iB, iG, iL, iK⟩ := HI.out
   have hB5 := iG.stay hK5 iB (by decide) (by decide) (by decide)
   have hk6 : Keeps (Only (q2 + 1)) w5 (w5.setCell ⟨q2 + 1, 0, none⟩ (.int .i64 0)) := (Keeps.refl (Only (q2 + 1)) _).set (p := ⟨q2 + 1, 0, none⟩) rfl _
   have hof : Off w0 w5 (Only (q2 + 1)) → True := fun _ => trivial
   have hne : ¬ Fg w5 p m K (q2 + 1) := hG5.free hB5 (by decide) (by decide) (by decide)
   have hqz : w.heap.size ≤ q2 + 1 := by omega
   have hkf : Keeps (Fg w p m K) w (w5.setCell ⟨q2 + 1, 0, none⟩ (.int .i64 0)) := (fg_trans iK hK5).then hk6 fun i hi e => by unfold Only at e; omega
   refine ⟨(iG.others hK5).trans (KeepsOthers.setCell _ _ _), (iG.kpl hK5).trans (KpL.of hk6 fun g cs hb e => hb.ne hB5 (by decide) e), ⟨?_, ?_, ?_, ?_, hkf⟩⟩
   · exact (iG.stay hK5 iA (by decide) (by decide) (by decide)).one hk6 (by omega)
   · have := hB5.set 0 (.int .i64 0)
     rw [if_neg (by simp)]
     exact this
   · exact hG5.far hB5 (by decide) (by decide) (by decide) (by decide) (by decide) (by omega) hk6
   · exact (iL.fg iG hK5).far hB5 (by decide) (by decide) hk6
 case done =>
   rintro D ys W hD hys ⟨hA, hB, hg, hl, hk⟩ hKD
   have hne : ys ≠ [] := by rintro rfl; exact hP hys.symm
   rw [if_neg hne] at hB
   have c2 := hA.cell 0
   have c3 := hB.cell 0
   have f2 := hA.frozen 0
   gi_wp2
   have hK' := (KeepsOthers.setCell W ⟨q2, 0, none⟩ (.int .i64 0)).same D _ hKD rfl
   refine ⟨by simp, .inl ⟨_, _, rfl, run_takeDeferred hK', ?_⟩⟩
   have hk6 : Keeps (Only q2) W (W.setCell ⟨q2, 0, none⟩ (.int .i64 0)) := (Keeps.refl (Only q2) _).set (p := ⟨q2, 0, none⟩) rfl _
   have hB6 : Blk (W.setCell ⟨q2, 0, none⟩ (.int .i64 0)) q2 33 #[.int .i64 0] := hA.set 0 _
   have hG6 := hg.far hA (by decide) (by decide) (by decide) (by decide) (by decide) (by omega) hk6
   obtain ⟨k7, o7⟩ := off_put (w0 := w0) (by omega) hK' rfl (.deferred none)
   have hc5 : ((W.setCell ⟨q2, 0, none⟩ (.int .i64 0)).putObj D (.deferred none)).cell? ⟨q2, 0, none⟩ = some (.int .i64 0) := (blk_offs hB6 k7 o7).cell 0
   refine ⟨.int .i64 0, ?_, rfl, ?_, ?_⟩
   · simp [results, Tryz.f278, go_sem, hc5]
   · rw [← hys, List.map_map]
     exact hG6.offs k7 o7
   · exact (hk.then hk6 fun i hi e => by unfold Only at e; omega).then k7 fun i hi e => by unfold Only at e; omega
 case stop =>
   rintro D c pre W hD _ h _
   exact h.elim
end
end Go.Proofs.YtolknnmaadkgiaaGreatDoor
namespace Go.Proofs.YtolknnmaadkgiaaGreatDoor
set_option maxRecDepth 100000
open Go.RowKit Go.Uc Go.Shelf
attribute [local go_sem] Oper.semAt_some
theorem info93 : (Tryz.prog.info? 93).map (fun i => (i.zero, i.size, i.bytes)) = some (some (.pointer none), 1, 8) := by kernel_rfl
def nos (k : Nat) : Array Value := ((List.replicate k Lk.no).flatMap encK).toArray
theorem make247 (k : Nat) (h1 : 1 ≤ k) (h5 : k ≤ 5) (W : World) : (Instr.makeSlice 247 (.int .i64 (k : Int)) (.int .i64 (k : Int))).run Tryz.prog W = .ok (.slice (some ⟨W.heap.size, 0, none⟩) k k) (W.alloc (.cells (nos k) 350)) := by
 rcases (by omega : k = 1 ∨ k = 2 ∨ k = 3 ∨ k = 4 ∨ k = 5) with rfl | rfl | rfl | rfl | rfl <;> kernel_rfl
theorem nos_row {w : World} {g k : Nat} (hk : k ≤ 5) (hB : Blk w g 350 (nos k)) : RowP w 350 3 encK (.slice (some ⟨g, 0, none⟩) k k) (List.replicate k Lk.no) := by
 have hl := flat_len encK_len (List.replicate k Lk.no)
 have hr : (List.replicate k Lk.no).length = k := List.length_replicate
 have := RowP.mk (g := g) (cap := k) (cur := nos k) (xs := List.replicate k Lk.no) encK_len hB (by rw [hr]; exact Nat.le_refl _) (by unfold maxLen; omega) (by unfold nos; rw [List.size_toArray, hl, hr]) (by unfold nos; rw [List.take_of_length_le]; show ((List.replicate k Lk.no).flatMap encK).length ≤ _; rw [hl]; exact Nat.le_refl _)
 rw [hr] at this
 exact this
theorem wp_tame {c : Code} {Kn : Act → World → Prop} {Q : Exit → Act → World → Prop} {a : Act} {w : World} (h : c.wp Tryz.prog (Exit.then Kn (fun _ _ _ => False)) a w) : c.wp Tryz.prog (Exit.then Kn Q) a w :=
 wp_mono h fun e a w q => by cases e <;> first | exact q | exact q.elim
theorem three_any (w : World) (A B C : Array Value) (tA tB tC : TypeId) : Blk (((w.alloc (.cells A tA)).alloc (.cells B tB)).alloc (.cells C tC)) w.heap.size tA A ∧ Blk (((w.alloc (.cells A tA)).alloc (.cells B tB)).alloc (.cells C tC)) (w.heap.size + 1) tB B ∧ Blk (((w.alloc (.cells A tA)).alloc (.cells B tB)).alloc (.cells C tC)) (w.heap.size + 1 + 1) tC C ∧ Keeps Non w (((w.alloc (.cells A tA)).alloc (.cells B tB)).alloc (.cells C tC)) := by
 obtain ⟨h1, h2, hk⟩ := two_new w A B tA tB
 obtain ⟨w1, hw1⟩ : ∃ V : World, V = (w.alloc (.cells A tA)).alloc (.cells B tB) := ⟨_, rfl⟩
 have z1 : w1.heap.size = w.heap.size + 1 + 1 := by rw [hw1]; simp
 rw [← hw1] at h1 h2 hk ⊢
 have h3 := Blk.new w1 tC C
 have k3 := (Keeps.refl Non w1).alloc (.cells C tC)
 rw [z1] at h3
 exact ⟨h1.non k3, h2.non k3, h3, hk.non k3⟩
section
variable {w0 w w' : World} {p m n t : Nat} {dv lv kv wv : Sl} {K : Nat → Kb} {T : St} {L : List (Option Nat)} {lk : List Lk} {X : Nat → Lb} {F : Nat → Lr} {S : Nat → Prop}
theorem Mt.far {sz : Int} {g e : Nat} {cs : Array Value} (h : Mt w t lv kv L lk sz) (hB : Blk w g e cs) (a : e ≠ 249) (b : e ≠ 93) (c : e ≠ 350) (hk : Keeps (Only g) w w') : Mt w' t lv kv L lk sz :=
 ⟨h.blk.one hk (h.blk.ne hB (Ne.symm a)), h.lr.keep hk (fun q hq e' => by unfold Only at e'; subst e'; exact own_type h.lr hB b hq), h.ln, h.kr.keep hk (fun q hq e' => by unfold Only at e'; subst e'; exact own_type h.kr hB c hq), h.kn, h.len, h.few⟩
structure NwI (w0 w W : World) (p m n : Nat) (dv : Sl) (K : Nat → Kb) (T : St) (X : Nat → Lb) (F : Nat → Lr) (L : List (Option Nat)) (q2 q3 q4 t : Nat) (lv kv : Sl) (pre : List (Pl L)) : Prop where
 a : Blk W q2 183 #[.pointer none]
 b : Blk W q3 33 #[.int .i64 0]
 c : Blk W q4 183 #[.pointer (some ⟨t, 0, none⟩)]
 d : Mt W t lv kv L (List.replicate L.length Lk.no) (if pre = [] then -1 else ((n - 292 : Nat) : Int))
 g : Gs w0 W p dv m n K T
 l : Lvs w0 W m K X F L
 k : Keeps Non w W
theorem NwI.own {q2 q3 q4 B : Nat} (hB0 : w0.heap.size ≤ B) (hB1 : w.heap.size ≤ B) : OwnFrom B (fun (pre : List (Pl L)) W => NwI w0 w W p m n dv K T X F L q2 q3 q4 t lv kv pre) := fun s A C row hs hg hr => by
 obtain ⟨hk, hS⟩ := off_grown (w0 := w0) hB0 hg hr
 exact ⟨blk_offs hs.a hk hS, blk_offs hs.b hk hS, blk_offs hs.c hk hS, hs.d.offs hk hS, hs.g.offs hk hS, hs.l.offs hk hS, hs.k.then hk fun i hi e => by have := (hr i e).1; omega⟩
set_option maxHeartbeats 8000000 in
theorem new_mt {lA : Option Addr} {lc : Nat} (hR : RowP w 93 1 encO (.slice lA L.length lc) L) (hG : Gs w0 w p dv m n K T) (hL : Lvs w0 w m K X F L) (h0L : 0 < L.length) (h5 : L.length ≤ 5) (hn : 324 ≤ n) (hP : pres L L.length ≠ []) :
   Calls Tryz.prog 82 #[.slice lA L.length lc] w fun e w' => ∃ (t : Nat) (lv kv : Sl), e = .returned (.tuple #[.pointer (some ⟨t, 0, none⟩), .int .i64 0]) ∧ Mt w' t lv kv L (List.replicate L.length Lk.no) ((n - 292 : Nat) : Int) ∧ w.heap.size ≤ t ∧ (∀ q ∈ own lv.v, w.heap.size ≤ q) ∧ (∀ q ∈ own kv.v, w.heap.size ≤ q) ∧ Keeps Non w w' := by
 have hG0 := hG.keep.size
 have HMk := Lib.hid (make247 L.length h0L h5)
 have hmk := HMk.out
 obtain ⟨A, c, e1, hlc, hAts⟩ := hR.ats encO_len
 injection e1 with e1 _ e2
 subst e1 e2
 refine (callsIn_wide (n := 3)).1 ?_
 refine callsIn_of_wp_marks Tryz.func82 rfl trivial ?_ rfl
 simp only [Tryz.ntmps82, List.size_toArray, List.length_cons, List.length_nil, Nat.reduceAdd, Nat.reduceSub, Array.replicate_succ, Array.replicate_zero, List.push_toArray, List.append_toArray, List.nil_append, List.cons_append]
 refine wpIn_wide.2 ?_
 go_upto_region 1 with fail
 obtain ⟨hA, hB, hk2⟩ := two_new w #[.pointer none] #[.int .i64 0] 183 33
 obtain ⟨w2, hw2⟩ : ∃ V : World, V = (w.alloc (.cells #[.pointer none] 183)).alloc (.cells #[.int .i64 0] 33) := ⟨_, rfl⟩
 rw [← hw2] at hA hB hk2 ⊢
 clear hw2
 obtain ⟨q2, hq2⟩ : ∃ z, z = w.heap.size := ⟨_, rfl⟩
 rw [← hq2] at hA hB ⊢
 have HQ2 := Lib.hid hq2
 clear hq2
 go_upto_region 2 with fail
 obtain ⟨hK, hT, hC, hk5⟩ := three_any w2 (nos L.length) #[.slice none 0 0, .slice (some ⟨w2.heap.size, 0, none⟩) L.length L.length, .int .i64 (-1)] #[.pointer (some ⟨w2.heap.size + 1, 0, none⟩)] 350 249 183
 obtain ⟨w5, hw5⟩ : ∃ V : World, V = ((w2.alloc (.cells (nos L.length) 350)).alloc (.cells #[.slice none 0 0, .slice (some ⟨w2.heap.size, 0, none⟩) L.length L.length, .int .i64 (-1)] 249)).alloc (.cells #[.pointer (some ⟨w2.heap.size + 1, 0, none⟩)] 183) := ⟨_, rfl⟩
 rw [← hw5] at hK hT hC hk5 ⊢
 clear hw5 hmk
 obtain ⟨kb, hkb⟩ : ∃ z, z = w2.heap.size := ⟨_, rfl⟩
 rw [← hkb] at hK hT hC ⊢
 have hkbw : w.heap.size ≤ kb := by rw [hkb]; exact hk2.size
 clear hkb
 obtain ⟨t, ht⟩ : ∃ z, z = kb + 1 := ⟨_, rfl⟩
 rw [← ht] at hT hC ⊢
 obtain ⟨q4, hq4⟩ : ∃ z, z = t + 1 := ⟨_, rfl⟩
 rw [← hq4] at hC ⊢
 have hne : ¬ t = q4 ∧ ¬ q4 = t ∧ w.heap.size ≤ t ∧ w.heap.size ≤ q4 := by omega
 obtain ⟨n1, n2, n3, n4⟩ := hne
 clear ht hq4
 have hkd : Keeps Non w5 w5.drew := (Keeps.refl Non w5).drew
 have hk25 := hk2.non hk5
 have hA5 := hA.non hk5
 have hB5 := hB.non hk5
 have hAt := Lib.hid ((hAts.non hk25).non hkd)
 have x4 : w5.drew.cell? ⟨q4, 0, none⟩ = some (.pointer (some ⟨t, 0, none⟩)) := (hC.non hkd).cell 0
 have xt : w5.drew.cell? ⟨t, 0, none⟩ = some (.slice none 0 0) := (hT.non hkd).cell 0
 have HBb : Hid (([] : List (Option Nat)).length + L.length ≤ maxLen ∧ (([] : List (Option Nat)).length + L.length) * 8 ≤ 140737488355328) := Lib.hid (by rw [List.length_nil]; unfold maxLen; omega)
 have HT5 := Lib.hid (hT.non hkd)
 have HC5 := Lib.hid (hC.non hkd)
 clear hA hB hk2 hk5 hAts
 go_cut [12] from 12 to 20 (fun v12 wc => v12 = .pointer (some ⟨t, 0, none⟩) ∧ ∃ lv : Sl, Mt wc t lv ⟨some ⟨kb, 0, none⟩, L.length, L.length⟩ L (List.replicate L.length Lk.no) (-1) ∧ (∀ q ∈ own lv.v, w.heap.size ≤ q) ∧ Blk wc q2 183 #[.pointer none] ∧ Blk wc (q2 + 1) 33 #[.int .i64 0] ∧ Blk wc q4 183 #[.pointer (some ⟨t, 0, none⟩)] ∧ Keeps Non w wc)
 case first =>
   refine wp_tame ?_
   go_region_law ((with_reducible show (if Region.wanted ({ dst := some 18, op := _, type := _, pos := _, after := _, guard := _ } : Oper) _ = true then _ else _)); go_must (refine step_append_row (o := ⟨some 18, _, _, _, _, _⟩) rfl (.tmp 16) (.tmp 17) 91 rfl 93 1 encO (.pointer none) 8 Tryz.underlying91 info93 rfl (by decide) encO_len encO_one (.slice none 0 0) [] rfl (RowP.nil _ _ _ _) lA L.length lc L rfl rfl hAt.out HBb.out.1 HBb.out.2 ?_); intro u8 w8 hO8 hK8 hat; obtain ⟨⟨A8, n8, c8⟩, rfl, h8⟩ := RowP.sl hO8; have hK8n : Keeps Non w5.drew w8 := hK8.mono fun k e => (List.not_mem_nil e).elim; have z8 := (HT5.out.non hK8n).cell 0; have f8 := (HT5.out.non hK8n).frozen 0; have y8 := (HC5.out.non hK8n).cell 0)
   all_goals
     go_wp2_with fail
     go_meet
     case rel =>
       obtain rfl : n8 = L.length := h8
       have hk8w : Keeps Non w5 w8 := hkd.non hK8n
       have hT8 := HT5.out.non hK8n
       have hk9 : Keeps (Only t) w8 (w8.setCell ⟨t, 0, none⟩ (.slice A8 L.length c8)) := (Keeps.refl (Only t) _).set (p := ⟨t, 0, none⟩) rfl _
       have hT9 : Blk (w8.setCell ⟨t, 0, none⟩ (.slice A8 L.length c8)) t 249 #[.slice A8 L.length c8, .slice (some ⟨kb, 0, none⟩) L.length L.length, .int .i64 (-1)] := hT8.set 0 _
       have hkw : Keeps Non w (w8.setCell ⟨t, 0, none⟩ (.slice A8 L.length c8)) := (hk25.non hk8w).then hk9 fun i hi e => by unfold Only at e; omega
       have hown : ∀ q ∈ own (.slice A8 L.length c8), w.heap.size ≤ q := fun q hq => by
         rw [mem_own] at hq
         rcases hat with e | e
         · have : (Value.slice A8 L.length c8).ownBlock = none := e
           rw [this] at hq; cases hq
         · have := e.symm.trans hq
           injection this with this
           have := hk25.size
           subst q
           exact this
       refine ⟨rfl, ⟨A8, L.length, c8⟩, ⟨hT9, hO8.keep hk9 fun q hq e => by unfold Only at e; subst e; exact own_type hO8 hT8 (by decide) hq, rfl, ?_, by simp, by simp, h5⟩, hown, (hA5.non hk8w).one hk9 ((hA5.non hk8w).ne hT8 (by decide)), (hB5.non hk8w).one hk9 ((hB5.non hk8w).ne hT8 (by decide)), (HC5.out.non hK8n).one hk9 ((HC5.out.non hK8n).ne hT8 (by decide)), hkw⟩
       exact (nos_row h5 ((hK.non hk8w).one hk9 ((hK.non hk8w).ne hT8 (by decide))))
 case rest =>
   obtain ⟨rfl, lv, hM, hown, hA6, hB6, hC6, hk6⟩ := hcut
   obtain ⟨w6, rfl⟩ : ∃ V : World, V = wc := ⟨_, rfl⟩
   clear hK hT hC hkd hk25 hA5 hB5 hAt x4 xt HBb HT5 HC5
   have c4 := hC6.cell 0
   go_upto_region 3 with fail
   go_wp2_with (go_at_call 136; go_must (refine (there_any t _).mono ?_); rintro e w7 ⟨bx, rfl, hbx, hbl, hK7⟩)
   have hk7 := hk6.non hK7
   have hz7 := hk7.size
   have hM7 := hM.non hK7
   have hmix : Tryz.prog.follows .mixedOrders = true := by kernel_rfl
   have HSz : Hid (∀ (V : World) (x : Pl L), Gs w0 V p dv m n K T → Lvs w0 V m K X F L → Calls Tryz.prog 135 #[.pointer (some ⟨x.1.2, 0, none⟩)] V fun e w' => e = .returned (.int .i64 ((n - 292 : Nat) : Int)) ∧ w' = V) := Lib.hid (fun V x hg hl => by
     obtain ⟨e1, e2, e3⟩ := hl.lf x.1.1 x.1.2 x.2
     rw [e1]
     exact gs_size hg e2 e3 hn)
   have HI0 : Hid (NwI w0 w w7 p m n dv K T X F L q2 (q2 + 1) q4 t lv ⟨some ⟨kb, 0, none⟩, L.length, L.length⟩ []) := Lib.hid ⟨hA6.non hK7, hB6.non hK7, hC6.non hK7, by rw [if_pos rfl]; exact hM7, hG.non hk7, hL.non hk7, hk7⟩
   obtain ⟨sz, hsz⟩ : ∃ sz, sz = n - 292 := ⟨_, rfl⟩
   have HS := Lib.hid hsz
   rw [← hsz] at HSz
   clear hsz hM hA6 hB6 hC6 hk6 hK7 c4
   refine (wpIn_wide (n := 3)).1 ?_
   refine wpIn_rangeFunc_ownF rfl (by omega) (gf := 166) (lb := #[.pointer (some ⟨bx, 0, none⟩)]) rfl trivial (enters_of Tryz.func166 (by kernel_rfl) rfl)
     (there_stops (3 - 1) (by omega) bx h0L hbx hM7) KpL.trans (fun W l o o' _ h1 h2 _ => KpL.put W l o o' h1 h2) (Below.refl _ _) (fun _ => rfl)
     (fun pre W => NwI w0 w W p m n dv K T X F L q2 (q2 + 1) q4 t lv ⟨some ⟨kb, 0, none⟩, L.length, L.length⟩ pre) (fun _ _ _ => False)
     (NwI.own (by omega) hz7) (fun _ _ _ _ _ hs _ _ => hs)
     HI0.out
     (fun x => { tmps := #[.slice lA L.length lc, undef, .pointer (some ⟨q2, 0, none⟩), .pointer (some ⟨q2 + 1, 0, none⟩), .pointer (some ⟨q4, 0, none⟩), undef, .pointer (some ⟨x.1.2, 0, none⟩), .slice lA L.length lc, .int .i64 (L.length : Int), .slice (some ⟨kb, 0, none⟩) L.length L.length, .agg #[.slice none 0 0, .slice (some ⟨kb, 0, none⟩) L.length L.length, .int .i64 (-1)], .pointer (some ⟨t, 0, none⟩), .pointer (some ⟨t, 0, none⟩), u13, u14, u15, u16, u17, u18, u19, u20, .pointer (some ⟨t, 0, none⟩), .func (.func 166) #[] #[.pointer (some ⟨bx, 0, none⟩)], .int .i64 (x.1.1 : Int), .pointer (some ⟨x.1.2, 0, none⟩), undef, undef, undef, undef, undef, undef, undef, undef, undef, undef, undef, undef, undef, undef, undef, undef, undef, undef, undef, undef, undef, undef, undef, undef, undef, undef, undef, undef, undef, undef, undef, undef, undef, undef, undef], defers := [] }) ?assign ?body ?done ?stop
   case assign =>
     intro l x W Kk hKk
     unfold encX
     gi_wp2
     exact hKk
   case body =>
     rintro l pre x W hI hlen
     have HI := Lib.hid hI
     have hc4 := hI.c.cell 0
     have hct := hI.d.c2
     have hft := hI.d.blk.frozen 2
     have hkd : Keeps Non W W.drew := (Keeps.refl Non W).drew
     have HC := Lib.hid (HSz.out W.drew x (hI.g.non hkd) (hI.l.non hkd))
     have HC2 := Lib.hid (HSz.out W.drew.drew x ((hI.g.non hkd).non (Keeps.refl Non _).drew) ((hI.l.non hkd).non (Keeps.refl Non _).drew))
     clear hI
     gi_upto_region 5 with fail
     dsimp only
     gi_cut [38] from 25 (fun v wc => v = .bool false ∧ wc = W.drew)
     case first =>
       by_cases hpr : pre = []
       · rw [if_pos hpr] at hct
         have hfn : Fence.wide.fn 135 := trivial
         gi_region_with_o (refine ⟨trivial, ?_⟩; gi_at_call 135; refine (CallsIn.inRound l (callsIn_wide.2 HC.out)).mono ?_; rintro e w9 ⟨rfl, hw9⟩; subst w9)
         all_goals
           gi_wp2
           gi_meet
           case rel => exact ⟨rfl, rfl⟩
       · rw [if_neg hpr, ← HS.out] at hct
         gi_region_with_o (refine ⟨trivial, ?_⟩; gi_at_call 135; refine (CallsIn.inRound l (callsIn_wide.2 HC.out)).mono ?_; rintro e w9 ⟨rfl, hw9⟩; subst w9)
         all_goals
           gi_wp2
           gi_meet
           case rel => exact ⟨rfl, rfl⟩
     case rest =>
       obtain ⟨rfl, rfl⟩ := hcut
       obtain ⟨vv, hct⟩ : ∃ vv, W.cell? ⟨t, 2, none⟩ = some vv := ⟨_, hct⟩
       gi_wp2
       gi_region_with_o (refine ⟨trivial, ?_⟩; gi_at_call 135; refine (CallsIn.inRound l (callsIn_wide.2 HC2.out)).mono ?_; rintro e w9 ⟨rfl, hw9⟩; subst w9)
       all_goals
         gi_wp2
         have hI := HI.out
         have k1 : Keeps (Only t) W (W.setCell ⟨t, 2, none⟩ (.int .i64 (sz : Int))).drew.drew := ((Keeps.refl (Only t) _).set (p := ⟨t, 2, none⟩) rfl _).drew.drew
         have hd := hI.d.blk.set 2 (.int .i64 (sz : Int))
         refine ⟨⟨k1.size, fun k o ho hc => (KeepsOthers.setCell W ⟨t, 2, none⟩ (.int .i64 (sz : Int))).same k o ho hc⟩, KpL.of k1 fun g cs hb e => hb.ne hI.d.blk (by decide) e, ⟨hI.a.one k1 (hI.a.ne hI.d.blk (by decide)), hI.b.one k1 (hI.b.ne hI.d.blk (by decide)), hI.c.one k1 (hI.c.ne hI.d.blk (by decide)), ⟨?_, hI.d.lr.keep k1 (fun q hq e => by unfold Only at e; subst e; exact own_type hI.d.lr hI.d.blk (by decide) hq), hI.d.ln, hI.d.kr.keep k1 (fun q hq e => by unfold Only at e; subst e; exact own_type hI.d.kr hI.d.blk (by decide) hq), hI.d.kn, hI.d.len, hI.d.few⟩, hI.g.far hI.d.blk (by decide) (by decide) (by decide) (by decide) (by decide) (by omega) k1, hI.l.far hI.d.blk (by decide) (by decide) k1, hI.k.then k1 fun i hi e => by unfold Only at e; omega⟩⟩
         rw [if_neg (by simp), ← HS.out]
         exact hd
   case done =>
     rintro D ys W hD hys hI hKD
     have hne : ys ≠ [] := by rintro rfl; exact hP hys.symm
     have HI := Lib.hid hI
     have hc4 := hI.c.cell 0
     have hct := hI.d.c2
     rw [if_neg hne, ← HS.out] at hct
     have c2 := hI.a.cell 0
     have f2 := hI.a.frozen 0
     have c3 := hI.b.cell 0
     have f3 := hI.b.frozen 0
     have d1 : decide ((L.length : Int) < 1) = false := decide_eq_false (by omega)
     have d2 : decide ((5 : Int) < (L.length : Int)) = false := decide_eq_false (by omega)
     have d3 : decide ((sz : Int) < 0) = false := decide_eq_false (by omega)
     have n34 : ¬ q2 + 1 = q2 := by omega
     clear hI
     dsimp only
     go_wp2_with fail
     have hI := HI.out
     have k2 : Keeps (Only q2) W (W.setCell ⟨q2, 0, none⟩ (.pointer (some ⟨t, 0, none⟩))) := (Keeps.refl (Only q2) _).set (p := ⟨q2, 0, none⟩) rfl _
     have k3 : Keeps (Only (q2 + 1)) (W.setCell ⟨q2, 0, none⟩ (.pointer (some ⟨t, 0, none⟩))) ((W.setCell ⟨q2, 0, none⟩ (.pointer (some ⟨t, 0, none⟩))).setCell ⟨q2 + 1, 0, none⟩ (.int .i64 0)) := (Keeps.refl (Only (q2 + 1)) _).set (p := ⟨q2 + 1, 0, none⟩) rfl _
     have a2 := (hI.a.set 0 (.pointer (some ⟨t, 0, none⟩))).one k3 (by omega)
     have b2 := hI.b.one k2 (by omega)
     have b3 := b2.set 0 (.int .i64 0)
     have hq2 := HQ2.out
     have hM0 := hI.d
     rw [if_neg hne] at hM0
     have hM2 : Mt ((W.setCell ⟨q2, 0, none⟩ (.pointer (some ⟨t, 0, none⟩))).setCell ⟨q2 + 1, 0, none⟩ (.int .i64 0)) t lv ⟨some ⟨kb, 0, none⟩, L.length, L.length⟩ L (List.replicate L.length Lk.no) ((n - 292 : Nat) : Int) :=
       (hM0.far hI.a (by decide) (by decide) (by decide) k2).far b2 (by decide) (by decide) (by decide) k3
     have hKD' := ((KeepsOthers.setCell W ⟨q2, 0, none⟩ (.pointer (some ⟨t, 0, none⟩))).trans (KeepsOthers.setCell _ ⟨q2 + 1, 0, none⟩ (.int .i64 0))).same D _ hKD rfl
     refine ⟨by simp, .inl ⟨_, _, rfl, run_takeDeferred hKD', ?_⟩⟩
     obtain ⟨k7, o7⟩ := off_put (w0 := w0) (by omega) hKD' rfl (.deferred none)
     have r2 := (blk_offs a2 k7 o7).cell 0
     have r3 := (blk_offs b3 k7 o7).cell 0
     refine ⟨.tuple #[.pointer (some ⟨t, 0, none⟩), .int .i64 0], ?_, t, lv, ⟨some ⟨kb, 0, none⟩, L.length, L.length⟩, rfl, hM2.offs k7 o7, n3, hown, fun q hq => ?_, ?_⟩
     · simp [results, Tryz.f82, go_sem, r2, r3]
     · have : q = kb := by
         have h9 : q ∈ own (.slice (some ⟨kb, 0, none⟩) L.length L.length) := hq
         rw [own_slice] at h9
         exact List.mem_singleton.1 h9
       omega
     · exact ((hI.k.then k2 fun i hi e => by unfold Only at e; omega).then k3 fun i hi e => by unfold Only at e; omega).then k7 fun i hi e => by unfold Only at e; omega
   case stop =>
     rintro D c pre W hD _ h _
     exact h.elim
end
end Go.Proofs.YtolknnmaadkgiaaGreatDoor
namespace Go.Proofs.YtolknnmaadkgiaaGreatDoor
set_option maxRecDepth 100000
open Go.RowKit Go.Uc Go.Shelf
def core (t : TypeId) : Bool := t == 104 || t == 110 || t == 5 || t == 107 || t == 49 || t == 171 || t == 31 || t == 249 || t == 93 || t == 350
structure Ofc (w0 w : World) (S : Nat → Prop) : Prop where
 c : ∀ g t cs, core t = true → Blk w g t cs → ¬ S g
 l : ∀ g, g < w0.heap.size → ¬ S g
section
variable {w0 w w' : World} {p m n t : Nat} {dv lv kv wv : Sl} {K : Nat → Kb} {T : St} {L : List (Option Nat)} {lk : List Lk} {X : Nat → Lb} {F : Nat → Lr} {S : Nat → Prop}
theorem Ofc.row (hS : Ofc w0 w S) {α : Type} {e : TypeId} {k : Nat} {enc : α → List Value} {v : Value} {xs : List α} (he : core e = true) (hr : RowP w e k enc v xs) : ∀ q ∈ own v, ¬ S q := by
 intro q hq
 rcases hr.form with ⟨e1, -⟩ | ⟨g, cap, cur, e1, hB, -⟩
 · rw [e1] at hq; exact (List.not_mem_nil hq).elim
 · rw [e1, own_slice, List.mem_singleton] at hq
   subst hq
   exact hS.c _ _ _ he hB
theorem Ofc.keep (hS : Ofc w0 w S) (h : Keeps Non w0 w) (hk : Keeps S w w') : Keeps Non w0 w' := h.then hk fun i hi e => (hS.l i hi e).elim
theorem Dm.ofc {k : Kb} {s : Dsk} (h : Dm w0 w k s wv) (hk : Keeps S w w') (hS : Ofc w0 w S) : Dm w0 w' k s wv :=
 ⟨h.ok, h.pw.imp fun _ i => i.keep hk (hS.c _ _ _ rfl i), h.dk.keep hk (hS.c _ _ _ rfl h.dk), h.pl.keep hk (hS.c _ _ _ rfl h.pl), h.nw.keep hk (hS.c _ _ _ rfl h.nw), h.hd, fun x hx => (h.od x hx).imp fun _ i => i.keep hk (hS.c _ _ _ rfl i), h.wt.keep hk (hS.row rfl h.wt), h.wn, h.ne, h.new, hS.keep h.keep hk⟩
theorem Gs.ofc (h : Gs w0 w p dv m n K T) (hk : Keeps S w w') (hS : Ofc w0 w S) : Gs w0 w' p dv m n K T := by
 obtain ⟨wv, Q, hG, hQ⟩ := h
 exact ⟨wv, Q, ⟨hG.pb.imp fun _ i => i.keep hk (hS.c _ _ _ rfl i), fun i hi => (hG.dm i hi).ofc hk hS, hG.kp, hG.po, hG.ap, hG.row.keep hk (hS.row rfl hG.row), hG.dn, hG.wt.keep hk (hS.row rfl hG.wt), hG.wn, hG.at_, hG.new, hS.keep hG.keep hk⟩, hQ⟩
theorem Lvs.ofc (h : Lvs w0 w m K X F L) (hk : Keeps S w w') (hS : Ofc w0 w S) : Lvs w0 w' m K X F L :=
 ⟨fun k b e => let ⟨h1, h2, h3⟩ := h.lf k b e; ⟨h1, h2, h3.blk.keep hk (hS.c _ _ _ rfl h3.blk), h3.ts.keep hk (hS.row rfl h3.ts), h3.new⟩, h.inj⟩
theorem Mt.ofc {sz : Int} (h : Mt w t lv kv L lk sz) (hk : Keeps S w w') (hS : Ofc w0 w S) : Mt w' t lv kv L lk sz :=
 ⟨h.blk.keep hk (hS.c _ _ _ rfl h.blk), h.lr.keep hk (hS.row rfl h.lr), h.ln, h.kr.keep hk (hS.row rfl h.kr), h.kn, h.len, h.few⟩
end
end Go.Proofs.YtolknnmaadkgiaaGreatDoor
