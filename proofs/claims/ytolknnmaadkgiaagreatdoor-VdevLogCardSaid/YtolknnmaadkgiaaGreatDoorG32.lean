/- Disks of the document's power; one more is made. What the document only reads. The document's Write. The document's Flush. -/
import Derived.Test.YtolknnmaadkgiaaGreatDoorG22
set_option linter.unusedVariables false
set_option linter.unusedSimpArgs false
namespace Go.Proofs.YtolknnmaadkgiaaGreatDoor
set_option maxRecDepth 100000
open Go.RowKit Go.Uc
theorem own_grown {u v : Value} {B X : Nat} (hat : u.ownBlock = v.ownBlock ∨ u.ownBlock = some X) (hv : ∀ g ∈ own v, B ≤ g) (hX : B ≤ X) : ∀ g ∈ own u, B ≤ g := by
 intro g hg
 rw [mem_own] at hg
 rcases hat with e | e
 · exact hv g (mem_own.2 (e.symm.trans hg))
 · have := e.symm.trans hg
   injection this with this
   omega
structure Dg (w0 w : World) (q : Nat) (dv : Sl) (m n : Nat) (D : Nat → Nat) (V : Nat → Sl) : Prop where
 pb : ∃ z, Blk w q 139 #[dv.v, .slice none 0 0, .int .i64 (-1), .bool false, .int .i64 z]
 row : RowP w 140 1 encP dv.v ((List.range m).map D)
 dn : dv.n = m
 dk : ∀ i, i < m → Blk w (D i) 143 #[(V i).v, .bool false]
 pl : ∀ i, i < m → ∃ P : List Sl, RowP w 22 1 encS (V i).v P ∧ (V i).n = P.length ∧ P.length = n
 ap : ∀ i j, i < m → j < m → i ≠ j → D i ≠ D j ∧ ∀ g ∈ own (V i).v, g ∉ own (V j).v
 new : w0.heap.size ≤ q ∧ (∀ g ∈ own dv.v, w0.heap.size ≤ g) ∧ ∀ i, i < m → w0.heap.size ≤ D i ∧ ∀ g ∈ own (V i).v, w0.heap.size ≤ g
 keep : Keeps Non w0 w
theorem Dg.non {w0 w w' : World} {q m n : Nat} {dv : Sl} {D : Nat → Nat} {V : Nat → Sl} (h : Dg w0 w q dv m n D V) (hk : Keeps Non w w') : Dg w0 w' q dv m n D V :=
 ⟨h.pb.imp fun _ i => i.non hk, h.row.non hk, h.dn, fun i hi => (h.dk i hi).non hk, fun i hi => (h.pl i hi).imp fun _ j => ⟨j.1.non hk, j.2⟩, h.ap, h.new, h.keep.non hk⟩
theorem Dg.dd {w0 w : World} {q m n : Nat} {dv : Sl} {D : Nat → Nat} {V : Nat → Sl} (h : Dg w0 w q dv m n D V) {j : Nat} (hj : j < m) :
   ∃ Q : Qb, Q.q = q ∧ Q.d = D j ∧ Q.j = j ∧ dv.v = .slice (some ⟨Q.db, 0, none⟩) Q.dn Q.dc ∧ Dd w0 w Q n (V j) ⟨none, 0, 0⟩ := by
 have hl : j < ((List.range m).map D).length := by simp; exact hj
 rcases h.row.form with ⟨e1, e2⟩ | ⟨g, cap, cur, e1, hB, h4, h5, h6, h7⟩
 · rw [e2] at hl; exact absurd hl (by simp)
 · obtain ⟨z, hz⟩ := h.pb
   have hlen : ((List.range m).map D).length = m := by simp
   rw [hlen] at e1 h4 h7
   have hdn : dv.v = .slice (some ⟨g, 0, none⟩) m cap := e1
   refine ⟨⟨q, D j, g, cap, j, m⟩, rfl, rfl, rfl, hdn, ⟨⟨z, by rw [hdn] at hz; exact hz⟩, ⟨cur, hB, ?_, hj, h4⟩, h.dk j hj, h.pl j hj, ⟨[], RowP.nil _ _ _ _, rfl, fun x hx => (List.not_mem_nil hx).elim⟩, ⟨h.new.1, (h.new.2.2 j hj).1, h.new.2.1 g (by rw [hdn, own_slice]; exact List.mem_singleton.2 rfl), (h.new.2.2 j hj).2, fun g hg => (List.not_mem_nil hg).elim⟩, h.keep⟩⟩
   have hh := congrArg (fun l => l[j]?) h7
   have hf : ((List.range m).map D).flatMap encP = ((List.range m).map D).map fun d => Value.pointer (some ⟨d, 0, none⟩) := by
     induction (List.range m).map D with
     | nil => rfl
     | cons x P ih => rw [List.flatMap_cons, ih]; rfl
   simp only [hf, List.getElem?_take] at hh
   rw [if_pos (by omega)] at hh
   show cur[j]? = _
   simpa [hj] using hh
theorem Dg.turn {w0 w w' : World} {q m n : Nat} {dv : Sl} {D : Nat → Nat} {V : Nat → Sl} (h : Dg w0 w q dv m n D V) {Q : Qb} {j : Nat} (hj : j < m) (e1 : Q.q = q) (e2 : Q.d = D j) (e3 : dv.v = .slice (some ⟨Q.db, 0, none⟩) Q.dn Q.dc) (hd : Dd w0 w' Q n (V j) ⟨none, 0, 0⟩) (hk : Keeps (Fd Q (V j) ⟨none, 0, 0⟩) w w') : Dg w0 w' q dv m n D V := by
 obtain ⟨z, hz⟩ := h.pb
 have hp := hd.pw
 have hfd : ∀ {g}, Fd Q (V j) ⟨none, 0, 0⟩ g → g = q ∨ g = D j ∨ g ∈ own (V j).v := fun e => by
   rcases e with e | e | e | e
   · exact .inl (e.trans e1)
   · exact .inr (.inl (e.trans e2))
   · exact .inr (.inr e)
   · exact (List.not_mem_nil e).elim
 obtain ⟨P, hP, -, -⟩ := h.pl j hj
 have hrow : ∀ q' ∈ own dv.v, ¬ Fd Q (V j) ⟨none, 0, 0⟩ q' := fun q' hq e => by
   rcases hfd e with e | e | e
   · subst e; exact own_type h.row hz (by decide) hq
   · subst e; exact own_type h.row (h.dk j hj) (by decide) hq
   · rcases h.row.form with ⟨x1, -⟩ | ⟨g, cap, cur, x1, hB, -⟩
     · rw [x1] at hq; exact (List.not_mem_nil hq).elim
     · rw [x1, own_slice, List.mem_singleton] at hq
       subst hq
       exact own_type hP hB (by decide) e
 refine ⟨?_, h.row.keep hk hrow, h.dn, fun i hi => ?_, fun i hi => ?_, h.ap, h.new, hd.keep⟩
 · obtain ⟨z', hz'⟩ := hp
   rw [e1] at hz'
   rw [e3]
   exact ⟨z', hz'⟩
 · by_cases e : i = j
   · subst e; rw [← e2]; exact hd.dk
   · refine (h.dk i hi).keep hk fun f => ?_
     rcases hfd f with f | f | f
     · exact (h.dk i hi).ne hz (by decide) f
     · exact (h.ap i j hi hj e).1 f
     · exact own_type hP (h.dk i hi) (by decide) f
 · by_cases e : i = j
   · subst e; exact hd.pl
   · obtain ⟨P', hP', h1, h2⟩ := h.pl i hi
     refine ⟨P', hP'.keep hk fun g hg f => ?_, h1, h2⟩
     rcases hfd f with f | f | f
     · subst f; exact own_type hP' hz (by decide) hg
     · subst f; exact own_type hP' (h.dk j hj) (by decide) hg
     · exact (h.ap i j hi hj e).2 g hg f
theorem Dg.none {w0 w : World} {q n : Nat} (h0 : w0.heap.size ≤ q) (hk : Keeps Non w0 w) (hb : Blk w q 139 #[.slice none 0 0, .slice none 0 0, .int .i64 (-1), .bool false, .int .i64 0]) : Dg w0 w q ⟨none, 0, 0⟩ 0 n (fun _ => 0) (fun _ => ⟨none, 0, 0⟩) :=
 ⟨⟨0, hb⟩, RowP.nil _ _ _ _, rfl, fun i hi => absurd hi (by omega), fun i hi => absurd hi (by omega), fun i j hi => absurd hi (by omega), ⟨h0, fun g hg => (List.not_mem_nil hg).elim, fun i hi => absurd hi (by omega)⟩, hk⟩
set_option maxHeartbeats 8000000 in
theorem new25_any {w0 w : World} {q m n : Nat} {dv : Sl} {D : Nat → Nat} {V : Nat → Sl} (h : Dg w0 w q dv m n D V) (h1 : 1 ≤ n) (h2 : n ≤ 8192) (hm : m ≤ 1000) :
   Calls Tryz.prog 30 #[.pointer (some ⟨q, 0, none⟩), .int .i64 (n : Int)] w fun e w' => ∃ (d : Nat) (v dv' : Sl), e = .returned (.tuple #[.int .i64 (m : Int), .int .i64 0]) ∧ Dg w0 w' q dv' (m + 1) n (fun i => if i = m then d else D i) (fun i => if i = m then v else V i) ∧ Keeps (fun g => g = q ∨ g ∈ own dv.v) w w' := by
 have d1 : ¬ (n : Int) < 1 := by omega
 have d2 : ¬ (8192 : Int) < (n : Int) := by omega
 have HNo := Lib.hid noughts56_any
 have HBig : Hid (∀ m : Nat, m < n → m + 1 ≤ maxLen ∧ (m + 1) * 24 ≤ 140737488355328) := Lib.hid (fun m hm => ⟨by unfold maxLen; omega, by omega⟩)
 obtain ⟨dA, dn, dc⟩ := dv
 obtain rfl : dn = m := h.dn
 have HH := Lib.hid h
 clear h
 go_enter Tryz.func30, Tryz.ntmps30
 go_upto_region 5 with fail
 obtain ⟨d, hd⟩ : ∃ z, z = w.heap.size := ⟨_, rfl⟩
 have hB0 := Blk.new w 143 #[.slice none 0 0, .bool false]
 have hk1 := (Keeps.refl Non w).alloc (.cells #[.slice none 0 0, .bool false] 143)
 obtain ⟨w1, hw1⟩ : ∃ V : World, V = w.alloc (.cells #[.slice none 0 0, .bool false] 143) := ⟨_, rfl⟩
 rw [← hw1] at hB0 hk1 ⊢
 rw [← hd] at hB0 ⊢
 have HD := Lib.hid hd
 clear hw1 hd
 go_loopw [7] (fun i wr => ∃ (k : Nat) (pv : Sl) (P : List Sl), k ≤ n ∧ i = .int .i64 (k : Int) ∧ Blk wr d 143 #[pv.v, .bool false] ∧ RowP wr 22 1 encS pv.v P ∧ pv.n = P.length ∧ P.length = k ∧ (∀ g ∈ own pv.v, w.heap.size ≤ g) ∧ Keeps Non w wr) (fun i _ => n - (intOf i).toNat)
 case atStart => exact ⟨0, ⟨none, 0, 0⟩, [], Nat.zero_le _, rfl, hB0, RowP.nil _ _ _ _, rfl, rfl, fun g hg => (List.not_mem_nil hg).elim, hk1⟩
 case round =>
   obtain ⟨k, ⟨A, mm, c⟩, P, hk, rfl, hB, hR, hmm, hPk, hown, hK⟩ := hrel
   simp only at hmm
   subst hmm
   obtain ⟨wx, rfl⟩ : ∃ W : World, W = wr := ⟨_, rfl⟩
   have HOw := Lib.hid hown
   have HPk := Lib.hid hPk
   clear hown hPk
   by_cases hlt : k < n
   · have hki : (k : Int) < (n : Int) := by omega
     have HBg := Lib.hid (HBig.out P.length (by rw [HPk.out]; exact hlt))
     go_upto_region 8 with (go_at_call 60; go_must (refine (HNo.out _).mono ?_); rintro e w3 ⟨s, rfl, hs, hK3⟩)
     have hB3 := hB.non hK3
     have c0 : w3.cell? ⟨d, 0, none⟩ = some (.slice A P.length c) := hB3.cell 0
     have ka := (Keeps.refl Non w3).alloc (.cells #[s.v] 22)
     have hRa := Lib.hid ((hR.non hK3).non ka)
     have hBa := hB3.non ka
     have hAt : Ats (w3.alloc (.cells #[s.v] 22)) (some ⟨w3.heap.size, 0, none⟩) ([s].flatMap encS) := Ats.lit w3 _ 22 _ rfl
     go_wp2_with (at_builtin; go_must (refine wpList_append_row (o := ⟨some 30, _, _, _, _, _⟩) rfl (.tmp 27) (.tmp 29) 141 rfl 22 1 encS _ 24 Tryz.underlying141 info55 rfl (by decide) encS_len encS_one (.slice A P.length c) P (by kernel_rfl) hRa.out (some ⟨w3.heap.size, 0, none⟩) 1 1 [s] (by kernel_rfl) rfl hAt HBg.out.1 HBg.out.2 ?_); intro u8 w8 hO8 hK8 hat; obtain ⟨⟨A8, n8, c8⟩, rfl, h8⟩ := RowP.sl hO8; have hn8' : n8 = (P ++ [s]).length := h8; clear h8; subst hn8'; have hB8 := hBa.keep hK8 (fun e => own_type hRa.out hBa (by decide) e); have z8 := hB8.cell 0; have f8 := hB8.frozen 0)
     have HRl := Lib.hid (And.intro hO8 hat)
     have hdn : w.heap.size ≤ d := Nat.le_of_eq HD.out.symm
     have hk9 : Keeps (Only d) w8 (w8.setCell ⟨d, 0, none⟩ (.slice A8 (P ++ [s]).length c8)) := (Keeps.refl (Only d) _).set (p := ⟨d, 0, none⟩) rfl _
     have hB9 : Blk (w8.setCell ⟨d, 0, none⟩ (.slice A8 (P ++ [s]).length c8)) d 143 #[.slice A8 (P ++ [s]).length c8, .bool false] := hB8.set 0 _
     have hKa : Keeps Non w (w3.alloc (.cells #[s.v] 22)) := (hK.non hK3).non ka
     have hK8w : Keeps Non w w8 := hKa.then hK8 fun i hi e => by have := HOw.out i e; omega
     have hK9w : Keeps Non w (w8.setCell ⟨d, 0, none⟩ (.slice A8 (P ++ [s]).length c8)) := hK8w.then hk9 fun i hi e => by unfold Only at e; omega
     have hR9 : RowP (w8.setCell ⟨d, 0, none⟩ (.slice A8 (P ++ [s]).length c8)) 22 1 encS (.slice A8 (P ++ [s]).length c8) (P ++ [s]) := HRl.out.1.keep hk9 fun g hg e => own_type HRl.out.1 hB8 (by decide) (by unfold Only at e; rw [← e]; exact hg)
     go_roundw
     case rel =>
       rw [← (by simp : (P ++ [s]).length = P.length + 1)]
       exact ⟨k + 1, ⟨A8, (P ++ [s]).length, c8⟩, P ++ [s], by omega, by go_num, hB9, hR9, rfl, by rw [List.length_append, List.length_singleton, HPk.out], own_grown HRl.out.2 HOw.out hKa.size, hK9w⟩
     case measure => simp [intOf]; omega
   · obtain rfl : k = n := by omega
     have hgx := HH.out.non hK
     have HGx := Lib.hid hgx
     obtain ⟨z, hpk⟩ := hgx.pb
     have HR0 := Lib.hid hgx.row
     clear hgx
     have q0 : wx.cell? ⟨q, 0, none⟩ = some (.slice dA dn dc) := hpk.cell 0
     have ka := (Keeps.refl Non wx).alloc (.cells #[.pointer (some ⟨d, 0, none⟩)] 140)
     have hpa := hpk.non ka
     have HRa := Lib.hid (HR0.out.non ka)
     have hAt : Ats (wx.alloc (.cells #[.pointer (some ⟨d, 0, none⟩)] 140)) (some ⟨wx.heap.size, 0, none⟩) ([d].flatMap encP) := Ats.lit wx _ 140 _ rfl
     have HAt := Lib.hid hAt
     have HB1 : Hid (((List.range dn).map D).length + [d].length ≤ maxLen ∧ (((List.range dn).map D).length + [d].length) * 8 ≤ 140737488355328) := Lib.hid (by simp only [List.length_map, List.length_range, List.length_singleton]; exact ⟨by unfold maxLen; omega, by omega⟩)
     have hll : ¬ (k : Int) < (k : Int) := by omega
     have HB := Lib.hid (show _ ∧ _ ∧ _ from ⟨hB, hR, hK⟩)
     have HKa := Lib.hid ka
     clear hAt hB hR hK ka HR0
     go_upto_region 14 with (at_builtin; go_must (refine wpList_append_row (o := ⟨some 40, _, _, _, _, _⟩) rfl (.tmp 37) (.tmp 39) 136 rfl 140 1 encP _ 8 Tryz.underlying136 info130 rfl (by decide) encP_len encP_one (.slice dA dn dc) _ (by kernel_rfl) HRa.out (some ⟨wx.heap.size, 0, none⟩) 1 1 [d] (by kernel_rfl) rfl HAt.out HB1.out.1 HB1.out.2 ?_); intro u8 w8 hO8 hK8 hat; obtain ⟨⟨A8, n8, c8⟩, rfl, h8⟩ := RowP.sl hO8; have hn8 : n8 = dn + 1 := (by simpa using h8); clear h8; subst hn8; have hB8 := hpa.keep hK8 (fun e => own_type HRa.out hpa (by decide) e); have z8 := hB8.cell 0; have f8 := hB8.frozen 0)
     have HR := Lib.hid (show _ ∧ _ ∧ _ from ⟨hO8, hK8, hat⟩)
     clear hO8 hK8 hat
     have hs1 : ((dn + 1 : Nat) : Int) - 1 = (dn : Int) := by omega
     go_wp2_with fail
     go_ret2
     obtain ⟨hO8, hK8, hat⟩ := HR.out
     obtain ⟨hB, hR, hK⟩ := HB.out
     have hg := HGx.out
     have hka := HKa.out
     have hk9 : Keeps (Only q) w8 (w8.setCell ⟨q, 0, none⟩ (.slice A8 (dn + 1) c8)) := (Keeps.refl (Only q) _).set (p := ⟨q, 0, none⟩) rfl _
     have hk8 : Keeps (fun g => g = q ∨ g ∈ own (.slice dA dn dc)) wx (w8.setCell ⟨q, 0, none⟩ (.slice A8 (dn + 1) c8)) := ((hka.of_non).trans (hK8.mono fun g e => Or.inr e)).trans (hk9.mono fun g e => Or.inl e)
     have hfree : ∀ {g t : Nat} {cs : Array Value}, Blk wx g t cs → t ≠ 139 → t ≠ 140 → ¬ (g = q ∨ g ∈ own (.slice dA dn dc)) := fun hb a b e => by
       rcases e with e | e
       · exact hb.ne hpk a e
       · exact own_type hg.row hb b e
     have hrow : ∀ {α : Type} {e : TypeId} {kk : Nat} {enc : α → List Value} {v : Value} {xs : List α}, RowP wx e kk enc v xs → e ≠ 139 → e ≠ 140 → ∀ g ∈ own v, ¬ (g = q ∨ g ∈ own (.slice dA dn dc)) := fun hr a b g hgv e => by
       rcases hr.form with ⟨e1, -⟩ | ⟨g', cap, cur, e1, hBg, -⟩
       · rw [e1] at hgv; exact (List.not_mem_nil hgv).elim
       · rw [e1, own_slice, List.mem_singleton] at hgv
         subst hgv
         exact hfree hBg a b e
     have hkw : Keeps (fun g => g = q ∨ g ∈ own (.slice dA dn dc)) w (w8.setCell ⟨q, 0, none⟩ (.slice A8 (dn + 1) c8)) := hK.of_non.trans hk8
     have hsz := hK.size
     have hdw := HD.out
     have hw0 := HH.out.keep.size
     have hnew := HH.out.new
     have hpl : ∀ i, i < dn → D i < w.heap.size ∧ ∀ g ∈ own (V i).v, g < w.heap.size := fun i hi => ⟨(HH.out.dk i hi).lt, fun g hgv => by
       obtain ⟨P', hP', -⟩ := HH.out.pl i hi
       rcases hP'.form with ⟨e1, -⟩ | ⟨g', cap, cur, e1, hBg, -⟩
       · rw [e1] at hgv; exact (List.not_mem_nil hgv).elim
       · rw [e1, own_slice, List.mem_singleton] at hgv
         subst hgv
         exact hBg.lt⟩
     refine ⟨rfl, ⟨d, ⟨A, P.length, c⟩, ⟨A8, dn + 1, c8⟩, ⟨⟨z, hB8.set 0 _⟩, ?_, rfl, fun i hi => ?_, fun i hi => ?_, fun i j hi hj hij => ?_, ⟨hnew.1, own_grown hat hnew.2.1 (by have := hka.size; omega), fun i hi => ?_⟩, HH.out.keep.then hkw fun i hi e => ?_⟩⟩, hkw⟩
     · have hR9 := hO8.keep hk9 fun g hgv e => own_type hO8 hB8 (by decide) (by unfold Only at e; rw [← e]; exact hgv)
       have he : (List.range (dn + 1)).map (fun i => if i = dn then d else D i) = (List.range dn).map D ++ [d] := by
         rw [List.range_succ, List.map_append]
         congr 1
         · refine List.map_congr_left fun i hi => ?_
           have := List.mem_range.1 hi
           rw [if_neg (by omega)]
         · simp
       rw [he]
       exact hR9
     · by_cases e : i = dn
       · rw [if_pos e, if_pos e]
         exact hB.keep hk8 (hfree hB (by decide) (by decide))
       · rw [if_neg e, if_neg e]
         have hb := hg.dk i (by omega)
         exact hb.keep hk8 (hfree hb (by decide) (by decide))
     · by_cases e : i = dn
       · rw [if_pos e]
         exact ⟨P, hR.keep hk8 (hrow hR (by decide) (by decide)), rfl, HPk.out⟩
       · rw [if_neg e]
         obtain ⟨P', hP', h3, h4⟩ := hg.pl i (by omega)
         exact ⟨P', hP'.keep hk8 (hrow hP' (by decide) (by decide)), h3, h4⟩
     · have hOw := HOw.out
       by_cases e : i = dn
       · have e' : j ≠ dn := fun e2 => hij (e.trans e2.symm)
         rw [if_pos e, if_neg e', if_pos e, if_neg e']
         have := hpl j (by omega)
         exact ⟨by omega, fun g hg1 hg2 => by have := hOw g hg1; have := this; have := (hpl j (by omega)).2 g hg2; omega⟩
       · by_cases e' : j = dn
         · rw [if_neg e, if_pos e', if_neg e, if_pos e']
           have := hpl i (by omega)
           exact ⟨by omega, fun g hg1 hg2 => by have := hOw g hg2; have := this; have := (hpl i (by omega)).2 g hg1; omega⟩
         · rw [if_neg e, if_neg e', if_neg e, if_neg e']
           exact HH.out.ap i j (by omega) (by omega) hij
     · by_cases e : i = dn
       · rw [if_pos e, if_pos e]
         exact ⟨by omega, fun g hgv => by have := HOw.out g hgv; omega⟩
       · rw [if_neg e, if_neg e]
         exact hnew.2.2 i (by omega)
     · rcases e with e | e
       · omega
       · have := hnew.2.1 i e; omega
end Go.Proofs.YtolknnmaadkgiaaGreatDoor
namespace Go.Proofs.YtolknnmaadkgiaaGreatDoor
set_option maxRecDepth 100000
open Go.RowKit Go.Uc
set_option maxHeartbeats 1000000 in
theorem down103_any {w0 w : World} {Q : Qb} {n : Nat} {pv wv : Sl} (h : Dd w0 w Q n pv wv) : Calls Tryz.prog 155 #[.pointer (some ⟨Q.q, 0, none⟩), .int .i64 (Q.j : Int)] w fun e w' => e = .returned (.int .i64 0) ∧ w' = w := by
 obtain ⟨z, hp⟩ := h.pw
 obtain ⟨cs, hd, hc0, hjn, hdc⟩ := h.ds
 have hji : (Q.j : Int) < (Q.dn : Int) := by omega
 have c0 : w.cell? ⟨Q.q, 0, none⟩ = some (.slice (some ⟨Q.db, 0, none⟩) Q.dn Q.dc) := hp.cell 0
 have c3 : w.cell? ⟨Q.q, 3, none⟩ = some (.bool false) := hp.cell 3
 have e0 : w.cell? ⟨Q.db, Q.j, none⟩ = some (.pointer (some ⟨Q.d, 0, none⟩)) := by rw [hd.cell]; exact hc0
 have k1 : w.cell? ⟨Q.d, 1, none⟩ = some (.bool false) := h.dk.cell 1
 clear h
 go_enter Tryz.func155, Tryz.ntmps155
 go_wp2_with fail
 go_ret
 exact ⟨rfl, rfl⟩
set_option maxHeartbeats 1000000 in
theorem sectors62_any {w0 w : World} {Q : Qb} {n : Nat} {pv wv : Sl} (h : Dd w0 w Q n pv wv) : Calls Tryz.prog 108 #[.pointer (some ⟨Q.q, 0, none⟩), .int .i64 (Q.j : Int)] w fun e w' => e = .returned (.int .i64 (n : Int)) ∧ w' = w := by
 obtain ⟨z, hp⟩ := h.pw
 obtain ⟨cs, hd, hc0, hjn, hdc⟩ := h.ds
 have hji : (Q.j : Int) < (Q.dn : Int) := by omega
 obtain ⟨P, hP, hpn, hPn⟩ := h.pl
 have c0 : w.cell? ⟨Q.q, 0, none⟩ = some (.slice (some ⟨Q.db, 0, none⟩) Q.dn Q.dc) := hp.cell 0
 have e0 : w.cell? ⟨Q.db, Q.j, none⟩ = some (.pointer (some ⟨Q.d, 0, none⟩)) := by rw [hd.cell]; exact hc0
 have hpn' : pv.n = n := hpn.trans hPn
 have k0 : w.cell? ⟨Q.d, 0, none⟩ = some (.slice pv.A n pv.c) := by rw [← hpn']; exact h.dk.cell 0
 clear h hpn hPn hpn'
 go_enter Tryz.func108, Tryz.ntmps108
 go_wp2_with fail
 go_ret
 exact ⟨rfl, rfl⟩
set_option maxHeartbeats 1000000 in
theorem places64_any (w : World) (n : Nat) (hn : 324 ≤ n) (hn8 : n ≤ 8192) : Calls Tryz.prog 110 #[.int .i64 (n : Int)] w fun e w' => e = .returned (.agg #[.int .i64 0, .int .i64 9, .int .i64 ((n - 18 : Nat) : Int), .int .i64 ((n - 9 : Nat) : Int)]) ∧ Keeps Non w w' := by
 have hB := Blk.new w 173 #[.int .i64 0, .int .i64 0, .int .i64 0, .int .i64 0]
 have hk := (Keeps.refl Non w).alloc (.cells #[.int .i64 0, .int .i64 0, .int .i64 0, .int .i64 0] 173)
 have e1 : ((n - 18 : Nat) : Int) = (n : Int) - 18 := by omega
 have e2 : ((n - 9 : Nat) : Int) = (n : Int) - 9 := by omega
 rw [e1, e2]
 clear e1 e2
 go_enter Tryz.func110, Tryz.ntmps110
 go_upto_region 1 with fail
 obtain ⟨w1, hw1⟩ : ∃ V : World, V = w.alloc (.cells #[.int .i64 0, .int .i64 0, .int .i64 0, .int .i64 0] 173) := ⟨_, rfl⟩
 rw [← hw1] at hB hk ⊢
 clear hw1
 obtain ⟨pb, hpb⟩ : ∃ z, z = w.heap.size := ⟨_, rfl⟩
 rw [← hpb] at hB ⊢
 have hpw : w.heap.size ≤ pb := by omega
 clear hpb
 go_wp2_with ((with_reducible show wpList _ _ _ ({ dst := none, op := Op.store 173 _ _, type := _, pos := _, after := _, guard := _ } :: _) _ _); go_must (refine wpList_store_blk rfl 173 (.tmp 2) (.tmp 7) rfl pb #[.int .i64 0, .int .i64 9, .int .i64 ((n : Int) - 18), .int .i64 ((n : Int) - 9)] rfl rfl 173 _ hB (by kernel_rfl) rfl (by kernel_rfl) ?_); intro w7 hB7 hK7)
 refine bodyPost_ret (results_cell_blk (ty := 173) rfl _ pb 173 _ _ rfl hB7 Tryz.underlying173 rfl (by kernel_rfl)) rfl ⟨rfl, hk.then hK7 fun i hi e => by unfold Only at e; omega⟩
end Go.Proofs.YtolknnmaadkgiaaGreatDoor
namespace Go.Proofs.YtolknnmaadkgiaaGreatDoor
set_option maxRecDepth 100000
open Go.RowKit Go.Uc
theorem Dd.waits {w0 w w' : World} {Q : Qb} {n : Nat} {pv wv : Sl} (h : Dd w0 w Q n pv wv) (wv2 : Sl) (z : Int) (hk : Keeps (fun i => i = Q.q ∨ i ∈ own wv.v) w w') (hq : Blk w' Q.q 139 #[.slice (some ⟨Q.db, 0, none⟩) Q.dn Q.dc, wv2.v, .int .i64 (-1), .bool false, .int .i64 z])
   (M : List Ww) (hM : RowP w' 274 3 encM wv2.v M) (hl : wv2.n = M.length) (ha : ∀ x ∈ M, x.at_ < n ∧ x.d = Q.j) (ho : ∀ g ∈ own wv2.v, w0.heap.size ≤ g) : Dd w0 w' Q n pv wv2 := by
 obtain ⟨z0, hp⟩ := h.pw
 obtain ⟨cs, hd, hc0, hdc⟩ := h.ds
 obtain ⟨P, hP, hpn, hPn⟩ := h.pl
 obtain ⟨M0, hM0, -⟩ := h.wt
 obtain ⟨n1, n2, n3, n4, n5⟩ := h.new
 have free : ∀ (g t : Nat) (cs : Array Value), Blk w g t cs → t ≠ 139 → t ≠ 274 → ¬ (g = Q.q ∨ g ∈ own wv.v) := fun g t cs hg h1 h2 e => e.elim (hg.ne hp h1) (own_type hM0 hg h2)
 refine ⟨⟨z, hq⟩, ⟨cs, hd.keep hk (free _ _ _ hd (by decide) (by decide)), hc0, hdc⟩, h.dk.keep hk (free _ _ _ h.dk (by decide) (by decide)), ⟨P, hP.keep hk fun g hg e => ?_, hpn, hPn⟩, ⟨M, hM, hl, ha⟩, ⟨n1, n2, n3, n4, ho⟩, h.keep.then hk fun i hi e => ?_⟩
 · rcases e with e | e
   · exact own_type hP hp (by decide) (by rw [← e]; exact hg)
   · rcases hP.form with ⟨e1, -⟩ | ⟨g', cap, cur, e1, hB, -⟩
     · rw [e1] at hg; exact (List.not_mem_nil hg).elim
     · rw [e1, own_slice, List.mem_singleton] at hg
       subst hg
       exact own_type hM0 hB (by decide) e
 · rcases e with e | e
   · omega
   · have := n5 _ e; omega
set_option maxHeartbeats 8000000 in
theorem write63_any {w0 w : World} {Q : Qb} {n : Nat} {pv wv : Sl} (h : Dd w0 w Q n pv wv) (hn2 : n ≤ 8192) (p m g c : Nat) (bs : List UInt8) (hbl : bs.length = 128 * m) (hgb : ∃ cs, Blk w g 5 cs) (hA : At w (some ⟨g, 0, none⟩) bs) (hc : 128 * m ≤ c) (hpm : p + m ≤ n) (hwn : wv.n + m ≤ 8192) :
   Calls Tryz.prog 109 #[.pointer (some ⟨Q.q, 0, none⟩), .int .i64 (Q.j : Int), .int .i64 (p : Int), .slice (some ⟨g, 0, none⟩) (128 * m) c] w fun e w' => e = .returned (.int .i64 0) ∧ ∃ wv' : Sl, Dd w0 w' Q n pv wv' ∧ wv'.n = wv.n + m ∧ (∀ k ∈ own wv'.v, k ∈ own wv.v ∨ w.heap.size ≤ k) ∧ Keeps (Fd Q pv wv) w w' := by
 have HDn := Lib.hid (down103_any h)
 obtain ⟨z, hp⟩ := h.pw
 obtain ⟨cs, hd, hc0, hjn, hdc⟩ := h.ds
 have hji : (Q.j : Int) < (Q.dn : Int) := by omega
 obtain ⟨P, hP, hpn, hPn⟩ := h.pl
 have c0 : w.cell? ⟨Q.q, 0, none⟩ = some (.slice (some ⟨Q.db, 0, none⟩) Q.dn Q.dc) := hp.cell 0
 have e0 : w.cell? ⟨Q.db, Q.j, none⟩ = some (.pointer (some ⟨Q.d, 0, none⟩)) := by rw [hd.cell]; exact hc0
 have hpn' : pv.n = n := hpn.trans hPn
 have k0 : w.cell? ⟨Q.d, 0, none⟩ = some (.slice pv.A n pv.c) := by rw [← hpn']; exact h.dk.cell 0
 clear hpn hPn hpn' hP hp hd hc0 hjn hdc
 have HH := Lib.hid h
 clear h
 obtain ⟨M, hM⟩ : ∃ M, M = 128 * m := ⟨_, rfl⟩
 rw [← hM]
 have x1 : Int.tmod (M : Int) 128 = 0 := by rw [Int.tmod_eq_emod_of_nonneg (by omega)]; omega
 have x2 : Int.tdiv (M : Int) 128 = (m : Int) := by rw [Int.tdiv_eq_ediv_of_nonneg (by omega)]; omega
 have x3 : ¬ (p : Int) < 0 := by omega
 have x4 : ¬ (n : Int) < (p : Int) := by omega
 have x5 : IntKind.i64.wrap ((n : Int) - (p : Int)) = ((n - p : Nat) : Int) := by rw [IntKind.wrap_i64]; omega
 have x6 : ¬ ((n - p : Nat) : Int) < (m : Int) := by omega
 have HM := Lib.hid hM
 clear hM
 go_enter Tryz.func109, Tryz.ntmps109
 go_upto_region 5 with (go_at_call 155; go_must (refine HDn.out.mono ?_); rintro e w9 ⟨rfl, hw9⟩; subst w9)
 go_upto_region 8 with fail
 go_loopw [11, 12] (fun i _ wr => ∃ (k : Nat) (wv' : Sl), k ≤ m ∧ i = .int .i64 (k : Int) ∧ Dd w0 wr Q n pv wv' ∧ wv'.n = wv.n + k ∧ (∀ j ∈ own wv'.v, j ∈ own wv.v ∨ w.heap.size ≤ j) ∧ Keeps (Fd Q pv wv) w wr) (fun i _ _ => m - (intOf i).toNat)
 case atStart => exact ⟨0, wv, Nat.zero_le _, rfl, HH.out, rfl, fun j hj => .inl hj, Keeps.refl _ _⟩
 case round =>
   obtain ⟨k, wv', hk, rfl, hD, hwv, hown, hK⟩ := hrel
   obtain ⟨wx, rfl⟩ : ∃ W : World, W = wr := ⟨_, rfl⟩
   by_cases hlt : k < m
   · have hki : (k : Int) < (m : Int) := by omega
     obtain ⟨z1, hq⟩ := hD.pw
     obtain ⟨Ms, hMs, hwl, hMat⟩ := hD.wt
     have HDD := Lib.hid hD
     clear hD
     have c2 : wx.cell? ⟨Q.q, 2, none⟩ = some (.int .i64 (-1)) := hq.cell 2
     have c4 : wx.cell? ⟨Q.q, 4, none⟩ = some (.int .i64 z1) := hq.cell 4
     have f4 := hq.frozen 4
     have HI := Lib.hid (And.intro hwv (And.intro hown (And.intro hwl hMat)))
     clear hwv hown hwl hMat
     go_upto_region 17 with fail
     have hk2 : Keeps (Fd Q pv wv) wx (wx.setCell ⟨Q.q, 4, none⟩ (.int .i64 (wrap64 (z1 + 1)))) := (Keeps.refl (Fd Q pv wv) _).set (p := ⟨Q.q, 4, none⟩) (.inl rfl) _
     have hkq : Keeps (Only Q.q) wx (wx.setCell ⟨Q.q, 4, none⟩ (.int .i64 (wrap64 (z1 + 1)))) := (Keeps.refl (Only Q.q) _).set (p := ⟨Q.q, 4, none⟩) rfl _
     have hq2 : Blk (wx.setCell ⟨Q.q, 4, none⟩ (.int .i64 (wrap64 (z1 + 1)))) Q.q 139 #[.slice (some ⟨Q.db, 0, none⟩) Q.dn Q.dc, wv'.v, .int .i64 (-1), .bool false, .int .i64 (wrap64 (z1 + 1))] := hq.set 4 _
     obtain ⟨z2, hz2⟩ : ∃ z2, z2 = wrap64 (z1 + 1) := ⟨_, rfl⟩
     rw [← hz2] at hk2 hkq hq2 ⊢
     clear hz2
     obtain ⟨w2, hw2⟩ : ∃ V : World, V = wx.setCell ⟨Q.q, 4, none⟩ (.int .i64 z2) := ⟨_, rfl⟩
     rw [← hw2] at hk2 hkq hq2 ⊢
     clear hw2 c2 c4 f4
     obtain ⟨lo, hlo⟩ : ∃ lo, lo = 128 * k := ⟨_, rfl⟩
     obtain ⟨hi, hhi⟩ : ∃ hi, hi = 128 * k + 128 := ⟨_, rfl⟩
     have y1 : IntKind.i64.wrap ((k : Int) * 128) = (lo : Int) := by rw [IntKind.wrap_i64]; omega
     have y2 : IntKind.i64.wrap ((k : Int) + 1) = ((k : Int) + 1) := by rw [IntKind.wrap_i64]; omega
     have y3 : IntKind.i64.wrap (((k : Int) + 1) * 128) = (hi : Int) := by rw [IntKind.wrap_i64]; omega
     have y4 : (0 : Int) ≤ (lo : Int) := by omega
     have y5 : (lo : Int) ≤ (hi : Int) := by omega
     have y6 : (hi : Int) ≤ (c : Int) := by omega
     have y7 : ¬ c = lo := by omega
     have HLo := Lib.hid (And.intro hlo hhi)
     clear hlo hhi
     go_upto_region 17 with fail
     have hkf : Keeps (Fd Q pv wv) w w2 := hK.trans hk2
     have hA2 : At w2 (some ⟨g, 0, none⟩) bs := hA.keep hkf fun ad e => by injection e with e; subst e; exact hgb.elim fun cs hcs => HH.out.free hcs (by decide) (by decide) (by decide) (by decide)
     have hA3 : At w2 (some ⟨g, lo, none⟩) ((bs.drop lo).take 128) := by
       have e : (⟨g, 0, none⟩ : Addr).add lo = ⟨g, lo, none⟩ := by
         rcases Nat.eq_zero_or_pos lo with hl | hl
         · subst hl; rfl
         · simp [Addr.add, Nat.ne_of_gt hl]
       have := (hA2.drop lo).take 128
       rw [← e]
       exact this
     have hl3 : hi - lo = ((bs.drop lo).take 128).length := by rw [List.length_take, List.length_drop, hbl, HLo.out.1, HLo.out.2]; omega
     have hz3 : 0 + ((bs.drop lo).take 128).length ≤ 140737488355328 := by rw [← hl3, HLo.out.1, HLo.out.2]; omega
     have HA := Lib.hid (And.intro hA3 (And.intro hl3 hz3))
     clear hA3 hl3 hz3
     go_upto_region 18 with (at_builtin; go_must (refine wpList_append_bytes (o := ⟨some 96, _, _, _, _, _⟩) rfl (.const (.slice none 0 0)) (.tmp 95) 22 rfl w2.heap.size 5 Tryz.underlying22 info5 (.slice none 0 0) [] rfl (OwnB.nil _ _ _) (some ⟨g, lo, none⟩) (hi - lo) (c - lo) ((bs.drop lo).take 128) (by kernel_rfl) HA.out.2.1 HA.out.1 HA.out.2.2 (Nat.le_refl _) ?_); intro u5 w5 hO5 hK5 hat5; obtain ⟨A5, c5, rfl, hc5, hA5, hn5⟩ := OwnB.open hO5)
     have hK5n : Keeps Non w2 w5 := hK5.mono fun k e => by simp [Owned, Value.ownBlock] at e
     obtain ⟨L5, hL5⟩ : ∃ L5, L5 = min 128 (128 * m - lo) := ⟨_, rfl⟩
     rw [← hL5]
     clear hL5 hO5 hK5 hat5 hc5 hA5 hn5
     have hq5 := hq2.non hK5n
     have q1 : w5.cell? ⟨Q.q, 1, none⟩ = some wv'.v := hq5.cell 1
     have hqx : ¬ Q.q ∈ own wv'.v := own_type hMs hq (by decide)
     have hMs5 : RowP w5 274 3 encM wv'.v Ms := (hMs.keep hkq fun j hj e => hqx (by unfold Only at e; rw [← e]; exact hj)).non hK5n
     have ka := (Keeps.refl Non w5).alloc (.cells #[.int .i64 (Q.j : Int), .int .i64 ((p : Int) + (k : Int)), .slice A5 L5 c5] 274)
     have hMa := Lib.hid (hMs5.non ka)
     have hqa := hq5.non ka
     have HAt := Lib.hid (show Ats (w5.alloc (.cells #[.int .i64 (Q.j : Int), .int .i64 ((p : Int) + (k : Int)), .slice A5 L5 c5] 274)) (some ⟨w5.heap.size, 0, none⟩) ([(⟨Q.j, p + k, ⟨A5, L5, c5⟩⟩ : Ww)].flatMap encM) from Ats.lit w5 _ 274 _ rfl)
     have HBb : Hid (Ms.length + [(⟨Q.j, p + k, ⟨A5, L5, c5⟩⟩ : Ww)].length ≤ maxLen ∧ (Ms.length + [(⟨Q.j, p + k, ⟨A5, L5, c5⟩⟩ : Ww)].length) * 40 ≤ 140737488355328) := Lib.hid (by have e1 := HI.out.1; have e2 := HI.out.2.2.1; rw [List.length_singleton]; unfold maxLen; omega)
     clear q1
     have q1 : w5.cell? ⟨Q.q, 1, none⟩ = some (.slice wv'.A wv'.n wv'.c) := hq5.cell 1
     have HK5 := Lib.hid (((hkq.mono (T := fun i => i = Q.q ∨ i ∈ own wv'.v) fun i e => .inl e).non hK5n).non ka)
     have HKf := Lib.hid ((hkf.non hK5n).non ka)
     have HMl := Lib.hid HI.out.2.2.1
     generalize hnn : wv'.n = nn at q1
     have HNN := Lib.hid hnn
     clear hnn
     clear hq2 hkq hk2 hq hMs hK5n hq5 hMs5 ka hqx hkf
     go_wp2_with (at_builtin; go_must (refine wpList_append_row (o := ⟨some 109, _, _, _, _, _⟩) rfl (.tmp 101) (.tmp 108) 137 rfl 274 3 encM _ 40 Tryz.underlying137 info178 rfl (by decide) encM_len encM_one (.slice wv'.A nn wv'.c) Ms (by kernel_rfl) (by rw [← HNN.out]; exact hMa.out) (some ⟨w5.heap.size, 0, none⟩) 1 1 [(⟨Q.j, p + k, ⟨A5, L5, c5⟩⟩ : Ww)] (by kernel_rfl) rfl HAt.out HBb.out.1 HBb.out.2 ?_); intro u8 w8 hO8 hK8 hat; obtain ⟨⟨A8, n8, c8⟩, rfl, h8⟩ := RowP.sl hO8; have HR8 := Lib.hid (And.intro hO8 (And.intro hK8 (And.intro h8 hat))); clear h8 hat; have hq8 := hqa.keep hK8 (fun e => own_type (v := wv'.v) hMa.out hqa (by decide) (by rw [← HNN.out] at e; exact e)); clear hO8 hK8; have z8 := hq8.cell 1; have f8 := hq8.frozen 1)
     go_roundw
     case rel =>
       obtain ⟨hO8, hK8, h8, hat⟩ := HR8.out
       have hnn := HNN.out
       have h8' : n8 = Ms.length + 1 := by have : n8 = (Ms ++ [(⟨Q.j, p + k, ⟨A5, L5, c5⟩⟩ : Ww)]).length := h8; rw [List.length_append] at this; exact this
       have hwl := HMl.out
       obtain ⟨hwv, hown, -, hMat⟩ := HI.out
       have hk9 : Keeps (Only Q.q) w8 (w8.setCell ⟨Q.q, 1, none⟩ (.slice A8 n8 c8)) := (Keeps.refl (Only Q.q) _).set (p := ⟨Q.q, 1, none⟩) rfl _
       have hq9 : Blk (w8.setCell ⟨Q.q, 1, none⟩ (.slice A8 n8 c8)) Q.q 139 #[.slice (some ⟨Q.db, 0, none⟩) Q.dn Q.dc, .slice A8 n8 c8, .int .i64 (-1), .bool false, .int .i64 z2] := hq8.set 1 _
       subst hnn
       have hKt : Keeps (fun i => i = Q.q ∨ i ∈ own wv'.v) wx (w8.setCell ⟨Q.q, 1, none⟩ (.slice A8 n8 c8)) := (HK5.out.trans (hK8.mono fun i e => .inr e)).trans (hk9.mono fun i e => .inl e)
       have hn9 : ∀ j ∈ own (.slice A8 n8 c8), j ∈ own wv'.v ∨ wx.heap.size ≤ j := fun j hj => by
         rw [mem_own] at hj
         rcases hat with e | e
         · exact .inl (mem_own.2 (e.symm.trans hj))
         · have e2 := e.symm.trans hj
           injection e2 with e2
           right
           have := HK5.out.size
           omega
       have hz := hK.size
       have hz0 := HH.out.keep.size
       have hown9 : ∀ j ∈ own (.slice A8 n8 c8), j ∈ own wv.v ∨ w.heap.size ≤ j := fun j hj => by
         rcases hn9 j hj with e | e
         · exact hown j e
         · right; omega
       refine ⟨k + 1, by omega, by omega, ⟨A8, n8, c8⟩, HDD.out.waits ⟨A8, n8, c8⟩ z2 hKt hq9 (Ms ++ [⟨Q.j, p + k, ⟨A5, L5, c5⟩⟩]) (hO8.keep hk9 fun g hg e => own_type hO8 hq8 (by decide) (by unfold Only at e; rw [← e]; exact hg)) (by rw [List.length_append]; exact h8') (fun x hx => ?_) (fun j hj => ?_), by show n8 = _; omega, hown9, ?_⟩
       · rcases List.mem_append.1 hx with hx | hx
         · exact hMat x hx
         · rw [List.mem_singleton] at hx; subst hx; exact ⟨show p + k < n by omega, rfl⟩
       · rcases hown9 j hj with e | e
         · exact HH.out.new.2.2.2.2 j e
         · omega
       · refine hK.then hKt fun i hi e => ?_
         rcases e with e | e
         · exact .inl e
         · rcases hown i e with e | e
           · exact .inr (.inr (.inr e))
           · omega
     case measure => simp [intOf]; omega
   · obtain rfl : k = m := by omega
     go_wp2_with fail
     go_ret
     exact ⟨rfl, wv', hD, hwv, hown, hK⟩
end Go.Proofs.YtolknnmaadkgiaaGreatDoor
namespace Go.Proofs.YtolknnmaadkgiaaGreatDoor
set_option maxRecDepth 100000
open Go.RowKit Go.Uc
theorem encS_map (P : List Sl) : P.flatMap encS = P.map Sl.v := by
 induction P with
 | nil => rfl
 | cons x P ih => rw [List.flatMap_cons, ih, List.map_cons]; rfl
theorem Dd.plate {w0 w : World} {Q : Qb} {n : Nat} {pv wv : Sl} (h : Dd w0 w Q n pv wv) {gp : Nat} (e1 : pv.A = some ⟨gp, 0, none⟩) (at_ : Nat) (hat : at_ < n) (x : Sl) : Dd w0 (w.setCell ⟨gp, at_, none⟩ x.v) Q n pv wv ∧ Keeps (Fd Q pv wv) w (w.setCell ⟨gp, at_, none⟩ x.v) := by
 obtain ⟨pA, pn, pc⟩ := pv
 simp only at e1
 subst e1
 obtain ⟨z0, hp⟩ := h.pw
 obtain ⟨cs, hd, hc0, hdc⟩ := h.ds
 obtain ⟨P, hP, hpn, hPn⟩ := h.pl
 obtain ⟨M, hM, hwl, hMa⟩ := h.wt
 obtain ⟨n1, n2, n3, n4, n5⟩ := h.new
 simp only at hpn
 subst hpn
 have hg55 : ∃ cur, Blk w gp 22 cur := by
   rcases hP.form with ⟨e, -⟩ | ⟨g, cap, cur, e, hB, -⟩
   · cases e
   · injection e with e
     injection e with e
     injection e with e
     subst e
     exact ⟨cur, hB⟩
 obtain ⟨cur, hB⟩ := hg55
 have hk : Keeps (Only gp) w (w.setCell ⟨gp, at_, none⟩ x.v) := (Keeps.refl (Only gp) _).set (p := ⟨gp, at_, none⟩) rfl _
 have hR : RowP (w.setCell ⟨gp, at_, none⟩ x.v) 22 1 encS (.slice (some ⟨gp, 0, none⟩) P.length pc) (P.set at_ x) := by
   have := row_set (k := at_) hP (show at_ < P.length by omega) x.v
   unfold RowP
   rw [encS_map] at this ⊢
   rw [List.map_set, List.length_set]
   exact this
 refine ⟨⟨⟨z0, hp.one hk (hp.ne hB (by decide))⟩, ⟨cs, hd.one hk (hd.ne hB (by decide)), hc0, hdc⟩, h.dk.one hk (h.dk.ne hB (by decide)), ⟨P.set at_ x, hR, by simp, by simpa using hPn⟩, ⟨M, hM.keep hk fun g hg e => own_type hM hB (by decide) (by unfold Only at e; rw [← e]; exact hg), hwl, hMa⟩, ⟨n1, n2, n3, n4, n5⟩, h.keep.then hk fun i hi e => ?_⟩, hk.mono fun i e => ?_⟩
 · unfold Only at e
   have := n4 gp (by show gp ∈ own (.slice (some ⟨gp, 0, none⟩) _ _); rw [own_slice]; exact List.mem_singleton.2 rfl)
   omega
 · unfold Only at e
   subst e
   exact .inr (.inr (.inl (by show i ∈ own (.slice (some ⟨i, 0, none⟩) _ _); rw [own_slice]; exact List.mem_singleton.2 rfl)))
theorem Dd.drew {w0 w : World} {Q : Qb} {n : Nat} {pv wv : Sl} (h : Dd w0 w Q n pv wv) : Dd w0 w.drew Q n pv wv := h.non (Keeps.refl Non w).drew
set_option maxHeartbeats 8000000 in
theorem without104_any {w0 w : World} {Q : Qb} {n : Nat} {pv wv : Sl} (h : Dd w0 w Q n pv wv) (hwn : wv.n ≤ 100000) :
   Calls Tryz.prog 156 #[.pointer (some ⟨Q.q, 0, none⟩), .int .i64 (Q.j : Int), .bool true] w fun e w' => e = .returned (.tuple #[]) ∧ Dd w0 w' Q n pv ⟨none, 0, 0⟩ ∧ Keeps (Fd Q pv wv) w w' := by
 obtain ⟨N, hN⟩ : ∃ N, N = wv.n := ⟨_, rfl⟩
 have HN := Lib.hid hN
 rw [← hN] at hwn
 clear hN
 go_enter Tryz.func156, Tryz.ntmps156
 go_upto_region 2 with fail
 go_loopw [6, 7] (fun u i wr => ∃ k : Nat, k ≤ N ∧ u = .slice none 0 0 ∧ i = .int .i64 (k : Int) ∧ Dd w0 wr Q n pv wv ∧ Keeps (Fd Q pv wv) w wr) (fun _ i _ => N - (intOf i).toNat)
 case atStart => exact ⟨0, Nat.zero_le _, rfl, rfl, h, Keeps.refl _ _⟩
 case round =>
   obtain ⟨k, hk, rfl, rfl, hD, hK⟩ := hrel
   obtain ⟨wx, rfl⟩ : ∃ W : World, W = wr := ⟨_, rfl⟩
   obtain ⟨z, hp⟩ := hD.pw
   obtain ⟨M, hM, hwl, hMat⟩ := hD.wt
   obtain ⟨cs, hd, hc0, hjn, hdc⟩ := hD.ds
   have hji : (Q.j : Int) < (Q.dn : Int) := by omega
   obtain ⟨P, hP, hpn, hPn⟩ := hD.pl
   have q1 : wx.cell? ⟨Q.q, 1, none⟩ = some (.slice wv.A N wv.c) := by rw [HN.out]; exact hp.cell 1
   by_cases hlt : k < N
   · have hki : (k : Int) < (N : Int) := by omega
     have hkM : k < M.length := by have := HN.out; omega
     obtain ⟨g, cap, e1, hle, -, hcell, -, -⟩ := hM.at_ encM_len hkM
     injection e1 with e1 e2 e3
     rw [e1] at q1
     have m0 : wx.cell? ⟨g, k * 3, none⟩ = some (.int .i64 ((M[k]).d : Int)) := hcell 0 (by decide)
     have m1 : wx.cell? ⟨g, k * 3 + 1, none⟩ = some (.int .i64 ((M[k]).at_ : Int)) := hcell 1 (by decide)
     have m2 : wx.cell? ⟨g, k * 3 + 2, none⟩ = some (M[k]).b.v := hcell 2 (by decide)
     obtain ⟨hat, hdj⟩ := hMat M[k] (List.getElem_mem hkM)
     rw [hdj] at m0
     clear hdj
     generalize M[k] = x at m1 m2 hat
     obtain ⟨xd, at_, xA, xn, xc⟩ := x
     simp only at m1 m2 hat
     have HD := Lib.hid hD
     have Hp := Lib.hid hp
     have HP := Lib.hid (And.intro hP (And.intro hpn hPn))
     have Hd := Lib.hid (And.intro hd (And.intro hc0 hdc))
     clear hcell e1 e2 e3 hle hkM hMat hwl hM hD hp hP hpn hPn hd hc0 hdc hjn
     go_upto_region 5 with fail
     have hB2 := Blk.new wx 274 #[.int .i64 (Q.j : Int), .int .i64 (at_ : Int), .slice xA xn xc]
     have hk2 := (Keeps.refl Non wx).alloc (.cells #[.int .i64 (Q.j : Int), .int .i64 (at_ : Int), .slice xA xn xc] 274)
     obtain ⟨w2, hw2⟩ : ∃ V : World, V = wx.alloc (.cells #[.int .i64 (Q.j : Int), .int .i64 (at_ : Int), .slice xA xn xc] 274) := ⟨_, rfl⟩
     rw [← hw2] at hB2 hk2 ⊢
     clear hw2
     obtain ⟨b2, hb2⟩ : ∃ b, b = wx.heap.size := ⟨_, rfl⟩
     rw [← hb2] at hB2 ⊢
     clear hb2 m0 m1 m2 q1
     have y0 : w2.cell? ⟨b2, 0, none⟩ = some (.int .i64 (Q.j : Int)) := hB2.cell 0
     have y1 : w2.cell? ⟨b2, 1, none⟩ = some (.int .i64 (at_ : Int)) := hB2.cell 1
     have y2 : w2.cell? ⟨b2, 2, none⟩ = some (.slice xA xn xc) := hB2.cell 2
     have hp2 := Hp.out.non hk2
     have hP2 := HP.out.1.non hk2
     have hd2 := Hd.out.1.non hk2
     have hD2 := HD.out.non hk2
     have z0 : w2.cell? ⟨Q.q, 0, none⟩ = some (.slice (some ⟨Q.db, 0, none⟩) Q.dn Q.dc) := hp2.cell 0
     have z1 : w2.cell? ⟨Q.db, Q.j, none⟩ = some (.pointer (some ⟨Q.d, 0, none⟩)) := by rw [hd2.cell]; exact Hd.out.2.1
     have hatP : at_ < P.length := by have := HP.out.2.2; omega
     obtain ⟨gp, capp, e1, hlep, -, hcp, hfp, -⟩ := hP2.at_ encS_len (i := at_) hatP
     have e2 := e1
     injection e2 with e2 e3 e4
     have z2 : w2.cell? ⟨Q.d, 0, none⟩ = some (.slice (some ⟨gp, 0, none⟩) n pv.c) := by rw [← e2, ← HP.out.2.2, ← HP.out.2.1]; exact hD2.dk.cell 0
     obtain ⟨vv, z3⟩ : ∃ vv, w2.cell? ⟨gp, at_, none⟩ = some vv := ⟨(P[at_]'hatP).v, by have := hcp 0 (by decide); rw [Nat.mul_one] at this; exact this⟩
     have z4 := hfp at_
     have hati : (at_ : Int) < (n : Int) := by omega
     have HE := Lib.hid (And.intro e1 (And.intro e2 (And.intro e3 e4)))
     have HB2 := Lib.hid hB2
     clear hcp e1 e2 e3 e4 hfp hlep hp2 hd2 hP2 hD2 hB2
     go_upto_region 8 with fail
     go_region
     have hpl := (HD.out.non hk2).plate (x := ⟨xA, xn, xc⟩) HE.out.2.1 at_ hat
     have HF := Lib.hid (And.intro hpl.1.drew ((hK.trans (hk2.of_non.trans hpl.2)).drew))
     clear hpl
     go_wp2_with fail
     go_roundw
     case rel => exact ⟨k + 1, by omega, rfl, by go_num, HF.out.1, HF.out.2⟩
     case measure => simp [intOf]; omega
   · obtain rfl : k = N := by omega
     have f1 := hp.frozen 1
     go_wp2_with fail
     go_end0
     have hk9 : Keeps (Only Q.q) wx (wx.setCell ⟨Q.q, 1, none⟩ (.slice none 0 0)) := (Keeps.refl (Only Q.q) _).set (p := ⟨Q.q, 1, none⟩) rfl _
     exact ⟨rfl, hD.waits ⟨none, 0, 0⟩ z (hk9.mono fun i e => .inl e) (hp.set 1 _) [] (RowP.nil _ _ _ _) rfl (fun x hx => (List.not_mem_nil hx).elim) (fun g hg => (List.not_mem_nil hg).elim), hK.trans (hk9.mono fun i e => .inl e)⟩
set_option maxHeartbeats 2000000 in
theorem flush65_any {w0 w : World} {Q : Qb} {n : Nat} {pv wv : Sl} (h : Dd w0 w Q n pv wv) (hwn : wv.n ≤ 100000) :
   Calls Tryz.prog 111 #[.pointer (some ⟨Q.q, 0, none⟩), .int .i64 (Q.j : Int)] w fun e w' => e = .returned (.int .i64 0) ∧ Dd w0 w' Q n pv ⟨none, 0, 0⟩ ∧ Keeps (Fd Q pv wv) w w' := by
 have HD := Lib.hid (down103_any h)
 have HW := Lib.hid (without104_any h hwn)
 clear h
 go_enter Tryz.func111, Tryz.ntmps111
 go_wp2_with (first | (go_at_call 155; go_must (refine HD.out.mono ?_); rintro e w9 ⟨rfl, hw9⟩; subst w9) | (go_at_call 156; go_must (refine HW.out.mono ?_); rintro e w4 ⟨rfl, h4, hK4⟩))
 go_ret
 exact ⟨rfl, h4, hK4⟩
end Go.Proofs.YtolknnmaadkgiaaGreatDoor
