/- A tank of one mirror: Replace. All the leaves that are there, in a row. Is the power out? A sector of the log. -/
import Derived.Test.YtolknnmaadkgiaaGreatDoorG24
import Derived.BigQuiet
import Derived.BigRegion
import Derived.Lib.AppendZeros
set_option linter.unusedVariables false
set_option linter.unusedSimpArgs false
namespace Go.Proofs.YtolknnmaadkgiaaGreatDoor
set_option maxRecDepth 100000
open Go.RowKit Go.Uc Go.Shelf
section
variable {w0 w w' : World} {p m n k pool sz lg : Nat} {tp : Tp} {B : TB} {dv : Sl} {K : Nat → Kb} {T : St} {L Dk : List (Option Nat)} {lk : List Lk} {X : Nat → Lb} {F : Nat → Lr}
def Tg (w : World) (p m : Nat) (K : Nat → Kb) (B : TB) (g : Nat) : Prop := Fg w p m K g ∨ g ∈ own B.lf.v ∨ g ∈ own B.dk.v ∨ g ∈ own B.lv.v ∨ g ∈ own B.kv.v
theorem Gs.far49 {g : Nat} {cs : Array Value} (h : Gs w0 w p dv m n K T) (hB : Blk w g 49 cs) (d : g ∉ own dv.v) (hg : w0.heap.size ≤ g) (hk : Keeps (Only g) w w') : Gs w0 w' p dv m n K T := by
 obtain ⟨wv, Q, hG, hQ⟩ := h
 exact ⟨wv, Q, ⟨hG.pb.imp fun _ i => i.one hk (i.ne hB (by decide)), fun i hi => (hG.dm i hi).far hB (by decide) (by decide) (by decide) (by decide) hg hk, hG.kp, hG.po, hG.ap, hG.row.keep hk (fun q hq e' => by unfold Only at e'; subst e'; exact d hq), hG.dn, hG.wt.keep hk (fun q hq e' => by unfold Only at e'; subst e'; exact own_type hG.wt hB (by decide) hq), hG.wn, hG.at_, hG.new, hG.keep.then hk fun i hi e => by unfold Only at e; omega⟩, hQ⟩
theorem row_blk {α : Type} {e : TypeId} {kk : Nat} {s : Sl} {enc : α → List Value} {xs : List α} (h : RowP w e kk enc s.v xs) {g : Nat} (hg : s.A = some ⟨g, 0, none⟩) : ∃ cur, Blk w g e cur := by
 rcases h.form with ⟨e1, -⟩ | ⟨g', cap, cur, e1, hB, -⟩
 · injection e1 with e1 _ _
   rw [hg] at e1; cases e1
 · injection e1 with e1 _ _
   rw [hg] at e1
   injection e1 with e1
   injection e1 with e1
   subst e1
   exact ⟨cur, hB⟩
theorem own_sl {s : Sl} {g : Nat} (hg : s.A = some ⟨g, 0, none⟩) : own s.v = [g] := by
 obtain ⟨A, a, c⟩ := s
 simp only at hg
 subst hg
 exact own_slice _ _ _
theorem row_set1 {α : Type} {e : TypeId} {s : Sl} {enc : α → List Value} {xs : List α} (henc : ∀ x, (enc x).length = 1) (h : RowP w e 1 enc s.v xs) (hn : s.n = xs.length) {g i : Nat} (hg : s.A = some ⟨g, 0, none⟩) (hi : i < xs.length) (x : α) {v : Value} (hv : enc x = [v]) : RowP (w.setCell ⟨g, i, none⟩ v) e 1 enc s.v (xs.set i x) ∧ Keeps (Only g) w (w.setCell ⟨g, i, none⟩ v) := by
 obtain ⟨A, a, c⟩ := s
 simp only at hg hn
 subst hg hn
 refine ⟨?_, (Keeps.refl (Only g) w).set (p := ⟨g, i, none⟩) rfl _⟩
 have hR := RowP.setAt henc h hi x
 rw [hv, Nat.mul_one] at hR
 exact hR
theorem Tk.put2 (h : Tk w k pool tp B L Dk lk sz lg) {tb lb db fb gb : Nat} (hd : Hd B tb lb db fb gb) (j : Nat) (x y : Option Nat) (h1 : RowP w' 93 1 encO B.lf.v (L.set j x)) (h2 : RowP w' 49 1 encO B.dk.v (Dk.set j y)) (hk : Keeps (fun g => g = fb ∨ g = gb) w w') :
   Mt w' B.t B.lv B.kv L lk (sz : Int) ∧ ∀ V lk', Keeps (fun g => g ∈ own B.lv.v ∨ g ∈ own B.kv.v) w' V → Mt V B.t B.lv B.kv (L.set j x) lk' (sz : Int) → Tk V k pool tp B (L.set j x) (Dk.set j y) lk' sz lg := by
 obtain ⟨cf, hf⟩ := row_blk h.lf hd.f
 obtain ⟨cg, hg⟩ := row_blk h.dk hd.g
 have a1 : ∀ {q t : Nat} {cs : Array Value}, Blk w q t cs → t ≠ 93 → t ≠ 49 → ¬ (q = fb ∨ q = gb) := fun hb u v e => by
   rcases e with e | e
   · exact hb.ne hf u e
   · exact hb.ne hg v e
 have a2 : ∀ {α : Type} {e : TypeId} {kk : Nat} {enc : α → List Value} {v : Value} {xs : List α}, RowP w e kk enc v xs → e ≠ 93 → e ≠ 49 → ∀ q ∈ own v, ¬ (q = fb ∨ q = gb) := fun hr u v q hq e => by
   rcases e with e | e
   · subst e; exact own_type hr hf (Ne.symm u) hq
   · subst e; exact own_type hr hg (Ne.symm v) hq
 have s1 : ∀ {q t : Nat} {cs : Array Value}, Blk w q t cs → t ≠ 93 → t ≠ 49 → Blk w' q t cs := fun hb u v => hb.keep hk (a1 hb u v)
 have s2 : ∀ {α : Type} {e : TypeId} {kk : Nat} {enc : α → List Value} {v : Value} {xs : List α}, RowP w e kk enc v xs → e ≠ 93 → e ≠ 49 → RowP w' e kk enc v xs := fun hr u v => hr.keep hk (a2 hr u v)
 have hlv : RowP w' 93 1 encO B.lv.v L := h.mt.lr.keep hk fun q hq e => by
   rcases e with e | e
   · subst e; exact h.ne q (by rw [own_sl hd.f]; exact List.mem_singleton.2 rfl) hq
   · subst e; exact own_type h.mt.lr hg (by decide) hq
 have hM : Mt w' B.t B.lv B.kv L lk (sz : Int) := ⟨s1 h.mt.blk (by decide) (by decide), hlv, h.mt.ln, s2 h.mt.kr (by decide) (by decide), h.mt.kn, h.mt.len, h.mt.few⟩
 refine ⟨hM, fun V lk' hV hM' => ?_⟩
 have b1 : ∀ {q t : Nat} {cs : Array Value}, Blk w' q t cs → t ≠ 93 → t ≠ 350 → Blk V q t cs := fun hb u v => hb.keep hV fun e => by
   rcases e with e | e
   · exact own_type hM.lr hb u e
   · exact own_type hM.kr hb v e
 have b2 : ∀ {α : Type} {e : TypeId} {kk : Nat} {enc : α → List Value} {v : Value} {xs : List α}, RowP w' e kk enc v xs → e ≠ 93 → e ≠ 350 → RowP V e kk enc v xs := fun hr u v => hr.keep hV fun q hq e => by
   rcases hr.form with ⟨e1, -⟩ | ⟨g, cap, cur, e1, hB, -⟩
   · rw [e1] at hq; exact (List.not_mem_nil hq).elim
   · rw [e1, own_slice, List.mem_singleton] at hq
     subst hq
     rcases e with e | e
     · exact own_type hM.lr hB u e
     · exact own_type hM.kr hB v e
 refine ⟨b1 (s1 h.blk (by decide) (by decide)) (by decide) (by decide), b2 (s2 h.md (by decide) (by decide)) (by decide) (by decide), h.mdn, b2 (s2 h.tr (by decide) (by decide)) (by decide) (by decide), h.trn, b2 (s2 h.lr (by decide) (by decide)) (by decide) (by decide), h.lrn, b2 (s2 h.dr (by decide) (by decide)) (by decide) (by decide), h.drn, h1.keep hV fun q hq e => ?_, by rw [List.length_set]; exact h.lfn, b2 h2 (by decide) (by decide), by rw [List.length_set]; exact h.dkn, by rw [List.length_set, List.length_set]; exact h.dkl, hM', h.ne⟩
 rcases e with e | e
 · exact h.ne q hq e
 · rw [own_sl hd.f, List.mem_singleton] at hq
   subst hq
   exact own_type h.mt.kr hf (by decide) e
end
end Go.Proofs.YtolknnmaadkgiaaGreatDoor
namespace Go.Proofs.YtolknnmaadkgiaaGreatDoor
set_option maxRecDepth 100000
open Go.RowKit Go.Uc Go.Shelf
def encQ (x : Nat × Nat) : List Value := [.pointer (some ⟨x.2, 0, none⟩)]
theorem encQ_len (x : Nat × Nat) : (encQ x).length = 1 := rfl
theorem encQ_one (x : Nat × Nat) : ∀ u ∈ encQ x, u.oneCell' = true := by intro u hu; simp [encQ] at hu; subst hu; rfl
theorem pres_at {L : List (Option Nat)} {n i : Nat} {x : Nat × Nat} (h : (pres L n)[i]? = some x) : x.1 < n ∧ L[x.1]? = some (some x.2) := by
 have hm : x ∈ pres L n := List.mem_of_getElem? h
 unfold pres at hm
 obtain ⟨j, hj, e⟩ := List.mem_filterMap.1 hm
 have hjn := List.mem_range.1 hj
 split at e
 · rename_i b hb
   injection e with e
   subst e
   exact ⟨hjn, hb⟩
 · cases e
section
variable {w0 w w' : World} {p m n k pool sz lg : Nat} {tp : Tp} {B : TB} {dv : Sl} {K : Nat → Kb} {T : St} {L Dk : List (Option Nat)} {lk : List Lk} {X : Nat → Lb} {F : Nat → Lr}
def Since (w : World) (v : Value) : Prop := ∀ q ∈ own v, w.heap.size ≤ q
set_option maxHeartbeats 2000000 in
theorem grow118_any (n : Nat) (h0 : 0 < n) (h : n ≤ 100) (w : World) : Calls Tryz.prog 118 #[.slice none 0 0, .int .i64 (n : Int)] w fun e w' => ∃ (A : Option Addr) (c : Nat), e = .returned (.slice A 0 c) ∧ RowP w' 93 1 encO (.slice A 0 c) [] ∧ Since w (.slice A 0 c) ∧ Keeps Non w w' := by
 obtain ⟨i, hi0, hz0, hz1, hz2⟩ := info_parts info93
 have hr := Lib.run_append_nil_zeros (P := Tryz.prog) w 91 3 91 93 i (.pointer none) .i64 .i64 Tryz.underlying91 Tryz.underlying3 hi0 hz0 n h0 (by omega) (by omega) (by rw [hz2]; omega)
 have hcap := grownCap_ge w n 0 93
 have hcm := grownCap_le_maxLen w n 0 93 (by unfold maxLen; omega)
 obtain ⟨C, hC⟩ : ∃ C, C = grownCap w n 0 93 := ⟨_, rfl⟩
 rw [← hC] at hr hcap hcm
 clear hC
 have HR := Lib.hid hr
 clear hr
 go_enter Tryz.func118, Tryz.ntmps118
 go_wp2_with (at_builtin; refine Lib.wpList_append_run _ rfl _ _ _ _ rfl _ _ rfl rfl _ _ HR.out ?_)
 go_ret
 have kw : Keeps Non w (w.drew.alloc (.cells (Builtin.zeroCells (Value.pointer none).cells n ++ Builtin.zeroCells (Value.pointer none).cells (C - n)) 93)) := ((Keeps.refl Non w).drew).alloc _
 refine ⟨some ⟨w.heap.size, 0, none⟩, C, rfl, ⟨rfl, .inr ⟨w.heap.size, C, _, rfl, Nat.zero_le _, heap_alloc_new w.drew _, Nat.zero_le _, hcm, ?_, rfl⟩⟩, fun q hq => ?_, kw⟩
 · simp [size_zeroCells, Value.cells]; omega
 · rw [own_slice, List.mem_singleton] at hq
   subst hq
   exact Nat.le_refl _
theorem since_app {v v' : Value} (h : Since w v) (hk : w.heap.size ≤ w'.heap.size) (hat : v'.ownBlock = v.ownBlock ∨ v'.ownBlock = some w'.heap.size) : Since w v' := fun q hq => by
 rw [mem_own] at hq
 rcases hat with e | e
 · exact h q (by rw [mem_own]; exact e.symm.trans hq)
 · have := e.symm.trans hq
   injection this with this
   omega
set_option maxHeartbeats 4000000 in
theorem concat67_one (lb lc : Nat) (s : Sl) (hs : s.n = L.length) (h0 : 0 < L.length) (h5 : L.length ≤ 5) (hc : w.cell? ⟨lb, 0, none⟩ = some (.slice s.A s.n s.c)) (hR : RowP w 93 1 encO s.v L) :
   Calls Tryz.prog 67 #[.slice (some ⟨lb, 0, none⟩) 1 lc] w fun e w' => ∃ (A : Option Addr) (c : Nat), e = .returned (.slice A L.length c) ∧ RowP w' 93 1 encO (.slice A L.length c) L ∧ Keeps Non w w' := by
 obtain ⟨A, c, e1, hlc, hAts⟩ := hR.ats encO_len
 obtain ⟨sA, sn, sc⟩ := s
 injection e1 with e1 e2 e3
 subst e1 e2 e3
 clear hs
 have HR := Lib.hid (And.intro hc hAts)
 have HG := Lib.hid (fun V => grow118_any L.length h0 (by omega) V)
 have HBb : Hid (([] : List (Option Nat)).length + L.length ≤ maxLen ∧ (([] : List (Option Nat)).length + L.length) * 8 ≤ 140737488355328) := Lib.hid (by rw [List.length_nil]; unfold maxLen; omega)
 clear hAts hR
 go_enter Tryz.func67, Tryz.ntmps67
 go_upto_region 3 with fail
 go_loopw [3, 11] (fun s i wr => ∃ j : Nat, j ≤ 1 ∧ i = .int .i64 (j : Int) ∧ s = .int .i64 ((j * L.length : Nat) : Int) ∧ wr = w) (fun _ i _ => 1 - (intOf i).toNat)
 case atStart => exact ⟨0, by omega, rfl, (by simp), rfl⟩
 case round =>
   obtain ⟨j, hj, rfl, rfl, rfl⟩ := hrel
   by_cases hj0 : j = 0
   · subst hj0
     rw [show ((0 : Nat) : Int) = 0 from rfl, show ((0 * L.length : Nat) : Int) = 0 by rw [Nat.zero_mul]; rfl]
     go_wp2_with fail
     go_roundw
     case rel => exact ⟨1, by omega, by go_num, (by rw [Nat.one_mul]), by trivial⟩
     case measure => simp [intOf]
   · obtain rfl : j = 1 := by omega
     rw [Nat.one_mul]
     obtain ⟨wz, rfl⟩ : ∃ V : World, V = wr := ⟨_, rfl⟩
     go_upto_region 11 with (go_at_call 118; go_must (refine (HG.out _).mono ?_); rintro e w4 ⟨gA, gc, rfl, hg4, hs4, hK4⟩)
     go_loopw [6, 27] (fun v i wr => ∃ (j : Nat) (A : Option Addr) (n c : Nat), j ≤ 1 ∧ i = .int .i64 (j : Int) ∧ v = .slice A n c ∧ n = j * L.length ∧ Since wz (.slice A n c) ∧ Keeps Non wz wr ∧ RowP wr 93 1 encO (.slice A n c) (if j = 0 then [] else L)) (fun _ i _ => 1 - (intOf i).toNat)
     case atStart => exact ⟨0, gA, 0, gc, by omega, rfl, rfl, (by rw [Nat.zero_mul]), hs4, hK4, hg4⟩
     case round =>
       obtain ⟨j, vA, vn, vc, hj, rfl, rfl, hvn, hvs, hKv, hRv⟩ := hrel
       obtain ⟨wx, rfl⟩ : ∃ V : World, V = wr := ⟨_, rfl⟩
       by_cases hj0 : j = 0
       · subst hj0
         rw [show ((0 : Nat) : Int) = 0 from rfl]
         rw [if_pos rfl] at hRv
         have hc5 := hKv.cell HR.out.1 id
         have hA5 := HR.out.2.non hKv
         have HRv := Lib.hid (And.intro hRv hA5)
         have HS := Lib.hid (And.intro hvs hKv)
         clear hRv hA5 hvs hKv
         go_wp2_with (at_builtin; go_must (refine wpList_append_row rfl (.tmp 31) (.tmp 32) 91 rfl 93 1 encO (.pointer none) 8 Tryz.underlying91 info93 rfl (by decide) encO_len encO_one _ [] rfl HRv.out.1 sA L.length sc L rfl rfl HRv.out.2 HBb.out.1 HBb.out.2 ?_); intro v7 w7 hO7 hK7 hat; obtain ⟨⟨A7, n7, c7⟩, rfl, hn7⟩ := RowP.sl hO7)
         have hkz : Keeps Non wz w7 := HS.out.2.then hK7 fun i hi e => absurd (HS.out.1 i e) (by omega)
         have hss : Since wz (.slice A7 n7 c7) := since_app HS.out.1 HS.out.2.size hat
         go_roundw
         case rel => exact ⟨1, A7, n7, c7, by omega, by go_num, rfl, (by rw [Nat.one_mul]; exact hn7), hss, hkz, (by rw [if_neg (by decide)]; exact hO7)⟩
         case measure => simp [intOf]
       · obtain rfl : j = 1 := by omega
         rw [Nat.one_mul] at hvn
         obtain rfl : vn = L.length := hvn
         rw [if_neg (by decide)] at hRv
         go_wp2_with fail
         go_ret
         exact ⟨vA, vc, rfl, hRv, hKv⟩
set_option maxHeartbeats 4000000 in
theorem all_tk (h : Tk w k pool tp B L Dk lk sz lg) (h0 : 0 < L.length) :
   Calls Tryz.prog 35 #[.pointer (some ⟨k, 0, none⟩)] w fun e w' => ∃ (A : Option Addr) (c : Nat), e = .returned (.slice A (pres L L.length).length c) ∧ RowP w' 93 1 encQ (.slice A (pres L L.length).length c) (pres L L.length) ∧ Keeps Non w w' := by
 obtain ⟨tb, lb, db, fb, gb, hd⟩ := h.hds h0
 have hT := h.tc hd
 have hfew := h.mt.few
 have c3 := hT.c3
 have HC : Hid (Calls Tryz.prog 67 #[.slice (some ⟨lb, 0, none⟩) 1 B.lvs.c] w fun e w' => ∃ (A : Option Addr) (c : Nat), e = .returned (.slice A L.length c) ∧ RowP w' 93 1 encO (.slice A L.length c) L ∧ Keeps Non w w') := Lib.hid (concat67_one lb B.lvs.c B.lf h.lfn h0 hfew (by rw [h.lfn, hd.f]; exact hT.cl) h.lf)
 clear h hT hd
 go_enter Tryz.func35, Tryz.ntmps35
 go_upto_region 3 with (go_at_call 67; go_must (refine HC.out.mono ?_); rintro e w4 ⟨gA, gc, rfl, hg4, hK4⟩)
 obtain ⟨g, hg⟩ := row_headAt (s := ⟨gA, L.length, gc⟩) encO_len hg4 h0
 have hg' : gA = some ⟨g, 0, none⟩ := hg
 subst hg'
 have hcell : ∀ V, Keeps Non w4 V → ∀ j o, L[j]? = some o → V.cell? ⟨g, j, none⟩ = some (.pointer (o.map fun b => ⟨b, 0, none⟩)) := fun V hV j o ho => hV.cell (row_cellAt (s := ⟨some ⟨g, 0, none⟩, L.length, gc⟩) encO_len hg4 rfl ho) id
 have HCl := Lib.hid hcell
 clear hcell hg hg4 c3
 go_loopw [3, 12] (fun v i wr => ∃ (j : Nat) (A : Option Addr) (n c : Nat), j ≤ L.length ∧ i = .int .i64 (j : Int) ∧ v = .slice A n c ∧ n = (pres L j).length ∧ RowP wr 93 1 encQ (.slice A n c) (pres L j) ∧ Since w4 (.slice A n c) ∧ Keeps Non w4 wr) (fun _ i _ => L.length - (intOf i).toNat)
 case atStart => exact ⟨0, none, 0, 0, Nat.zero_le _, rfl, rfl, rfl, RowP.nil _ _ _ _, fun q hq => (List.not_mem_nil hq).elim, Keeps.refl _ _⟩
 case round =>
   obtain ⟨j, vA, vn, vc, hj, rfl, rfl, hvn, hRv, hvs, hKv⟩ := hrel
   obtain ⟨wx, rfl⟩ : ∃ V : World, V = wr := ⟨_, rfl⟩
   by_cases hlt : j < L.length
   · have hji : (j : Int) < (L.length : Int) := by omega
     obtain ⟨e0, he0⟩ : ∃ e, L[j]? = some e := ⟨_, List.getElem?_eq_getElem hlt⟩
     have y0 := HCl.out wx hKv j _ he0
     cases e0 with
     | none =>
       replace y0 : wx.cell? ⟨g, j, none⟩ = some (.pointer none) := y0
       have HS := Lib.hid (pres_none he0)
       have HI := Lib.hid (show _ ∧ _ ∧ _ ∧ _ from ⟨hvn, hRv, hvs, hKv⟩)
       clear he0 hvn hRv hvs hKv
       go_wp2_with fail
       go_roundw
       case rel => exact ⟨j + 1, vA, vn, vc, by omega, by go_num, rfl, (by rw [HS.out]; exact HI.out.1), (by rw [HS.out]; exact HI.out.2.1), HI.out.2.2.1, HI.out.2.2.2⟩
       case measure => simp [intOf]; omega
     | some b =>
       replace y0 : wx.cell? ⟨g, j, none⟩ = some (.pointer (some ⟨b, 0, none⟩)) := y0
       have HS := Lib.hid (pres_some he0)
       have HI := Lib.hid (show _ ∧ _ ∧ _ ∧ _ from ⟨hvn, hRv, hvs, hKv⟩)
       have hpl := Lib.hid (pres_len L j)
       clear he0 hvn hRv hvs hKv
       have HA := Lib.hid (Ats.lit wx #[.pointer (some ⟨b, 0, none⟩)] 93 (([(j, b)] : List (Nat × Nat)).flatMap encQ) rfl)
       have HRa := Lib.hid (HI.out.2.1.non ((Keeps.refl Non wx).alloc (.cells #[.pointer (some ⟨b, 0, none⟩)] 93)))
       have HBb : Hid ((pres L j).length + 1 ≤ maxLen ∧ ((pres L j).length + 1) * 8 ≤ 140737488355328) := Lib.hid (by have := hpl.out; unfold maxLen; omega)
       go_wp2_with (at_builtin; go_must (refine wpList_append_row rfl (.tmp 18) (.tmp 20) 91 rfl 93 1 encQ (.pointer none) 8 Tryz.underlying91 info93 rfl (by decide) encQ_len encQ_one _ (pres L j) rfl HRa.out _ 1 _ [(j, b)] rfl rfl HA.out HBb.out.1 HBb.out.2 ?_); intro v7 w7 hO7 hK7 hat; obtain ⟨⟨A7, n7, c7⟩, rfl, hn7⟩ := RowP.sl hO7)
       have k0 := HI.out.2.2.2.alloc (.cells #[.pointer (some ⟨b, 0, none⟩)] 93)
       have hkz : Keeps Non w4 w7 := k0.then hK7 fun i hi e => absurd (HI.out.2.2.1 i e) (by omega)
       have hss : Since w4 (.slice A7 n7 c7) := since_app HI.out.2.2.1 k0.size hat
       go_roundw
       case rel => exact ⟨j + 1, A7, n7, c7, by omega, by go_num, rfl, (by rw [HS.out]; exact hn7), (by rw [HS.out]; exact hO7), hss, hkz⟩
       case measure => simp [intOf]; omega
   · obtain rfl : j = L.length := by omega
     obtain rfl : vn = (pres L L.length).length := hvn
     go_wp2_with fail
     go_ret
     exact ⟨vA, vc, rfl, hRv, hK4.non hKv⟩
end
end Go.Proofs.YtolknnmaadkgiaaGreatDoor
namespace Go.Proofs.YtolknnmaadkgiaaGreatDoor
set_option maxRecDepth 100000
open Go.RowKit Go.Uc Go.Shelf
instance (c : List UInt8) : Decidable (LogOk c) := by unfold LogOk; infer_instance
def lstep (acc : Nat × List UInt8) (c : List UInt8) : Nat × List UInt8 := if LogOk c ∧ acc.1 < n8 c 32 then (n8 c 32, (c.drop 40).take 88) else acc
def lsec (T : St) (F : Nat → Lr) (a : Nat) (ps : List (Nat × Nat)) : Nat × List UInt8 := ps.foldl (fun acc x => lstep acc (T.f (F x.1).ix (18 + a))) (0, zeros 88)
theorem lsec_succ (T : St) (F : Nat → Lr) (a : Nat) {ps : List (Nat × Nat)} {j : Nat} (h : j < ps.length) : lsec T F a (ps.take (j + 1)) = lstep (lsec T F a (ps.take j)) (T.f (F ps[j].1).ix (18 + a)) := by
 unfold lsec
 rw [← List.take_append_getElem h, List.foldl_append]
 rfl
section
variable {w0 w w' : World} {p m n k pool sz lg : Nat} {tp : Tp} {B : TB} {dv : Sl} {K : Nat → Kb} {T : St} {L Dk : List (Option Nat)} {lk : List Lk} {X : Nat → Lb} {F : Nat → Lr}
theorem Gs.flen (h : Gs w0 w p dv m n K T) {i q : Nat} (hi : i < m) (hq : q < n) : (T.f i q).length = 128 := by
 obtain ⟨wv, S, -, h2⟩ := h
 exact (h2 i hi).len hq
set_option maxHeartbeats 1000000 in
theorem failed129_any {d : Nat} {a b c : Value} (h : Blk w d 110 #[a, b, c, .bool false]) : Calls Tryz.prog 129 #[.pointer (some ⟨d, 0, none⟩)] w fun e w' => e = .returned (.bool false) ∧ w' = w := by
 have c3 : w.cell? ⟨d, 3, none⟩ = some (.bool false) := h.cell 3
 clear h
 go_enter Tryz.func129, Tryz.ntmps129
 go_wp2_with fail
 go_ret
 exact ⟨rfl, rfl⟩
set_option maxHeartbeats 1000000 in
theorem gs_failed {lf i : Nat} {x : Lb} {tA : Option Addr} {tc : Nat} (h : Gs w0 w p dv m n K T) (hi : i < m) (hl : Lq w0 w lf (K i).d x tA tc) : Calls Tryz.prog 74 #[.pointer (some ⟨lf, 0, none⟩)] w fun e w' => e = .returned (.bool false) ∧ w' = w := by
 obtain ⟨wv, s, hL, -⟩ := h.lm hi hl
 have HF := Lib.hid (failed129_any hL.dm.dk)
 have c0 : w.cell? ⟨lf, 0, none⟩ = some (.pointer (some ⟨(K i).d, 0, none⟩)) := hL.blk.cell 0
 clear hL h hl
 go_enter Tryz.func74, Tryz.ntmps74
 go_wp2_with (go_at_call 129; go_must (refine HF.out.mono ?_); rintro e w3 ⟨rfl, hw3⟩; subst w3)
 go_ret
 exact ⟨rfl, rfl⟩
theorem lvs_at (hL : Lvs w0 w m K X F L) {ps : List (Nat × Nat)} (hps : ps = pres L L.length) {j : Nat} (hj : j < ps.length) : ps[j].2 = (F ps[j].1).b ∧ (F ps[j].1).ix < m ∧ Lq w0 w (F ps[j].1).b (K (F ps[j].1).ix).d (X ps[j].1) (F ps[j].1).tA (F ps[j].1).tc := by
 subst hps
 obtain ⟨-, e⟩ := pres_at (List.getElem?_eq_getElem hj)
 exact hL.lf _ _ e
set_option maxHeartbeats 4000000 in
theorem down_tk (h : Tk w k pool tp B L Dk lk sz lg) (hG : Gs w0 w p dv m n K T) (hL : Lvs w0 w m K X F L) (h0 : 0 < L.length) (hn : 324 ≤ n) (ho : T.P.off = false) :
   Calls Tryz.prog 37 #[.pointer (some ⟨k, 0, none⟩)] w fun e w' => e = .returned (.bool false) ∧ Keeps Non w w' := by
 have HA := Lib.hid (all_tk h h0)
 obtain ⟨ps, hps⟩ : ∃ ps, ps = pres L L.length := ⟨_, rfl⟩
 rw [← hps] at HA
 have hpl : ps.length ≤ 5 := by have := pres_len L L.length; have := h.mt.few; rw [hps]; omega
 have HF : Hid (∀ V j, Keeps Non w V → ∀ hj : j < ps.length, Calls Tryz.prog 74 #[.pointer (some ⟨(ps[j]).2, 0, none⟩)] V fun e w' => e = .returned (.bool false) ∧ w' = V) := Lib.hid (fun V j hV hj => by
   obtain ⟨e1, e2, e3⟩ := lvs_at (hL.non hV) hps hj
   rw [e1]
   exact gs_failed (hG.non hV) e2 e3)
 have HR : Hid (∀ V j, Keeps Non w V → ∀ hj : j < ps.length, Calls Tryz.prog 75 #[.pointer (some ⟨(ps[j]).2, 0, none⟩), .int .i64 0, .int .i64 0] V fun e w' => ∃ b, e = .returned (.tuple #[.slice (some ⟨b, 0, none⟩) 0 0, .int .i64 0]) ∧ Keeps Non V w') := Lib.hid (fun V j hV hj => by
   obtain ⟨e1, e2, e3⟩ := lvs_at (hL.non hV) hps hj
   rw [e1]
   refine (gs_read (hG.non hV) e2 e3 hn ho 0 0 (by omega)).mono ?_
   rintro e w' ⟨b, rfl, -, -, hk⟩
   exact ⟨b, rfl, hk⟩)
 clear h hG hL hps
 go_enter Tryz.func37, Tryz.ntmps37
 go_upto_region 2 with (go_at_call 35; go_must (refine HA.out.mono ?_); rintro e w4 ⟨gA, gc, rfl, hg4, hK4⟩)
 have HG := Lib.hid (And.intro hg4 hK4)
 clear hg4 hK4
 go_loopw [10] (fun i wr => ∃ j : Nat, j ≤ ps.length ∧ i = .int .i64 (j : Int) ∧ Keeps Non w4 wr) (fun i _ => ps.length - (intOf i).toNat)
 case atStart => exact ⟨0, Nat.zero_le _, rfl, Keeps.refl _ _⟩
 case round =>
   obtain ⟨j, hj, rfl, hK⟩ := hrel
   obtain ⟨wx, rfl⟩ : ∃ V : World, V = wr := ⟨_, rfl⟩
   by_cases hlt : j < ps.length
   · have hji : (j : Int) < (ps.length : Int) := by omega
     obtain ⟨g, hg⟩ := row_headAt (s := ⟨gA, ps.length, gc⟩) encQ_len HG.out.1 (by omega)
     have hg' : gA = some ⟨g, 0, none⟩ := hg
     subst hg'
     have y0 : wx.cell? ⟨g, j, none⟩ = some (.pointer (some ⟨(ps[j]).2, 0, none⟩)) := hK.cell (row_cellAt (s := ⟨some ⟨g, 0, none⟩, ps.length, gc⟩) encQ_len HG.out.1 rfl (List.getElem?_eq_getElem hlt)) id
     have HFx := Lib.hid (HF.out wx j (HG.out.2.non hK) hlt)
     have HRx := Lib.hid (HR.out wx j (HG.out.2.non hK) hlt)
     have HK := Lib.hid hK
     clear hg hK
     go_wp2_with (first
       | (go_at_call 74; go_must (refine HFx.out.mono ?_); rintro e w5 ⟨rfl, hw5⟩; subst w5)
       | (go_at_call 75; go_must (refine HRx.out.mono ?_); rintro e w6 ⟨b, rfl, hK6⟩))
     go_roundw
     case rel => exact ⟨j + 1, by omega, by go_num, HK.out.non hK6⟩
     case measure => simp [intOf]; omega
   · obtain rfl : j = ps.length := by omega
     go_wp2_with fail
     go_ret
     exact ⟨rfl, HG.out.2.non hK⟩
set_option maxHeartbeats 8000000 in
theorem logSector_tk (h : Tk w k pool tp B L Dk lk sz lg) (hG : Gs w0 w p dv m n K T) (hL : Lvs w0 w m K X F L) (h0 : 0 < L.length) (hn : 324 ≤ n) (ho : T.P.off = false) (a : Nat) (ha : a < 256) :
   Calls Tryz.prog 34 #[.pointer (some ⟨k, 0, none⟩), .int .i64 (a : Int)] w fun e w' => ∃ b, e = .returned (.slice (some ⟨b, 0, none⟩) 88 88) ∧ Blk w' b 5 (pc (lsec T F a (pres L L.length)).2) ∧ w.heap.size ≤ b ∧ Keeps Non w w' := by
 have HA := Lib.hid (fun V (hV : Keeps Non w V) => all_tk (h.non hV) h0)
 obtain ⟨ps, hps⟩ : ∃ ps, ps = pres L L.length := ⟨_, rfl⟩
 rw [← hps] at HA ⊢
 have hpl : ps.length ≤ 5 := by have := pres_len L L.length; have := h.mt.few; rw [hps]; omega
 have HR : Hid (∀ V j, Keeps Non w V → ∀ hj : j < ps.length, (T.f (F (ps[j]).1).ix (18 + a)).length = 128 ∧ Calls Tryz.prog 66 #[.pointer (some ⟨(ps[j]).2, 0, none⟩), .int .i64 (a : Int)] V fun e w' => ((LogOk (T.f (F (ps[j]).1).ix (18 + a)) ∧ ∃ b, e = .returned (.tuple #[.int .u64 (n8 (T.f (F (ps[j]).1).ix (18 + a)) 32 : Int), .slice (some ⟨b, 0, none⟩) 88 88, .bool true]) ∧ Blk w' b 5 (pc (((T.f (F (ps[j]).1).ix (18 + a)).drop 40).take 88)) ∧ V.heap.size ≤ b) ∨ (¬ LogOk (T.f (F (ps[j]).1).ix (18 + a)) ∧ e = .returned (.tuple #[.int .u64 0, .slice none 0 0, .bool false]))) ∧ Keeps Non V w') := Lib.hid (fun V j hV hj => by
   obtain ⟨e1, e2, e3⟩ := lvs_at (hL.non hV) hps hj
   rw [e1]
   exact ⟨hG.flen e2 (by omega), gs_logRead (hG.non hV) e2 e3 hn ho a ha⟩)
 clear h hG hL hps
 go_enter Tryz.func34, Tryz.ntmps34
 go_upto_region 3 with (at_make; go_must (refine wpList_make_bytes rfl _ _ 22 rfl 5 Tryz.underlying22 info5 .i64 .i64 _ _ 88 rfl rfl rfl rfl (by omega) ?_); intro w1 hB1 hK1)
 obtain ⟨ob, hob⟩ : ∃ z, z = w.heap.size := ⟨_, rfl⟩
 rw [← hob] at hB1 ⊢
 have HQ := Lib.hid hob
 clear hob
 have HA1 := Lib.hid (HA.out w1 hK1)
 go_upto_region 4 with (go_at_call 35; go_must (refine HA1.out.mono ?_); rintro e w4 ⟨gA, gc, rfl, hg4, hK4⟩)
 have HG := Lib.hid hg4
 have hB4 := hB1.non hK4
 have hKw := hK1.non hK4
 clear hg4 hK4 hB1 hK1 HA1 HA
 obtain ⟨c, hc⟩ : ∃ c : Nat → List UInt8, c = fun j => T.f (F j).ix (18 + a) := ⟨_, rfl⟩
 have hLs : ∀ j (hj : j < ps.length), lsec T F a (ps.take (j + 1)) = lstep (lsec T F a (ps.take j)) (c (ps[j]).1) := fun j hj => by rw [hc]; exact lsec_succ T F a hj
 have HR' : Hid (∀ V j, Keeps Non w V → ∀ hj : j < ps.length, (c (ps[j]).1).length = 128 ∧ Calls Tryz.prog 66 #[.pointer (some ⟨(ps[j]).2, 0, none⟩), .int .i64 (a : Int)] V fun e w' => ((LogOk (c (ps[j]).1) ∧ ∃ b, e = .returned (.tuple #[.int .u64 (n8 (c (ps[j]).1) 32 : Int), .slice (some ⟨b, 0, none⟩) 88 88, .bool true]) ∧ Blk w' b 5 (pc (((c (ps[j]).1).drop 40).take 88)) ∧ V.heap.size ≤ b) ∨ (¬ LogOk (c (ps[j]).1) ∧ e = .returned (.tuple #[.int .u64 0, .slice none 0 0, .bool false]))) ∧ Keeps Non V w') := Lib.hid (fun V j hV hj => by rw [hc]; exact HR.out V j hV hj)
 have HLs := Lib.hid hLs
 clear HR hLs hc
 go_loopw [6, 16] (fun v i wr => ∃ (j best : Nat) (out : List UInt8), j ≤ ps.length ∧ i = .int .i64 (j : Int) ∧ v = .int .u64 (best : Int) ∧ (best, out) = lsec T F a (ps.take j) ∧ out.length = 88 ∧ Blk wr ob 5 (pc out) ∧ Keeps Non w wr ∧ Keeps (Only ob) w4 wr) (fun _ i _ => ps.length - (intOf i).toNat)
 case atStart => exact ⟨0, 0, zeros 88, Nat.zero_le _, rfl, rfl, rfl, zeros_length 88, hB4, hKw, Keeps.refl _ _⟩
 case round =>
   obtain ⟨j, best, out, hj, rfl, rfl, hbo, hol, hB, hK, hKo⟩ := hrel
   obtain ⟨wx, rfl⟩ : ∃ V : World, V = wr := ⟨_, rfl⟩
   have HBO := Lib.hid hbo
   clear hbo
   by_cases hlt : j < ps.length
   · have hji : (j : Int) < (ps.length : Int) := by omega
     obtain ⟨g, hg⟩ := row_headAt (s := ⟨gA, ps.length, gc⟩) encQ_len HG.out (by omega)
     have hg' : gA = some ⟨g, 0, none⟩ := hg
     subst hg'
     obtain ⟨cg, hgb⟩ := row_blk (s := ⟨some ⟨g, 0, none⟩, ps.length, gc⟩) HG.out rfl
     have y0 : wx.cell? ⟨g, j, none⟩ = some (.pointer (some ⟨(ps[j]).2, 0, none⟩)) := hKo.cell (row_cellAt (s := ⟨some ⟨g, 0, none⟩, ps.length, gc⟩) encQ_len HG.out rfl (List.getElem?_eq_getElem hlt)) (hgb.ne hB4 (by decide))
     obtain ⟨hcl, hRx⟩ := HR'.out wx j hK hlt
     have HRx := Lib.hid hRx
     have hs := HLs.out j hlt
     rw [← HBO.out] at hs
     have HS := Lib.hid hs
     have HI := Lib.hid (show _ ∧ _ ∧ _ from ⟨hB, hK, hKo⟩)
     clear hg hRx hs hB hK hKo hgb
     go_upto_region 6 with fail
     obtain ⟨cj, hcj⟩ : ∃ z, z = c (ps[j]).1 := ⟨_, rfl⟩
     rw [← hcj] at hcl HRx HS
     clear hcj
     go_upto_region 7 with (go_at_call 66; go_must (refine HRx.out.mono ?_); rintro e w5 ⟨hor, hK5⟩; rcases hor with ⟨hok, b, rfl, hb5, hbl5⟩ | ⟨hno, rfl⟩)
     · have hkw := HI.out.2.1.non hK5
       have hB5 := HI.out.1.non hK5
       have hko := HI.out.2.2.non hK5
       obtain ⟨nj, hnj⟩ : ∃ z, z = n8 cj 32 := ⟨_, rfl⟩
       obtain ⟨bj, hbj⟩ : ∃ z, z = (cj.drop 40).take 88 := ⟨_, rfl⟩
       have hbl : bj.length = 88 := by rw [hbj]; simp; omega
       have HS2 : Hid (lsec T F a (ps.take (j + 1)) = if best < nj then (nj, bj) else (best, out)) := Lib.hid (by rw [HS.out, lstep, ← hnj, ← hbj]; by_cases hb : best < nj <;> simp [hok, hb])
       rw [← hnj]
       rw [← hbj] at hb5
       clear hnj hbj hok hbl5 hK5 HRx HS HI hcl
       by_cases hb : best < nj
       · have d1 : decide (best < nj) = true := decide_eq_true hb
         have hA5 : At w5 (some ⟨b, 0, none⟩) bj := At.blk hb5
         have HS3 : Hid ((nj, bj) = lsec T F a (ps.take (j + 1))) := Lib.hid (by rw [HS2.out, if_pos hb])
         have HL := Lib.hid (And.intro hbl hol)
         have HPv := Lib.hid (show out.take 0 ++ (bj ++ out.drop (0 + bj.length)) = bj by rw [List.take_zero, List.nil_append, Nat.zero_add, HL.out.1, List.drop_of_length_le (by rw [HL.out.2]; omega), List.append_nil])
         clear hbl hol HS2
         go_wp2_with ((with_reducible show wpList _ _ _ ({ dst := some 36, op := _, type := _, pos := _, after := _, guard := _ } :: _) _ _); go_must (refine wpList_copy_bytes rfl (.tmp 34) (.tmp 35) 22 22 rfl 5 Tryz.underlying22 infoS5 (some ⟨ob, 0, none⟩) (some ⟨b, 0, none⟩) 88 88 88 88 rfl rfl ob 0 out 5 hB5 bj (by rw [HL.out.1]; rfl) (fun _ => rfl) hA5 (by rw [HL.out.1, HL.out.2]; omega) ?_); intro w6 hB6 hK6; rw [HPv.out] at hB6)
         have hk6 := hkw.then hK6 fun i hi e => by have := HQ.out; unfold Only at e; omega
         have hko6 := hko.trans hK6
         clear hK6 hkw hB5 hko d1 hA5
         go_roundw
         case rel => exact ⟨j + 1, nj, bj, by omega, by go_num, rfl, HS3.out, HL.out.1, hB6, hk6, hko6⟩
         case measure => simp [intOf]; omega
       · have d1 : decide (best < nj) = false := decide_eq_false hb
         have HS3 : Hid ((best, out) = lsec T F a (ps.take (j + 1))) := Lib.hid (by rw [HS2.out, if_neg hb])
         have HE := Lib.hid (show _ ∧ _ ∧ _ ∧ _ from ⟨hol, hB5, hkw, hko⟩)
         clear hbl hol HS2 hkw hB5 hko hb5
         go_wp2_with fail
         go_roundw
         case rel => exact ⟨j + 1, best, out, by omega, by go_num, rfl, HS3.out, HE.out.1, HE.out.2.1, HE.out.2.2.1, HE.out.2.2.2⟩
         case measure => simp [intOf]; omega
     · have HS3 : Hid ((best, out) = lsec T F a (ps.take (j + 1))) := Lib.hid (by rw [HS.out, lstep, if_neg (fun e => hno e.1)])
       have HE := Lib.hid (show _ ∧ _ ∧ _ ∧ _ from ⟨hol, HI.out.1.non hK5, HI.out.2.1.non hK5, HI.out.2.2.non hK5⟩)
       clear hol HS HI hK5 HRx hno
       go_wp2_with fail
       go_roundw
       case rel => exact ⟨j + 1, best, out, by omega, by go_num, rfl, HS3.out, HE.out.1, HE.out.2.1, HE.out.2.2.1, HE.out.2.2.2⟩
       case measure => simp [intOf]; omega
   · obtain rfl : j = ps.length := by omega
     have hbo := HBO.out
     rw [List.take_length] at hbo
     have HE : Hid (out = (lsec T F a ps).2) := Lib.hid (by rw [← hbo])
     clear hbo HBO
     go_wp2_with fail
     go_ret
     have hq := HQ.out
     exact ⟨ob, rfl, by rw [← HE.out]; exact hB, by omega, hK⟩
end
end Go.Proofs.YtolknnmaadkgiaaGreatDoor
