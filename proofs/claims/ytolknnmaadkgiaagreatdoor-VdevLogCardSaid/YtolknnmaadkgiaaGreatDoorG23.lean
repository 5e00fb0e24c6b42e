/- A tank of one mirror in memory; what it hands on to the mirror. A tank of one mirror: Write, Read, Scrub. -/
import Derived.Test.YtolknnmaadkgiaaGreatDoorG22
import Derived.Deep.RegionHeld3
set_option linter.unusedVariables false
set_option linter.unusedSimpArgs false
namespace Go.Proofs.YtolknnmaadkgiaaGreatDoor
set_option maxRecDepth 100000
open Go.RowKit Go.Uc Go.Shelf
def encI (t : Nat) : List Value := [.iface 183 (.pointer (some ⟨t, 0, none⟩))]
theorem encI_len (t : Nat) : (encI t).length = 1 := rfl
theorem encI_one (t : Nat) : ∀ u ∈ encI t, u.oneCell' = true := by intro u hu; simp [encI] at hu; subst hu; rfl
structure TB where
 made : Sl
 tops : Sl
 lvs : Sl
 dks : Sl
 lf : Sl
 dk : Sl
 t : Nat
 lv : Sl
 kv : Sl
structure Tk (w : World) (k : Nat) (pool : Nat) (tp : Tp) (B : TB) (L Dk : List (Option Nat)) (lk : List Lk) (sz lg : Nat) : Prop where
 blk : Blk w k 99 #[.int .u64 (pool : Int), B.made.v, B.tops.v, B.lvs.v, B.dks.v, .int .u64 (lg : Int)]
 md : RowT w B.made.v [tp]
 mdn : B.made.n = 1
 tr : RowP w 101 1 encI B.tops.v [B.t]
 trn : B.tops.n = 1
 lr : RowP w 91 1 encS B.lvs.v [B.lf]
 lrn : B.lvs.n = 1
 dr : RowP w 35 1 encS B.dks.v [B.dk]
 drn : B.dks.n = 1
 lf : RowP w 93 1 encO B.lf.v L
 lfn : B.lf.n = L.length
 dk : RowP w 49 1 encO B.dk.v Dk
 dkn : B.dk.n = Dk.length
 dkl : Dk.length = L.length
 mt : Mt w B.t B.lv B.kv L lk (sz : Int)
 ne : ∀ q ∈ own B.lf.v, q ∉ own B.lv.v
section
variable {w0 w w' : World} {p m n k pool sz lg : Nat} {tp : Tp} {B : TB} {dv : Sl} {K : Nat → Kb} {T : St} {L Dk : List (Option Nat)} {lk : List Lk} {X : Nat → Lb} {F : Nat → Lr}
theorem Tk.non (h : Tk w k pool tp B L Dk lk sz lg) (hk : Keeps Non w w') : Tk w' k pool tp B L Dk lk sz lg :=
 ⟨h.blk.non hk, h.md.non hk, h.mdn, h.tr.non hk, h.trn, h.lr.non hk, h.lrn, h.dr.non hk, h.drn, h.lf.non hk, h.lfn, h.dk.non hk, h.dkn, h.dkl, h.mt.non hk, h.ne⟩
theorem Tk.fg (h : Tk w k pool tp B L Dk lk sz lg) (hG : Gs w0 w p dv m n K T) (hk : Keeps (Fg w p m K) w w') : Tk w' k pool tp B L Dk lk sz lg :=
 ⟨hG.stay hk h.blk (by decide) (by decide) (by decide), hG.stayRow hk h.md (by decide) (by decide) (by decide), h.mdn, hG.stayRow hk h.tr (by decide) (by decide) (by decide), h.trn, hG.stayRow hk h.lr (by decide) (by decide) (by decide), h.lrn, hG.stayRow hk h.dr (by decide) (by decide) (by decide), h.drn, hG.stayRow hk h.lf (by decide) (by decide) (by decide), h.lfn, hG.stayRow hk h.dk (by decide) (by decide) (by decide), h.dkn, h.dkl, h.mt.fg hG hk, h.ne⟩
theorem Tk.top (h : Tk w k pool tp B L Dk lk sz lg) : ∃ tb, w.cell? ⟨k, 2, none⟩ = some (.slice (some ⟨tb, 0, none⟩) 1 B.tops.c) ∧ w.cell? ⟨tb, 0, none⟩ = some (.iface 183 (.pointer (some ⟨B.t, 0, none⟩))) := by
 obtain ⟨g, cap, e1, -, -, hc, -, -⟩ := h.tr.at_ encI_len (i := 0) (by simp)
 injection e1 with e1 e2 e3
 refine ⟨g, ?_, ?_⟩
 · have : w.cell? ⟨k, 2, none⟩ = some (.slice B.tops.A B.tops.n B.tops.c) := h.blk.cell 2
   rw [e1, h.trn] at this
   exact this
 · have := hc 0 (by decide)
   simpa [encI] using this
set_option maxHeartbeats 1000000 in
theorem wrap_any (t : Nat) (n : Int) (w : World) : Calls Tryz.prog 81 #[.pointer (some ⟨t, 0, none⟩), .int .i64 n] w fun e w' => e = .returned (.tuple #[.iface 183 (.pointer (some ⟨t, 0, none⟩)), .int .i64 n]) ∧ w' = w := by
 go_enter Tryz.func81, Tryz.ntmps81
 go_wp2_with fail
 go_ret2
 exact ⟨rfl, rfl⟩
set_option maxHeartbeats 1000000 in
theorem has_tk (h : Tk w k pool tp B L Dk lk sz lg) : Calls Tryz.prog 51 #[.pointer (some ⟨k, 0, none⟩), .int .i64 0] w fun e w' => e = .returned (.bool true) ∧ w' = w := by
 obtain ⟨tb, c2, -⟩ := h.top
 clear h
 go_enter Tryz.func51, Tryz.ntmps51
 go_wp2_with fail
 go_ret
 exact ⟨rfl, rfl⟩
set_option maxHeartbeats 1000000 in
theorem size_tk (h : Tk w k pool tp B L Dk lk sz lg) : Calls Tryz.prog 27 #[.pointer (some ⟨k, 0, none⟩), .int .i64 0] w fun e w' => e = .returned (.int .i64 (sz : Int)) ∧ w' = w := by
 have HH := Lib.hid (has_tk h)
 have HS := Lib.hid (size_mt h.mt)
 obtain ⟨tb, c2, c0⟩ := h.top
 clear h
 go_enter Tryz.func27, Tryz.ntmps27
 go_wp2_with (first | (go_at_call 51; go_must (refine HH.out.mono ?_); rintro e w3 ⟨rfl, hw3⟩; subst w3) | (go_at_call 284; go_must (refine HS.out.mono ?_); rintro e w3 ⟨rfl, hw3⟩; subst w3))
 go_ret
 exact ⟨rfl, rfl⟩
set_option maxHeartbeats 1000000 in
theorem need_tk (h : Tk w k pool tp B L Dk lk sz lg) (b : Nat) (h1 : 1 ≤ b) (h2 : b ≤ 1024) : Calls Tryz.prog 28 #[.pointer (some ⟨k, 0, none⟩), .int .i64 0, .int .i64 (b : Int)] w fun e w' => e = .returned (.int .i64 (need b : Int)) ∧ w' = w := by
 have HH := Lib.hid (has_tk h)
 have HS := Lib.hid (fun v => need_any v b h1 h2 w)
 obtain ⟨tb, c2, c0⟩ := h.top
 clear h
 go_enter Tryz.func28, Tryz.ntmps28
 go_wp2_with (first | (go_at_call 51; go_must (refine HH.out.mono ?_); rintro e w3 ⟨rfl, hw3⟩; subst w3) | (go_at_call 280; go_must (refine (HS.out _).mono ?_); rintro e w3 ⟨rfl, hw3⟩; subst w3))
 go_ret
 exact ⟨rfl, rfl⟩
set_option maxHeartbeats 1000000 in
theorem pool_tk (h : Tk w k pool tp B L Dk lk sz lg) : Calls Tryz.prog 20 #[.pointer (some ⟨k, 0, none⟩)] w fun e w' => e = .returned (.int .u64 (pool : Int)) ∧ w' = w := by
 have c0 := h.blk.cell 0
 clear h
 go_enter Tryz.func20, Tryz.ntmps20
 go_wp2_with fail
 go_ret
 exact ⟨rfl, rfl⟩
theorem Tk.told (h : Tk w k pool tp B L Dk lk sz lg) {lk' : List Lk} (hM : Mt w' B.t B.lv B.kv L lk' (sz : Int)) (hk : Keeps (fun g => g ∈ own B.kv.v) w w') : Tk w' k pool tp B L Dk lk' sz lg := by
 obtain ⟨cur, hc⟩ : (∃ cur, ∀ q ∈ own B.kv.v, Blk w q 350 cur) := by
   rcases h.mt.kr.form with ⟨e1, -⟩ | ⟨g, cap, cur, e1, hB, -⟩
   · exact ⟨#[], fun q hq => by rw [e1] at hq; exact (List.not_mem_nil hq).elim⟩
   · exact ⟨cur, fun q hq => by rw [e1, own_slice, List.mem_singleton] at hq; subst hq; exact hB⟩
 have st : ∀ {g t : Nat} {cs : Array Value}, Blk w g t cs → t ≠ 350 → Blk w' g t cs := fun hb ht => hb.keep hk fun e => hb.ne (hc _ e) ht rfl
 have sr : ∀ {α : Type} {e : TypeId} {n : Nat} {enc : α → List Value} {v : Value} {xs : List α}, RowP w e n enc v xs → e ≠ 350 → RowP w' e n enc v xs := fun hr he => hr.keep hk fun q hq e => own_type hr (hc q e) (Ne.symm he) hq
 exact ⟨st h.blk (by decide), sr h.md (by decide), h.mdn, sr h.tr (by decide), h.trn, sr h.lr (by decide), h.lrn, sr h.dr (by decide), h.drn, sr h.lf (by decide), h.lfn, sr h.dk (by decide), h.dkn, h.dkl, hM, h.ne⟩
set_option maxHeartbeats 1000000 in
theorem whole_tk (h : Tk w k pool tp B L Dk lk sz lg) (j : Nat) (hj : j < L.length) : Calls Tryz.prog 26 #[.pointer (some ⟨k, 0, none⟩), .int .i64 0, .int .i64 (j : Int)] w fun e w' => e = .returned (.int .i64 0) ∧ Tk w' k pool tp B L Dk (lk.set j Lk.no) sz lg ∧ Keeps (fun g => g ∈ own B.kv.v) w w' := by
 have HH := Lib.hid (has_tk h)
 have HS := Lib.hid (whole_any h.mt j hj)
 obtain ⟨tb, c2, c0⟩ := h.top
 have H := Lib.hid h
 clear h
 go_enter Tryz.func26, Tryz.ntmps26
 go_wp2_with (first | (go_at_call 51; go_must (refine HH.out.mono ?_); rintro e w3 ⟨rfl, hw3⟩; subst w3) | (go_at_call 285; go_must (refine HS.out.mono ?_); rintro e w4 ⟨rfl, hM4, hK4⟩))
 go_ret
 exact ⟨rfl, H.out.told hM4 hK4, hK4⟩
set_option maxHeartbeats 2000000 in
theorem lacks_tk (h : Tk w k pool tp B L Dk lk sz lg) (j : Nat) (hj : j < L.length) (o : Lk) (ho : lk[j]? = some o) : Calls Tryz.prog 23 #[.pointer (some ⟨k, 0, none⟩), .int .i64 0, .int .i64 (j : Int)] w fun e w' => e = .returned (.tuple #[.agg #[.int .u64 (o.f : Int), .int .u64 (o.t : Int)], .bool o.is]) ∧ Keeps Non w w' := by
 have hB := Blk.new w 74 #[.int .u64 0, .int .u64 0]
 have ka := (Keeps.refl Non w).alloc (.cells #[.int .u64 0, .int .u64 0] 74)
 have HH := Lib.hid (has_tk (h.non ka))
 have HS := Lib.hid (lacks_any (h.non ka).mt j hj o ho)
 obtain ⟨tb, c2, c0⟩ := (h.non ka).top
 clear h
 obtain ⟨of, ot, ois⟩ := o
 simp only at HS ⊢
 go_enter Tryz.func23, Tryz.ntmps23
 go_upto_region 1 with fail
 obtain ⟨w1, hw1⟩ : ∃ V : World, V = w.alloc (.cells #[.int .u64 0, .int .u64 0] 74) := ⟨_, rfl⟩
 rw [← hw1] at hB ka HH HS c2 c0 ⊢
 clear hw1
 obtain ⟨q, hq⟩ : ∃ z, z = w.heap.size := ⟨_, rfl⟩
 rw [← hq] at hB ⊢
 have HQ := Lib.hid hq
 clear hq
 go_wp2_with (first | (go_at_call 51; go_must (refine HH.out.mono ?_); rintro e w3 ⟨rfl, hw3⟩; subst w3) | (go_at_call 279; go_must (refine HS.out.mono ?_); rintro e w4 ⟨rfl, hK4⟩; have hB4 := hB.non hK4; have z0 := hB4.cell 0; have z1 := hB4.cell 1; have f0 := hB4.frozen 0; have f1 := hB4.frozen 1))
 have hB5 := (hB4.set 0 (.int .u64 (of : Int))).set 1 (.int .u64 (ot : Int))
 have k5 : Keeps (Only q) w4 ((w4.setCell ⟨q, 0, none⟩ (.int .u64 (of : Int))).setCell ⟨q, 1, none⟩ (.int .u64 (ot : Int))) := ((Keeps.refl (Only q) _).set (p := ⟨q, 0, none⟩) rfl _).set (p := ⟨q, 1, none⟩) rfl _
 have hqw := HQ.out
 refine bodyPost_ret (results_cell_tmp (ty := 74) rfl _ q 74 _ _ rfl hB5 Tryz.underlying74 rfl (by kernel_rfl)) rfl ⟨rfl, (ka.non hK4).then k5 fun i hi e => by unfold Only at e; omega⟩
set_option maxHeartbeats 4000000 in
theorem flush_tk (h : Tk w k pool tp B L Dk lk sz lg) (hG : Gs w0 w p dv m n K T) (hL : Lvs w0 w m K X F L) (h0L : 0 < L.length) (hP : pres L L.length ≠ []) (ho : T.P.on) (hw : T.P.waits.length ≤ 1000000000) :
   Calls Tryz.prog 9 #[.pointer (some ⟨k, 0, none⟩)] w fun e w' => e = .returned (.int .i64 0) ∧ Gs w0 w' p dv m n K (T.flN K ((pres L L.length).map fun x => (F x.1).ix)) ∧ Keeps (Fg w p m K) w w' := by
 have HF := Lib.hid (flush_mt h.mt hG hL h0L hP ho hw)
 obtain ⟨tb, c2, c0⟩ := h.top
 have HG := Lib.hid hG
 clear h hG hL hP
 go_enter Tryz.func9, Tryz.ntmps9
 go_upto_region 2 with fail
 go_loopw [11] (fun i wr => ∃ j : Nat, j ≤ 1 ∧ i = .int .i64 (j : Int) ∧ (j = 0 → wr = w) ∧ (j = 1 → Gs w0 wr p dv m n K (T.flN K ((pres L L.length).map fun x => (F x.1).ix)) ∧ Keeps (Fg w p m K) w wr)) (fun i _ => 1 - (intOf i).toNat)
 case atStart => exact ⟨0, by omega, rfl, fun _ => rfl, fun e => by omega⟩
 case round =>
   obtain ⟨j, hj, rfl, h0, h1⟩ := hrel
   by_cases hj0 : j = 0
   · obtain rfl := h0 hj0
     subst hj0
     clear h0 h1
     go_wp2_with (go_at_call 278; go_must (refine HF.out.mono ?_); rintro e w4 ⟨rfl, hG4, hK4⟩)
     go_roundw
     case rel => exact ⟨1, by omega, by go_num, fun e => by omega, fun _ => ⟨hG4, hK4⟩⟩
     case measure => simp [intOf]
   · obtain rfl : j = 1 := by omega
     obtain ⟨hG1, hK1⟩ := h1 rfl
     clear h0 h1
     go_wp2_with fail
     go_ret
     exact ⟨rfl, hG1, hK1⟩
end
end Go.Proofs.YtolknnmaadkgiaaGreatDoor
namespace Go.Proofs.YtolknnmaadkgiaaGreatDoor
set_option maxRecDepth 100000
open Go.RowKit Go.Uc Go.Shelf
section
variable {w0 w w' : World} {p m n k pool sz lg : Nat} {tp : Tp} {B : TB} {dv : Sl} {K : Nat → Kb} {T : St} {L Dk : List (Option Nat)} {lk : List Lk} {X : Nat → Lb} {F : Nat → Lr}
theorem Tk.hd (h : Tk w k pool tp B L Dk lk sz lg) : ∃ tb, B.tops.A = some ⟨tb, 0, none⟩ := by
 obtain ⟨g, cap, e1, -, -, hc, -, -⟩ := h.tr.at_ encI_len (i := 0) (by simp)
 injection e1 with e1 _ _
 exact ⟨g, e1⟩
theorem Tk.cellT (h : Tk w k pool tp B L Dk lk sz lg) {tb : Nat} (hg : B.tops.A = some ⟨tb, 0, none⟩) : w.cell? ⟨k, 2, none⟩ = some (.slice (some ⟨tb, 0, none⟩) 1 B.tops.c) ∧ w.cell? ⟨tb, 0, none⟩ = some (.iface 183 (.pointer (some ⟨B.t, 0, none⟩))) := by
 obtain ⟨g, h1, h2⟩ := h.top
 have : w.cell? ⟨k, 2, none⟩ = some (.slice B.tops.A B.tops.n B.tops.c) := h.blk.cell 2
 rw [h1, hg] at this
 injection this with this
 injection this with e1 _ _
 injection e1 with e1
 injection e1 with e1
 subst e1
 exact ⟨h1, h2⟩
set_option maxHeartbeats 4000000 in
theorem write_tk (h : Tk w k pool tp B L Dk lk sz lg) (hG : Gs w0 w p dv m n K T) (hL : Lvs w0 w m K X F L) (hall : ∀ k, k < L.length → ∃ b, L[k]? = some (some b)) (h0 : 0 < L.length) (hn : 324 ≤ n) (hsz : sz = n - 292) (ho : T.P.on) (hw : T.P.waits.length ≤ 900000000)
   (a : Nat) (b : List UInt8) (h1 : 1 ≤ b.length) (h2 : b.length ≤ 1024) (ha : a + need b.length ≤ sz) (kd : Nat) (s : S4) (tx : Nat) (ht1 : 1 ≤ tx) (ht2 : tx ≤ 281474976710656) (A : Option Addr) (c : Nat) (hA : At w A b) (hF : Far w p m K A)
   (hO : ∀ V, At V A b → Calls Tryz.prog 52 #[.int .i64 (kd : Int), .slice A b.length c] V fun e w' => e = .returned (.tuple #[.agg #[.int .u64 (s.a : Int), .int .u64 (s.b : Int), .int .u64 (s.c : Int), .int .u64 (s.d : Int)], .int .i64 0]) ∧ Keeps Non V w') :
   Calls Tryz.prog 16 #[.pointer (some ⟨k, 0, none⟩), .int .i64 0, .int .i64 (a : Int), .slice A b.length c, .int .i64 (kd : Int), .int .u64 (tx : Int)] w fun e w' => ∃ W, e = .returned (.tuple #[.agg #[.int .i64 0, .int .i64 (a : Int), .int .i64 (b.length : Int), .int .u64 (tx : Int), .int .i64 (kd : Int), .int .u64 (s.a : Int), .int .u64 (s.b : Int), .int .u64 (s.c : Int), .int .u64 (s.d : Int)], .int .i64 0]) ∧ Gs w0 w' p dv m n K (T.all (ixs F L.length) (fun f => updN f (274 + a) (need b.length) (pad b)) W) ∧ W.length ≤ 8 * L.length ∧ Of K (ixs F L.length) W ∧ Keeps (Fg w p m K) w w' := by
 have hB := Blk.new w 58 #[.int .i64 0, .int .i64 0, .int .i64 0, .int .u64 0, .int .i64 0, .int .u64 0, .int .u64 0, .int .u64 0, .int .u64 0]
 have ka := (Keeps.refl Non w).alloc (.cells #[.int .i64 0, .int .i64 0, .int .i64 0, .int .u64 0, .int .i64 0, .int .u64 0, .int .u64 0, .int .u64 0, .int .u64 0] 58)
 obtain ⟨tb, htb⟩ := h.hd
 have HT := Lib.hid (fun V (hV : Keeps Non w V) => (h.non hV).cellT htb)
 have HH := Lib.hid (has_tk (h.non ka))
 have HO := Lib.hid (hO _ (hA.non ka))
 have HW := Lib.hid (fun V (hV : Keeps Non w V) => write_mt (h.non hV).mt (hG.non hV) (hL.non hV) hall h0 hn (by rw [hsz]) ho hw a b h1 h2 ha tx ht1 ht2 A c (hA.non hV) (hF.fg (fg_non hV)))
 have HG := Lib.hid hG
 have hG0 := hG.keep.size
 clear h hG hL hall hA hF hO htb ha
 go_enter Tryz.func16, Tryz.ntmps16
 go_upto_region 1 with fail
 obtain ⟨w1, hw1⟩ : ∃ V : World, V = w.alloc (.cells #[.int .i64 0, .int .i64 0, .int .i64 0, .int .u64 0, .int .i64 0, .int .u64 0, .int .u64 0, .int .u64 0, .int .u64 0] 58) := ⟨_, rfl⟩
 rw [← hw1] at hB ka HH HO ⊢
 clear hw1
 obtain ⟨q, hq⟩ : ∃ z, z = w.heap.size := ⟨_, rfl⟩
 rw [← hq] at hB ⊢
 have HQ := Lib.hid hq
 clear hq
 go_upto_region 3 with ((go_at_call 51; go_must (refine HH.out.mono ?_); rintro e w3 ⟨rfl, hw3⟩; subst w3))
 go_upto_region 4 with ((go_at_call 52; go_must (refine HO.out.mono ?_); rintro e w4 ⟨rfl, hK4⟩))
 have hS := Blk.new w4 56 #[.int .u64 (s.a : Int), .int .u64 (s.b : Int), .int .u64 (s.c : Int), .int .u64 (s.d : Int)]
 have k5 := (ka.non hK4).alloc (.cells #[.int .u64 (s.a : Int), .int .u64 (s.b : Int), .int .u64 (s.c : Int), .int .u64 (s.d : Int)] 56)
 have hB5 := (hB.non hK4).non ((Keeps.refl Non w4).alloc (.cells #[.int .u64 (s.a : Int), .int .u64 (s.b : Int), .int .u64 (s.c : Int), .int .u64 (s.d : Int)] 56))
 obtain ⟨w5, hw5⟩ : ∃ V : World, V = w4.alloc (.cells #[.int .u64 (s.a : Int), .int .u64 (s.b : Int), .int .u64 (s.c : Int), .int .u64 (s.d : Int)] 56) := ⟨_, rfl⟩
 rw [← hw5] at hS k5 hB5 ⊢
 clear hw5
 obtain ⟨r, hr⟩ : ∃ z, z = w4.heap.size := ⟨_, rfl⟩
 rw [← hr] at hS ⊢
 clear hr
 obtain ⟨t2, t0⟩ := HT.out w5 k5
 have HW5 := Lib.hid (HW.out w5 k5)
 have HG5 := Lib.hid (HG.out.non k5)
 clear HW HG HT hK4 hB ka HH HO
 go_upto_region 6 with ((go_at_call 286; go_must (refine HW5.out.mono ?_); rintro e w6 ⟨W, rfl, hG6, hW6, hO6, hK6⟩))
 have hS6 := HG5.out.stay hK6 hS (by decide) (by decide) (by decide)
 have hB6 := HG5.out.stay hK6 hB5 (by decide) (by decide) (by decide)
 have z0 := hS6.cell 0
 have z1 := hS6.cell 1
 have z2 := hS6.cell 2
 have z3 := hS6.cell 3
 have HR := Lib.hid (And.intro hG6 (And.intro hW6 (And.intro hO6 hK6)))
 clear hG6 hW6 hO6 hK6 hS hB5 hS6
 go_upto_region 8 with fail
 go_wp2_with ((with_reducible show wpList _ _ _ ({ dst := none, op := Op.store 58 _ _, type := _, pos := _, after := _, guard := _ } :: _) _ _); go_must (refine wpList_store_blk rfl 58 (.tmp 12) (.tmp 51) rfl q #[.int .i64 0, .int .i64 (a : Int), .int .i64 (b.length : Int), .int .u64 (tx : Int), .int .i64 (kd : Int), .int .u64 (s.a : Int), .int .u64 (s.b : Int), .int .u64 (s.c : Int), .int .u64 (s.d : Int)] rfl rfl 58 _ hB6 (by kernel_rfl) rfl (by kernel_rfl) ?_); intro w7 hB7 hK7)
 have hqw := HQ.out
 refine bodyPost_ret (results_cell_tmp (ty := 58) rfl _ q 58 _ _ rfl hB7 Tryz.underlying58 rfl (by kernel_rfl)) rfl ⟨W, rfl, HR.out.1.far hB6 (by decide) (by decide) (by decide) (by decide) (by decide) (by omega) hK7, HR.out.2.1, HR.out.2.2.1, (fg_trans (fg_non k5) HR.out.2.2.2).then hK7 fun i hi e => by unfold Only at e; omega⟩
set_option maxHeartbeats 4000000 in
theorem may_tk (h : Tk w k pool tp B L Dk lk sz lg) (r : Pt) (hr : r.may) (h0 : r.t = 0) : Calls Tryz.prog 56 #[.pointer (some ⟨k, 0, none⟩), .agg #[.int .i64 (r.t : Int), .int .i64 (r.at_ : Int), .int .i64 (r.n : Int), .int .u64 (r.bi : Int), .int .i64 (r.k : Int), .int .u64 (r.s.a : Int), .int .u64 (r.s.b : Int), .int .u64 (r.s.c : Int), .int .u64 (r.s.d : Int)]] w fun e w' => e = .returned (.bool true) ∧ Keeps Non w w' := by
 have hB := Blk.new w 58 #[.int .i64 (r.t : Int), .int .i64 (r.at_ : Int), .int .i64 (r.n : Int), .int .u64 (r.bi : Int), .int .i64 (r.k : Int), .int .u64 (r.s.a : Int), .int .u64 (r.s.b : Int), .int .u64 (r.s.c : Int), .int .u64 (r.s.d : Int)]
 have ka := (Keeps.refl Non w).alloc (.cells #[.int .i64 (r.t : Int), .int .i64 (r.at_ : Int), .int .i64 (r.n : Int), .int .u64 (r.bi : Int), .int .i64 (r.k : Int), .int .u64 (r.s.a : Int), .int .u64 (r.s.b : Int), .int .u64 (r.s.c : Int), .int .u64 (r.s.d : Int)] 58)
 have HC := Lib.hid (fun V => check107_any r (.inr hr) V)
 have HH : Hid (∀ V, Keeps Non w V → Calls Tryz.prog 51 #[.pointer (some ⟨k, 0, none⟩), .int .i64 (r.t : Int)] V fun e w' => e = .returned (.bool true) ∧ w' = V) := Lib.hid (fun V (hV : Keeps Non w V) => by rw [h0]; exact has_tk (h.non hV))
 obtain ⟨h1, h2, h3, h4, h5, h6, h7, h8⟩ := hr
 clear h h0
 go_enter Tryz.func56, Tryz.ntmps56
 go_upto_region 1 with fail
 obtain ⟨w1, hw1⟩ : ∃ V : World, V = w.alloc (.cells #[.int .i64 (r.t : Int), .int .i64 (r.at_ : Int), .int .i64 (r.n : Int), .int .u64 (r.bi : Int), .int .i64 (r.k : Int), .int .u64 (r.s.a : Int), .int .u64 (r.s.b : Int), .int .u64 (r.s.c : Int), .int .u64 (r.s.d : Int)] 58) := ⟨_, rfl⟩
 rw [← hw1] at hB ka ⊢
 clear hw1
 obtain ⟨pb, hpb⟩ : ∃ z, z = w.heap.size := ⟨_, rfl⟩
 rw [← hpb] at hB ⊢
 clear hpb
 have y0 : w1.cell? ⟨pb, 0, none⟩ = some (.int .i64 (r.t : Int)) := hB.cell 0
 have y1 : w1.cell? ⟨pb, 1, none⟩ = some (.int .i64 (r.at_ : Int)) := hB.cell 1
 have y2 : w1.cell? ⟨pb, 2, none⟩ = some (.int .i64 (r.n : Int)) := hB.cell 2
 have y3 : w1.cell? ⟨pb, 3, none⟩ = some (.int .u64 (r.bi : Int)) := hB.cell 3
 have y4 : w1.cell? ⟨pb, 4, none⟩ = some (.int .i64 (r.k : Int)) := hB.cell 4
 have y5 : w1.cell? ⟨pb, 5, none⟩ = some (.int .u64 (r.s.a : Int)) := hB.cell 5
 have y6 : w1.cell? ⟨pb, 6, none⟩ = some (.int .u64 (r.s.b : Int)) := hB.cell 6
 have y7 : w1.cell? ⟨pb, 7, none⟩ = some (.int .u64 (r.s.c : Int)) := hB.cell 7
 have y8 : w1.cell? ⟨pb, 8, none⟩ = some (.int .u64 (r.s.d : Int)) := hB.cell 8
 have z1 : ¬ (r.n : Int) = 0 := by omega
 have HQ := Lib.hid hB
 have HC1 := Lib.hid (HC.out w1)
 go_wp2_with (first
   | (go_at_call 95; go_must (refine HC1.out.mono ?_); rintro e w4 ⟨rfl, hK4⟩; have x0 : w4.cell? ⟨pb, 0, none⟩ = some (.int .i64 (r.t : Int)) := (HQ.out.non hK4).cell 0; have HH4 := Lib.hid (HH.out w4 (ka.non hK4)))
   | (go_at_call 51; go_must (refine HH4.out.mono ?_); rintro e w5 ⟨rfl, hw5⟩; subst w5))
 go_ret
 exact ⟨rfl, ka.non hK4⟩
set_option maxHeartbeats 4000000 in
theorem read_tk (h : Tk w k pool tp B L Dk lk (n - 292) lg) (hG : Gs w0 w p dv m n K T) (hL : Lvs w0 w m K X F L) (h0L : 0 < L.length) (hP : pres L L.length ≠ []) (hn : 324 ≤ n) (hn8 : n ≤ 8192) (ho : T.P.off = false)
   (r : Pt) (hr : r.may) (h0 : r.t = 0) (D : List UInt8) (hR : Right n T L F r.at_ r.n r.k r.s D) :
   Calls Tryz.prog 19 #[.pointer (some ⟨k, 0, none⟩), .agg #[.int .i64 (r.t : Int), .int .i64 (r.at_ : Int), .int .i64 (r.n : Int), .int .u64 (r.bi : Int), .int .i64 (r.k : Int), .int .u64 (r.s.a : Int), .int .u64 (r.s.b : Int), .int .u64 (r.s.c : Int), .int .u64 (r.s.d : Int)]] w fun e w' => ∃ g, e = .returned (.tuple #[.slice (some ⟨g, 0, none⟩) r.n r.n, .int .i64 0]) ∧ Blk w' g 5 (pc D) ∧ w.heap.size ≤ g ∧ Keeps Non w w' := by
 have hB := Blk.new w 58 #[.int .i64 (r.t : Int), .int .i64 (r.at_ : Int), .int .i64 (r.n : Int), .int .u64 (r.bi : Int), .int .i64 (r.k : Int), .int .u64 (r.s.a : Int), .int .u64 (r.s.b : Int), .int .u64 (r.s.c : Int), .int .u64 (r.s.d : Int)]
 have ka := (Keeps.refl Non w).alloc (.cells #[.int .i64 (r.t : Int), .int .i64 (r.at_ : Int), .int .i64 (r.n : Int), .int .u64 (r.bi : Int), .int .i64 (r.k : Int), .int .u64 (r.s.a : Int), .int .u64 (r.s.b : Int), .int .u64 (r.s.c : Int), .int .u64 (r.s.d : Int)] 58)
 have HM := Lib.hid (may_tk (h.non ka) r hr h0)
 obtain ⟨tb, htb⟩ := h.hd
 have HT := Lib.hid (fun V (hV : Keeps Non w V) => (h.non hV).cellT htb)
 have HC := Lib.hid (fun V (hV : Keeps Non w V) => read_mt (h.non hV).mt (hG.non hV) (hL.non hV) h0L hP hn hn8 ho r.at_ r.n r.k r.s D ⟨hR.h1, hR.h2, hR.ha, hR.hk, hR.hD, hR.ck⟩)
 have H0 := Lib.hid h0
 clear h hG hL hR hr h0 htb hP
 go_enter Tryz.func19, Tryz.ntmps19
 go_upto_region 1 with fail
 obtain ⟨w1, hw1⟩ : ∃ V : World, V = w.alloc (.cells #[.int .i64 (r.t : Int), .int .i64 (r.at_ : Int), .int .i64 (r.n : Int), .int .u64 (r.bi : Int), .int .i64 (r.k : Int), .int .u64 (r.s.a : Int), .int .u64 (r.s.b : Int), .int .u64 (r.s.c : Int), .int .u64 (r.s.d : Int)] 58) := ⟨_, rfl⟩
 rw [← hw1] at hB ka HM ⊢
 clear hw1
 obtain ⟨pb, hpb⟩ : ∃ z, z = w.heap.size := ⟨_, rfl⟩
 rw [← hpb] at hB ⊢
 clear hpb
 have y0 : w1.cell? ⟨pb, 0, none⟩ = some (.int .i64 (r.t : Int)) := hB.cell 0
 have y1 : w1.cell? ⟨pb, 1, none⟩ = some (.int .i64 (r.at_ : Int)) := hB.cell 1
 have y2 : w1.cell? ⟨pb, 2, none⟩ = some (.int .i64 (r.n : Int)) := hB.cell 2
 have y3 : w1.cell? ⟨pb, 3, none⟩ = some (.int .u64 (r.bi : Int)) := hB.cell 3
 have y4 : w1.cell? ⟨pb, 4, none⟩ = some (.int .i64 (r.k : Int)) := hB.cell 4
 have y5 : w1.cell? ⟨pb, 5, none⟩ = some (.int .u64 (r.s.a : Int)) := hB.cell 5
 have y6 : w1.cell? ⟨pb, 6, none⟩ = some (.int .u64 (r.s.b : Int)) := hB.cell 6
 have y7 : w1.cell? ⟨pb, 7, none⟩ = some (.int .u64 (r.s.c : Int)) := hB.cell 7
 have y8 : w1.cell? ⟨pb, 8, none⟩ = some (.int .u64 (r.s.d : Int)) := hB.cell 8
 go_upto_region 3 with (go_at_call 56; go_must (refine HM.out.mono ?_); rintro e w4 ⟨rfl, hK4⟩)
 have HF : Hid (∀ V, Keeps Non w4 V → V.cell? ⟨k, 2, none⟩ = some (.slice (some ⟨tb, 0, none⟩) 1 B.tops.c) ∧ V.cell? ⟨tb, 0, none⟩ = some (.iface 183 (.pointer (some ⟨B.t, 0, none⟩))) ∧ V.cell? ⟨pb, 0, none⟩ = some (.int .i64 (0 : Int)) ∧ V.cell? ⟨pb, 1, none⟩ = some (.int .i64 (r.at_ : Int)) ∧ V.cell? ⟨pb, 2, none⟩ = some (.int .i64 (r.n : Int)) ∧ V.cell? ⟨pb, 4, none⟩ = some (.int .i64 (r.k : Int)) ∧ V.cell? ⟨pb, 5, none⟩ = some (.int .u64 (r.s.a : Int)) ∧ V.cell? ⟨pb, 6, none⟩ = some (.int .u64 (r.s.b : Int)) ∧ V.cell? ⟨pb, 7, none⟩ = some (.int .u64 (r.s.c : Int)) ∧ V.cell? ⟨pb, 8, none⟩ = some (.int .u64 (r.s.d : Int))) := Lib.hid (fun V hV => by
   obtain ⟨t2, t0⟩ := HT.out V (ka.non (hK4.trans hV))
   have hB4 := hB.non (hK4.trans hV)
   exact ⟨t2, t0, by have := hB4.cell 0; rw [H0.out] at this; exact this, hB4.cell 1, hB4.cell 2, hB4.cell 4, hB4.cell 5, hB4.cell 6, hB4.cell 7, hB4.cell 8⟩)
 have HC4 := Lib.hid (HC.out w4.drew (ka.non hK4).drew)
 have hsz := (ka.non hK4).size
 have hkd := (ka.non hK4).drew
 have FS := Lib.hid (HF.out w4.drew (Keeps.refl Non w4).drew)
 clear hB ka HM HT HC y0 y1 y2 y3 y4 y5 y6 y7 y8
 go_region_held3 (fun w' : World => w'.cell? ⟨k, 2, none⟩ = some (.slice (some ⟨tb, 0, none⟩) 1 B.tops.c) ∧ w'.cell? ⟨tb, 0, none⟩ = some (.iface 183 (.pointer (some ⟨B.t, 0, none⟩))) ∧ w'.cell? ⟨pb, 0, none⟩ = some (.int .i64 (0 : Int)) ∧ w'.cell? ⟨pb, 1, none⟩ = some (.int .i64 (r.at_ : Int)) ∧ w'.cell? ⟨pb, 2, none⟩ = some (.int .i64 (r.n : Int)) ∧ w'.cell? ⟨pb, 4, none⟩ = some (.int .i64 (r.k : Int)) ∧ w'.cell? ⟨pb, 5, none⟩ = some (.int .u64 (r.s.a : Int)) ∧ w'.cell? ⟨pb, 6, none⟩ = some (.int .u64 (r.s.b : Int)) ∧ w'.cell? ⟨pb, 7, none⟩ = some (.int .u64 (r.s.c : Int)) ∧ w'.cell? ⟨pb, 8, none⟩ = some (.int .u64 (r.s.d : Int)))
   (with_reducible (exact FS.out))
   (first | (go_at_call 282; refine HC4.out.mono ?_; rintro e w6 ⟨g, rfl, hB6, hg6, hK6⟩; go_must (replace FS := Lib.hid (HF.out w6 ((Keeps.refl Non w4).drew.trans hK6)))))
 go_wp2_with fail
 go_ret2
 exact ⟨g, rfl, hB6, by have := hkd.size; omega, hkd.non hK6⟩
set_option maxHeartbeats 4000000 in
theorem scrub_tk (h : Tk w k pool tp B L Dk lk (n - 292) lg) (hG : Gs w0 w p dv m n K T) (hL : Lvs w0 w m K X F L) (h0L : 0 < L.length) (hP : pres L L.length ≠ []) (hn : 324 ≤ n) (hn8 : n ≤ 8192) (ho : T.P.off = false)
   (r : Pt) (hr : r.may) (h0 : r.t = 0) (D : List UInt8) (hR : Right n T L F r.at_ r.n r.k r.s D) :
   Calls Tryz.prog 24 #[.pointer (some ⟨k, 0, none⟩), .agg #[.int .i64 (r.t : Int), .int .i64 (r.at_ : Int), .int .i64 (r.n : Int), .int .u64 (r.bi : Int), .int .i64 (r.k : Int), .int .u64 (r.s.a : Int), .int .u64 (r.s.b : Int), .int .u64 (r.s.c : Int), .int .u64 (r.s.d : Int)]] w fun e w' => e = .returned (.tuple #[.int .i64 0, .int .i64 0]) ∧ Keeps Non w w' := by
 have hB := Blk.new w 58 #[.int .i64 (r.t : Int), .int .i64 (r.at_ : Int), .int .i64 (r.n : Int), .int .u64 (r.bi : Int), .int .i64 (r.k : Int), .int .u64 (r.s.a : Int), .int .u64 (r.s.b : Int), .int .u64 (r.s.c : Int), .int .u64 (r.s.d : Int)]
 have ka := (Keeps.refl Non w).alloc (.cells #[.int .i64 (r.t : Int), .int .i64 (r.at_ : Int), .int .i64 (r.n : Int), .int .u64 (r.bi : Int), .int .i64 (r.k : Int), .int .u64 (r.s.a : Int), .int .u64 (r.s.b : Int), .int .u64 (r.s.c : Int), .int .u64 (r.s.d : Int)] 58)
 have HM := Lib.hid (may_tk (h.non ka) r hr h0)
 obtain ⟨tb, htb⟩ := h.hd
 have HT := Lib.hid (fun V (hV : Keeps Non w V) => (h.non hV).cellT htb)
 have HC := Lib.hid (fun V (hV : Keeps Non w V) => scrub_mt (h.non hV).mt (hG.non hV) (hL.non hV) h0L hP hn hn8 ho r.at_ r.n r.k r.s D ⟨hR.h1, hR.h2, hR.ha, hR.hk, hR.hD, hR.ck⟩)
 have H0 := Lib.hid h0
 clear h hG hL hR hr h0 htb hP
 go_enter Tryz.func24, Tryz.ntmps24
 go_upto_region 1 with fail
 obtain ⟨w1, hw1⟩ : ∃ V : World, V = w.alloc (.cells #[.int .i64 (r.t : Int), .int .i64 (r.at_ : Int), .int .i64 (r.n : Int), .int .u64 (r.bi : Int), .int .i64 (r.k : Int), .int .u64 (r.s.a : Int), .int .u64 (r.s.b : Int), .int .u64 (r.s.c : Int), .int .u64 (r.s.d : Int)] 58) := ⟨_, rfl⟩
 rw [← hw1] at hB ka HM ⊢
 clear hw1
 obtain ⟨pb, hpb⟩ : ∃ z, z = w.heap.size := ⟨_, rfl⟩
 rw [← hpb] at hB ⊢
 clear hpb
 have y0 : w1.cell? ⟨pb, 0, none⟩ = some (.int .i64 (r.t : Int)) := hB.cell 0
 have y1 : w1.cell? ⟨pb, 1, none⟩ = some (.int .i64 (r.at_ : Int)) := hB.cell 1
 have y2 : w1.cell? ⟨pb, 2, none⟩ = some (.int .i64 (r.n : Int)) := hB.cell 2
 have y3 : w1.cell? ⟨pb, 3, none⟩ = some (.int .u64 (r.bi : Int)) := hB.cell 3
 have y4 : w1.cell? ⟨pb, 4, none⟩ = some (.int .i64 (r.k : Int)) := hB.cell 4
 have y5 : w1.cell? ⟨pb, 5, none⟩ = some (.int .u64 (r.s.a : Int)) := hB.cell 5
 have y6 : w1.cell? ⟨pb, 6, none⟩ = some (.int .u64 (r.s.b : Int)) := hB.cell 6
 have y7 : w1.cell? ⟨pb, 7, none⟩ = some (.int .u64 (r.s.c : Int)) := hB.cell 7
 have y8 : w1.cell? ⟨pb, 8, none⟩ = some (.int .u64 (r.s.d : Int)) := hB.cell 8
 go_upto_region 3 with (go_at_call 56; go_must (refine HM.out.mono ?_); rintro e w4 ⟨rfl, hK4⟩)
 have HF : Hid (∀ V, Keeps Non w4 V → V.cell? ⟨k, 2, none⟩ = some (.slice (some ⟨tb, 0, none⟩) 1 B.tops.c) ∧ V.cell? ⟨tb, 0, none⟩ = some (.iface 183 (.pointer (some ⟨B.t, 0, none⟩))) ∧ V.cell? ⟨pb, 0, none⟩ = some (.int .i64 (0 : Int)) ∧ V.cell? ⟨pb, 1, none⟩ = some (.int .i64 (r.at_ : Int)) ∧ V.cell? ⟨pb, 2, none⟩ = some (.int .i64 (r.n : Int)) ∧ V.cell? ⟨pb, 4, none⟩ = some (.int .i64 (r.k : Int)) ∧ V.cell? ⟨pb, 5, none⟩ = some (.int .u64 (r.s.a : Int)) ∧ V.cell? ⟨pb, 6, none⟩ = some (.int .u64 (r.s.b : Int)) ∧ V.cell? ⟨pb, 7, none⟩ = some (.int .u64 (r.s.c : Int)) ∧ V.cell? ⟨pb, 8, none⟩ = some (.int .u64 (r.s.d : Int))) := Lib.hid (fun V hV => by
   obtain ⟨t2, t0⟩ := HT.out V (ka.non (hK4.trans hV))
   have hB4 := hB.non (hK4.trans hV)
   exact ⟨t2, t0, by have := hB4.cell 0; rw [H0.out] at this; exact this, hB4.cell 1, hB4.cell 2, hB4.cell 4, hB4.cell 5, hB4.cell 6, hB4.cell 7, hB4.cell 8⟩)
 have HC4 := Lib.hid (HC.out w4.drew (ka.non hK4).drew)
 have hsz := (ka.non hK4).size
 have hkd := (ka.non hK4).drew
 have FS := Lib.hid (HF.out w4.drew (Keeps.refl Non w4).drew)
 clear hB ka HM HT HC y0 y1 y2 y3 y4 y5 y6 y7 y8
 go_region_held3 (fun w' : World => w'.cell? ⟨k, 2, none⟩ = some (.slice (some ⟨tb, 0, none⟩) 1 B.tops.c) ∧ w'.cell? ⟨tb, 0, none⟩ = some (.iface 183 (.pointer (some ⟨B.t, 0, none⟩))) ∧ w'.cell? ⟨pb, 0, none⟩ = some (.int .i64 (0 : Int)) ∧ w'.cell? ⟨pb, 1, none⟩ = some (.int .i64 (r.at_ : Int)) ∧ w'.cell? ⟨pb, 2, none⟩ = some (.int .i64 (r.n : Int)) ∧ w'.cell? ⟨pb, 4, none⟩ = some (.int .i64 (r.k : Int)) ∧ w'.cell? ⟨pb, 5, none⟩ = some (.int .u64 (r.s.a : Int)) ∧ w'.cell? ⟨pb, 6, none⟩ = some (.int .u64 (r.s.b : Int)) ∧ w'.cell? ⟨pb, 7, none⟩ = some (.int .u64 (r.s.c : Int)) ∧ w'.cell? ⟨pb, 8, none⟩ = some (.int .u64 (r.s.d : Int)))
   (with_reducible (exact FS.out))
   (first | (go_at_call 283; refine HC4.out.mono ?_; rintro e w6 ⟨rfl, hK6⟩; go_must (replace FS := Lib.hid (HF.out w6 ((Keeps.refl Non w4).drew.trans hK6)))))
 go_wp2_with fail
 go_ret2
 exact ⟨rfl, hkd.non hK6⟩
end
end Go.Proofs.YtolknnmaadkgiaaGreatDoor
