/- A mirror's copies of a block looked at: all are right. A mirror read, and scrubbed, where all is right. The document's power, and a disk upon it, made. -/
import Derived.Test.YtolknnmaadkgiaaGreatDoorG21
import Derived.WalkSpells
import Derived.Test.YtolknnmaadkgiaaGreatDoorG18
set_option linter.unusedVariables false
set_option linter.unusedSimpArgs false
namespace Go.Proofs.YtolknnmaadkgiaaGreatDoor
set_option maxRecDepth 100000
open Go.RowKit Go.Uc Go.Shelf
attribute [local go_sem] Oper.semAt_some
def lays (w : World) (l : List (Array Value × TypeId)) : World := l.foldl (fun w x => w.alloc (.cells x.1 x.2)) w
theorem lays_get : ∀ (l : List (Array Value × TypeId)) (w : World), (lays w l).heap.size = w.heap.size + l.length ∧ Keeps Non w (lays w l) ∧ ∀ i (h : i < l.length), Blk (lays w l) (w.heap.size + i) l[i].2 l[i].1
 | [], w => ⟨rfl, Keeps.refl _ _, fun i h => absurd h (by simp)⟩
 | x :: l, w => by
   obtain ⟨h1, h2, h3⟩ := lays_get l (w.alloc (.cells x.1 x.2))
   have hk := (Keeps.refl Non w).alloc (.cells x.1 x.2)
   have hz : (w.alloc (.cells x.1 x.2)).heap.size = w.heap.size + 1 := by simp
   show (lays (w.alloc (.cells x.1 x.2)) l).heap.size = _ ∧ Keeps Non w (lays (w.alloc (.cells x.1 x.2)) l) ∧ ∀ i (h : i < (x :: l).length), Blk (lays (w.alloc (.cells x.1 x.2)) l) (w.heap.size + i) ((x :: l)[i]).2 ((x :: l)[i]).1
   refine ⟨by rw [h1, hz, List.length_cons]; omega, hk.non h2, fun i h => ?_⟩
   cases i with
   | zero => exact (Blk.new w x.2 x.1).non h2
   | succ i =>
     have := h3 i (by simpa using h)
     rw [hz, show w.heap.size + 1 + i = w.heap.size + (i + 1) by omega] at this
     exact this
section
variable {w0 w w' : World} {p m n t : Nat} {dv lv kv wv : Sl} {K : Nat → Kb} {T : St} {L : List (Option Nat)} {lk : List Lk} {X : Nat → Lb} {F : Nat → Lr}
structure CpB (W : World) (q t a nb kd : Nat) (s : S4) (all : Bool) (gd : Value) : Prop where
 c6 : Blk W (q) 183 #[.pointer (some ⟨t, 0, none⟩)]
 c7 : Blk W (q + 1) 3 #[.int .i64 (a : Int)]
 c8 : Blk W (q + 1 + 1) 3 #[.int .i64 (nb : Int)]
 c9 : Blk W (q + 1 + 1 + 1) 3 #[.int .i64 (kd : Int)]
 c10 : Blk W (q + 1 + 1 + 1 + 1) 56 #[.int .u64 (s.a : Int), .int .u64 (s.b : Int), .int .u64 (s.c : Int), .int .u64 (s.d : Int)]
 c11 : Blk W (q + 1 + 1 + 1 + 1 + 1) 4 #[.bool all]
 c12 : Blk W (q + 1 + 1 + 1 + 1 + 1 + 1) 22 #[gd]
 c13 : Blk W (q + 1 + 1 + 1 + 1 + 1 + 1 + 1) 91 #[.slice none 0 0]
 c14 : Blk W (q + 1 + 1 + 1 + 1 + 1 + 1 + 1 + 1) 33 #[.int .i64 0]
structure CpI (w0 w W : World) (p m n : Nat) (dv : Sl) (K : Nat → Kb) (T : St) (X : Nat → Lb) (F : Nat → Lr) (L : List (Option Nat)) (q t a nb kd : Nat) (s : S4) (all : Bool) (D : List UInt8) (lv kv : Sl) (lk : List Lk) (sz : Int) (pre : List (Pl L)) : Prop where
 b : ∃ gd, CpB W q t a nb kd s all gd ∧ ((pre = [] ∧ gd = .slice none 0 0) ∨ (pre ≠ [] ∧ ∃ g c, gd = .slice (some ⟨g, 0, none⟩) nb c ∧ nb ≤ c ∧ Blk W g 5 (pc D) ∧ w.heap.size ≤ g))
 g : Gs w0 W p dv m n K T
 l : Lvs w0 W m K X F L
 mt : Mt W t lv kv L lk sz
 k : Keeps Non w W
theorem CpB.offs {w0 W W' : World} {S : Nat → Prop} {q t a nb kd : Nat} {s : S4} {all : Bool} {gd : Value} (hs : CpB W q t a nb kd s all gd) (hk : Keeps S W W') (hS : Off w0 W S) : CpB W' q t a nb kd s all gd :=
 ⟨blk_offs hs.c6 hk hS, blk_offs hs.c7 hk hS, blk_offs hs.c8 hk hS, blk_offs hs.c9 hk hS, blk_offs hs.c10 hk hS, blk_offs hs.c11 hk hS, blk_offs hs.c12 hk hS, blk_offs hs.c13 hk hS, blk_offs hs.c14 hk hS⟩
theorem CpB.non {W W' : World} {q t a nb kd : Nat} {s : S4} {all : Bool} {gd : Value} (hs : CpB W q t a nb kd s all gd) (hk : Keeps Non W W') : CpB W' q t a nb kd s all gd :=
 ⟨hs.c6.non hk, hs.c7.non hk, hs.c8.non hk, hs.c9.non hk, hs.c10.non hk, hs.c11.non hk, hs.c12.non hk, hs.c13.non hk, hs.c14.non hk⟩
theorem CpB.put12 {W : World} {q t a nb kd : Nat} {s : S4} {all : Bool} {gd : Value} (hs : CpB W q t a nb kd s all gd) (v : Value) : CpB (W.setCell ⟨q + 1 + 1 + 1 + 1 + 1 + 1, 0, none⟩ v) q t a nb kd s all v :=
 ⟨hs.c6.far (by simp only []; omega) v, hs.c7.far (by simp only []; omega) v, hs.c8.far (by simp only []; omega) v, hs.c9.far (by simp only []; omega) v, hs.c10.far (by simp only []; omega) v, hs.c11.far (by simp only []; omega) v, hs.c12.set 0 v, hs.c13.far (by simp only []; omega) v, hs.c14.far (by simp only []; omega) v⟩
theorem CpB.put13 {W : World} {q t a nb kd : Nat} {s : S4} {all : Bool} {gd : Value} (hs : CpB W q t a nb kd s all gd) : CpB (W.setCell ⟨q + 1 + 1 + 1 + 1 + 1 + 1 + 1, 0, none⟩ (.slice none 0 0)) q t a nb kd s all gd :=
 ⟨hs.c6.far (by simp only []; omega) _, hs.c7.far (by simp only []; omega) _, hs.c8.far (by simp only []; omega) _, hs.c9.far (by simp only []; omega) _, hs.c10.far (by simp only []; omega) _, hs.c11.far (by simp only []; omega) _, hs.c12.far (by simp only []; omega) _, hs.c13.set 0 _, hs.c14.far (by simp only []; omega) _⟩
theorem CpB.put14 {W : World} {q t a nb kd : Nat} {s : S4} {all : Bool} {gd : Value} (hs : CpB W q t a nb kd s all gd) : CpB (W.setCell ⟨q + 1 + 1 + 1 + 1 + 1 + 1 + 1 + 1, 0, none⟩ (.int .i64 0)) q t a nb kd s all gd :=
 ⟨hs.c6.far (by simp only []; omega) _, hs.c7.far (by simp only []; omega) _, hs.c8.far (by simp only []; omega) _, hs.c9.far (by simp only []; omega) _, hs.c10.far (by simp only []; omega) _, hs.c11.far (by simp only []; omega) _, hs.c12.far (by simp only []; omega) _, hs.c13.far (by simp only []; omega) _, hs.c14.set 0 _⟩
theorem CpB.drew {W : World} {q t a nb kd : Nat} {s : S4} {all : Bool} {gd : Value} (hs : CpB W q t a nb kd s all gd) : CpB W.drew q t a nb kd s all gd := hs.non ((Keeps.refl Non W).drew)
def Q3 (q g : Nat) : Prop := g = q + 1 + 1 + 1 + 1 + 1 + 1 ∨ g = q + 1 + 1 + 1 + 1 + 1 + 1 + 1 ∨ g = q + 1 + 1 + 1 + 1 + 1 + 1 + 1 + 1
theorem CpB.q3 {w0 W : World} {q t a nb kd : Nat} {s : S4} {all : Bool} {gd : Value} (hs : CpB W q t a nb kd s all gd) (hq : w0.heap.size ≤ q) : Ofc w0 W (Q3 q) :=
 ⟨fun g e cs he hb h => by
   rcases h with rfl | rfl | rfl
   · exact hb.ne hs.c12 (by rintro rfl; cases he) rfl
   · exact hb.ne hs.c13 (by rintro rfl; cases he) rfl
   · exact hb.ne hs.c14 (by rintro rfl; cases he) rfl, fun g hl h => by rcases h with rfl | rfl | rfl <;> omega⟩
theorem CpI.own {q a nb kd B : Nat} {s : S4} {all : Bool} {D : List UInt8} {sz : Int} (hB0 : w0.heap.size ≤ B) (hB1 : w.heap.size ≤ B) : OwnFrom B (fun (pre : List (Pl L)) W => CpI w0 w W p m n dv K T X F L q t a nb kd s all D lv kv lk sz pre) := fun s A C row hs hg hr => by
 obtain ⟨hk, hS⟩ := off_grown (w0 := w0) hB0 hg hr
 refine ⟨?_, hs.g.offs hk hS, hs.l.offs hk hS, hs.mt.offs hk hS, hs.k.then hk fun i hi e => by have := (hr i e).1; omega⟩
 obtain ⟨gd, h1, h2⟩ := hs.b
 refine ⟨gd, h1.offs hk hS, ?_⟩
 rcases h2 with h2 | ⟨h2, g, c, e1, e2, e3, e4⟩
 · exact .inl h2
 · exact .inr ⟨h2, g, c, e1, e2, blk_offs e3 hk hS, e4⟩
theorem CpB.others {q a nb kd : Nat} {s : S4} {all : Bool} {w1 W' : World} {gd0 : Value} (hC1 : CpB w1 q t a nb kd s all gd0) (hk : Keeps (Q3 q) w1 W') : KeepsOthers w1 W' :=
 ⟨hk.size, fun k o ho hc => by
   refine (hk.block k (Array.getElem?_eq_some_iff.1 ho).1 fun e => ?_).trans ho
   have no : ∀ {t : Nat} {cs : Array Value}, ¬ Blk w1 k t cs := fun hb => by
     unfold Blk at hb
     rw [hb] at ho
     injection ho with ho
     subst ho
     cases hc
   rcases e with rfl | rfl | rfl
   · exact no hC1.c12
   · exact no hC1.c13
   · exact no hC1.c14⟩
theorem CpI.next {q a nb kd g c : Nat} {s : S4} {all : Bool} {D : List UInt8} {sz : Int} {pre : List (Pl L)} {x : Pl L} {W w1 W' : World} {gd0 : Value} (hI : CpI w0 w W p m n dv K T X F L q t a nb kd s all D lv kv lk sz pre) (hz : w0.heap.size ≤ w.heap.size) (hq : w.heap.size ≤ q) (hK : Keeps Non W w1) (hC1 : CpB w1 q t a nb kd s all gd0) (hk : Keeps (Q3 q) w1 W') (hC : CpB W' q t a nb kd s all (.slice (some ⟨g, 0, none⟩) nb c)) (hc : nb ≤ c) (hB : Blk w1 g 5 (pc D)) (hg : w.heap.size ≤ g) :
   KeepsOthers W W' ∧ KpL W W' ∧ CpI w0 w W' p m n dv K T X F L q t a nb kd s all D lv kv lk sz (pre ++ [x]) := by
 have hS := hC1.q3 (w0 := w0) (by omega)
 refine ⟨(others_non hK).trans (hC1.others hk), (KpL.of hK fun _ _ _ e => e).trans (KpL.of hk fun g cs hb => hS.c _ _ _ rfl hb), ⟨⟨_, hC, .inr ⟨by simp, g, c, rfl, hc, hB.keep hk (hS.c _ _ _ rfl hB), hg⟩⟩, (hI.g.non hK).ofc hk hS, (hI.l.non hK).ofc hk hS, (hI.mt.non hK).ofc hk hS, (hI.k.non hK).then hk fun i hi e => by rcases e with rfl | rfl | rfl <;> omega⟩⟩
theorem ownFrom_pure {B : Nat} {Φ : List (Pl L) → Prop} : OwnFrom B (fun (pre : List (Pl L)) (_ : World) => Φ pre) := fun _ _ _ _ hs _ _ => hs
set_option maxHeartbeats 16000000 in
theorem copies_mt (hM : Mt w t lv kv L lk ((n - 292 : Nat) : Int)) (hG : Gs w0 w p dv m n K T) (hL : Lvs w0 w m K X F L) (h0L : 0 < L.length) (hP : pres L L.length ≠ []) (hn : 324 ≤ n) (ho : T.P.off = false)
   (a nb kd : Nat) (s : S4) (h1 : 1 ≤ nb) (h2 : nb ≤ 1024) (ha : a + need nb ≤ n - 292) (all : Bool) (D : List UInt8) (hD : ∀ k b, L[k]? = some (some b) → cat (T.f (F k).ix) (274 + a) (need nb) = D)
   (HCk : ∀ V g, Blk V g 5 (pc D) → Calls Tryz.prog 117 #[.int .i64 (kd : Int), .agg #[.int .u64 (s.a : Int), .int .u64 (s.b : Int), .int .u64 (s.c : Int), .int .u64 (s.d : Int)], .slice (some ⟨g, 0, none⟩) nb (128 * need nb)] V fun e w' => e = .returned (.bool true) ∧ Keeps Non V w') :
   Calls Tryz.prog 292 #[.pointer (some ⟨t, 0, none⟩), .int .i64 (a : Int), .int .i64 (nb : Int), .int .i64 (kd : Int), .agg #[.int .u64 (s.a : Int), .int .u64 (s.b : Int), .int .u64 (s.c : Int), .int .u64 (s.d : Int)], .bool all] w fun e w' => ∃ g c, e = .returned (.tuple #[.slice (some ⟨g, 0, none⟩) nb c, .slice none 0 0, .int .i64 0]) ∧ nb ≤ c ∧ Blk w' g 5 (pc D) ∧ w.heap.size ≤ g ∧ Keeps Non w w' := by
 have hG0 := hG.keep.size
 obtain ⟨k0, hk0⟩ : ∃ k, k = need nb := ⟨_, rfl⟩
 have hkb : nb ≤ 128 * k0 ∧ k0 ≤ 8 := by unfold need at hk0; omega
 have HNd := Lib.hid (fun v V => need_any v nb h1 h2 V)
 rw [← hk0] at HNd ha hD HCk
 have HCk := Lib.hid HCk
 have HRd : Hid (∀ (V : World) (x : Pl L), Gs w0 V p dv m n K T → Lvs w0 V m K X F L → Calls Tryz.prog 75 #[.pointer (some ⟨x.1.2, 0, none⟩), .int .i64 (a : Int), .int .i64 (k0 : Int)] V fun e w' => ∃ b, e = .returned (.tuple #[.slice (some ⟨b, 0, none⟩) (128 * k0) (128 * k0), .int .i64 0]) ∧ Blk w' b 5 (pc D) ∧ V.heap.size ≤ b ∧ Keeps Non V w') := Lib.hid (fun V x hg hl => by
   obtain ⟨e1, e2, e3⟩ := hl.lf x.1.1 x.1.2 x.2
   have := gs_read hg e2 e3 hn ho a k0 ha
   rw [hD x.1.1 x.1.2 x.2] at this
   rw [e1]
   exact this)
 clear hk0 hD ha
 obtain ⟨M, hMM⟩ : ∃ M, M = 128 * k0 := ⟨_, rfl⟩
 rw [← hMM] at HRd HCk hkb
 have hnM : (nb : Int) ≤ (M : Int) := by omega
 clear hMM
 refine (callsIn_wide (n := 3)).1 ?_
 refine callsIn_of_wp_marks Tryz.func292 rfl trivial ?_ rfl
 simp only [Tryz.ntmps292, List.size_toArray, List.length_cons, List.length_nil, Nat.reduceAdd, Nat.reduceSub, Array.replicate_succ, Array.replicate_zero, List.push_toArray, List.append_toArray, List.nil_append, List.cons_append]
 refine wpIn_wide.2 ?_
 go_upto_region 1 with fail
 obtain ⟨hz1, hk1, hb1⟩ := lays_get [(#[.pointer (some ⟨t, 0, none⟩)], 183), (#[.int .i64 (a : Int)], 3), (#[.int .i64 (nb : Int)], 3), (#[.int .i64 (kd : Int)], 3), (#[.int .u64 (s.a : Int), .int .u64 (s.b : Int), .int .u64 (s.c : Int), .int .u64 (s.d : Int)], 56), (#[.bool all], 4), (#[.slice none 0 0], 22), (#[.slice none 0 0], 91), (#[.int .i64 0], 33)] w
 obtain ⟨w1, hw1⟩ : ∃ V : World, V = ((((((((w.alloc (.cells #[.pointer (some ⟨t, 0, none⟩)] 183)).alloc (.cells #[.int .i64 (a : Int)] 3)).alloc (.cells #[.int .i64 (nb : Int)] 3)).alloc (.cells #[.int .i64 (kd : Int)] 3)).alloc (.cells #[.int .u64 (s.a : Int), .int .u64 (s.b : Int), .int .u64 (s.c : Int), .int .u64 (s.d : Int)] 56)).alloc (.cells #[.bool all] 4)).alloc (.cells #[.slice none 0 0] 22)).alloc (.cells #[.slice none 0 0] 91)).alloc (.cells #[.int .i64 0] 33) := ⟨_, rfl⟩
 have hw1' : lays w [(#[.pointer (some ⟨t, 0, none⟩)], 183), (#[.int .i64 (a : Int)], 3), (#[.int .i64 (nb : Int)], 3), (#[.int .i64 (kd : Int)], 3), (#[.int .u64 (s.a : Int), .int .u64 (s.b : Int), .int .u64 (s.c : Int), .int .u64 (s.d : Int)], 56), (#[.bool all], 4), (#[.slice none 0 0], 22), (#[.slice none 0 0], 91), (#[.int .i64 0], 33)] = w1 := hw1.symm
 rw [hw1'] at hz1 hk1 hb1
 rw [← hw1]
 obtain ⟨q, hq⟩ : ∃ z, z = w.heap.size := ⟨_, rfl⟩
 rw [← hq] at hb1 ⊢
 have hCB : CpB w1 q t a nb kd s all (.slice none 0 0) := ⟨hb1 0 (by simp), hb1 1 (by simp), hb1 2 (by simp), hb1 3 (by simp), hb1 4 (by simp), hb1 5 (by simp), hb1 6 (by simp), hb1 7 (by simp), hb1 8 (by simp)⟩
 have hqw : w.heap.size ≤ q := Nat.le_of_eq hq.symm
 clear hb1 hz1 hw1 hw1' hq
 have x6 := hCB.c6.cell 0
 go_wp2_with (go_at_call 136; go_must (refine (there_any t _).mono ?_); rintro e w7 ⟨bx, rfl, hbx, hbl, hK7⟩)
 have hk7 := hk1.non hK7
 have hz7 := hk7.size
 have hM7 := hM.non hk7
 have hmix : Tryz.prog.follows .mixedOrders = true := by kernel_rfl
 have HI0 : Hid (CpI w0 w w7 p m n dv K T X F L q t a nb kd s all D lv kv lk ((n - 292 : Nat) : Int) []) := Lib.hid ⟨⟨_, hCB.non hK7, .inl ⟨rfl, rfl⟩⟩, hG.non hk7, hL.non hk7, hM7, hk7⟩
 clear hCB x6 hK7 hk1
 refine (wpIn_wide (n := 3)).1 ?_
 refine wpIn_rangeFunc_ownF rfl (by omega) (gf := 166) (lb := #[.pointer (some ⟨bx, 0, none⟩)]) rfl trivial (enters_of Tryz.func166 (by kernel_rfl) rfl)
   (there_stops (3 - 1) (by omega) bx h0L hbx hM7) KpL.trans (fun W l o o' _ h1 h2 _ => KpL.put W l o o' h1 h2) (Below.refl _ _) (fun _ => rfl)
   (fun pre W => (all = false → pre = []) ∧ CpI w0 w W p m n dv K T X F L q t a nb kd s all D lv kv lk ((n - 292 : Nat) : Int) pre) (fun c pre W => (c = .ret ∧ pre ≠ []) ∧ CpI w0 w W p m n dv K T X F L q t a nb kd s all D lv kv lk ((n - 292 : Nat) : Int) pre)
   (OwnFrom.and ownFrom_pure (CpI.own (by omega) hz7)) (fun c => OwnFrom.and ownFrom_pure (CpI.own (by omega) hz7))
   ⟨fun _ => rfl, HI0.out⟩
   (fun x => { tmps := #[.pointer (some ⟨t, 0, none⟩), .int .i64 (a : Int), .int .i64 (nb : Int), .int .i64 (kd : Int), .agg #[.int .u64 (s.a : Int), .int .u64 (s.b : Int), .int .u64 (s.c : Int), .int .u64 (s.d : Int)], .bool all, .pointer (some ⟨q, 0, none⟩), .pointer (some ⟨q + 1, 0, none⟩), .pointer (some ⟨q + 1 + 1, 0, none⟩), .pointer (some ⟨q + 1 + 1 + 1, 0, none⟩), .pointer (some ⟨q + 1 + 1 + 1 + 1, 0, none⟩), .pointer (some ⟨q + 1 + 1 + 1 + 1 + 1, 0, none⟩), .pointer (some ⟨q + 1 + 1 + 1 + 1 + 1 + 1, 0, none⟩), .pointer (some ⟨q + 1 + 1 + 1 + 1 + 1 + 1 + 1, 0, none⟩), .pointer (some ⟨q + 1 + 1 + 1 + 1 + 1 + 1 + 1 + 1, 0, none⟩), undef, .pointer (some ⟨x.1.2, 0, none⟩), undef, undef, .pointer (some ⟨t, 0, none⟩), .func (.func 166) #[] #[.pointer (some ⟨bx, 0, none⟩)], .int .i64 (x.1.1 : Int), .pointer (some ⟨x.1.2, 0, none⟩), undef, undef, undef, undef, undef, undef, undef, undef, undef, undef, undef, undef, undef, undef, undef, undef, undef, undef, undef, undef, undef, undef, undef, undef, undef, undef, undef, undef, undef, undef, undef, undef, undef, undef, undef, undef, undef, undef, undef, undef, undef, undef, undef, undef, undef, undef], defers := [] }) ?assign ?body ?done ?stop
 case assign =>
   intro l x W Kk hKk
   unfold encX
   gi_wp2
   exact hKk
 case body =>
   rintro l pre x W ⟨hal, hI⟩ hlen
   obtain ⟨gd, hCB, hgd⟩ := hI.b
   have HI := Lib.hid hI
   have HCB := Lib.hid hCB
   have Hgd := Lib.hid hgd
   have Hal := Lib.hid hal
   have hkd : Keeps Non W W.drew := (Keeps.refl Non W).drew
   have HC := Lib.hid (HRd.out W.drew x (hI.g.non hkd) (hI.l.non hkd))
   clear hI hgd hal
   have x6 := hCB.c6.cell 0
   have x7 := hCB.c7.cell 0
   have x8 := hCB.c8.cell 0
   clear hCB
   gi_upto_region 3 with fail
   try dsimp only
   gi_cut [17, 18] from 23 (fun v17 v18 wc => ∃ g, v17 = .slice (some ⟨g, 0, none⟩) M M ∧ v18 = .int .i64 0 ∧ Blk wc g 5 (pc D) ∧ W.heap.size ≤ g ∧ Keeps Non W wc)
   case first =>
     gi_region_with_o (first
       | (refine ⟨trivial, ?_⟩; gi_at_call 280; refine (CallsIn.inRound l (callsIn_wide.2 (HNd.out _ _))).mono ?_; rintro e w8 ⟨rfl, hw8⟩; subst w8)
       | (refine ⟨trivial, ?_⟩; gi_at_call 75; refine (CallsIn.inRound l (callsIn_wide.2 HC.out)).mono ?_; rintro e w9 ⟨g, rfl, hB9, hg9, hK9⟩))
     all_goals
       gi_wp2
       gi_meet
       case rel => exact ⟨g, rfl, rfl, hB9, hg9, hkd.non hK9⟩
   case rest =>
     obtain ⟨g, rfl, rfl, hB9, hg9, hK9⟩ := hcut
     clear x6 x7 x8 HC hkd
     have hCB9 := HCB.out.non hK9
     have hkd9 : Keeps Non wc wc.drew := (Keeps.refl Non wc).drew
     have x8 := hCB9.c8.cell 0
     have x9 := hCB9.c9.cell 0
     have y0 := hCB9.c10.cell 0
     have y1 := hCB9.c10.cell 1
     have y2 := hCB9.c10.cell 2
     have y3 := hCB9.c10.cell 3
     have HCx := Lib.hid (HCk.out wc.drew g (hB9.non hkd9))
     gi_upto_region 7 with fail
     try dsimp only
     gi_cut [39] from 40 (fun v39 wd => v39 = .bool false ∧ Keeps Non wc wd)
     case first =>
       gi_region_with_o (refine ⟨trivial, ?_⟩; gi_at_call 117; refine (CallsIn.inRound l (callsIn_wide.2 HCx.out)).mono ?_; rintro e w10 ⟨rfl, hK10⟩)
       all_goals
         gi_wp2
         gi_meet
         case rel => exact ⟨rfl, hkd9.non hK10⟩
     case rest =>
       obtain ⟨rfl, hK10⟩ := hcut
       obtain ⟨w10, rfl⟩ : ∃ V : World, V = wc := ⟨_, rfl⟩
       have hKW := hK9.non hK10
       have hC := HCB.out.non hKW
       have hBg := hB9.non hK10
       have hIk := HI.out
       have hgW : w.heap.size ≤ g := by have := hIk.k.size; omega
       clear x8 x9 y0 y1 y2 y3 HCx hkd9 hCB9
       have z8 := hC.c8.cell 0
       have z11 := hC.c11.cell 0
       have z12 := hC.c12.cell 0
       have z13 := hC.c13.cell 0
       have f12 := hC.c12.frozen 0
       have f13 := hC.c13.frozen 0
       have f14 := hC.c14.frozen 0
       have z14 := hC.c14.cell 0
       have n1213 : ¬ q + 1 + 1 + 1 + 1 + 1 + 1 = q + 1 + 1 + 1 + 1 + 1 + 1 + 1 := by omega
       have n1214 : ¬ q + 1 + 1 + 1 + 1 + 1 + 1 = q + 1 + 1 + 1 + 1 + 1 + 1 + 1 + 1 := by omega
       have n1314 : ¬ q + 1 + 1 + 1 + 1 + 1 + 1 + 1 = q + 1 + 1 + 1 + 1 + 1 + 1 + 1 + 1 := by omega
       have n1312 : ¬ q + 1 + 1 + 1 + 1 + 1 + 1 + 1 = q + 1 + 1 + 1 + 1 + 1 + 1 := by omega
       have n1412 : ¬ q + 1 + 1 + 1 + 1 + 1 + 1 + 1 + 1 = q + 1 + 1 + 1 + 1 + 1 + 1 := by omega
       have n1413 : ¬ q + 1 + 1 + 1 + 1 + 1 + 1 + 1 + 1 = q + 1 + 1 + 1 + 1 + 1 + 1 + 1 := by omega
       have he := fun (w : World) (a : Option Addr) (n c : Nat) => Lib.run_eql_slice_nil (P := Tryz.prog) w 22 5 a n c 0 0 Tryz.underlying22
       have hne := fun (w : World) (a : Option Addr) (n c : Nat) => run_neq_slice_nil_any (P := Tryz.prog) w 22 5 a n c 0 0 Tryz.underlying22
       rcases Hgd.out with ⟨hpr, hgn⟩ | ⟨hpr, g0, c0, hgn, hc0, hB0, hg0⟩
       · subst hpr
         have HG := Lib.hid hgn
         rw [hgn] at z12
         have hC11 := hC.put12 (.slice (some ⟨g, 0, none⟩) nb M)
         have hk11 : Keeps (Q3 q) w10 (w10.setCell ⟨q + 1 + 1 + 1 + 1 + 1 + 1, 0, none⟩ (.slice (some ⟨g, 0, none⟩) nb M)) := (Keeps.refl (Q3 q) _).set (p := ⟨q + 1 + 1 + 1 + 1 + 1 + 1, 0, none⟩) (.inl rfl) _
         cases all
         · gi_upto_region 13 with fail
           obtain ⟨w11, hw11⟩ : ∃ V : World, V = w10.setCell ⟨q + 1 + 1 + 1 + 1 + 1 + 1, 0, none⟩ (.slice (some ⟨g, 0, none⟩) nb M) := ⟨_, rfl⟩
           rw [← hw11] at hC11 hk11 ⊢
           clear hw11 z12 z13 z14 f12 f13 f14 z8 z11
           have z12 := hC11.c12.cell 0
           have z13 := hC11.c13.cell 0
           have z14 := hC11.c14.cell 0
           have f12 := hC11.c12.frozen 0
           have f13 := hC11.c13.frozen 0
           have f14 := hC11.c14.frozen 0
           gi_cut [12] from 40 (fun v12 wc => v12 = .pointer (some ⟨q + 1 + 1 + 1 + 1 + 1 + 1, 0, none⟩) ∧ CpB wc q t a nb kd s false (.slice (some ⟨g, 0, none⟩) nb M) ∧ Keeps (Q3 q) w11 wc)
           case first =>
             gi_region_with_o (fail)
             all_goals
               gi_wp2
               gi_meet
               case rel =>
                 refine ⟨rfl, ?_, ?_⟩
                 · repeat (first | exact hC11 | apply CpB.drew | apply CpB.put13 | apply CpB.put14 | apply CpB.put12)
                 · repeat (first | exact Keeps.refl _ _ | apply Keeps.drew | (refine Keeps.set ?_ (p := ⟨q + 1 + 1 + 1 + 1 + 1 + 1, 0, none⟩) (.inl rfl) _) | (refine Keeps.set ?_ (p := ⟨q + 1 + 1 + 1 + 1 + 1 + 1 + 1, 0, none⟩) (.inr (.inl rfl)) _) | (refine Keeps.set ?_ (p := ⟨q + 1 + 1 + 1 + 1 + 1 + 1 + 1 + 1, 0, none⟩) (.inr (.inr rfl)) _))
           case rest =>
             obtain ⟨rfl, hC12, hk12⟩ := hcut
             gi_wp2
             obtain ⟨r1, r2, r3⟩ := hIk.next (x := x) hG0 hqw hKW hC (hk11.trans hk12) hC12 hkb.1 hBg hgW
             exact ⟨r1, ⟨rfl, by simp⟩, r3⟩
         · gi_wp2
           obtain ⟨r1, r2, r3⟩ := hIk.next (x := x) hG0 hqw hKW hC hk11 hC11 hkb.1 hBg hgW
           first | exact ⟨r1, r2, (fun e => by cases e), r3⟩ | exact ⟨r1, r2, r3⟩
       · cases all
         · exact absurd (Hal.out rfl) hpr
         · rw [hgn] at z12
           gi_wp2
           obtain ⟨r1, r2, r3⟩ := hIk.next (x := x) hG0 hqw hKW hC (Keeps.refl _ _) (by rw [hgn] at hC; exact hC) hc0 (hB0.non hKW) hg0
           first | exact ⟨r1, r2, (fun e => by cases e), r3⟩ | exact ⟨r1, r2, r3⟩
 case done =>
   rintro D1 ys W hD hys ⟨hal, hI⟩ hKD
   have hne : ys ≠ [] := by rintro rfl; exact hP hys.symm
   have hall : all = true := by
     cases all
     · exact absurd (hal rfl) hne
     · rfl
   subst hall
   obtain ⟨gd, hCB, hgd⟩ := hI.b
   obtain ⟨g, c, rfl, hc, hB, hg⟩ : ∃ g c, gd = .slice (some ⟨g, 0, none⟩) nb c ∧ nb ≤ c ∧ Blk W g 5 (pc D) ∧ w.heap.size ≤ g := hgd.elim (fun h => absurd h.1 hne) fun h => h.2
   have HI := Lib.hid hI
   clear hI hal hgd
   have z12 := hCB.c12.cell 0
   have z13 := hCB.c13.cell 0
   have z14 := hCB.c14.cell 0
   have f12 := hCB.c12.frozen 0
   have f13 := hCB.c13.frozen 0
   have f14 := hCB.c14.frozen 0
   have n1213 : ¬ q + 1 + 1 + 1 + 1 + 1 + 1 = q + 1 + 1 + 1 + 1 + 1 + 1 + 1 := by omega
   have n1214 : ¬ q + 1 + 1 + 1 + 1 + 1 + 1 = q + 1 + 1 + 1 + 1 + 1 + 1 + 1 + 1 := by omega
   have n1314 : ¬ q + 1 + 1 + 1 + 1 + 1 + 1 + 1 = q + 1 + 1 + 1 + 1 + 1 + 1 + 1 + 1 := by omega
   have n1312 : ¬ q + 1 + 1 + 1 + 1 + 1 + 1 + 1 = q + 1 + 1 + 1 + 1 + 1 + 1 := by omega
   have n1412 : ¬ q + 1 + 1 + 1 + 1 + 1 + 1 + 1 + 1 = q + 1 + 1 + 1 + 1 + 1 + 1 := by omega
   have n1413 : ¬ q + 1 + 1 + 1 + 1 + 1 + 1 + 1 + 1 = q + 1 + 1 + 1 + 1 + 1 + 1 + 1 := by omega
   dsimp only
   go_upto_region 14 with fail
   go_cut [12] from 21 to 68 (fun v12 wc => v12 = .pointer (some ⟨q + 1 + 1 + 1 + 1 + 1 + 1, 0, none⟩) ∧ CpB wc q t a nb kd s true (.slice (some ⟨g, 0, none⟩) nb c) ∧ Keeps (Q3 q) W wc)
   case first =>
     refine wp_tame ?_
     go_region
     all_goals
       go_wp2_with fail
       go_meet
       case rel =>
         refine ⟨rfl, ?_, ?_⟩
         · repeat (first | exact hCB | apply CpB.drew | apply CpB.put13 | apply CpB.put14 | apply CpB.put12)
         · repeat (first | exact Keeps.refl _ _ | apply Keeps.drew | (refine Keeps.set ?_ (p := ⟨q + 1 + 1 + 1 + 1 + 1 + 1, 0, none⟩) (.inl rfl) _) | (refine Keeps.set ?_ (p := ⟨q + 1 + 1 + 1 + 1 + 1 + 1 + 1, 0, none⟩) (.inr (.inl rfl)) _) | (refine Keeps.set ?_ (p := ⟨q + 1 + 1 + 1 + 1 + 1 + 1 + 1 + 1, 0, none⟩) (.inr (.inr rfl)) _))
   case rest =>
     obtain ⟨rfl, hC12, hk12⟩ := hcut
     go_wp2_with fail
     have hS := hCB.q3 (w0 := w0) (by omega)
     have hKD' := (hCB.others hk12).same D1 _ hKD rfl
     refine ⟨by simp, .inl ⟨_, _, rfl, run_takeDeferred hKD', ?_⟩⟩
     obtain ⟨k7, o7⟩ := off_put (w0 := w0) (by omega) hKD' rfl (.deferred none)
     have hC13 := hC12.offs k7 o7
     have r2 := hC13.c12.cell 0
     have r3 := hC13.c13.cell 0
     have r4 := hC13.c14.cell 0
     refine ⟨.tuple #[.slice (some ⟨g, 0, none⟩) nb c, .slice none 0 0, .int .i64 0], ?_, g, c, rfl, hc, blk_offs (hB.keep hk12 (hS.c _ _ _ rfl hB)) k7 o7, hg, ?_⟩
     · simp [results, Tryz.f292, go_sem, r2, r3, r4]
     · exact (HI.out.k.then hk12 fun i hi e => by rcases e with rfl | rfl | rfl <;> omega).then k7 fun i hi e => by unfold Only at e; omega
 case stop =>
   rintro D1 c pre W hD hpre ⟨⟨rfl, hne⟩, hI⟩ hKD
   obtain ⟨gd, hCB, hgd⟩ := hI.b
   obtain ⟨g, c, rfl, hc, hB, hg⟩ : ∃ g c, gd = .slice (some ⟨g, 0, none⟩) nb c ∧ nb ≤ c ∧ Blk W g 5 (pc D) ∧ w.heap.size ≤ g := hgd.elim (fun h => absurd h.1 hne) fun h => h.2
   gi_wp2
   refine ⟨by simp, .inl ⟨_, _, rfl, run_takeDeferred hKD, ?_⟩⟩
   obtain ⟨k7, o7⟩ := off_put (w0 := w0) (by omega) hKD rfl (.deferred none)
   have hC13 := hCB.offs k7 o7
   have r2 := hC13.c12.cell 0
   have r3 := hC13.c13.cell 0
   have r4 := hC13.c14.cell 0
   refine ⟨.tuple #[.slice (some ⟨g, 0, none⟩) nb c, .slice none 0 0, .int .i64 0], ?_, g, c, rfl, hc, blk_offs hB k7 o7, hg, ?_⟩
   · simp [results, Tryz.f292, go_sem, r2, r3, r4]
   · exact hI.k.then k7 fun i hi e => by unfold Only at e; omega
end
end Go.Proofs.YtolknnmaadkgiaaGreatDoor
namespace Go.Proofs.YtolknnmaadkgiaaGreatDoor
set_option maxRecDepth 100000
open Go.RowKit Go.Uc Go.Shelf
section
variable {w0 w w' : World} {p m n t : Nat} {dv lv kv wv : Sl} {K : Nat → Kb} {T : St} {L : List (Option Nat)} {lk : List Lk} {X : Nat → Lb} {F : Nat → Lr}
set_option maxHeartbeats 1000000 in
theorem fix_nil (v a b : Value) (c : Nat) (w : World) : Calls Tryz.prog 293 #[v, .slice none 0 0, a, b] w fun e w' => e = .returned (.tuple #[.int .i64 0, .int .i64 0]) ∧ w' = w := by
 go_enter Tryz.func293, Tryz.ntmps293
 go_upto_region 3 with fail
 go_loopw [10, 15] (fun k i wr => k = .int .i64 0 ∧ i = .int .i64 0 ∧ wr = w) (fun _ _ _ => 0)
 case atStart => exact ⟨rfl, rfl, rfl⟩
 case round =>
   obtain ⟨rfl, rfl, rfl⟩ := hrel
   go_wp2_with fail
   go_ret2
   exact ⟨rfl, rfl⟩
structure Right (n : Nat) (T : St) (L : List (Option Nat)) (F : Nat → Lr) (a nb kd : Nat) (s : S4) (D : List UInt8) : Prop where
 h1 : 1 ≤ nb
 h2 : nb ≤ 1024
 ha : a + need nb ≤ n - 292
 hk : kd = 1 ∨ kd = 2
 hD : ∀ k b, L[k]? = some (some b) → cat (T.f (F k).ix) (274 + a) (need nb) = D
 ck : ∀ V g, Blk V g 5 (pc D) → Calls Tryz.prog 117 #[.int .i64 (kd : Int), .agg #[.int .u64 (s.a : Int), .int .u64 (s.b : Int), .int .u64 (s.c : Int), .int .u64 (s.d : Int)], .slice (some ⟨g, 0, none⟩) nb (128 * need nb)] V fun e w' => e = .returned (.bool true) ∧ Keeps Non V w'
set_option maxHeartbeats 4000000 in
theorem look_mt (hM : Mt w t lv kv L lk ((n - 292 : Nat) : Int)) (hG : Gs w0 w p dv m n K T) (hL : Lvs w0 w m K X F L) (h0L : 0 < L.length) (hP : pres L L.length ≠ []) (hn : 324 ≤ n) (hn8 : n ≤ 8192) (ho : T.P.off = false)
   (a nb kd : Nat) (s : S4) (D : List UInt8) (hR : Right n T L F a nb kd s D) (all : Bool) :
   Calls Tryz.prog 289 #[.pointer (some ⟨t, 0, none⟩), .int .i64 (a : Int), .int .i64 (nb : Int), .int .i64 (kd : Int), .agg #[.int .u64 (s.a : Int), .int .u64 (s.b : Int), .int .u64 (s.c : Int), .int .u64 (s.d : Int)], .bool all] w fun e w' => ∃ g c, e = .returned (.tuple #[.slice (some ⟨g, 0, none⟩) nb c, .int .i64 0, .int .i64 0]) ∧ nb ≤ c ∧ Blk w' g 5 (pc D) ∧ w.heap.size ≤ g ∧ Keeps Non w w' := by
 have hA := Blk.new w 56 #[.int .u64 (s.a : Int), .int .u64 (s.b : Int), .int .u64 (s.c : Int), .int .u64 (s.d : Int)]
 have ka := (Keeps.refl Non w).alloc (.cells #[.int .u64 (s.a : Int), .int .u64 (s.b : Int), .int .u64 (s.c : Int), .int .u64 (s.d : Int)] 56)
 have HFt := Lib.hid (fits_yes (hM.non ka) a nb hR.h1 hR.h2 hR.ha (by omega))
 have HCp := Lib.hid (copies_mt (hM.non ka) (hG.non ka) (hL.non ka) h0L hP hn ho a nb kd s hR.h1 hR.h2 hR.ha all D hR.hD hR.ck)
 have HFx := Lib.hid (fun v a b c V => fix_nil v a b c V)
 have he := fun (w : World) (a : Option Addr) (n c : Nat) => Lib.run_eql_slice_nil (P := Tryz.prog) w 22 5 a n c 0 0 Tryz.underlying22
 have hkd := hR.hk
 clear hR hM hG hL hP
 go_enter Tryz.func289, Tryz.ntmps289
 go_upto_region 1 with fail
 obtain ⟨w1, hw1⟩ : ∃ V : World, V = w.alloc (.cells #[.int .u64 (s.a : Int), .int .u64 (s.b : Int), .int .u64 (s.c : Int), .int .u64 (s.d : Int)] 56) := ⟨_, rfl⟩
 rw [← hw1] at hA ka HFt HCp ⊢
 clear hw1
 obtain ⟨q, hq⟩ : ∃ z, z = w.heap.size := ⟨_, rfl⟩
 rw [← hq] at hA ⊢
 have HQ := Lib.hid hq
 clear hq
 have y0 := hA.cell 0
 have y1 := hA.cell 1
 have y2 := hA.cell 2
 have y3 := hA.cell 3
 rcases hkd with rfl | rfl
 all_goals
   go_wp2_with (first
     | (go_at_call 290; go_must (refine HFt.out.mono ?_); rintro e w3 ⟨rfl, hw3⟩; subst w3)
     | (go_at_call 292; go_must (refine HCp.out.mono ?_); rintro e w4 ⟨g, c, rfl, hc, hB, hg, hK4⟩)
     | (go_at_call 293; go_must (refine (HFx.out _ _ _ 0 _).mono ?_); rintro e w5 ⟨rfl, hw5⟩; subst w5))
   go_ret3
   exact ⟨g, c, rfl, hc, hB, by have := ka.size; omega, ka.non hK4⟩
set_option maxHeartbeats 4000000 in
theorem read_mt (hM : Mt w t lv kv L lk ((n - 292 : Nat) : Int)) (hG : Gs w0 w p dv m n K T) (hL : Lvs w0 w m K X F L) (h0L : 0 < L.length) (hP : pres L L.length ≠ []) (hn : 324 ≤ n) (hn8 : n ≤ 8192) (ho : T.P.off = false)
   (a nb kd : Nat) (s : S4) (D : List UInt8) (hR : Right n T L F a nb kd s D) :
   Calls Tryz.prog 282 #[.pointer (some ⟨t, 0, none⟩), .int .i64 (a : Int), .int .i64 (nb : Int), .int .i64 (kd : Int), .agg #[.int .u64 (s.a : Int), .int .u64 (s.b : Int), .int .u64 (s.c : Int), .int .u64 (s.d : Int)]] w fun e w' => ∃ g, e = .returned (.tuple #[.slice (some ⟨g, 0, none⟩) nb nb, .int .i64 0]) ∧ Blk w' g 5 (pc D) ∧ w.heap.size ≤ g ∧ Keeps Non w w' := by
 have hA := Blk.new w 56 #[.int .u64 (s.a : Int), .int .u64 (s.b : Int), .int .u64 (s.c : Int), .int .u64 (s.d : Int)]
 have ka := (Keeps.refl Non w).alloc (.cells #[.int .u64 (s.a : Int), .int .u64 (s.b : Int), .int .u64 (s.c : Int), .int .u64 (s.d : Int)] 56)
 have HLk := Lib.hid (look_mt (hM.non ka) (hG.non ka) (hL.non ka) h0L hP hn hn8 ho a nb kd s D ⟨hR.h1, hR.h2, hR.ha, hR.hk, hR.hD, hR.ck⟩ false)
 have hnb := hR.h2
 clear hR hM hG hL hP
 go_enter Tryz.func282, Tryz.ntmps282
 go_upto_region 1 with fail
 obtain ⟨w1, hw1⟩ : ∃ V : World, V = w.alloc (.cells #[.int .u64 (s.a : Int), .int .u64 (s.b : Int), .int .u64 (s.c : Int), .int .u64 (s.d : Int)] 56) := ⟨_, rfl⟩
 rw [← hw1] at hA ka HLk ⊢
 clear hw1
 obtain ⟨q, hq⟩ : ∃ z, z = w.heap.size := ⟨_, rfl⟩
 rw [← hq] at hA ⊢
 have HQ := Lib.hid hq
 clear hq
 have y0 := hA.cell 0
 have y1 := hA.cell 1
 have y2 := hA.cell 2
 have y3 := hA.cell 3
 go_wp2_with ((go_at_call 289; go_must (refine HLk.out.mono ?_); rintro e w4 ⟨g, c, rfl, hc, hB, hg, hK4⟩; have hci : (nb : Int) ≤ (c : Int) := (by omega)))
 go_ret2
 exact ⟨g, rfl, hB, by have := ka.size; omega, ka.non hK4⟩
set_option maxHeartbeats 4000000 in
theorem scrub_mt (hM : Mt w t lv kv L lk ((n - 292 : Nat) : Int)) (hG : Gs w0 w p dv m n K T) (hL : Lvs w0 w m K X F L) (h0L : 0 < L.length) (hP : pres L L.length ≠ []) (hn : 324 ≤ n) (hn8 : n ≤ 8192) (ho : T.P.off = false)
   (a nb kd : Nat) (s : S4) (D : List UInt8) (hR : Right n T L F a nb kd s D) :
   Calls Tryz.prog 283 #[.pointer (some ⟨t, 0, none⟩), .int .i64 (a : Int), .int .i64 (nb : Int), .int .i64 (kd : Int), .agg #[.int .u64 (s.a : Int), .int .u64 (s.b : Int), .int .u64 (s.c : Int), .int .u64 (s.d : Int)]] w fun e w' => e = .returned (.tuple #[.int .i64 0, .int .i64 0]) ∧ Keeps Non w w' := by
 have hA := Blk.new w 56 #[.int .u64 (s.a : Int), .int .u64 (s.b : Int), .int .u64 (s.c : Int), .int .u64 (s.d : Int)]
 have ka := (Keeps.refl Non w).alloc (.cells #[.int .u64 (s.a : Int), .int .u64 (s.b : Int), .int .u64 (s.c : Int), .int .u64 (s.d : Int)] 56)
 have HLk := Lib.hid (look_mt (hM.non ka) (hG.non ka) (hL.non ka) h0L hP hn hn8 ho a nb kd s D ⟨hR.h1, hR.h2, hR.ha, hR.hk, hR.hD, hR.ck⟩ true)
 have hnb := hR.h2
 clear hR hM hG hL hP
 go_enter Tryz.func283, Tryz.ntmps283
 go_upto_region 1 with fail
 obtain ⟨w1, hw1⟩ : ∃ V : World, V = w.alloc (.cells #[.int .u64 (s.a : Int), .int .u64 (s.b : Int), .int .u64 (s.c : Int), .int .u64 (s.d : Int)] 56) := ⟨_, rfl⟩
 rw [← hw1] at hA ka HLk ⊢
 clear hw1
 obtain ⟨q, hq⟩ : ∃ z, z = w.heap.size := ⟨_, rfl⟩
 rw [← hq] at hA ⊢
 have HQ := Lib.hid hq
 clear hq
 have y0 := hA.cell 0
 have y1 := hA.cell 1
 have y2 := hA.cell 2
 have y3 := hA.cell 3
 go_wp2_with ((go_at_call 289; go_must (refine HLk.out.mono ?_); rintro e w4 ⟨g, c, rfl, hc, hB, hg, hK4⟩))
 go_ret2
 exact ⟨rfl, ka.non hK4⟩
end
end Go.Proofs.YtolknnmaadkgiaaGreatDoor
namespace Go.Proofs.YtolknnmaadkgiaaGreatDoor
set_option maxRecDepth 100000
open Go.RowKit Go.Uc
def encS (x : Sl) : List Value := [x.v]
theorem encS_len (x : Sl) : (encS x).length = 1 := rfl
theorem encS_one (x : Sl) : ∀ u ∈ encS x, u.oneCell' = true := by intro u hu; simp [encS] at hu; subst hu; rfl
structure Ww where
 d : Nat
 at_ : Nat
 b : Sl
def encM (x : Ww) : List Value := [.int .i64 (x.d : Int), .int .i64 (x.at_ : Int), x.b.v]
theorem encM_len (x : Ww) : (encM x).length = 3 := rfl
theorem encM_one (x : Ww) : ∀ u ∈ encM x, u.oneCell' = true := by
 intro u hu
 simp only [encM, List.mem_cons, List.not_mem_nil, or_false] at hu
 rcases hu with rfl | rfl | rfl <;> rfl
theorem info55 : (Tryz.prog.info? 22).map (fun i => (i.zero, i.size, i.bytes)) = some (some (.slice none 0 0), 1, 24) := by kernel_rfl
theorem info130 : (Tryz.prog.info? 140).map (fun i => (i.zero, i.size, i.bytes)) = some (some (.pointer none), 1, 8) := by kernel_rfl
theorem info178 : (Tryz.prog.info? 274).map (fun i => (i.zero, i.size, i.bytes)) = some (some (.agg #[.int .i64 0, .int .i64 0, .slice none 0 0]), 3, 40) := by kernel_rfl
structure Qb where
 q : Nat
 d : Nat
 db : Nat
 dc : Nat
 j : Nat
 dn : Nat
structure Dd (w0 w : World) (Q : Qb) (n : Nat) (pv wv : Sl) : Prop where
 pw : ∃ z, Blk w Q.q 139 #[.slice (some ⟨Q.db, 0, none⟩) Q.dn Q.dc, wv.v, .int .i64 (-1), .bool false, .int .i64 z]
 ds : ∃ cs, Blk w Q.db 140 cs ∧ cs[Q.j]? = some (.pointer (some ⟨Q.d, 0, none⟩)) ∧ Q.j < Q.dn ∧ Q.dn ≤ Q.dc
 dk : Blk w Q.d 143 #[pv.v, .bool false]
 pl : ∃ P : List Sl, RowP w 22 1 encS pv.v P ∧ pv.n = P.length ∧ P.length = n
 wt : ∃ M : List Ww, RowP w 274 3 encM wv.v M ∧ wv.n = M.length ∧ ∀ x ∈ M, x.at_ < n ∧ x.d = Q.j
 new : w0.heap.size ≤ Q.q ∧ w0.heap.size ≤ Q.d ∧ w0.heap.size ≤ Q.db ∧ (∀ g ∈ own pv.v, w0.heap.size ≤ g) ∧ ∀ g ∈ own wv.v, w0.heap.size ≤ g
 keep : Keeps Non w0 w
def Fd (Q : Qb) (pv wv : Sl) (g : Nat) : Prop := g = Q.q ∨ g = Q.d ∨ g ∈ own pv.v ∨ g ∈ own wv.v
theorem Dd.non {w0 w w' : World} {Q : Qb} {n : Nat} {pv wv : Sl} (h : Dd w0 w Q n pv wv) (hk : Keeps Non w w') : Dd w0 w' Q n pv wv :=
 ⟨h.pw.imp fun _ i => i.non hk, h.ds.imp fun _ i => ⟨i.1.non hk, i.2⟩, h.dk.non hk, h.pl.imp fun _ i => ⟨i.1.non hk, i.2⟩, h.wt.imp fun _ i => ⟨i.1.non hk, i.2⟩, h.new, h.keep.non hk⟩
theorem Dd.free {w0 w : World} {Q : Qb} {n : Nat} {pv wv : Sl} (h : Dd w0 w Q n pv wv) {g t : Nat} {cs : Array Value} (hg : Blk w g t cs) (h1 : t ≠ 139) (h2 : t ≠ 143) (h3 : t ≠ 22) (h4 : t ≠ 274) : ¬ Fd Q pv wv g := by
 obtain ⟨z, hp⟩ := h.pw
 obtain ⟨P, hP, -⟩ := h.pl
 obtain ⟨M, hM, -⟩ := h.wt
 rintro (e | e | e | e)
 · exact hg.ne hp h1 e
 · exact hg.ne h.dk h2 e
 · exact own_type hP hg h3 e
 · exact own_type hM hg h4 e
set_option maxHeartbeats 1000000 in
theorem noughts56_any (w : World) : Calls Tryz.prog 60 #[] w fun e w' => ∃ s : Sl, e = .returned s.v ∧ s.n = 128 ∧ Keeps Non w w' := by
 go_enter Tryz.func60, Tryz.ntmps60
 go_wp2_with (at_make; go_must (refine wpList_make_bytes rfl (.const (.int .i64 128)) (.const (.int .i64 128)) 22 rfl 5 Tryz.underlying22 info5 .i64 .i64 _ _ 128 rfl rfl (by omega) (by omega) (by omega) ?_); intro w1 hB1 hK1)
 go_ret
 exact ⟨⟨_, 128, 128⟩, rfl, rfl, hK1⟩
set_option maxHeartbeats 1000000 in
theorem newPower23_any (w : World) : Calls Tryz.prog 29 #[] w fun e w' => ∃ q, e = .returned (.pointer (some ⟨q, 0, none⟩)) ∧ Blk w' q 139 #[.slice none 0 0, .slice none 0 0, .int .i64 (-1), .bool false, .int .i64 0] ∧ w.heap.size ≤ q ∧ Keeps Non w w' := by
 go_enter Tryz.func29, Tryz.ntmps29
 go_wp2_with fail
 go_ret
 exact ⟨_, rfl, Blk.new _ _ _, Nat.le_refl _, (Keeps.refl Non w).alloc _⟩
end Go.Proofs.YtolknnmaadkgiaaGreatDoor
