/- A leaf put in the place of another one; bytes padded. A mirror written. The leaves that are there, one by one: the iterator. What an iterator's bookkeeping leaves; a mirror flushed. -/
import Derived.Test.YtolknnmaadkgiaaGreatDoorG19
import Derived.RangeFuncNested
import Derived.RangeFuncBound
import Derived.RangeFuncCalls
import Derived.RangeFuncLeaves
import Derived.Shelf.Abstract
import Derived.Shelf.RegionOpen
import Derived.WalkKit
import Derived.OwnWalkIn
import Derived.TacticsInMore
import Derived.LoopNIn
import Derived.LoopIn
set_option linter.unusedVariables false
set_option linter.unusedSimpArgs false
namespace Go.Proofs.YtolknnmaadkgiaaGreatDoor
set_option maxRecDepth 100000
open Go.RowKit Go.Uc
section
variable {w w' : World} {t sz : Nat} {lv kv : Sl} {L : List (Option Nat)} {lk : List Lk}
theorem Mt.setL (h : Mt w t lv kv L lk sz) {g k : Nat} (hg : lv.A = some ⟨g, 0, none⟩) (hk : k < L.length) (x : Option Nat) :
   Mt (w.setCell ⟨g, k, none⟩ (.pointer (x.map fun b => ⟨b, 0, none⟩))) t lv kv (L.set k x) lk sz ∧ Keeps (fun g => g ∈ own lv.v) w (w.setCell ⟨g, k, none⟩ (.pointer (x.map fun b => ⟨b, 0, none⟩))) := by
 obtain ⟨lA, ln, lc⟩ := lv
 simp only at hg
 subst hg
 have hln : ln = L.length := h.ln
 subst hln
 have hk3 : Keeps (Only g) w (w.setCell ⟨g, k, none⟩ (.pointer (x.map fun b => ⟨b, 0, none⟩))) := (Keeps.refl (Only g) w).set (p := ⟨g, k, none⟩) rfl _
 have hR := RowP.setAt encO_len h.lr hk x
 obtain ⟨cur, hB⟩ : ∃ cur, Blk w g 93 cur := by
   rcases h.lr.form with ⟨e, -⟩ | ⟨g', cap, cur, e, hB, -⟩
   · cases e
   · injection e with e
     injection e with e
     injection e with e
     subst e
     exact ⟨cur, hB⟩
 refine ⟨⟨h.blk.one hk3 (h.blk.ne hB (by decide)), ?_, by simp, h.kr.keep hk3 fun q hq e => by unfold Only at e; subst e; exact own_type h.kr hB (by decide) hq, h.kn, by rw [List.length_set]; exact h.len, by rw [List.length_set]; exact h.few⟩, hk3.mono fun q e => by unfold Only at e; subst e; show q ∈ own (.slice _ _ _); rw [own_slice]; exact List.mem_singleton.2 rfl⟩
 rw [Nat.mul_one] at hR
 exact hR
set_option maxHeartbeats 4000000 in
theorem put_any (h : Mt w t lv kv L lk sz) (k : Nat) (hk : k < L.length) (lf : Nat) (HS : ∀ V, Keeps Non w V → Calls Tryz.prog 135 #[.pointer (some ⟨lf, 0, none⟩)] V fun e w' => e = .returned (.int .i64 (sz : Int)) ∧ w' = V) :
   Calls Tryz.prog 281 #[.pointer (some ⟨t, 0, none⟩), .int .i64 (k : Int), .pointer (some ⟨lf, 0, none⟩)] w fun e w' => e = .returned (.int .i64 0) ∧ Mt w' t lv kv (L.set k (some lf)) (lk.set k Lk.no) sz ∧ Keeps (fun g => g ∈ own lv.v ∨ g ∈ own kv.v) w w' := by
 have HH := Lib.hid (fun V (hV : Keeps Non w V) => has_yes (h.non hV) k hk)
 have HSz := Lib.hid HS
 have c2 := h.c2
 have hlt : k < lk.length := by rw [h.len]; exact hk
 have H := Lib.hid h
 clear HS h
 have HQ : Hid (∀ n V, Keeps Non w V → Keeps Non w (V.drewN n)) := Lib.hid (fun n V hV => hV.drewN n)
 go_enter Tryz.func281, Tryz.ntmps281
 go_upto_region 1 with fail
 go_quiet (first
   | (go_at_call 287; exact Calls.quiet_of_same (HH.out _ (by first | exact Keeps.refl _ _ | exact (Keeps.refl _ _).drewN _ | exact (Keeps.refl _ _).drew)))
   | (go_at_call 135; exact Calls.quiet_of_same (HSz.out _ (by first | exact Keeps.refl _ _ | exact (Keeps.refl _ _).drewN _ | exact (Keeps.refl _ _).drew))))
 obtain ⟨w1, hw1⟩ : ∃ V : World, V = w.drewN nq := ⟨_, rfl⟩
 have hk1 : Keeps Non w w1 := by rw [hw1]; exact (Keeps.refl _ _).drewN _
 rw [← hw1]
 clear hw1 c2
 go_upto_region 3 with fail
 have hM1 := H.out.non hk1
 have c0 := hM1.c0
 have c1 := hM1.c1
 obtain ⟨gl, capl, e1, -, -, hcl, hfl, -⟩ := hM1.lr.at_ encO_len hk
 obtain ⟨g, cap, e2, -, -, hc, hf, -⟩ := hM1.kr.at_ encK_len hlt
 injection e1 with e1 _ _
 injection e2 with e2 _ _
 rw [e1] at c0
 rw [e2] at c1
 have hne : ¬ g = gl := fun e => by
   subst e
   obtain ⟨cur, hB⟩ : ∃ cur, Blk w1 g 93 cur := by
     rcases hM1.lr.form with ⟨e, -⟩ | ⟨g', cap, cur, e, hB, -⟩
     · have : (Value.slice lv.A lv.n lv.c) = Value.slice none 0 0 := e
       rw [e1] at this
       cases this
     · have e' : (Value.slice lv.A lv.n lv.c) = Value.slice (some ⟨g', 0, none⟩) L.length cap := e
       rw [e1] at e'
       injection e' with e'
       injection e' with e'
       injection e' with e'
       subst e'
       exact ⟨cur, hB⟩
   exact own_type hM1.kr hB (by decide) (by show g ∈ own (.slice kv.A kv.n kv.c); rw [e2, own_slice]; exact List.mem_singleton.2 rfl)
 have hne' : ¬ gl = g := fun e => hne e.symm
 have htl : ¬ t = gl := fun e => by
   subst e
   exact own_type hM1.lr hM1.blk (by decide) (by show t ∈ own (.slice lv.A lv.n lv.c); rw [e1, own_slice]; exact List.mem_singleton.2 rfl)
 have htg : ¬ t = g := fun e => by
   subst e
   exact own_type hM1.kr hM1.blk (by decide) (by show t ∈ own (.slice kv.A kv.n kv.c); rw [e2, own_slice]; exact List.mem_singleton.2 rfl)
 obtain ⟨u0, y0⟩ : ∃ v, w1.cell? ⟨gl, k, none⟩ = some v := ⟨_, by have := hcl 0 (by decide); rw [Nat.mul_one] at this; exact this⟩
 have g0 : w1.frozen? ⟨gl, k, none⟩ = false := hfl _
 obtain ⟨v0, x0⟩ : ∃ v, w1.cell? ⟨g, k * 3, none⟩ = some v := ⟨_, hc 0 (by decide)⟩
 obtain ⟨v1, x1⟩ : ∃ v, w1.cell? ⟨g, k * 3 + 1, none⟩ = some v := ⟨_, hc 1 (by decide)⟩
 obtain ⟨v2, x2⟩ : ∃ v, w1.cell? ⟨g, k * 3 + 2, none⟩ = some v := ⟨_, hc 2 (by decide)⟩
 have f0 : w1.frozen? ⟨g, k * 3, none⟩ = false := hf _
 have f1 : w1.frozen? ⟨g, k * 3 + 1, none⟩ = false := hf _
 have f2 : w1.frozen? ⟨g, k * 3 + 2, none⟩ = false := hf _
 have hki : (k : Int) < (L.length : Int) := by omega
 have HE := Lib.hid (And.intro e1 e2)
 clear hc hf hcl hfl hM1 e1 e2
 go_region
 all_goals
   go_wp2_with fail
   go_ret
   first
     | (obtain ⟨m1, k2⟩ := (H.out.non hk1).setL HE.out.1 hk (some lf)
        obtain ⟨m2, k3⟩ := m1.setK HE.out.2 (by rw [List.length_set]; exact hk) Lk.no
        exact ⟨rfl, m2.non ((Keeps.refl Non _).drew), ((hk1.of_non.trans (k2.mono fun _ e => .inl e)).trans (k3.mono fun _ e => .inr e)).drew⟩)
     | (obtain ⟨m1, k2⟩ := (H.out.non hk1).setK HE.out.2 hk Lk.no
        obtain ⟨m2, k3⟩ := m1.setL HE.out.1 hk (some lf)
        exact ⟨rfl, m2.non ((Keeps.refl Non _).drew), ((hk1.of_non.trans (k2.mono fun _ e => .inr e)).trans (k3.mono fun _ e => .inl e)).drew⟩)
def pad (b : List UInt8) : List UInt8 := b ++ zeros (128 * need b.length - b.length)
theorem pad_len {b : List UInt8} : (pad b).length = 128 * need b.length := by
 unfold pad need
 rw [List.length_append, zeros_length]
 omega
set_option maxHeartbeats 2000000 in
theorem padded_any (v : Value) (b : List UInt8) (A : Option Addr) (c : Nat) (h1 : 1 ≤ b.length) (h2 : b.length ≤ 1024) (hA : At w A b) :
   Calls Tryz.prog 291 #[v, .slice A b.length c] w fun e w' => ∃ g, e = .returned (.slice (some ⟨g, 0, none⟩) (128 * need b.length) (128 * need b.length)) ∧ Blk w' g 5 (pc (pad b)) ∧ w.heap.size ≤ g ∧ Keeps Non w w' := by
 have HN := Lib.hid (fun v V => need_any v b.length h1 h2 V)
 obtain ⟨k, hk⟩ : ∃ k, k = need b.length := ⟨_, rfl⟩
 rw [← hk] at HN
 have hkb : k ≤ 8 ∧ b.length ≤ 128 * k := by unfold need at hk; omega
 have HP : Hid ((zeros (128 * k)).take 0 ++ (b ++ (zeros (128 * k)).drop (0 + b.length)) = pad b) := Lib.hid (by rw [List.take_zero, List.nil_append, Nat.zero_add, zeros_drop, pad, hk])
 have HK := Lib.hid hk
 rw [← hk]
 obtain ⟨M, hM⟩ : ∃ M, M = 128 * k := ⟨_, rfl⟩
 have hmk := made_bytes M (by omega)
 have hw : IntKind.i64.wrap ((k : Int) * 128) = (M : Int) := by rw [IntKind.wrap_i64]; omega
 have hmn : Hid (b.length = Nat.min b.length M) := Lib.hid (Nat.min_eq_left (by omega)).symm
 have hft : Hid (0 + b.length ≤ (zeros M).length) := Lib.hid (by rw [zeros_length]; omega)
 rw [← hM] at HP ⊢
 have HM := Lib.hid hM
 clear hk hM
 go_enter Tryz.func291, Tryz.ntmps291
 go_upto_region 2 with ((go_at_call 280; go_must (refine (HN.out _ _).mono ?_); rintro e w3 ⟨rfl, hw3⟩; subst w3))
 have hB1 := Blk.new w 5 (pc (zeros M))
 have hk1 := (Keeps.refl Non w).alloc (.cells (pc (zeros M)) 5)
 obtain ⟨w1, hw1⟩ : ∃ V : World, V = w.alloc (.cells (pc (zeros M)) 5) := ⟨_, rfl⟩
 rw [← hw1] at hB1 hk1 ⊢
 clear hw1
 obtain ⟨g, hg⟩ : ∃ z, z = w.heap.size := ⟨_, rfl⟩
 rw [← hg] at hB1 ⊢
 have HG := Lib.hid hg
 clear hg
 have hA1 := hA.non hk1
 go_wp2_with ((with_reducible show wpList _ _ _ ({ dst := some 14, op := _, type := _, pos := _, after := _, guard := _ } :: _) _ _); go_must (refine wpList_copy_bytes rfl (.tmp 12) (.tmp 13) 22 22 rfl 5 Tryz.underlying22 infoS5 (some ⟨g, 0, none⟩) A M M b.length c rfl rfl g 0 (zeros M) 5 hB1 b hmn.out (fun _ => rfl) hA1 hft.out ?_); intro w2 hB2 hK2; rw [HP.out] at hB2)
 go_ret
 exact ⟨g, rfl, hB2, Nat.le_of_eq HG.out.symm, hk1.then hK2 fun i hi e => by unfold Only at e; have := HG.out; omega⟩
end
end Go.Proofs.YtolknnmaadkgiaaGreatDoor
namespace Go.Proofs.YtolknnmaadkgiaaGreatDoor
set_option maxRecDepth 100000
open Go.RowKit Go.Uc
structure Lr where
 b : Nat
 ix : Nat
 tA : Option Addr
 tc : Nat
def St.all (T : St) (I : List Nat) (U : (Nat → List UInt8) → Nat → List UInt8) (W : List Wt) : St := ⟨fun i => if i ∈ I then U (T.f i) else T.f i, T.g, ⟨T.P.waits ++ W, T.P.left, T.P.off⟩⟩
theorem St.all_nil (T : St) (U : (Nat → List UInt8) → Nat → List UInt8) : T.all [] U [] = T := by
 obtain ⟨f, g, a, b, c⟩ := T
 simp [St.all]
theorem St.all_snoc (T : St) (I : List Nat) (U : (Nat → List UInt8) → Nat → List UInt8) (W W' : List Wt) (i : Nat) (hi : i ∉ I) : (T.all I U W).wr i (U ((T.all I U W).f i)) W' = T.all (I ++ [i]) U (W ++ W') := by
 unfold St.all St.wr
 simp only [List.append_assoc, St.mk.injEq, and_true, true_and]
 funext j
 by_cases e : j = i
 · subst e
   simp [hi]
 · simp [e]
def Of (K : Nat → Kb) (I : List Nat) (W : List Wt) : Prop := ∀ y ∈ W, ∃ i ∈ I, y.d = (K i).d
theorem Of.nil (K : Nat → Kb) (I : List Nat) : Of K I [] := fun y hy => (List.not_mem_nil hy).elim
theorem Of.app {K : Nat → Kb} {I I' : List Nat} {W W' : List Wt} (h : Of K I W) (h' : Of K I' W') : Of K (I ++ I') (W ++ W') := fun y hy => by
 rcases List.mem_append.1 hy with hy | hy
 · obtain ⟨i, hi, e⟩ := h y hy; exact ⟨i, List.mem_append_left _ hi, e⟩
 · obtain ⟨i, hi, e⟩ := h' y hy; exact ⟨i, List.mem_append_right _ hi, e⟩
def ixs (F : Nat → Lr) (k : Nat) : List Nat := (List.range k).map fun j => (F j).ix
theorem ixs_succ (F : Nat → Lr) (k : Nat) : ixs F (k + 1) = ixs F k ++ [(F k).ix] := by simp [ixs, List.range_succ]
theorem mem_ixs {F : Nat → Lr} {k i : Nat} : i ∈ ixs F k ↔ ∃ j, j < k ∧ (F j).ix = i := by simp [ixs]
structure Lvs (w0 w : World) (m : Nat) (K : Nat → Kb) (X : Nat → Lb) (F : Nat → Lr) (L : List (Option Nat)) : Prop where
 lf : ∀ k b, L[k]? = some (some b) → b = (F k).b ∧ (F k).ix < m ∧ Lq w0 w (F k).b (K (F k).ix).d (X k) (F k).tA (F k).tc
 inj : ∀ j k bj bk, L[j]? = some (some bj) → L[k]? = some (some bk) → j ≠ k → (F j).ix ≠ (F k).ix
section
variable {w0 w w' : World} {p m n t sz : Nat} {dv lv kv : Sl} {K : Nat → Kb} {T : St} {L : List (Option Nat)} {lk : List Lk} {X : Nat → Lb} {F : Nat → Lr}
theorem Lvs.non (h : Lvs w0 w m K X F L) (hk : Keeps Non w w') : Lvs w0 w' m K X F L :=
 ⟨fun k b e => let ⟨h1, h2, h3⟩ := h.lf k b e; ⟨h1, h2, h3.non hk⟩, h.inj⟩
theorem Lvs.fg (h : Lvs w0 w m K X F L) (hG : Gs w0 w p dv m n K T) (hk : Keeps (Fg w p m K) w w') : Lvs w0 w' m K X F L :=
 ⟨fun k b e => let ⟨h1, h2, h3⟩ := h.lf k b e; ⟨h1, h2, hG.stayL hk h3⟩, h.inj⟩
theorem Mt.fg {sz : Int} (h : Mt w t lv kv L lk sz) (hG : Gs w0 w p dv m n K T) (hk : Keeps (Fg w p m K) w w') : Mt w' t lv kv L lk sz :=
 ⟨hG.stay hk h.blk (by decide) (by decide) (by decide), hG.stayRow hk h.lr (by decide) (by decide) (by decide), h.ln, hG.stayRow hk h.kr (by decide) (by decide) (by decide), h.kn, h.len, h.few⟩
theorem fg_not {g : Nat} (hk : Keeps (Fg w p m K) w w') (hg : g < w.heap.size) (hF : ¬ Fg w p m K g) : ¬ Fg w' p m K g := fun e => by
 rcases e with e | ⟨cs, e⟩
 · exact hF (.inl e)
 · refine hF (.inr ⟨cs, ?_⟩)
   have := hk.block g hg hF
   unfold Blk at e ⊢
   rw [← this]
   exact e
theorem fg_not_non {g : Nat} (hk : Keeps Non w w') (hg : g < w.heap.size) (hF : ¬ Fg w p m K g) : ¬ Fg w' p m K g := fg_not hk.of_non hg hF
def Far (w : World) (p m : Nat) (K : Nat → Kb) (A : Option Addr) : Prop := ∀ ad, A = some ad → ad.block < w.heap.size ∧ ¬ Fg w p m K ad.block
theorem Far.fg {A : Option Addr} (h : Far w p m K A) (hk : Keeps (Fg w p m K) w w') : Far w' p m K A := fun ad e => ⟨by have := (h ad e).1; have := hk.size; omega, fg_not hk (h ad e).1 (h ad e).2⟩
theorem Far.at_ {A : Option Addr} {b : List UInt8} (h : Far w p m K A) (hA : At w A b) (hk : Keeps (Fg w p m K) w w') : At w' A b := hA.keep hk fun ad e => (h ad e).2
theorem Mt.headL {sz : Int} (h : Mt w t lv kv L lk sz) (h0 : 0 < L.length) : ∃ gl, lv.A = some ⟨gl, 0, none⟩ := by
 obtain ⟨gl, capl, e1, -⟩ := h.lr.at_ encO_len h0
 injection e1 with e1 _ _
 exact ⟨gl, e1⟩
theorem Mt.cellL {sz : Int} (h : Mt w t lv kv L lk sz) {gl k : Nat} (hg : lv.A = some ⟨gl, 0, none⟩) {o : Option Nat} (ho : L[k]? = some o) : w.cell? ⟨gl, k, none⟩ = some (.pointer (o.map fun b => ⟨b, 0, none⟩)) := by
 have hlt : k < L.length := by
   rcases Nat.lt_or_ge k L.length with h | h
   · exact h
   · rw [List.getElem?_eq_none h] at ho; cases ho
 obtain ⟨gl', capl, e1, -, -, hcl, -, -⟩ := h.lr.at_ encO_len hlt
 injection e1 with e1 _ _
 rw [hg] at e1
 injection e1 with e1
 injection e1 with e1
 subst e1
 have hLj : L[k] = o := by rw [List.getElem?_eq_getElem hlt] at ho; injection ho
 rw [hLj] at hcl
 have := hcl 0 (by decide)
 rw [Nat.mul_one] at this
 exact this
set_option maxHeartbeats 8000000 in
theorem write_mt (hM : Mt w t lv kv L lk sz) (hG : Gs w0 w p dv m n K T) (hL : Lvs w0 w m K X F L) (hall : ∀ k, k < L.length → ∃ b, L[k]? = some (some b)) (h0 : 0 < L.length) (hn : 324 ≤ n) (hsz : sz = n - 292) (ho : T.P.on) (hw : T.P.waits.length ≤ 900000000)
   (a : Nat) (b : List UInt8) (h1 : 1 ≤ b.length) (h2 : b.length ≤ 1024) (ha : a + need b.length ≤ sz) (tx : Nat) (ht1 : 1 ≤ tx) (ht2 : tx ≤ 281474976710656) (A : Option Addr) (c : Nat) (hA : At w A b) (hF : Far w p m K A) :
   Calls Tryz.prog 286 #[.pointer (some ⟨t, 0, none⟩), .int .i64 (a : Int), .slice A b.length c, .int .u64 (tx : Int)] w fun e w' => ∃ W, e = .returned (.int .i64 0) ∧ Gs w0 w' p dv m n K (T.all (ixs F L.length) (fun f => updN f (274 + a) (need b.length) (pad b)) W) ∧ W.length ≤ 8 * L.length ∧ Of K (ixs F L.length) W ∧ Keeps (Fg w p m K) w w' := by
 have hn8 : n ≤ 8192 := by
   obtain ⟨b0, e0⟩ := hall 0 h0
   exact (hG.n2 (hL.lf 0 b0 e0).2.1).2
 have HFit := Lib.hid (fits_yes hM a b.length h1 h2 ha (by omega))
 have HPd : Hid (∀ V, Keeps (Fg w p m K) w V → Calls Tryz.prog 291 #[.pointer (some ⟨t, 0, none⟩), .slice A b.length c] V fun e w' => ∃ g, e = .returned (.slice (some ⟨g, 0, none⟩) (128 * need b.length) (128 * need b.length)) ∧ Blk w' g 5 (pc (pad b)) ∧ V.heap.size ≤ g ∧ Keeps Non V w') := Lib.hid (fun V hV => padded_any _ b A c h1 h2 (hF.at_ hA hV))
 have hpl := pad_len (b := b)
 obtain ⟨k0, hk0⟩ : ∃ k, k = need b.length := ⟨_, rfl⟩
 have hk8 : k0 ≤ 8 := by rw [hk0]; unfold need; omega
 obtain ⟨bs, hbs⟩ : ∃ bs, bs = pad b := ⟨_, rfl⟩
 rw [← hk0, ← hbs] at HPd hpl
 rw [← hk0] at ha
 rw [← hk0, ← hbs]
 have HPL := Lib.hid hpl
 clear hpl hk0 hbs
 have HW : Hid (∀ (V : World) (k : Nat) (W : List Wt) (g : Nat) (bk : Nat), k < L.length → L[k]? = some (some bk) → Gs w0 V p dv m n K (T.all (ixs F k) (fun f => updN f (274 + a) k0 bs) W) → Lvs w0 V m K X F L → W.length ≤ 8 * k → Blk V g 5 (pc bs) → ¬ Fu p m K g →
     Calls Tryz.prog 249 #[.pointer (some ⟨bk, 0, none⟩), .int .i64 (a : Int), .slice (some ⟨g, 0, none⟩) (128 * k0) (128 * k0)] V fun e w' => ∃ W', e = .returned (.int .i64 0) ∧ Gs w0 w' p dv m n K (T.all (ixs F (k + 1)) (fun f => updN f (274 + a) k0 bs) (W ++ W')) ∧ W'.length ≤ 8 ∧ Of K [(F k).ix] W' ∧ Keeps (Fg V p m K) V w') := Lib.hid (fun V k W g bk hk hLk hGV hLV hWl hB hFu => by
   obtain ⟨e1, e2, e3⟩ := hLV.lf k bk hLk
   subst e1
   have hnot : (F k).ix ∉ ixs F k := fun hm => by
     obtain ⟨j, hj, e⟩ := mem_ixs.1 hm
     obtain ⟨bj, ej⟩ := hall j (by omega)
     exact hL.inj j k bj _ ej hLk (by omega) e
   refine (gs_write hGV e2 e3 hn ho (by show (T.P.waits ++ W).length ≤ _; have := hM.few; rw [List.length_append]; omega) a k0 (by omega) bs (some ⟨g, 0, none⟩) (128 * k0) (At.blk hB) HPL.out (by omega) (by rw [HPL.out]; exact Nat.le_refl _) (fun ad e => by injection e with e; subst e; exact ⟨hB.lt, hGV.freeB hB hFu⟩)).mono ?_
   rintro e w' ⟨W', rfl, j1, j2, j3, -, j5⟩
   refine ⟨W', rfl, ?_, by omega, fun y hy => ⟨_, List.mem_singleton.2 rfl, (j3 y hy).1⟩, j5⟩
   rw [ixs_succ, ← St.all_snoc T (ixs F k) _ W W' _ hnot]
   exact j1)
 have HMt := Lib.hid (fun V (hV : Keeps (Fg w p m K) w V) => hM.fg hG hV)
 have HLv := Lib.hid (fun V (hV : Keeps (Fg w p m K) w V) => hL.fg hG hV)
 have HNw := Lib.hid (fun V (TV : St) (hGV : Gs w0 V p dv m n K TV) g (hg : V.heap.size ≤ g) => hGV.new hg)
 have HAll := Lib.hid hall
 have d1 : decide ((tx : Int) < 1) = false := decide_eq_false (by omega)
 have d2 : decide ((281474976710656 : Int) < (tx : Int)) = false := decide_eq_false (by omega)
 have c0 := hM.c0
 obtain ⟨gl, hgl⟩ := hM.headL h0
 rw [hgl] at c0
 have HE := Lib.hid hgl
 clear hgl
 have HG0 : Hid (Gs w0 w p dv m n K (T.all (ixs F 0) (fun f => updN f (274 + a) k0 bs) [])) := Lib.hid (by show Gs w0 w p dv m n K (T.all [] _ []); rw [St.all_nil]; exact hG)
 have hfew := hM.few
 clear hM hG hL hall hA hF ha
 go_enter Tryz.func286, Tryz.ntmps286
 go_upto_region 5 with ((go_at_call 290; go_must (refine HFit.out.mono ?_); rintro e w3 ⟨rfl, hw3⟩; subst w3))
 go_loopw [9, 32] (fun tk i wr => ∃ (j : Nat) (W : List Wt), j ≤ L.length ∧ i = .int .i64 (j : Int) ∧ tk = .bool (decide (0 < j)) ∧ Gs w0 wr p dv m n K (T.all (ixs F j) (fun f => updN f (274 + a) k0 bs) W) ∧ W.length ≤ 8 * j ∧ Of K (ixs F j) W ∧ Keeps (Fg w p m K) w wr) (fun _ i _ => L.length - (intOf i).toNat)
 case atStart => exact ⟨0, [], Nat.zero_le _, rfl, rfl, HG0.out, Nat.le_refl _, Of.nil _ _, Keeps.refl _ _⟩
 case round =>
   obtain ⟨j, W, hj, rfl, rfl, hGj, hWl, hOf, hK⟩ := hrel
   obtain ⟨wx, rfl⟩ : ∃ V : World, V = wr := ⟨_, rfl⟩
   have HI := Lib.hid (And.intro hGj (And.intro hWl hOf))
   clear hGj hWl hOf
   by_cases hlt : j < L.length
   · have hji : (j : Int) < (L.length : Int) := by omega
     obtain ⟨bj, ej⟩ := HAll.out j hlt
     have y0 : wx.cell? ⟨gl, j, none⟩ = some (.pointer (some ⟨bj, 0, none⟩)) := (HMt.out wx hK).cellL HE.out ej
     have HPx := Lib.hid (HPd.out wx hK)
     have HWx := Lib.hid (fun V g a1 a2 a3 a4 => HW.out V j W g bj hlt ej a1 a2 HI.out.2.1 a3 a4)
     have hLx := Lib.hid (HLv.out wx hK)
     clear ej
     go_upto_region 10 with (first
       | (go_at_call 291; go_must (refine HPx.out.mono ?_); rintro e w4 ⟨g, rfl, hB4, hg4, hK4⟩; have HC4 := Lib.hid (HWx.out w4 g (HI.out.1.non hK4) (hLx.out.non hK4) hB4 (HNw.out wx _ HI.out.1 g hg4)); have hK4w := Lib.hid (hK.non hK4))
       | (go_at_call 249; go_must (refine HC4.out.mono ?_); rintro e w5 ⟨W', rfl, hG5, hW5, hO5, hK5⟩))
     have HR := Lib.hid (show _ ∧ _ ∧ _ ∧ _ from ⟨hG5, (by rw [List.length_append]; have := HI.out.2.1; omega : (W ++ W').length ≤ 8 * (j + 1)), (by rw [ixs_succ]; exact HI.out.2.2.app hO5 : Of K (ixs F (j + 1)) (W ++ W')), fg_trans hK4w.out hK5⟩)
     clear hG5 hW5 hO5 hK5 HC4 hB4 hK4 hg4 y0
     go_wp2_with fail
     go_roundw
     case rel => exact ⟨j + 1, W ++ W', by omega, by go_num, by simp, HR.out⟩
     case measure => simp [intOf]; omega
   · obtain rfl : j = L.length := by omega
     have hd : decide (0 < L.length) = true := decide_eq_true h0
     rw [hd]
     go_wp2_with fail
     go_ret
     exact ⟨W, rfl, HI.out.1, HI.out.2.1, HI.out.2.2, hK⟩
end
end Go.Proofs.YtolknnmaadkgiaaGreatDoor
namespace Go.Proofs.YtolknnmaadkgiaaGreatDoor
set_option maxRecDepth 100000
open Go.RowKit Go.Uc Go.Shelf
attribute [local go_sem] Oper.semAt_some
def pres (L : List (Option Nat)) (k : Nat) : List (Nat × Nat) := (List.range k).filterMap fun j => match L[j]? with | some (some b) => some (j, b) | _ => none
theorem pres_some {L : List (Option Nat)} {k b : Nat} (h : L[k]? = some (some b)) : pres L (k + 1) = pres L k ++ [(k, b)] := by
 unfold pres
 rw [List.range_succ, List.filterMap_append]
 simp [h]
theorem pres_none {L : List (Option Nat)} {k : Nat} (h : L[k]? = some none) : pres L (k + 1) = pres L k := by
 unfold pres
 rw [List.range_succ, List.filterMap_append]
 simp [h]
theorem pres_len (L : List (Option Nat)) (k : Nat) : (pres L k).length ≤ k := by
 unfold pres
 refine Nat.le_trans (List.length_filterMap_le _ _) ?_
 simp
def encX (x : Nat × Nat) : Array Value := #[.int .i64 (x.1 : Int), .pointer (some ⟨x.2, 0, none⟩)]
def KpL (W W' : World) : Prop := ∀ g cs, Blk W g 93 cs → Blk W' g 93 cs
theorem KpL.trans {A B C : World} (h : KpL A B) (k : KpL B C) : KpL A C := fun g cs hg => k g cs (h g cs hg)
theorem KpL.refl (A : World) : KpL A A := fun _ _ h => h
theorem KpL.of {S : Nat → Prop} {A B : World} (h : Keeps S A B) (hS : ∀ g cs, Blk A g 93 cs → ¬ S g) : KpL A B := fun g cs hg => hg.keep h (hS g cs hg)
theorem KpL.put (W : World) (l : Nat) (o o' : Obj) (h : W.heap[l]? = some o) (hc : o.isCells = false) : KpL W (W.putObj l o') := fun g cs hg => by
 have hne : g ≠ l := by
   rintro rfl
   unfold Blk at hg
   rw [hg] at h
   injection h with h
   subst h
   cases hc
 unfold Blk at hg ⊢
 rw [World.putObj_heap_other hne]
 exact hg
theorem Below.keeps {w W : World} (h : Below w.heap.size w W) : Keeps Non w W := ⟨h.1, h.2, h.3, h.4, fun k hk _ => h.5 k hk⟩
section
variable {w w' : World} {t : Nat} {sz : Int} {lv kv : Sl} {L : List (Option Nat)} {lk : List Lk}
set_option maxHeartbeats 4000000 in
theorem there1_in (n : Nat) (hn : 1 ≤ n) (l bx : Nat) (J Jx : List (Nat × Nat) → World → Prop) (h0L : 0 < L.length)
   (hY : ∀ pre (x : Nat × Nat) W, J pre W → pre.length < 5 → L[x.1]? = some (some x.2) → YieldAt Fence.wide (n - 1) Tryz.prog l (encX x) W fun e W' =>
     (e = .returned (.bool true) ∧ J (pre ++ [x]) W' ∧ KpL W W') ∨ (e = .returned (.bool false) ∧ Jx (pre ++ [x]) W'))
   (W : World) (hbx : Blk W bx 183 #[.pointer (some ⟨t, 0, none⟩)]) (hM : Mt W t lv kv L lk sz) (h0 : J [] W) :
   CallsIn Fence.wide n Tryz.prog 166 #[.func (.yield l) #[] #[], .pointer (some ⟨bx, 0, none⟩)] W fun e W' => (∃ v, e = .returned v) ∧
     ((∃ ys, ys = pres L L.length ∧ J ys W') ∨ (∃ pre, (∃ k b, k < L.length ∧ L[k]? = some (some b) ∧ pre = pres L k ++ [(k, b)]) ∧ Jx pre W')) := by
 have x0 : W.cell? ⟨bx, 0, none⟩ = some (.pointer (some ⟨t, 0, none⟩)) := hbx.cell 0
 have c0 := hM.c0
 obtain ⟨gl, hgl⟩ := hM.headL h0L
 rw [hgl] at c0
 have hfew := hM.few
 obtain ⟨cur, hcur, hcl⟩ : ∃ cur, Blk W gl 93 cur ∧ ∀ (k : Nat) (o : Option Nat), L[k]? = some o → cur[k]? = some (Value.pointer (o.map fun b => ⟨b, 0, none⟩)) := by
   have hh := fun k o (ho : L[k]? = some o) => hM.cellL hgl ho
   rcases hM.lr.form with ⟨e, -⟩ | ⟨g', cap, cur, e, hB, -⟩
   · have e' : (Value.slice lv.A lv.n lv.c) = Value.slice none 0 0 := e
     rw [hgl] at e'
     cases e'
   · have e' : (Value.slice lv.A lv.n lv.c) = Value.slice (some ⟨g', 0, none⟩) L.length cap := e
     rw [hgl] at e'
     injection e' with e'
     injection e' with e'
     injection e' with e'
     subst e'
     exact ⟨cur, hB, fun k o ho => by have := hh k o ho; rw [hB.cell] at this; exact this⟩
 have HC := Lib.hid (And.intro hcur hcl)
 clear hM hbx hgl hcur hcl
 refine callsIn_of_wp Tryz.func166 rfl trivial ?_ rfl
 simp only [Tryz.ntmps166, List.size_toArray, List.length_cons, List.length_nil, Nat.reduceAdd, Nat.reduceSub, Array.replicate_succ, Array.replicate_zero, List.push_toArray, List.append_toArray, List.nil_append, List.cons_append]
 gi_wp2
 gi_loopw [10] (fun i wr => ∃ k : Nat, k ≤ L.length ∧ i = .int .i64 (k : Int) ∧ J (pres L k) wr ∧ KpL W wr) (fun i _ => L.length - (intOf i).toNat)
 case atStart => exact ⟨0, Nat.zero_le _, rfl, h0, KpL.refl _⟩
 case round =>
   obtain ⟨k, hk, rfl, hJs, hK⟩ := hrel
   by_cases hlt : k < L.length
   · obtain ⟨o, ho⟩ : ∃ o, L[k]? = some o := ⟨_, List.getElem?_eq_getElem hlt⟩
     have y0 : wr.cell? ⟨gl, k, none⟩ = some (.pointer (o.map fun b => ⟨b, 0, none⟩)) := by rw [(hK gl cur HC.out.1).cell]; exact HC.out.2 k o ho
     have hki : (k : Int) < (L.length : Int) := by omega
     cases o with
     | none =>
       have y1 : wr.cell? ⟨gl, k, none⟩ = some (.pointer none) := y0
       have HR := Lib.hid (And.intro (pres_none ho) hJs)
       clear y0 ho hJs
       gi_wp2
       refine ⟨fun _ h => (by cases h), ?_⟩
       gi_wp2
       go_roundw
       case rel => exact ⟨k + 1, by omega, by go_num, by rw [HR.out.1]; exact HR.out.2, hK⟩
       case measure => simp [intOf]; omega
     | some b =>
       have y1 : wr.cell? ⟨gl, k, none⟩ = some (.pointer (some ⟨b, 0, none⟩)) := y0
       obtain ⟨fn, tmps, assign, body, hy, hR⟩ := hY _ (k, b) wr hJs (by have := pres_len L k; omega) ho
       have HP := Lib.hid (pres_some ho)
       have HO := Lib.hid ho
       unfold encX at hy
       dsimp only at hy
       clear y0 ho
       gi_wp2
       refine hR.mono ?_
       rintro e W3 (⟨rfl, hJ3, hk3⟩ | ⟨rfl, hJx3⟩)
       · gi_wp2
         go_roundw
         case rel => exact ⟨k + 1, by omega, by go_num, by rw [HP.out]; exact hJ3, hK.trans hk3⟩
         case measure => simp [intOf]; omega
       · gi_wp2
         refine bodyPost_ret (results_none rfl _ _ _) rfl ?_
         exact ⟨⟨_, rfl⟩, .inr ⟨_, ⟨k, b, hlt, HO.out, rfl⟩, hJx3⟩⟩
   · obtain rfl : k = L.length := by omega
     gi_wp2
     go_end0
     exact ⟨⟨_, rfl⟩, .inl ⟨_, rfl, hJs⟩⟩
abbrev Pl (L : List (Option Nat)) : Type := { x : Nat × Nat // L[x.1]? = some (some x.2) }
theorem there_stops (n : Nat) (hn : 1 ≤ n) (bx : Nat) (h0L : 0 < L.length) (hbx : Blk w bx 183 #[.pointer (some ⟨t, 0, none⟩)]) (hM : Mt w t lv kv L lk sz) :
   SeqStopsK Fence.wide n Tryz.prog 166 #[.pointer (some ⟨bx, 0, none⟩)] (fun x : Pl L => encX x.1) KpL (fun ys => ys.map (·.1) = pres L L.length) (fun pre => ∃ k b, k < L.length ∧ L[k]? = some (some b) ∧ pre.map (·.1) = pres L k ++ [(k, b)]) 5 w := fun l J Jx W hW _ _ hY h0 => by
 refine (there1_in n hn l bx (fun pre V => ∃ q : List (Pl L), q.map (·.1) = pre ∧ J q V) (fun pre V => ∃ q : List (Pl L), q.map (·.1) = pre ∧ Jx q V) h0L ?_ W (hbx.non (Below.keeps hW)) (hM.non (Below.keeps hW)) ⟨[], rfl, h0⟩).mono ?_
 · rintro pre x V ⟨q, rfl, hJ⟩ hl hx
   obtain ⟨fn, tmps, assign, body, hy, hR⟩ := hY q ⟨x, hx⟩ V hJ (by simpa using hl)
   refine ⟨fn, tmps, assign, body, hy, hR.mono ?_⟩
   rintro e V' (⟨rfl, h1, h2⟩ | ⟨rfl, h1⟩)
   · exact .inl ⟨rfl, ⟨q ++ [⟨x, hx⟩], by simp, h1⟩, h2⟩
   · exact .inr ⟨rfl, q ++ [⟨x, hx⟩], by simp, h1⟩
 · rintro e V ⟨he, ⟨ys, rfl, q, hq, hJ⟩ | ⟨pre, ⟨k, b, hk, hb, rfl⟩, q, hq, hJ⟩⟩
   · exact ⟨he, .inl ⟨q, hq, hJ⟩⟩
   · exact ⟨he, .inr ⟨q, ⟨k, b, hk, hb, hq⟩, hJ⟩⟩
set_option maxHeartbeats 1000000 in
theorem there_any (t : Nat) (w : World) : Calls Tryz.prog 136 #[.pointer (some ⟨t, 0, none⟩)] w fun e w' => ∃ bx, e = .returned (.func (.func 166) #[] #[.pointer (some ⟨bx, 0, none⟩)]) ∧ Blk w' bx 183 #[.pointer (some ⟨t, 0, none⟩)] ∧ w.heap.size ≤ bx ∧ Keeps Non w w' := by
 go_enter Tryz.func136, Tryz.ntmps136
 go_wp2_with fail
 go_ret
 exact ⟨_, rfl, Blk.new _ _ _, Nat.le_refl _, (Keeps.refl Non w).alloc _⟩
end
end Go.Proofs.YtolknnmaadkgiaaGreatDoor
namespace Go.Proofs.YtolknnmaadkgiaaGreatDoor
set_option maxRecDepth 100000
open Go.RowKit Go.Uc Go.Shelf
attribute [local go_sem] Oper.semAt_some
structure Off (w0 w : World) (S : Nat → Prop) : Prop where
 c : ∀ g t cs, Blk w g t cs → ¬ S g
 l : ∀ g, g < w0.heap.size → ¬ S g
section
variable {w0 w w' : World} {p m n t sz : Nat} {dv lv kv wv : Sl} {K : Nat → Kb} {T : St} {L : List (Option Nat)} {lk : List Lk} {X : Nat → Lb} {F : Nat → Lr} {S : Nat → Prop}
theorem Off.row (hS : Off w0 w S) {α : Type} {e : TypeId} {k : Nat} {enc : α → List Value} {v : Value} {xs : List α} (hr : RowP w e k enc v xs) : ∀ q ∈ own v, ¬ S q := by
 intro q hq
 rcases hr.form with ⟨e1, -⟩ | ⟨g, cap, cur, e1, hB, -⟩
 · rw [e1] at hq; exact (List.not_mem_nil hq).elim
 · rw [e1, own_slice, List.mem_singleton] at hq
   subst hq
   exact hS.c _ _ _ hB
theorem Off.keep (hS : Off w0 w S) (h : Keeps Non w0 w) (hk : Keeps S w w') : Keeps Non w0 w' := h.then hk fun i hi e => (hS.l i hi e).elim
theorem Dm.offs {k : Kb} {s : Dsk} (h : Dm w0 w k s wv) (hk : Keeps S w w') (hS : Off w0 w S) : Dm w0 w' k s wv :=
 ⟨h.ok, h.pw.imp fun _ i => i.keep hk (hS.c _ _ _ i), h.dk.keep hk (hS.c _ _ _ h.dk), h.pl.keep hk (hS.c _ _ _ h.pl), h.nw.keep hk (hS.c _ _ _ h.nw), h.hd, fun x hx => (h.od x hx).imp fun _ i => i.keep hk (hS.c _ _ _ i), h.wt.keep hk (hS.row h.wt), h.wn, h.ne, h.new, hS.keep h.keep hk⟩
theorem Gs.offs (h : Gs w0 w p dv m n K T) (hk : Keeps S w w') (hS : Off w0 w S) : Gs w0 w' p dv m n K T := by
 obtain ⟨wv, Q, hG, hQ⟩ := h
 exact ⟨wv, Q, ⟨hG.pb.imp fun _ i => i.keep hk (hS.c _ _ _ i), fun i hi => (hG.dm i hi).offs hk hS, hG.kp, hG.po, hG.ap, hG.row.keep hk (hS.row hG.row), hG.dn, hG.wt.keep hk (hS.row hG.wt), hG.wn, hG.at_, hG.new, hS.keep hG.keep hk⟩, hQ⟩
theorem Lq.offs {lf d : Nat} {x : Lb} {tA : Option Addr} {tc : Nat} (h : Lq w0 w lf d x tA tc) (hk : Keeps S w w') (hS : Off w0 w S) : Lq w0 w' lf d x tA tc :=
 ⟨h.blk.keep hk (hS.c _ _ _ h.blk), h.ts.keep hk (hS.row h.ts), h.new⟩
theorem Lvs.offs (h : Lvs w0 w m K X F L) (hk : Keeps S w w') (hS : Off w0 w S) : Lvs w0 w' m K X F L :=
 ⟨fun k b e => let ⟨h1, h2, h3⟩ := h.lf k b e; ⟨h1, h2, h3.offs hk hS⟩, h.inj⟩
theorem Mt.offs {sz : Int} (h : Mt w t lv kv L lk sz) (hk : Keeps S w w') (hS : Off w0 w S) : Mt w' t lv kv L lk sz :=
 ⟨h.blk.keep hk (hS.c _ _ _ h.blk), h.lr.keep hk (hS.row h.lr), h.ln, h.kr.keep hk (hS.row h.kr), h.kn, h.len, h.few⟩
theorem blk_offs {g t : Nat} {cs : Array Value} (h : Blk w g t cs) (hk : Keeps S w w') (hS : Off w0 w S) : Blk w' g t cs := h.keep hk (hS.c _ _ _ h)
theorem off_grown {B : Nat} {row : Option Nat} (hB : w0.heap.size ≤ B) (hg : w.grownBy w' row) (hr : ∀ r, row = some r → B ≤ r ∧ ∃ o : Obj, w.heap[r]? = some o ∧ o.isCells = false) : Keeps (fun r => row = some r) w w' ∧ Off w0 w (fun r => row = some r) := by
 refine ⟨⟨hg.os, hg.tape, hg.output, hg.size, fun k hk hn => hg.block k hk fun e => hn e.symm⟩, fun g t cs hb e => ?_, fun g hl e => ?_⟩
 · obtain ⟨-, o, ho, hc⟩ := hr g e
   unfold Blk at hb
   rw [hb] at ho
   injection ho with ho
   subst ho
   cases hc
 · have := (hr g e).1
   omega
theorem off_put {D : Nat} {o : Obj} (hD : w0.heap.size ≤ D) (h : w.heap[D]? = some o) (hc : o.isCells = false) (o' : Obj) : Keeps (Only D) w (w.putObj D o') ∧ Off w0 w (Only D) := by
 obtain ⟨h1, h2⟩ := off_grown (w0 := w0) (B := D) hD (grownBy_putObj' w D o') (fun r e => by cases e; exact ⟨Nat.le_refl _, o, h, hc⟩)
 exact ⟨h1.mono fun k e => by injection e with e; exact e.symm, fun g t cs hb e => h2.c g t cs hb (by rw [show g = D from e]), fun g hl e => h2.l g hl (by rw [show g = D from e])⟩
theorem Gs.others (h : Gs w0 w p dv m n K T) (hk : Keeps (Fg w p m K) w w') : KeepsOthers w w' :=
 ⟨hk.size, fun k o ho hc => by
   refine (hk.block k (Array.getElem?_eq_some_iff.1 ho).1 ?_).trans ho
   have no : ∀ {t : Nat} {cs : Array Value}, ¬ Blk w k t cs := fun hb => by
     unfold Blk at hb
     rw [hb] at ho
     injection ho with ho
     subst ho
     cases hc
   obtain ⟨wv, z, hp⟩ := h.pw
   rintro ((e | ⟨i, hi, e | e⟩) | ⟨cs, e⟩)
   · subst e; exact no hp
   · subst e; exact no (h.plates hi).1.choose_spec
   · subst e; exact no (h.plates hi).2.choose_spec
   · exact no e⟩
theorem others_non (hk : Keeps Non w w') : KeepsOthers w w' := ⟨hk.size, fun k o ho _ => (hk.block k (Array.getElem?_eq_some_iff.1 ho).1 id).trans ho⟩
theorem Gs.kpl (h : Gs w0 w p dv m n K T) (hk : Keeps (Fg w p m K) w w') : KpL w w' := KpL.of hk fun g cs hb => h.free hb (by decide) (by decide) (by decide)
def St.flN (T : St) (K : Nat → Kb) (I : List Nat) : St := ⟨T.f, fun i => if i ∈ I then T.f i else T.g i, ⟨T.P.waits.filter fun y => decide (∀ i ∈ I, y.d ≠ (K i).d), T.P.left, T.P.off⟩⟩
theorem St.flN_nil (T : St) (K : Nat → Kb) : T.flN K [] = T := by
 obtain ⟨f, g, a, b, c⟩ := T
 simp [St.flN]
theorem St.flN_snoc (T : St) (K : Nat → Kb) (I : List Nat) (i : Nat) : (T.flN K I).fl i (K i).d = T.flN K (I ++ [i]) := by
 unfold St.flN St.fl kept
 simp only [St.mk.injEq, true_and, Pow.mk.injEq, and_true, List.filter_filter]
 refine ⟨?_, ?_⟩
 · funext j
   by_cases e : j = i
   · subst e; simp
   · simp [e]
 · refine List.filter_congr fun y _ => ?_
   simp only [List.mem_append, List.mem_singleton, ← Bool.decide_and, decide_eq_decide]
   constructor
   · rintro ⟨h1, h2⟩ j (hj | rfl)
     · exact h2 j hj
     · exact h1
   · exact fun h => ⟨h i (.inr rfl), fun j hj => h j (.inl hj)⟩
theorem St.flN_len (T : St) (K : Nat → Kb) (I : List Nat) : (T.flN K I).P.waits.length ≤ T.P.waits.length := List.length_filter_le _ _
def pix (F : Nat → Lr) (pre : List (Pl L)) : List Nat := pre.map fun x => (F x.1.1).ix
theorem Dm.far {k : Kb} {s : Dsk} {g t : Nat} {cs : Array Value} (h : Dm w0 w k s wv) (hB : Blk w g t cs) (a : t ≠ 104) (b : t ≠ 110) (c : t ≠ 5) (e : t ≠ 107) (hg : w0.heap.size ≤ g) (hk : Keeps (Only g) w w') : Dm w0 w' k s wv :=
 ⟨h.ok, h.pw.imp fun _ i => i.one hk (i.ne hB (Ne.symm a)), h.dk.one hk (h.dk.ne hB (Ne.symm b)), h.pl.one hk (h.pl.ne hB (Ne.symm c)), h.nw.one hk (h.nw.ne hB (Ne.symm c)), h.hd, fun x hx => (h.od x hx).imp fun _ i => i.one hk (i.ne hB (Ne.symm b)), h.wt.keep hk (fun q hq e' => by unfold Only at e'; subst e'; exact own_type h.wt hB e hq), h.wn, h.ne, h.new, h.keep.then hk fun i hi e => by unfold Only at e; omega⟩
theorem Gs.far {g t : Nat} {cs : Array Value} (h : Gs w0 w p dv m n K T) (hB : Blk w g t cs) (a : t ≠ 104) (b : t ≠ 110) (c : t ≠ 5) (e : t ≠ 107) (d : t ≠ 49) (hg : w0.heap.size ≤ g) (hk : Keeps (Only g) w w') : Gs w0 w' p dv m n K T := by
 obtain ⟨wv, Q, hG, hQ⟩ := h
 exact ⟨wv, Q, ⟨hG.pb.imp fun _ i => i.one hk (i.ne hB (Ne.symm a)), fun i hi => (hG.dm i hi).far hB a b c e hg hk, hG.kp, hG.po, hG.ap, hG.row.keep hk (fun q hq e' => by unfold Only at e'; subst e'; exact own_type hG.row hB d hq), hG.dn, hG.wt.keep hk (fun q hq e' => by unfold Only at e'; subst e'; exact own_type hG.wt hB e hq), hG.wn, hG.at_, hG.new, hG.keep.then hk fun i hi e => by unfold Only at e; omega⟩, hQ⟩
theorem Lvs.far {g t : Nat} {cs : Array Value} (h : Lvs w0 w m K X F L) (hB : Blk w g t cs) (a : t ≠ 171) (b : t ≠ 31) (hk : Keeps (Only g) w w') : Lvs w0 w' m K X F L :=
 ⟨fun k b' e => let ⟨h1, h2, h3⟩ := h.lf k b' e; ⟨h1, h2, h3.blk.one hk (h3.blk.ne hB (Ne.symm a)), h3.ts.keep hk (fun q hq e' => by unfold Only at e'; subst e'; exact own_type h3.ts hB b hq), h3.new⟩, h.inj⟩
end
end Go.Proofs.YtolknnmaadkgiaaGreatDoor
