/- Places of a label; what Format does, step by step. Tops copied; the steps of Format. Format: a label written; the leaf in memory. -/
import Derived.Test.YtipbjiepfnjojaaGreatDoorG11
import Derived.Lib.SliceRun
namespace Go.Proofs.YtipbjiepfnjojaaGreatDoor
set_option maxRecDepth 100000
open Go.RowKit Go.Uc

theorem Dsk.wr_on : ∀ (m : Nat) (s : Dsk) (at_ : Nat) (bs : List UInt8), s.left = -1 → (s.wr at_ m bs).2 = true ∧ (s.wr at_ m bs).1.left = -1 ∧ (s.wr at_ m bs).1.n = s.n ∧ (s.wr at_ m bs).1.off = s.off ∧ (s.wr at_ m bs).1.plat = s.plat ∧ (s.wr at_ m bs).1.waits.length = s.waits.length + m
  | 0, s, at_, bs, h => ⟨rfl, h, rfl, rfl, rfl, rfl⟩
  | m + 1, s, at_, bs, h => by
    rw [Dsk.wr, if_neg (by omega)]
    have h1 : (s.one ⟨at_, sec0 bs, sec0_len bs⟩).left = -1 := by simp [Dsk.one, h]
    obtain ⟨i1, i2, i3, i4, i5, i6⟩ := Dsk.wr_on m (s.one ⟨at_, sec0 bs, sec0_len bs⟩) (at_ + 1) (bs.drop 128) h1
    refine ⟨i1, i2, i3, i4, i5, ?_⟩
    rw [i6]
    simp [Dsk.one]
    omega
/-- What a write leaves. -/
def Wrote (w0 w : World) (K : Kb) (wv : Sl) (s' : Dsk) (w' : World) : Prop := ∃ wv' : Sl, Dm w0 w' K s' wv' ∧ Keeps (Fr K wv) w w' ∧ ∀ q ∈ own wv'.v, q ∈ own wv.v ∨ w.heap.size ≤ q
theorem Wrote.refl {w0 w : World} {K : Kb} {wv : Sl} {s : Dsk} (h : Dm w0 w K s wv) : Wrote w0 w K wv s w := ⟨wv, h, Keeps.refl _ _, fun _ hq => .inl hq⟩
theorem Fr.back {K : Kb} {wv wv1 : Sl} {n g : Nat} (ho : ∀ q ∈ own wv1.v, q ∈ own wv.v ∨ n ≤ q) (h : Fr K wv1 g) (hg : g < n) : Fr K wv g := by
  rcases h with e | e | e | e
  · exact .inl e
  · exact .inr (.inl e)
  · exact .inr (.inr (.inl e))
  · rcases ho _ e with e' | e'
    · exact .inr (.inr (.inr e'))
    · omega
theorem Wrote.step {w0 w w1 w2 : World} {K : Kb} {wv wv1 : Sl} {s2 : Dsk} (hk : Keeps (Fr K wv) w w1) (ho : ∀ q ∈ own wv1.v, q ∈ own wv.v ∨ w.heap.size ≤ q) (h : Wrote w0 w1 K wv1 s2 w2) : Wrote w0 w K wv s2 w2 := by
  obtain ⟨wv2, hd, hk2, ho2⟩ := h
  refine ⟨wv2, hd, hk.then hk2 fun i hi e => e.back ho hi, fun q hq => ?_⟩
  rcases ho2 q hq with e | e
  · exact ho q e
  · right; have := hk.size; omega
theorem write30_on {w0 w : World} {K : Kb} {s : Dsk} {wv : Sl} (h : Dm w0 w K s wv) (ho : s.off = false) (hl1 : s.left = -1) (at_ m : Nat) (bs : List UInt8) (A : Option Addr) (c : Nat) (hA : At w A bs) (hl : bs.length = 128 * m) (hc : bs.length ≤ c) (ha : at_ + m ≤ s.n) (hF : ∀ ad, A = some ad → ¬ Fr K wv ad.block) (hW : s.waits.length + m ≤ 1073741824) :
    Calls Tryz.prog 30 #[.pointer (some ⟨K.d, 0, none⟩), .int .i64 (at_ : Int), .slice A (128 * m) c] w fun e w' => e = .returned (.int .i64 0) ∧ Wrote w0 w K wv (s.wr at_ m bs).1 w' := by
  refine (write30_any h ho at_ m bs A c hA hl hc ha hF hW).mono ?_
  rintro e w' ⟨wv', rfl, h1, h2, h3⟩
  rw [(Dsk.wr_on m s at_ bs hl1).1]
  exact ⟨rfl, wv', h1, h2, h3⟩
set_option maxHeartbeats 1000000 in
theorem places29_any {w0 w : World} {K : Kb} {s : Dsk} {wv : Sl} (h : Dm w0 w K s wv) (hn : 324 ≤ s.n) : Calls Tryz.prog 29 #[.pointer (some ⟨K.d, 0, none⟩)] w fun e w' => e = .returned (.agg #[.int .i64 0, .int .i64 9, .int .i64 ((s.n - 18 : Nat) : Int), .int .i64 ((s.n - 9 : Nat) : Int)]) ∧ Keeps Non w w' := by
  have hB := Blk.new w 86 #[.int .i64 0, .int .i64 0, .int .i64 0, .int .i64 0]
  have hk := (Keeps.refl Non w).alloc (.cells #[.int .i64 0, .int .i64 0, .int .i64 0, .int .i64 0] 86)
  have HS := Lib.hid (sectors52_any (h.non hk))
  have hn8 := h.ok.n2
  have e1 : ((s.n - 18 : Nat) : Int) = (s.n : Int) - 18 := by omega
  have e2 : ((s.n - 9 : Nat) : Int) = (s.n : Int) - 9 := by omega
  rw [e1, e2]
  generalize s.n = n at *
  clear h e1 e2
  go_enter Tryz.func29, Tryz.ntmps29
  go_upto_region 2 with (go_at_call 52; go_must (refine HS.out.mono ?_); rintro e w9 ⟨rfl, hw9⟩; subst w9)
  obtain ⟨w1, hw1⟩ : ∃ V : World, V = w.alloc (.cells #[.int .i64 0, .int .i64 0, .int .i64 0, .int .i64 0] 86) := ⟨_, rfl⟩
  rw [← hw1] at hB hk ⊢
  clear hw1
  obtain ⟨pb, hpb⟩ : ∃ z, z = w.heap.size := ⟨_, rfl⟩
  rw [← hpb] at hB ⊢
  have hpw : w.heap.size ≤ pb := by omega
  clear hpb
  go_wp2_with ((with_reducible show wpList _ _ _ ({ dst := none, op := Op.store 86 _ _, type := _, pos := _, after := _, guard := _ } :: _) _ _); go_must (refine wpList_store_blk rfl 86 (.tmp 2) (.tmp 10) rfl pb #[.int .i64 0, .int .i64 9, .int .i64 ((n : Int) - 18), .int .i64 ((n : Int) - 9)] rfl rfl 86 _ hB (by kernel_rfl) rfl (by kernel_rfl) ?_); intro w7 hB7 hK7)
  refine bodyPost_ret (results_cell_blk (ty := 86) rfl _ pb 86 _ _ rfl hB7 Tryz.underlying86 rfl (by kernel_rfl)) rfl ⟨rfl, hk.then hK7 fun i hi e => by unfold Only at e; omega⟩
end Go.Proofs.YtipbjiepfnjojaaGreatDoor
namespace Go.Proofs.YtipbjiepfnjojaaGreatDoor
set_option maxRecDepth 100000
open Go.RowKit Go.Uc

set_option maxHeartbeats 2000000 in
theorem clone54_any (ts : List Tp) (A : Option Addr) (c : Nat) (w : World) (h : RowT w (.slice A ts.length c) ts) (hp : 0 < ts.length) (hm : ts.length ≤ 1000000) :
    Calls Tryz.prog 54 #[.slice A ts.length c] w fun e w' => ∃ A2 c2, e = .returned (.slice A2 ts.length c2) ∧ RowT w' (.slice A2 ts.length c2) ts ∧ (∀ q ∈ own (.slice A2 ts.length c2), w.heap.size ≤ q) ∧ Keeps Non w w' := by
  have he := fun (w : World) (a : Option Addr) (n c : Nat) => Lib.run_eql_slice_nil (P := Tryz.prog) w 30 29 a n c 0 0 Tryz.underlying30
  obtain ⟨A', c', e1, -, hA⟩ := h.ats encT_len
  injection e1 with e1 _ e2
  subst e1 e2
  obtain ⟨ad, rfl, -⟩ := hA (by rw [flat_len encT_len]; omega)
  have hO : RowT (w.alloc (.cells #[] 29)) (.slice (some ⟨w.heap.size, 0, none⟩) 0 0) [] := RowP.lit encT_len w 29 [] #[] rfl (by decide)
  have ka := (Keeps.refl Non w).alloc (.cells #[] 29)
  have hA2 := hA.non ka
  have HB : Hid (([] : List Tp).length + ts.length ≤ maxLen ∧ (([] : List Tp).length + ts.length) * 24 ≤ 140737488355328) := Lib.hid (by unfold maxLen; simp; omega)
  clear h
  go_enter Tryz.func54, Tryz.ntmps54
  go_wp2_with (at_builtin; go_must (refine wpList_append_row rfl (.tmp 5) (.tmp 6) 30 rfl 29 3 encT _ 24 Tryz.underlying30 info29 rfl (by decide) encT_len encT_one _ [] rfl hO (some ad) ts.length c ts rfl rfl hA2 HB.out.1 HB.out.2 ?_); intro v2 w2 hO2 hK2 hat)
  go_ret
  rw [List.nil_append] at hO2
  obtain ⟨A2, c2, rfl, -⟩ := hO2.val
  have hne : ∀ k ∈ own (.slice (some ⟨w.heap.size, 0, none⟩) 0 0), w.heap.size ≤ k := fun k hk => by rw [own_slice] at hk; simp at hk; omega
  refine ⟨A2, c2, rfl, hO2, fun q hq => ?_, ka.then hK2 fun i hi e => by have := hne i e; omega⟩
  rw [mem_own] at hq
  rcases hat with e | e
  · exact hne q (mem_own.2 (e.symm.trans hq))
  · have e2 := e.symm.trans hq
    injection e2 with e2
    subst e2
    simp
set_option maxHeartbeats 4000000 in
theorem step58_any {w0 w : World} {K : Kb} {s : Dsk} {wv : Sl} (h : Dm w0 w K s wv) (ho : s.off = false) (hl1 : s.left = -1) (hn : 324 ≤ s.n) (hW : s.waits.length ≤ 1000000000) (bx : Nat) (hb : Blk w bx 35 #[.pointer (some ⟨K.d, 0, none⟩)]) :
    Calls Tryz.prog 58 #[.pointer (some ⟨bx, 0, none⟩)] w fun e w' => e = .returned (.int .i64 0) ∧ Wrote w0 w K wv (s.wr 0 274 (zeros 35072)).1 w' := by
  have hmk : ∀ W : World, (Instr.makeSlice 55 (.int .i64 35072) (.int .i64 35072)).run Tryz.prog W = .ok (.slice (some ⟨W.heap.size, 0, none⟩) 35072 35072) (W.alloc (.cells (pc (zeros 35072)) 5)) := made_bytes 35072 (by decide)
  have HW : Hid (∀ (V : World) (b : Nat), Keeps Non w V → Blk V b 5 (pc (zeros 35072)) → w.heap.size ≤ b → Calls Tryz.prog 30 #[.pointer (some ⟨K.d, 0, none⟩), .int .i64 0, .slice (some ⟨b, 0, none⟩) 35072 35072] V fun e w' => e = .returned (.int .i64 0) ∧ Wrote w0 V K wv (s.wr 0 274 (zeros 35072)).1 w') := Lib.hid (fun V b hV hB hn' => write30_on (h.non hV) ho hl1 0 274 (zeros 35072) (some ⟨b, 0, none⟩) 35072 (At.blk hB) (by rw [zeros_length]) (by rw [zeros_length]; decide) (by omega) (fun ad e => by injection e with e; subst e; exact (h.old hn').1) (by omega))
  obtain ⟨S1, hS1⟩ : ∃ S1, S1 = (s.wr 0 274 (zeros 35072)).1 := ⟨_, rfl⟩
  rw [← hS1] at HW ⊢
  clear hS1
  have x0 : w.drew.cell? ⟨bx, 0, none⟩ = some (.pointer (some ⟨K.d, 0, none⟩)) := (hb.non (Keeps.refl Non w).drew).cell 0
  have x1 : (w.alloc (.cells (pc (zeros 35072)) 5)).cell? ⟨bx, 0, none⟩ = some (.pointer (some ⟨K.d, 0, none⟩)) := (hb.non ((Keeps.refl Non w).alloc _)).cell 0
  have ka : Keeps Non w (w.alloc (.cells (pc (zeros 35072)) 5)).drew := ((Keeps.refl Non w).alloc _).drew
  have hZ : Blk (w.alloc (.cells (pc (zeros 35072)) 5)).drew w.heap.size 5 (pc (zeros 35072)) := Blk.new w 5 _
  have HW1 := Lib.hid (HW.out _ w.heap.size ka hZ (Nat.le_refl _))
  have hkd := ka.of_non (S := Fr K wv)
  have HH := Lib.hid h
  clear h hb HW hZ
  generalize zeros 35072 = Z at *
  go_enter Tryz.func58, Tryz.ntmps58
  go_upto_region 1 with fail
  go_region_law (first
    | (go_simp; go_at_call 30; refine HW1.out.mono ?_; rintro e w4 ⟨rfl, hW4⟩; go_must (have HW4 := Lib.hid hW4)))
  all_goals
    go_wp2_with fail
    go_ret
    exact ⟨rfl, Wrote.step hkd (fun q hq => .inl hq) HW4.out⟩
set_option maxHeartbeats 4000000 in
theorem step59_any {w0 w : World} {K : Kb} {s : Dsk} {wv : Sl} (h : Dm w0 w K s wv) (ho : s.off = false) (hl1 : s.left = -1) (hn : 324 ≤ s.n) (hW : s.waits.length ≤ 1000000000) (bx : Nat) (hb : Blk w bx 35 #[.pointer (some ⟨K.d, 0, none⟩)]) :
    Calls Tryz.prog 59 #[.pointer (some ⟨bx, 0, none⟩)] w fun e w' => e = .returned (.int .i64 0) ∧ Wrote w0 w K wv (s.wr (s.n - 18) 18 (zeros 2304)).1 w' := by
  obtain ⟨N8, hN8⟩ : ∃ N8 : Nat, N8 = s.n - 18 := ⟨_, rfl⟩
  rw [← hN8]
  have HSc := Lib.hid (fun V (hV : Keeps Non w V) => sectors52_any (h.non hV))
  have hn8 := h.ok.n2
  have hmk : ∀ W : World, (Instr.makeSlice 55 (.int .i64 2304) (.int .i64 2304)).run Tryz.prog W = .ok (.slice (some ⟨W.heap.size, 0, none⟩) 2304 2304) (W.alloc (.cells (pc (zeros 2304)) 5)) := made_bytes 2304 (by decide)
  have HW : Hid (∀ (V : World) (b : Nat), Keeps Non w V → Blk V b 5 (pc (zeros 2304)) → w.heap.size ≤ b → Calls Tryz.prog 30 #[.pointer (some ⟨K.d, 0, none⟩), .int .i64 (N8 : Int), .slice (some ⟨b, 0, none⟩) 2304 2304] V fun e w' => e = .returned (.int .i64 0) ∧ Wrote w0 V K wv (s.wr N8 18 (zeros 2304)).1 w') := Lib.hid (fun V b hV hB hn' => write30_on (h.non hV) ho hl1 N8 18 (zeros 2304) (some ⟨b, 0, none⟩) 2304 (At.blk hB) (by rw [zeros_length]) (by rw [zeros_length]; decide) (by omega) (fun ad e => by injection e with e; subst e; exact (h.old hn').1) (by omega))
  obtain ⟨S1, hS1⟩ : ∃ S1, S1 = (s.wr N8 18 (zeros 2304)).1 := ⟨_, rfl⟩
  rw [← hS1] at HW ⊢
  clear hS1
  have x0 : w.drew.cell? ⟨bx, 0, none⟩ = some (.pointer (some ⟨K.d, 0, none⟩)) := (hb.non (Keeps.refl Non w).drew).cell 0
  have x1 : (w.alloc (.cells (pc (zeros 2304)) 5)).cell? ⟨bx, 0, none⟩ = some (.pointer (some ⟨K.d, 0, none⟩)) := (hb.non ((Keeps.refl Non w).alloc _)).cell 0
  have ka : Keeps Non w (w.alloc (.cells (pc (zeros 2304)) 5)).drew := ((Keeps.refl Non w).alloc _).drew
  have hZ : Blk (w.alloc (.cells (pc (zeros 2304)) 5)).drew w.heap.size 5 (pc (zeros 2304)) := Blk.new w 5 _
  have HW1 := Lib.hid (HW.out _ w.heap.size ka hZ (Nat.le_refl _))
  have HSc1 := Lib.hid (HSc.out _ (Keeps.refl Non w).drew)
  have HSc2 := Lib.hid (HSc.out _ ka)
  have hkd := ka.of_non (S := Fr K wv)
  have HH := Lib.hid h
  clear h hb HW hZ
  generalize zeros 2304 = Z at *
  have hw18 : IntKind.i64.wrap ((s.n : Int) - 18) = (N8 : Int) := by rw [IntKind.wrap_i64]; omega
  clear hN8
  generalize s.n = n at *
  go_enter Tryz.func59, Tryz.ntmps59
  go_upto_region 1 with fail
  go_region_law (first
    | (go_simp; go_at_call 52; first | refine HSc1.out.mono ?_ | refine HSc2.out.mono ?_; rintro e w3 ⟨rfl, hw3⟩; subst w3; go_must (skip))
    | (go_simp; go_at_call 30; refine HW1.out.mono ?_; rintro e w4 ⟨rfl, hW4⟩; go_must (have HW4 := Lib.hid hW4)))
  all_goals
    go_wp2_with fail
    go_ret
    exact ⟨rfl, Wrote.step hkd (fun q hq => .inl hq) HW4.out⟩
end Go.Proofs.YtipbjiepfnjojaaGreatDoor
namespace Go.Proofs.YtipbjiepfnjojaaGreatDoor
set_option maxRecDepth 100000
open Go.RowKit Go.Uc

set_option maxHeartbeats 4000000 in
theorem step60_any {w0 w : World} {K : Kb} {s : Dsk} {wv : Sl} (h : Dm w0 w K s wv) (ho : s.off = false) (hl1 : s.left = -1) (hW : s.waits.length ≤ 1000000000) (bx ax sx lb at_ : Nat) (X : List UInt8) (hX : X.length = 128) (ha : at_ < s.n) (hb : Blk w bx 35 #[.pointer (some ⟨K.d, 0, none⟩)]) (hax : Blk w ax 3 #[.int .i64 (at_ : Int)]) (hsx : Blk w sx 55 #[.slice (some ⟨lb, 0, none⟩) 128 128]) (hlb : Blk w lb 5 (pc X)) (hF : ¬ Fr K wv lb) :
    Calls Tryz.prog 60 #[.pointer (some ⟨bx, 0, none⟩), .pointer (some ⟨ax, 0, none⟩), .pointer (some ⟨sx, 0, none⟩)] w fun e w' => e = .returned (.int .i64 0) ∧ Wrote w0 w K wv (s.wr at_ 1 X).1 w' := by
  have HW := Lib.hid (write30_on h ho hl1 at_ 1 X (some ⟨lb, 0, none⟩) 128 (At.blk hlb) hX (by omega) (by omega) (fun ad e => by injection e with e; subst e; exact hF) (by omega))
  rw [Nat.mul_one] at HW
  have x0 := one_cell hb
  have x1 := one_cell hax
  have x2 := one_cell hsx
  clear h hb hax hsx hlb
  go_enter Tryz.func60, Tryz.ntmps60
  go_wp2_with ((go_at_call 30; go_must (refine HW.out.mono ?_); rintro e w4 ⟨rfl, hW4⟩))
  go_ret
  exact ⟨rfl, hW4⟩
/-- A leaf in memory. -/
structure Lm (w0 w : World) (lf : Nat) (K : Kb) (s : Dsk) (wv : Sl) (x : Lb) (tA : Option Addr) (tc : Nat) : Prop where
  dm : Dm w0 w K s wv
  blk : Blk w lf 85 #[.pointer (some ⟨K.d, 0, none⟩), .int .u64 (x.pool : Int), .slice tA x.ts.length tc, .int .i64 (x.top : Int), .int .i64 (x.place : Int), .int .i64 0, .int .i64 0, .int .i64 0]
  ts : RowT w (.slice tA x.ts.length tc) x.ts
  new : w0.heap.size ≤ lf ∧ ∀ q ∈ own (.slice tA x.ts.length tc), w0.heap.size ≤ q
theorem Dm.freeRow {α : Type} {w0 w : World} {K : Kb} {s : Dsk} {wv v : Sl} {e : TypeId} {k : Nat} {enc : α → List Value} {xs : List α} (h : Dm w0 w K s wv) (hr : RowP w e k enc v.v xs) (h1 : e ≠ 94) (h5 : e ≠ 5) (h97 : e ≠ 97) : ∀ q ∈ own v.v, ¬ Fr K wv q := by
  intro q hq
  rcases hr.form with ⟨e1, -⟩ | ⟨g, cap, cur, e1, hB, -⟩
  · rw [e1] at hq; exact (List.not_mem_nil hq).elim
  · rw [e1, own_slice, List.mem_singleton] at hq
    subst hq
    exact h.free hB h1 h5 h97
/-- The leaf's own stays where only the disk's is turned. -/
theorem Lm.step {w0 w w' : World} {lf : Nat} {K : Kb} {s s' : Dsk} {wv wv' : Sl} {x : Lb} {tA : Option Addr} {tc : Nat} (h : Lm w0 w lf K s wv x tA tc) (hd : Dm w0 w' K s' wv') (hk : Keeps (Fr K wv) w w') : Lm w0 w' lf K s' wv' x tA tc :=
  ⟨hd, h.blk.keep hk (h.dm.free h.blk (by decide) (by decide) (by decide)), h.ts.keep hk (h.dm.freeRow (v := ⟨tA, x.ts.length, tc⟩) h.ts (by decide) (by decide) (by decide)), h.new⟩
theorem Lm.non {w0 w w' : World} {lf : Nat} {K : Kb} {s : Dsk} {wv : Sl} {x : Lb} {tA : Option Addr} {tc : Nat} (h : Lm w0 w lf K s wv x tA tc) (hk : Keeps Non w w') : Lm w0 w' lf K s wv x tA tc :=
  ⟨h.dm.non hk, h.blk.non hk, h.ts.non hk, h.new⟩
/-- What a call leaves of a leaf. -/
def Did (w0 w : World) (lf : Nat) (K : Kb) (wv : Sl) (x : Lb) (tA : Option Addr) (tc : Nat) (s' : Dsk) (w' : World) : Prop := ∃ wv' : Sl, Lm w0 w' lf K s' wv' x tA tc ∧ Keeps (Fr K wv) w w' ∧ ∀ q ∈ own wv'.v, q ∈ own wv.v ∨ w.heap.size ≤ q
/-- A step of Format: its function, and what it takes. -/
def encF (f : Fn × Array Value × Array Value) : List Value := [.func f.1 f.2.1 f.2.2]
theorem encF_len (f : Fn × Array Value × Array Value) : (encF f).length = 1 := rfl
theorem encF_one (f : Fn × Array Value × Array Value) : ∀ u ∈ encF f, u.oneCell' = true := by intro u hu; simp [encF] at hu; subst hu; rfl
theorem info48 : (Tryz.prog.info? 48).map (fun i => (i.zero, i.size, i.bytes)) = some (some .nilFunc, 1, 8) := by kernel_rfl
end Go.Proofs.YtipbjiepfnjojaaGreatDoor
