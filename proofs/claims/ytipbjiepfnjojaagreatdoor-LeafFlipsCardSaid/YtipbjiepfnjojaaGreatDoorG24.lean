/- awake. LeafRing: plain law. LeafRing, walked. -/
import Derived.Test.YtipbjiepfnjojaaGreatDoorG23
namespace Go.Proofs.YtipbjiepfnjojaaGreatDoor
set_option maxRecDepth 100000
open Go.RowKit Go.Uc

theorem Begun.keeps {w w' : World} {pool n xb : Nat} (h : Begun w pool n xb w') : Keeps Non w w' := by
  obtain ⟨K, lf, wv, tA, tc, q, mf, hB, hx, hL, hK⟩ := h
  exact hK
/-- A disk whose power is on, and what waits. -/
structure Sm (s : Dsk) (n : Nat) (f g : Nat → List UInt8) (k : Nat) : Prop where
  sh : Sh s n f g
  left : s.left = -1
  off : s.off = false
  wts : s.waits.length ≤ k
theorem Sm.mark {s : Dsk} {n : Nat} {f g : Nat → List UInt8} {k : Nat} (h : Sm s n f g k) (hn : 324 ≤ n) (b : List UInt8) (hb : b.length = 128) (t : Nat) : Sm (s.wrs b (marks n t)).1 n (updL f (marks n t) b) g (k + 4) ∧ (s.wrs b (marks n t)).2 = true := by
  obtain ⟨h1, h2, h3, h4, h5⟩ := h.sh.wrs_on (marks n t) h.left b hb fun p hp => marks_lt hn hp
  refine ⟨⟨h1, h2, h3.trans h.off, ?_⟩, h4⟩
  rw [h5]
  have := h.wts
  show s.waits.length + 4 ≤ k + 4
  omega
theorem Sm.wr1 {s : Dsk} {n : Nat} {f g : Nat → List UInt8} {k : Nat} (h : Sm s n f g k) (a : Nat) (b : List UInt8) (hb : b.length = 128) (ha : a < n) : Sm (s.wr a 1 b).1 n (upd f a b) g (k + 1) := by
  obtain ⟨h1, h2, h3, h4, -⟩ := h.sh.wr1 h.left a b hb ha
  refine ⟨h1, h2, h3.trans h.off, ?_⟩
  rw [h4, List.length_append]
  have := h.wts
  show s.waits.length + 1 ≤ k + 1
  omega
theorem Sm.flush {s : Dsk} {n : Nat} {f g : Nat → List UInt8} {k : Nat} (h : Sm s n f g k) : Sm s.flush n f f 0 ∧ s.flush.waits = [] := ⟨⟨h.sh.flush, h.left, h.off, Nat.le_refl _⟩, rfl⟩
theorem Sm.up_none {s : Dsk} {n : Nat} {f g : Nat → List UInt8} {k : Nat} (h : Sm s n f g k) (hw : s.waits = []) (st : List Bool) : Sm (s.up st) n g g 0 := ⟨h.sh.up_none hw st, rfl, rfl, Nat.le_refl _⟩
theorem Sm.start (n pool : Nat) (h1 : 324 ≤ n) (h2 : n ≤ 8192) : Sm ((Dsk.fresh n).fst (labelB (lb1 pool n)) 7) n (fmt n (labelB (lb1 pool n))) (fmt n (labelB (lb1 pool n))) 0 := by
  obtain ⟨h1, h2, h3, h4⟩ := fst_sh n (labelB (lb1 pool n)) h1 h2 (lb1_len pool n)
  exact ⟨h1, h2, h3, by rw [h4]; exact Nat.le_refl _⟩
theorem aw_rng {f : Nat → List UInt8} (h : Rng 324 5 f fun _ _ => none) : Rng 324 5 (upd (updL (upd f (274 + 31) (zeros 128)) (marks 324 11) (uberB 5 11 0)) (18 + 0) (logB 7 (zeros 88))) fun _ i => if i = 11 % 8 then some ⟨5, 11, 0⟩ else none := by
  have h1 : Rng 324 5 (upd f (274 + 31) (zeros 128)) fun _ _ => none := h.fits fun j i hj hi => by
    unfold upd
    rw [if_neg (ring_mid (by decide) hj hi (by decide) (by decide))]
  have h2 := h1.mark (by decide) (t := 11) (note := 0) (by decide) (by decide) (by decide)
  exact h2.fits fun j i hj hi => by
    unfold upd
    rw [if_neg (ring_mid (by decide) hj hi (by decide) (by decide))]
theorem aw_log {f : Nat → List UInt8} : upd f (18 + 0) (logB 7 (zeros 88)) (18 + 0) = logB 7 (zeros 88) := if_pos rfl
theorem aw_label {f : Nat → List UInt8} : upd (updL (upd f (274 + 31) (zeros 128)) (marks 324 11) (uberB 5 11 0)) (18 + 0) (logB 7 (zeros 88)) (plc 324 0) = f (plc 324 0) := by
  show (if plc 324 0 = 18 + 0 then _ else if plc 324 0 ∈ marks 324 11 then _ else if plc 324 0 = 274 + 31 then _ else f (plc 324 0)) = _
  rw [if_neg (by decide), if_neg (marks_label (by decide) (by decide)), if_neg (by decide)]
theorem one_uber {M : List UB} {u : UB} {t : Nat} (ht : t < 8) (hn : M.Nodup) (hm : ∀ v, v ∈ M ↔ ∃ j i, j < 4 ∧ i < 8 ∧ (if i = t then some u else none) = some v) : M = [u] := single hn fun v => by
  rw [hm]
  constructor
  · rintro ⟨j, i, -, -, h⟩
    by_cases e : i = t
    · rw [if_pos e] at h; injection h with h; exact h.symm
    · rw [if_neg e] at h; cases h
  · rintro rfl
    exact ⟨0, t, by decide, ht, by rw [if_pos rfl]⟩
set_option maxHeartbeats 8000000 in
theorem awake6_any (w : World) : Calls Tryz.prog 6 #[] w fun e w' => e = .returned (.bool true) ∧ Keeps Non w w' := by
  have hB := Blk.new w 29 #[.int .i64 1, .int .i64 1, .int .i64 324]
  have hk := (Keeps.refl Non w).alloc (.cells #[.int .i64 1, .int .i64 1, .int .i64 324] 29)
  obtain ⟨w1, hw1⟩ : ∃ V : World, V = w.alloc (.cells #[.int .i64 1, .int .i64 1, .int .i64 324] 29) := ⟨_, rfl⟩
  rw [← hw1] at hB hk
  have HBg : Hid (Calls Tryz.prog 7 #[.int .i64 324, .agg #[.int .u64 5, .slice (some ⟨w.heap.size, 0, none⟩) 1 1, .int .i64 0, .int .i64 0]] w1 fun e w' => ∃ xb, e = .returned (.tuple #[.pointer (some ⟨xb, 0, none⟩), .bool true, .bool true]) ∧ Begun w1 5 324 xb w') := Lib.hid (begun7_any 5 324 w.heap.size (by decide) (by decide) (by decide) hB)
  have HW1 := Lib.hid hw1.symm
  clear hB hw1
  go_enter Tryz.func6, Tryz.ntmps6
  go_upto_region 4 with (go_at_call 7; rw [HW1.out]; go_must (refine HBg.out.mono ?_); rintro e w2 ⟨xb, rfl, hBg⟩)
  obtain ⟨X, rfl, hXx, hP2⟩ := hBg.ph
  clear hBg HBg HW1
  have HXp := Lib.hid (show X.x.pool = 5 by rw [hXx]; rfl)
  have hS2 := Sm.start 324 5 (by decide) (by decide)
  have HLB := Lib.hid (fmt_label (n := 324) (j := 0) (lb := labelB (lb1 5 324)) (by decide))
  have HRg := Lib.hid (Rng.fmt (n := 324) (pool := 5) (lb := labelB (lb1 5 324)) (by decide))
  have HFm := Lib.hid (fun p h1 h2 => fmt_mid (n := 324) (p := p) (lb := labelB (lb1 5 324)) (by decide) h1 h2)
  generalize fmt 324 (labelB (lb1 5 324)) = f0 at hS2 HLB HRg HFm
  generalize (Dsk.fresh 324).fst (labelB (lb1 5 324)) 7 = s2 at hP2 hS2
  have HXx := Lib.hid hXx
  clear hXx
  -- Write
  have HC : Hid (Calls Tryz.prog 14 #[.pointer (some ⟨X.lf, 0, none⟩), .int .i64 31, .slice (some ⟨w2.heap.size, 0, none⟩) 128 128] (w2.alloc (.cells (pc (zeros 128)) 5)).drew fun e w' => e = .returned (.int .i64 0) ∧ Ph w1 w' X (s2.wr (274 + 31) 1 (zeros 128)).1) := Lib.hid (hP2.writeNew hS2.off hS2.left (by rw [hS2.sh.hn]; decide) 31 1 (zeros 128) (zeros_length _) (by rw [hS2.sh.hn]; decide) (by have := hS2.wts; omega))
  have hS3 := hS2.wr1 (274 + 31) (zeros 128) (zeros_length _) (by decide)
  generalize (s2.wr (274 + 31) 1 (zeros 128)).1 = s3 at HC hS3
  have hmk : ∀ W : World, (Instr.makeSlice 55 (.int .i64 128) (.int .i64 128)).run Tryz.prog W = .ok (.slice (some ⟨W.heap.size, 0, none⟩) 128 128) (W.alloc (.cells (pc (zeros 128)) 5)) := made_bytes 128 (by omega)
  obtain ⟨-, -, x2⟩ := hP2.cells
  have x2d : w2.drew.cell? ⟨X.xb, 2, none⟩ = some (.pointer (some ⟨X.lf, 0, none⟩)) := x2
  have x2a : (w2.alloc (.cells (pc (zeros 128)) 5)).cell? ⟨X.xb, 2, none⟩ = some (.pointer (some ⟨X.lf, 0, none⟩)) := ((Keeps.refl Non w2).alloc _).cell x2 id
  have HS2 := Lib.hid hS2
  clear hP2 hS2
  go_region_law (first
    | (go_simp; go_at_call 14; refine HC.out.mono ?_; rintro e w3 ⟨rfl, hP3⟩))
  all_goals
    clear x2 x2d x2a hmk HC
    -- Mark
    have HC : Hid (Calls Tryz.prog 8 #[.pointer (some ⟨X.lf, 0, none⟩), .agg #[.int .u64 5, .int .u64 11, .int .u64 0, .int .i64 0, .int .i64 0, .int .i64 0, .int .u64 0, .int .i64 0, .int .u64 0, .int .u64 0, .int .u64 0, .int .u64 0]] w3 fun e w' => e = .returned (.int .i64 0) ∧ Ph w1 w' X (s3.wrs (uberB 5 11 0) (marks 324 11)).1) := Lib.hid (by
      have := hP3.mark hS3.off (by rw [hS3.sh.hn]; decide) (by have := hS3.wts; omega) 11 0 (by rw [HXp.out]; decide) (by decide) (by decide) (by decide)
      rw [HXp.out, hS3.sh.hn, (hS3.mark (by decide) (uberB 5 11 0) (uberB_len _ _ _) 11).2] at this
      exact this)
    have hS4 := (hS3.mark (by decide) (uberB 5 11 0) (uberB_len _ _ _) 11).1
    generalize (s3.wrs (uberB 5 11 0) (marks 324 11)).1 = s4 at HC hS4
    obtain ⟨-, -, x2⟩ := hP3.cells
    clear hP3 hS3
    go_upto_region 6 with (go_at_call 8; go_must (refine HC.out.mono ?_); rintro e w4 ⟨rfl, hP4⟩)
    clear x2 HC
    -- LogWrite
    have HC : Hid (Calls Tryz.prog 13 #[.pointer (some ⟨X.lf, 0, none⟩), .int .i64 0, .int .u64 7, .slice (some ⟨w4.heap.size, 0, none⟩) 88 88] (w4.alloc (.cells (pc (zeros 88)) 5)).drew fun e w' => e = .returned (.int .i64 0) ∧ Ph w1 w' X (s4.wr (18 + 0) 1 (logB 7 (zeros 88))).1) := Lib.hid ((hP4.non ((Keeps.refl Non w4).alloc (.cells (pc (zeros 88)) 5)).drew).logWrite hS4.off hS4.left (by rw [hS4.sh.hn]; decide) (by have := hS4.wts; omega) 0 7 (by decide) (by decide) (by decide) (zeros 88) (zeros_length _) _ 88 (At.blk (Blk.new w4 5 (pc (zeros 88))).drew))
    have hS5 := hS4.wr1 (18 + 0) (logB 7 (zeros 88)) (logB_128 _ _ (zeros_length _)) (by decide)
    generalize (s4.wr (18 + 0) 1 (logB 7 (zeros 88))).1 = s5 at HC hS5
    have hmk : ∀ W : World, (Instr.makeSlice 55 (.int .i64 88) (.int .i64 88)).run Tryz.prog W = .ok (.slice (some ⟨W.heap.size, 0, none⟩) 88 88) (W.alloc (.cells (pc (zeros 88)) 5)) := made_bytes 88 (by omega)
    obtain ⟨-, -, x2⟩ := hP4.cells
    have x2d : w4.drew.cell? ⟨X.xb, 2, none⟩ = some (.pointer (some ⟨X.lf, 0, none⟩)) := x2
    have x2a : (w4.alloc (.cells (pc (zeros 88)) 5)).cell? ⟨X.xb, 2, none⟩ = some (.pointer (some ⟨X.lf, 0, none⟩)) := ((Keeps.refl Non w4).alloc _).cell x2 id
    clear hP4 hS4
    go_region_law (first
      | (go_simp; go_at_call 13; refine HC.out.mono ?_; rintro e w5 ⟨rfl, hP5⟩))
    all_goals
      clear x2 x2d x2a hmk HC
      -- Flush
      have HC : Hid (Calls Tryz.prog 9 #[.pointer (some ⟨X.lf, 0, none⟩)] w5 fun e w' => e = .returned (.int .i64 0) ∧ Ph w1 w' X s5.flush) := Lib.hid (hP5.flush hS5.off (by have := hS5.wts; omega))
      obtain ⟨hS6, hw6⟩ := hS5.flush
      generalize s5.flush = s6 at HC hS6 hw6
      obtain ⟨-, -, x2⟩ := hP5.cells
      clear hP5 hS5
      go_upto_region 8 with (go_at_call 9; go_must (refine HC.out.mono ?_); rintro e w6 ⟨rfl, hP6⟩)
      clear x2 HC
      -- Up
      have HC : Hid (Calls Tryz.prog 11 #[.pointer (some ⟨X.K.p, 0, none⟩), .slice none 0 0] w6 fun e w' => e = .returned (.tuple #[]) ∧ Ph w1 w' X (s6.up [])) := Lib.hid (hP6.up (by have := hS6.wts; omega) [] none 0 (AtB.nil _ _) (fun ad e => by cases e) (Nat.zero_le _))
      have hS7 := hS6.up_none hw6 []
      generalize s6.up [] = s7 at HC hS7
      obtain ⟨x0, -, -⟩ := hP6.cells
      clear hP6 hS6 hw6
      go_upto_region 9 with (go_at_call 11; go_must (refine HC.out.mono ?_); rintro e w7 ⟨rfl, hP7⟩)
      clear x0 HC
      have hN : 324 ≤ s7.n := by rw [hS7.sh.hn]; exact Nat.le_refl _
      have HD := Lib.hid (Rng.dec hS7.sh (by decide) (aw_rng HRg.out))
      -- Ubers
      have HC : Hid (Calls Tryz.prog 12 #[.pointer (some ⟨X.lf, 0, none⟩)] w7 fun e w' => ∃ mA mc, e = .returned (.slice mA 1 mc) ∧ RowB w' (.slice mA 1 mc) [⟨5, 11, 0⟩] ∧ Keeps Non w7 w') := Lib.hid (by
        have hd : ∀ j i, j < 4 → i < 8 → Slot X.x.pool (secs s7.now (plc s7.n j + 1 + i) 1) (if i = 11 % 8 then some ⟨5, 11, 0⟩ else none) := by rw [HXp.out]; exact HD.out
        refine (hP7.ubers hS7.off hN (by rw [HXp.out]; decide) _ hd [⟨5, 11, 0⟩] (by decide) ?_).mono ?_
        · intro j i u _ _ h
          by_cases e : i = 11 % 8
          · rw [if_pos e] at h; injection h with h; rw [← h]; exact List.mem_cons_self ..
          · rw [if_neg e] at h; cases h
        · rintro e w' ⟨mA, mc, M, rfl, hR, hn, -, hm, -, -, hk⟩
          obtain rfl := one_uber (by decide) hn hm
          exact ⟨mA, mc, rfl, hR, hk⟩)
      obtain ⟨-, -, x2⟩ := hP7.cells
      go_upto_region 10 with (go_at_call 12; go_must (refine HC.out.mono ?_); rintro e w8 ⟨mA, mc, rfl, hR8, hK8⟩)
      have hP8 := hP7.non hK8
      clear x2 HC hP7 HD
      -- LogRead
      have HC : Hid (Calls Tryz.prog 15 #[.pointer (some ⟨X.lf, 0, none⟩), .int .i64 0] w8 fun e w' => ∃ b, e = .returned (.tuple #[.int .u64 7, .slice (some ⟨b, 0, none⟩) 88 88, .bool true]) ∧ Keeps Non w8 w') := Lib.hid (by
        refine (hP8.logRead hS7.off hN 0 (by decide) (logB 7 (zeros 88)) (by rw [hS7.sh.now _ (by decide)]; exact aw_log)).mono ?_
        rintro e w' ⟨h | h, hk⟩
        · obtain ⟨-, b, rfl, -, -⟩ := h
          rw [logB_no 7 _ (by decide)]
          exact ⟨b, rfl, hk⟩
        · exact absurd (logB_ok 7 _ (by decide) (by decide)) h.1)
      obtain ⟨-, -, x2⟩ := hP8.cells
      go_upto_region 11 with (go_at_call 15; go_must (refine HC.out.mono ?_); rintro e w9 ⟨b9, rfl, hK9⟩)
      have hP9 := hP8.non hK9
      have hR9 := hR8.non hK9
      clear x2 HC hP8 hR8 hK8 hK9
      -- Open
      have HC : Hid (Calls Tryz.prog 17 #[.pointer (some ⟨X.K.d, 0, none⟩)] w9 fun e w' => ∃ lf, e = .returned (.tuple #[.pointer (some ⟨lf, 0, none⟩), .int .i64 0]) ∧ Keeps Non w9 w') := Lib.hid (by
        refine (hP9.open_ hS7.off hN (by rw [HXx.out]; exact lb1_ok (by decide) (by decide) (by decide)) (by rw [HXx.out]; intro _; exact hS7.sh.hn.symm) 0 (by decide) (by rw [hS7.sh.hn, hS7.sh.now _ (by decide), aw_label, HLB.out, HXx.out]) (fun j hj => absurd hj (by omega))).mono ?_
        rintro e w' ⟨lf, tA, tc, wv, rfl, -, hk⟩
        exact ⟨lf, rfl, hk⟩)
      obtain ⟨-, x1, -⟩ := hP9.cells
      go_upto_region 12 with (go_at_call 17; go_must (refine HC.out.mono ?_); rintro e w10 ⟨lf, rfl, hK10⟩)
      have hP10 := hP9.non hK10
      have hR10 := hR9.non hK10
      clear x1 HC hP9 hR9 hK10
      have HC : Hid (Calls Tryz.prog 21 #[.pointer (some ⟨X.lf, 0, none⟩)] w10 fun e w' => e = .returned (.int .i64 32) ∧ w' = w10) := Lib.hid (by
        have := hP10.size hN
        rw [hS7.sh.hn] at this
        exact this)
      obtain ⟨-, -, x2⟩ := hP10.cells
      have HK := Lib.hid (hk.non hP10.keeps)
      obtain ⟨g, cap, e1, -, -, hc, -, -⟩ := hR10.at_ encB_len (i := 0) (by decide)
      injection e1 with e1 e2 e3
      clear e2
      subst e1 e3
      have y1 : w10.cell? ⟨g, 1, none⟩ = some (.int .u64 11) := hc 1 (by decide)
      clear hP10 hR10 hc hS7
      go_wp2_with (go_at_call 21; go_must (refine HC.out.mono ?_); rintro e w11 ⟨rfl, hw11⟩; subst w11)
      go_ret
      exact ⟨rfl, HK.out⟩
end Go.Proofs.YtipbjiepfnjojaaGreatDoor
namespace Go.Proofs.YtipbjiepfnjojaaGreatDoor
set_option maxRecDepth 100000
open Go.RowKit Go.Uc

/-- What stands in each slot behind so many marks. -/
def ringU : Nat → Nat → Option UB
  | 0, _ => none
  | k + 1, i => if i = (k + 1) % 8 then some ⟨9, k + 1, 7⟩ else ringU k i
theorem ringU_some {i : Nat} {u : UB} : ∀ {k : Nat}, ringU k i = some u → ∃ t, 1 ≤ t ∧ t ≤ k ∧ u = ⟨9, t, 7⟩
  | 0, h => by cases h
  | k + 1, h => by
    rw [ringU] at h
    by_cases e : i = (k + 1) % 8
    · rw [if_pos e] at h
      injection h with h
      exact ⟨k + 1, by omega, Nat.le_refl _, h.symm⟩
    · rw [if_neg e] at h
      obtain ⟨t, h1, h2, h3⟩ := ringU_some h
      exact ⟨t, h1, by omega, h3⟩
theorem ringU_self {k : Nat} (h : 1 ≤ k) : ringU k (k % 8) = some ⟨9, k, 7⟩ := by
  match k, h with
  | k + 1, _ => rw [ringU, if_pos rfl]
/-- The state behind so many marks. -/
def RgS (k : Nat) (s : Dsk) : Prop := ∃ f, Sm s 324 f f 0 ∧ s.waits = [] ∧ Rng 324 9 f fun _ i => ringU k i
theorem RgS.start : RgS 0 ((Dsk.fresh 324).fst (labelB (lb1 9 324)) 7) := by
  have h := Sm.start 324 9 (by decide) (by decide)
  refine ⟨_, h, ?_, Rng.fmt (by decide)⟩
  obtain ⟨-, -, -, h4⟩ := fst_sh 324 (labelB (lb1 9 324)) (by decide) (by decide) (lb1_len 9 324)
  exact h4
theorem RgS.next {k : Nat} {s : Dsk} (h : RgS k s) (hk : k + 1 ≤ 1000) : (s.wrs (uberB 9 (k + 1) 7) (marks 324 (k + 1))).2 = true ∧ (s.wrs (uberB 9 (k + 1) 7) (marks 324 (k + 1))).1.off = false ∧ (s.wrs (uberB 9 (k + 1) 7) (marks 324 (k + 1))).1.waits.length ≤ 4 ∧ RgS (k + 1) (s.wrs (uberB 9 (k + 1) 7) (marks 324 (k + 1))).1.flush := by
  obtain ⟨f, hS, hw, hR⟩ := h
  obtain ⟨h1, h2⟩ := hS.mark (by decide) (uberB 9 (k + 1) 7) (uberB_len _ _ _) (k + 1)
  have h3 := hR.mark (by decide) (t := k + 1) (note := 7) (by omega) (by omega) (by decide)
  exact ⟨h2, h1.off, h1.wts, _, h1.flush.1, h1.flush.2, h3⟩
/-- Whatever stays of the last mark. -/
theorem RgS.last {m : Nat} {s : Dsk} (h : RgS m s) (hm : m ≤ 1000) (a : Int) (ha1 : -1 ≤ a) (ha2 : a ≤ 9223372036854775807) (st : List Bool) : ∃ dec : Nat → Nat → Option UB,
    (({ s with left := a } : Dsk).wrs (uberB 9 (m + 1) 8) (marks 324 (m + 1))).1.waits.length ≤ 4 ∧ ((({ s with left := a } : Dsk).wrs (uberB 9 (m + 1) 8) (marks 324 (m + 1))).1.up st).n = 324 ∧
    (∀ j i, j < 4 → i < 8 → Slot 9 (secs ((({ s with left := a } : Dsk).wrs (uberB 9 (m + 1) 8) (marks 324 (m + 1))).1.up st).now (plc 324 j + 1 + i) 1) (dec j i)) ∧
    (∀ j i, dec j i = some ⟨9, m + 1, 8⟩ ∨ dec j i = ringU m i) ∧ (∀ j i, i ≠ (m + 1) % 8 → dec j i = ringU m i) := by
  obtain ⟨f, hS, hw, hR⟩ := h
  have hs' : Sh ({ s with left := a } : Dsk) 324 f f := ⟨⟨hS.sh.ok.n1, hS.sh.ok.n2, hS.sh.ok.pl, hS.sh.ok.nw, hS.sh.ok.wt, ha1, ha2⟩, hS.sh.hn, hS.sh.now, hS.sh.plat⟩
  have hw' : ({ s with left := a } : Dsk).waits = [] := hw
  generalize ({ s with left := a } : Dsk) = s1 at hs' hw' ⊢
  obtain ⟨f', h', W, hW, hWl, hWm⟩ := Sh.wrs (marks 324 (m + 1)) hs' (uberB 9 (m + 1) 8) (uberB_len _ _ _) fun p hp => marks_lt (by decide) hp
  generalize (s1.wrs (uberB 9 (m + 1) 8) (marks 324 (m + 1))).1 = s2 at h' hW ⊢
  rw [hw', List.nil_append] at hW
  obtain ⟨f3, h3, hf3⟩ := h'.up st
  generalize s2.up st = s3 at h3 ⊢
  have key : ∀ j i, j < 4 → i < 8 → f3 (plc 324 j + 1 + i) = f (plc 324 j + 1 + i) ∨ i = (m + 1) % 8 ∧ f3 (plc 324 j + 1 + i) = uberB 9 (m + 1) 8 := fun j i hj hi => by
    rcases hf3 _ (ring_lt (by decide) hi) with e | ⟨x, hx, hxa, hxb⟩
    · exact .inl e
    · rw [hW] at hx
      obtain ⟨h1, h2⟩ := hWm x hx
      rw [hxa] at h1
      exact .inr ⟨(marks_ring (by decide) hj hi).1 h1, hxb.trans h2⟩
  refine ⟨fun j i => if i = (m + 1) % 8 ∧ f3 (plc 324 j + 1 + i) = uberB 9 (m + 1) 8 then some ⟨9, m + 1, 8⟩ else ringU m i, by rw [hW]; exact hWl, h3.hn, fun j i hj hi => ?_, fun j i => ?_, fun j i hne => ?_⟩
  · rw [h3.now _ (ring_lt (by decide) hi)]
    show Slot 9 _ (if i = (m + 1) % 8 ∧ f3 (plc 324 j + 1 + i) = uberB 9 (m + 1) 8 then some ⟨9, m + 1, 8⟩ else ringU m i)
    by_cases e : i = (m + 1) % 8 ∧ f3 (plc 324 j + 1 + i) = uberB 9 (m + 1) 8
    · rw [if_pos e, e.2]
      exact slot_uber (by omega) (by omega) (by decide)
    · rw [if_neg e]
      rcases key j i hj hi with h | h
      · rw [h]; exact hR j i hj hi
      · exact absurd h e
  · show (if i = (m + 1) % 8 ∧ f3 (plc 324 j + 1 + i) = uberB 9 (m + 1) 8 then some ⟨9, m + 1, 8⟩ else ringU m i) = _ ∨ _ = ringU m i
    by_cases e : i = (m + 1) % 8 ∧ f3 (plc 324 j + 1 + i) = uberB 9 (m + 1) 8
    · exact .inl (if_pos e)
    · exact .inr (if_neg e)
  · exact if_neg fun e => hne e.1
/-- What Ubers may tell then. -/
def RgM (m : Nat) (M : List UB) : Prop := 0 < M.length ∧ (∀ h : 0 < M.length, M[0] = ⟨9, m, 7⟩ ∨ M[0] = ⟨9, m + 1, 8⟩) ∧ ∀ k (h1 : 1 ≤ k) (h : k < M.length), (M[k]).txg < (M[k - 1]'(by omega)).txg ∧ (M[k]).note = 7
theorem ring_tells {m : Nat} (hm : 1 ≤ m) {M : List UB} {dec : Nat → Nat → Option UB} (hn : M.Nodup) (ho : Ord M.length M) (hM : ∀ u, u ∈ M ↔ ∃ j i, j < 4 ∧ i < 8 ∧ dec j i = some u)
    (h1 : ∀ j i, dec j i = some ⟨9, m + 1, 8⟩ ∨ dec j i = ringU m i) (h2 : ∀ j i, i ≠ (m + 1) % 8 → dec j i = ringU m i) : RgM m M := by
  have hin : ∀ u ∈ M, u = ⟨9, m + 1, 8⟩ ∨ ∃ t, 1 ≤ t ∧ t ≤ m ∧ u = ⟨9, t, 7⟩ := fun u hu => by
    obtain ⟨j, i, -, -, h⟩ := (hM u).1 hu
    rcases h1 j i with e | e
    · rw [e] at h; injection h with h; exact .inl h.symm
    · rw [e] at h; exact .inr (ringU_some h)
  have hold : (⟨9, m, 7⟩ : UB) ∈ M := (hM _).2 ⟨0, m % 8, by decide, Nat.mod_lt _ (by decide), by rw [h2 _ _ (by omega)]; exact ringU_self hm⟩
  have hpos : 0 < M.length := List.length_pos_of_mem hold
  have hstrict : ∀ p q (hp : p < M.length) (hq : q < M.length), p < q → (M[q]).txg < (M[p]).txg := fun p q hp hq hpq => by
    have hle := ho p q hp hq hpq hq
    rcases Nat.lt_or_ge (M[q]).txg (M[p]).txg with h | h
    · exact h
    · exfalso
      have he : (M[q]).txg = (M[p]).txg := by omega
      have hne : M[p] ≠ M[q] := fun e => by
        have := (List.getElem_inj hn).1 e
        omega
      apply hne
      rcases hin _ (List.getElem_mem hp) with e1 | ⟨t1, _, _, e1⟩ <;> rcases hin _ (List.getElem_mem hq) with e2 | ⟨t2, _, _, e2⟩ <;> rw [e1, e2] at he ⊢ <;> simp only at he
      · omega
      · omega
      · rw [he]
  refine ⟨hpos, fun h => ?_, fun k hk1 hk => ?_⟩
  · obtain ⟨p, hp, hpe⟩ := List.getElem_of_mem hold
    have hge : m ≤ (M[0]).txg := by
      rcases Nat.eq_zero_or_pos p with e | e
      · subst e; rw [hpe]; exact Nat.le_refl _
      · have := hstrict 0 p h hp e
        rw [hpe] at this
        simp only at this
        omega
    rcases hin _ (List.getElem_mem h) with e | ⟨t, ht1, ht2, e⟩
    · exact .inr e
    · left
      rw [e] at hge ⊢
      simp only at hge
      rw [show t = m by omega]
  · have hlt := hstrict (k - 1) k (by omega) hk (by omega)
    refine ⟨hlt, ?_⟩
    rcases hin _ (List.getElem_mem hk) with e | ⟨t, _, _, e⟩
    · exfalso
      rw [e] at hlt
      simp only at hlt
      rcases hin _ (List.getElem_mem (show k - 1 < M.length by omega)) with e' | ⟨t, _, _, e'⟩ <;> rw [e'] at hlt <;> simp only at hlt <;> omega
    · rw [e]
def ringB (m : Nat) : List UB := ⟨9, m + 1, 8⟩ :: (List.range 8).filterMap (ringU m)
theorem ringB_len (m : Nat) : (ringB m).length ≤ 19 := by
  have : ((List.range 8).filterMap (ringU m)).length ≤ (List.range 8).length := List.length_filterMap_le _ _
  rw [List.length_range] at this
  unfold ringB
  rw [List.length_cons]
  omega
theorem ringB_mem {m : Nat} {dec : Nat → Nat → Option UB} (h1 : ∀ j i, dec j i = some ⟨9, m + 1, 8⟩ ∨ dec j i = ringU m i) : ∀ j i u, j < 4 → i < 8 → dec j i = some u → u ∈ ringB m := fun j i u _ hi h => by
  rcases h1 j i with e | e
  · rw [e] at h; injection h with h; rw [← h]; exact List.mem_cons_self ..
  · rw [e] at h
    exact List.mem_cons_of_mem _ (List.mem_filterMap.2 ⟨i, List.mem_range.2 hi, h⟩)
end Go.Proofs.YtipbjiepfnjojaaGreatDoor
namespace Go.Proofs.YtipbjiepfnjojaaGreatDoor
set_option maxRecDepth 100000
open Go.RowKit Go.Uc

def RingR (w : World) (X : Xb) (k : Nat) (wr : World) : Prop := ∃ s, Ph w wr X s ∧ RgS k s
set_option maxHeartbeats 8000000 in
theorem leafRing_any (w : World) (m a : Int) (st : List Bool) (sA : Option Addr) (sc : Nat) (hm1 : -9223372036854775808 ≤ m) (hm2 : m ≤ 9223372036854775807) (ha1 : -9223372036854775808 ≤ a) (ha2 : a ≤ 9223372036854775807) (hS : AtB w sA st) (hSl : ∀ ad, sA = some ad → ad.block < w.heap.size) (hst : st.length ≤ 1099511627776000) :
    Calls Tryz.prog 3 #[.int .i64 m, .int .i64 a, .slice sA st.length sc] w fun e w' => e = .returned (.bool true) ∧ Keeps Non w w' := by
  have HAw := Lib.hid (awake6_any w)
  have HS := Lib.hid (And.intro hS hSl)
  clear hS hSl
  have HBg : Hid (∀ V, Keeps Non w V → Calls Tryz.prog 7 #[.int .i64 324, .agg #[.int .u64 9, .slice (some ⟨V.heap.size, 0, none⟩) 1 1, .int .i64 0, .int .i64 0]] (V.alloc (.cells #[.int .i64 1, .int .i64 1, .int .i64 324] 29)) fun e w' => ∃ X : Xb, e = .returned (.tuple #[.pointer (some ⟨X.xb, 0, none⟩), .bool true, .bool true]) ∧ X.x = lb1 9 324 ∧ ∃ V1, Keeps Non w V1 ∧ RingR V1 X 0 w') := Lib.hid (fun V hV => by
    refine (begun7_any 9 324 V.heap.size (by decide) (by decide) (by decide) (Blk.new V 29 _)).mono ?_
    rintro e w' ⟨xb, rfl, hB⟩
    obtain ⟨X, rfl, hXx, hP⟩ := hB.ph
    exact ⟨X, rfl, hXx, _, hV.alloc _, _, hP, RgS.start⟩)
  go_enter Tryz.func3, Tryz.ntmps3
  go_upto_region 5 with (first | (go_at_call 6; go_must (refine HAw.out.mono ?_); rintro e w1 ⟨rfl, hK1⟩; have HB1 := Lib.hid (HBg.out w1 hK1)) | (go_at_call 7; go_must (refine HB1.out.mono ?_); rintro e w2 ⟨X, rfl, hXx, V1, hV1, hR2⟩))
  have HXx := Lib.hid hXx
  clear hXx HAw HBg HB1 hK1
  by_cases hr : 1 ≤ m ∧ m ≤ 40
  · obtain ⟨M, hM⟩ : ∃ M : Nat, m = (M : Int) := ⟨m.toNat, by omega⟩
    subst hM
    have hM1 : 1 ≤ M := by omega
    have hM2 : M ≤ 40 := by omega
    clear hr hm1 hm2
    have b1 : decide ((M : Int) < 1) = false := decide_eq_false (by omega)
    have b2 : decide ((40 : Int) < (M : Int)) = false := decide_eq_false (by omega)
    go_upto_region 8 with fail
    clear b1 b2
    go_loopw [11, 12, 13] (fun i _ _ wr => ∃ k : Nat, k ≤ M ∧ i = .int .i64 ((k + 1 : Nat) : Int) ∧ RingR V1 X k wr) (fun i _ _ _ => M + 1 - (intOf i).toNat)
    case atStart => exact ⟨0, by omega, rfl, hR2⟩
    case round =>
      obtain ⟨k, hk, rfl, s, hP, hRg⟩ := hrel
      obtain ⟨wx, rfl⟩ : ∃ W : World, W = wr := ⟨_, rfl⟩
      clear hR2
      obtain ⟨f, hSm, hw0, -⟩ := id hRg
      have HXp := Lib.hid (show X.x.pool = 9 by rw [HXx.out]; rfl)
      obtain ⟨t, ht⟩ : ∃ t, t = k + 1 := ⟨_, rfl⟩
      rw [← ht]
      have ht1 : 1 ≤ t := by omega
      by_cases hlt : k < M
      · have htM : (t : Int) ≤ (M : Int) := by omega
        have htb : t ≤ 40 := by omega
        have HC : Hid (Calls Tryz.prog 8 #[.pointer (some ⟨X.lf, 0, none⟩), .agg #[.int .u64 9, .int .u64 (t : Int), .int .u64 7, .int .i64 0, .int .i64 0, .int .i64 0, .int .u64 0, .int .i64 0, .int .u64 0, .int .u64 0, .int .u64 0, .int .u64 0]] wx fun e w' => e = .returned (.int .i64 0) ∧ ∃ s', Ph V1 w' X s' ∧ s'.off = false ∧ s'.waits.length ≤ 4 ∧ RgS t s'.flush) := Lib.hid (by
          subst ht
          obtain ⟨n1, n2, n3, n4⟩ := hRg.next (by omega)
          have := hP.mark hSm.off (by rw [hSm.sh.hn]; decide) (by have := hSm.wts; omega) (k + 1) 7 (by rw [HXp.out]; decide) (by omega) (by omega) (by decide)
          rw [HXp.out, hSm.sh.hn, n1] at this
          exact this.mono fun e w' ⟨h1, h2⟩ => ⟨h1, _, h2, n2, n3, n4⟩)
        obtain ⟨-, -, x2⟩ := hP.cells
        have HT := Lib.hid ht
        clear hP hRg hSm hw0 ht
        go_upto_region 11 with (go_at_call 8; go_must (refine HC.out.mono ?_); rintro e w3 ⟨rfl, s3, hP3, ho3, hw3, hR3⟩)
        clear x2 HC
        obtain ⟨-, -, x2⟩ := hP3.cells
        have HC := Lib.hid (hP3.flush ho3 (by omega))
        have HR3 := Lib.hid hR3
        clear hP3 ho3 hw3 hR3
        go_wp2_with (go_at_call 9; go_must (refine HC.out.mono ?_); rintro e w4 ⟨rfl, hP4⟩; have HF := Lib.hid (show RingR V1 X t w4 from ⟨_, hP4, HR3.out⟩); clear hP4)
        go_roundw
        case rel => exact ⟨t, by omega, by go_num, HF.out⟩
        case measure => simp [intOf]; omega
      · obtain rfl : k = M := by omega
        have htM : ¬ (t : Int) ≤ (k : Int) := by omega
        have HT := Lib.hid ht
        clear ht
        have htb : t ≤ 41 := by have := HT.out; omega
        have HC := Lib.hid (hP.cut a ha1 ha2)
        obtain ⟨x0, -, -⟩ := hP.cells
        have HLs := Lib.hid (hRg.last (m := k) (by omega) (if a < 0 then -1 else a) (by split <;> omega) (by split <;> omega) st)
        have hoS : ({ s with left := if a < 0 then -1 else a } : Dsk).off = false := hSm.off
        have hnS : ({ s with left := if a < 0 then -1 else a } : Dsk).n = 324 := hSm.sh.hn
        have hwS : ({ s with left := if a < 0 then -1 else a } : Dsk).waits.length ≤ 0 := hSm.wts
        generalize ({ s with left := if a < 0 then -1 else a } : Dsk) = s1 at HC HLs hoS hnS hwS
        clear hP hRg hSm hw0
        go_upto_region 15 with (go_at_call 10; go_must (refine HC.out.mono ?_); rintro e w3 ⟨rfl, hP3⟩)
        clear x0 HC
        obtain ⟨-, -, x2⟩ := hP3.cells
        have HC : Hid (Calls Tryz.prog 8 #[.pointer (some ⟨X.lf, 0, none⟩), .agg #[.int .u64 9, .int .u64 ((k : Int) + 1), .int .u64 8, .int .i64 0, .int .i64 0, .int .i64 0, .int .u64 0, .int .i64 0, .int .u64 0, .int .u64 0, .int .u64 0, .int .u64 0]] w3 fun e w' => (∃ z, e = .returned (.int .i64 z)) ∧ Ph V1 w' X (s1.wrs (uberB 9 (k + 1) 8) (marks 324 (k + 1))).1) := Lib.hid (by
          have := hP3.mark hoS (by rw [hnS]; decide) (by omega) (k + 1) 8 (by rw [HXp.out]; decide) (by omega) (by omega) (by decide)
          rw [HXp.out, hnS] at this
          exact this.mono fun e w' ⟨h1, h2⟩ => ⟨⟨_, h1⟩, h2⟩)
        have HLs2 := Lib.hid HLs.out
        generalize (s1.wrs (uberB 9 (k + 1) 8) (marks 324 (k + 1))).1 = s2 at HC HLs2
        clear hP3 hoS hnS hwS HLs
        go_upto_region 16 with (go_at_call 8; go_must (refine HC.out.mono ?_); rintro e w4 ⟨⟨z4, rfl⟩, hP4⟩)
        clear x2 HC
        obtain ⟨x0, -, -⟩ := hP4.cells
        have HC := Lib.hid (hP4.up (by obtain ⟨dec, h, -⟩ := HLs2.out; omega) st sA sc (HS.out.1.keep hV1 fun _ _ e => e) (fun ad e => Nat.lt_of_lt_of_le (HS.out.2 ad e) hV1.size) hst)
        clear hP4
        go_upto_region 17 with (go_at_call 11; go_must (refine HC.out.mono ?_); rintro e w5 ⟨rfl, hP5⟩)
        clear x0 HC
        obtain ⟨-, -, x2⟩ := hP5.cells
        have HC : Hid (Calls Tryz.prog 12 #[.pointer (some ⟨X.lf, 0, none⟩)] w5 fun e w' => ∃ mA mc M, e = .returned (.slice mA M.length mc) ∧ RowB w' (.slice mA M.length mc) M ∧ RgM k M ∧ M.length ≤ 19 ∧ Keeps Non w w') := Lib.hid (by
          obtain ⟨dec, d1, d2, d3, d4, d5⟩ := HLs2.out
          refine (hP5.ubers rfl (by rw [d2]; decide) (by rw [HXp.out]; decide) dec (by rw [HXp.out, d2]; exact d3) (ringB k) (ringB_len k) (ringB_mem d4)).mono ?_
          rintro e w' ⟨mA, mc, M, rfl, hR, hn, ho, hm, hl, -, hk⟩
          exact ⟨mA, mc, M, rfl, hR, ring_tells hM1 hn ho hm d4 d5, hl, (hV1.non hP5.keeps).non hk⟩)
        clear hP5
        go_upto_region 18 with (go_at_call 12; go_must (refine HC.out.mono ?_); rintro e w6 ⟨mA, mc, M, rfl, hR6, hM6, hl6, hK6⟩)
        clear x2 HC HLs2
        obtain ⟨hpos, hhd, htl⟩ := hM6
        have h0 := hhd hpos
        have HTl := Lib.hid htl
        clear htl hhd
        obtain ⟨v0, hv0⟩ : ∃ v0, v0 = M[0] := ⟨_, rfl⟩
        rw [← hv0] at h0
        go_upto_region 20 with fail
        obtain ⟨hBo, hBn, hk7⟩ := two_new w6 #[.int .u64 9, .int .u64 (k : Int), .int .u64 7, .int .i64 0, .int .i64 0, .int .i64 0, .int .u64 0, .int .i64 0, .int .u64 0, .int .u64 0, .int .u64 0, .int .u64 0] #[.int .u64 9, .int .u64 ((k : Int) + 1), .int .u64 8, .int .i64 0, .int .i64 0, .int .i64 0, .int .u64 0, .int .i64 0, .int .u64 0, .int .u64 0, .int .u64 0, .int .u64 0] 47 47
        obtain ⟨w7, hw7⟩ : ∃ V : World, V = (w6.alloc (.cells #[.int .u64 9, .int .u64 (k : Int), .int .u64 7, .int .i64 0, .int .i64 0, .int .i64 0, .int .u64 0, .int .i64 0, .int .u64 0, .int .u64 0, .int .u64 0, .int .u64 0] 47)).alloc (.cells #[.int .u64 9, .int .u64 ((k : Int) + 1), .int .u64 8, .int .i64 0, .int .i64 0, .int .i64 0, .int .u64 0, .int .i64 0, .int .u64 0, .int .u64 0, .int .u64 0, .int .u64 0] 47) := ⟨_, rfl⟩
        rw [← hw7] at hBo hBn hk7 ⊢
        clear hw7
        obtain ⟨pb, hpb⟩ : ∃ z, z = w6.heap.size := ⟨_, rfl⟩
        rw [← hpb] at hBo hBn ⊢
        clear hpb
        have hR7 := hR6.non hk7
        have hK7 := hK6.non hk7
        clear hR6 hK6 hk7
        obtain ⟨g, cap, e1, hle, hcap, hc, -, -⟩ := hR7.at_ encB_len hpos
        injection e1 with e1 e2 e3
        clear e2
        subst e1 e3
        rw [← hv0] at hc
        have HR7 := Lib.hid hR7
        have hne : ¬ M.length = 0 := by omega
        have hne2 : ((M.length : Int) == 0) = false := by rw [beq_eq_false_iff_ne]; omega
        have hp0 : (0 : Int) < (M.length : Int) := by omega
        have xo0 : w7.cell? ⟨pb, 0, none⟩ = some (.int .u64 9) := hBo.cell 0
        have xo1 : w7.cell? ⟨pb, 1, none⟩ = some (.int .u64 (k : Int)) := hBo.cell 1
        have xo2 : w7.cell? ⟨pb, 2, none⟩ = some (.int .u64 7) := hBo.cell 2
        have xo3 : w7.cell? ⟨pb, 3, none⟩ = some (.int .i64 0) := hBo.cell 3
        have xo4 : w7.cell? ⟨pb, 4, none⟩ = some (.int .i64 0) := hBo.cell 4
        have xo5 : w7.cell? ⟨pb, 5, none⟩ = some (.int .i64 0) := hBo.cell 5
        have xo6 : w7.cell? ⟨pb, 6, none⟩ = some (.int .u64 0) := hBo.cell 6
        have xo7 : w7.cell? ⟨pb, 7, none⟩ = some (.int .i64 0) := hBo.cell 7
        have xo8 : w7.cell? ⟨pb, 8, none⟩ = some (.int .u64 0) := hBo.cell 8
        have xo9 : w7.cell? ⟨pb, 9, none⟩ = some (.int .u64 0) := hBo.cell 9
        have xo10 : w7.cell? ⟨pb, 10, none⟩ = some (.int .u64 0) := hBo.cell 10
        have xo11 : w7.cell? ⟨pb, 11, none⟩ = some (.int .u64 0) := hBo.cell 11
        have xn0 : w7.cell? ⟨pb + 1, 0, none⟩ = some (.int .u64 9) := hBn.cell 0
        have xn1 : w7.cell? ⟨pb + 1, 1, none⟩ = some (.int .u64 ((k : Int) + 1)) := hBn.cell 1
        have xn2 : w7.cell? ⟨pb + 1, 2, none⟩ = some (.int .u64 8) := hBn.cell 2
        have xn3 : w7.cell? ⟨pb + 1, 3, none⟩ = some (.int .i64 0) := hBn.cell 3
        have xn4 : w7.cell? ⟨pb + 1, 4, none⟩ = some (.int .i64 0) := hBn.cell 4
        have xn5 : w7.cell? ⟨pb + 1, 5, none⟩ = some (.int .i64 0) := hBn.cell 5
        have xn6 : w7.cell? ⟨pb + 1, 6, none⟩ = some (.int .u64 0) := hBn.cell 6
        have xn7 : w7.cell? ⟨pb + 1, 7, none⟩ = some (.int .i64 0) := hBn.cell 7
        have xn8 : w7.cell? ⟨pb + 1, 8, none⟩ = some (.int .u64 0) := hBn.cell 8
        have xn9 : w7.cell? ⟨pb + 1, 9, none⟩ = some (.int .u64 0) := hBn.cell 9
        have xn10 : w7.cell? ⟨pb + 1, 10, none⟩ = some (.int .u64 0) := hBn.cell 10
        have xn11 : w7.cell? ⟨pb + 1, 11, none⟩ = some (.int .u64 0) := hBn.cell 11
        clear hBo hBn hR7 hv0
        have HRest : Hid (∀ wz : World, Keeps Non w7 wz → RowB wz (.slice (some ⟨g, 0, none⟩) M.length mc) M ∧ Keeps Non w wz) := Lib.hid (fun wz h => ⟨HR7.out.non h, hK7.non h⟩)
        clear hK7
        have e2 : ¬ ((k : Int) + 1) = (k : Int) := by omega
        have e3 : ¬ (k : Int) = ((k : Int) + 1) := by omega
        rcases h0 with h0 | h0
        all_goals
          subst h0
        case' inl =>
          have z0 : w7.cell? ⟨g, 0, none⟩ = some (.int .u64 9) := hc 0 (by decide)
          have z1 : w7.cell? ⟨g, 1, none⟩ = some (.int .u64 (k : Int)) := hc 1 (by decide)
          have z2 : w7.cell? ⟨g, 2, none⟩ = some (.int .u64 7) := hc 2 (by decide)
          have z3 : w7.cell? ⟨g, 3, none⟩ = some (.int .i64 0) := hc 3 (by decide)
          have z4 : w7.cell? ⟨g, 4, none⟩ = some (.int .i64 0) := hc 4 (by decide)
          have z5 : w7.cell? ⟨g, 5, none⟩ = some (.int .i64 0) := hc 5 (by decide)
          have z6 : w7.cell? ⟨g, 6, none⟩ = some (.int .u64 0) := hc 6 (by decide)
          have z7 : w7.cell? ⟨g, 7, none⟩ = some (.int .i64 0) := hc 7 (by decide)
          have z8 : w7.cell? ⟨g, 8, none⟩ = some (.int .u64 0) := hc 8 (by decide)
          have z9 : w7.cell? ⟨g, 9, none⟩ = some (.int .u64 0) := hc 9 (by decide)
          have z10 : w7.cell? ⟨g, 10, none⟩ = some (.int .u64 0) := hc 10 (by decide)
          have z11 : w7.cell? ⟨g, 11, none⟩ = some (.int .u64 0) := hc 11 (by decide)
        case' inr =>
          have z0 : w7.cell? ⟨g, 0, none⟩ = some (.int .u64 9) := hc 0 (by decide)
          have z1 : w7.cell? ⟨g, 1, none⟩ = some (.int .u64 ((k : Int) + 1)) := hc 1 (by decide)
          have z2 : w7.cell? ⟨g, 2, none⟩ = some (.int .u64 8) := hc 2 (by decide)
          have z3 : w7.cell? ⟨g, 3, none⟩ = some (.int .i64 0) := hc 3 (by decide)
          have z4 : w7.cell? ⟨g, 4, none⟩ = some (.int .i64 0) := hc 4 (by decide)
          have z5 : w7.cell? ⟨g, 5, none⟩ = some (.int .i64 0) := hc 5 (by decide)
          have z6 : w7.cell? ⟨g, 6, none⟩ = some (.int .u64 0) := hc 6 (by decide)
          have z7 : w7.cell? ⟨g, 7, none⟩ = some (.int .i64 0) := hc 7 (by decide)
          have z8 : w7.cell? ⟨g, 8, none⟩ = some (.int .u64 0) := hc 8 (by decide)
          have z9 : w7.cell? ⟨g, 9, none⟩ = some (.int .u64 0) := hc 9 (by decide)
          have z10 : w7.cell? ⟨g, 10, none⟩ = some (.int .u64 0) := hc 10 (by decide)
          have z11 : w7.cell? ⟨g, 11, none⟩ = some (.int .u64 0) := hc 11 (by decide)
        all_goals
          clear hc
          go_quiet (fail)
          obtain ⟨w8, hw8⟩ : ∃ V : World, V = w7.drewN nq := ⟨_, rfl⟩
          have hk8 : Keeps Non w7 w8 := by rw [hw8]; exact (Keeps.refl _ _).drewN _
          rw [← hw8]
          clear hw8 xo0 xo1 xo2 xo3 xo4 xo5 xo6 xo7 xo8 xo9 xo10 xo11 xn0 xn1 xn2 xn3 xn4 xn5 xn6 xn7 xn8 xn9 xn10 xn11 z0 z1 z2 z3 z4 z5 z6 z7 z8 z9 z10 z11 hne hne2 hp0 e2 e3
          go_upto_region 23 with fail
          go_loopw [17] (fun i wr => ∃ j : Nat, 1 ≤ j ∧ j ≤ M.length ∧ i = .int .i64 (j : Int) ∧ Keeps Non w7 wr) (fun i _ => M.length - (intOf i).toNat)
          case atStart => exact ⟨1, Nat.le_refl _, hpos, rfl, hk8⟩
          case round =>
            obtain ⟨j, hj1, hj, rfl, hKx⟩ := hrel
            obtain ⟨wx, rfl⟩ : ∃ W : World, W = wr := ⟨_, rfl⟩
            by_cases hlt2 : j < M.length
            · have hji : (j : Int) < (M.length : Int) := by omega
              obtain ⟨hlt3, hno⟩ := HTl.out j hj1 hlt2
              obtain ⟨hRx, hKw⟩ := HRest.out wx hKx
              obtain ⟨q, hq⟩ : ∃ q, q = j - 1 := ⟨_, rfl⟩
              have hqM : q < M.length := by omega
              obtain ⟨g1, cap1, e1, -, -, hc1, -, -⟩ := hRx.at_ encB_len hlt2
              obtain ⟨g2, cap2, e2, -, -, hc2, -, -⟩ := hRx.at_ encB_len hqM
              injection e1 with e1 e1b e1c
              injection e1 with e1
              injection e1 with e1
              injection e2 with e2 e2b e2c
              injection e2 with e2
              injection e2 with e2
              clear e1b e2b e1c e2c
              subst e1 e2
              have y1 : wx.cell? ⟨g, j * 12 + 1, none⟩ = some (.int .u64 ((M[j]).txg : Int)) := hc1 1 (by decide)
              have y2 : wx.cell? ⟨g, j * 12 + 2, none⟩ = some (.int .u64 7) := by have := hc1 2 (by decide); rw [this]; show some (Value.int .u64 ((M[j]).note : Int)) = _; rw [hno]; rfl
              have y3 : wx.cell? ⟨g, q * 12 + 1, none⟩ = some (.int .u64 ((M[q]).txg : Int)) := hc2 1 (by decide)
              have hlt4 : (M[j]).txg < (M[q]).txg := by subst hq; exact hlt3
              have hwq : IntKind.i64.wrap ((j : Int) - 1) = (q : Int) := by rw [IntKind.wrap_i64]; omega
              have hqi : (q : Int) < (M.length : Int) := by omega
              generalize (M[j]).txg = tj at y1 hlt4
              generalize (M[q]).txg = tq at y3 hlt4
              have d1 : decide (tq ≤ tj) = false := decide_eq_false (by omega)
              have d2 : decide ((tq : Int) ≤ (tj : Int)) = false := decide_eq_false (by omega)
              have HQ := Lib.hid hq
              clear hlt3 hno hRx hKw hc1 hc2 hq hqM
              have HKx := Lib.hid (fun n => hKx.drewN n)
              go_upto_region 25 with fail
              go_quiet (fail)
              go_wp2_with fail
              go_roundw
              case rel => exact ⟨j + 1, by omega, by omega, by go_num, HKx.out _⟩
              case measure => simp [intOf]; omega
            · obtain rfl : j = M.length := by omega
              have HK := Lib.hid (HRest.out wx hKx).2
              go_wp2_with fail
              go_ret
              exact ⟨rfl, HK.out⟩
  · obtain ⟨s, hP, -⟩ := hR2
    have HK := Lib.hid (hV1.non hP.keeps)
    clear hP hV1 HS
    by_cases h1 : m < 1
    · have d1 : decide (m < 1) = true := decide_eq_true h1
      clear hr
      go_wp2_with fail
      go_ret
      exact ⟨rfl, HK.out⟩
    · have d1 : decide (m < 1) = false := decide_eq_false h1
      have d2 : decide (40 < m) = true := decide_eq_true (by omega)
      clear hr
      go_wp2_with fail
      go_ret
      exact ⟨rfl, HK.out⟩
end Go.Proofs.YtipbjiepfnjojaaGreatDoor
