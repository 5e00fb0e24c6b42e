/- LeafFlips: its calls, as the walk meets them. -/
import Derived.Test.YtipbjiepfnjojaaGreatDoorG26
import Derived.Test.YtipbjiepfnjojaaGreatDoorL67
namespace Go.Proofs.YtipbjiepfnjojaaGreatDoor
set_option maxRecDepth 100000
open Go.RowKit Go.Uc

/-- Begun; marked; logged; flushed; turned. -/
def FlA (w : World) (X : Xb) (f : Nat → List UInt8) (n : Nat) (wr : World) : Prop := ∃ s g, Ph w wr X s ∧ Sm s 330 f g n
def FlB (w : World) (X : Xb) (f : Nat → List UInt8) (wr : World) : Prop := ∃ s g, Ph w wr X s ∧ Sm s 330 f g 0 ∧ s.waits = []
theorem FlA.cells {w wr : World} {X : Xb} {f : Nat → List UInt8} {n : Nat} (h : FlA w X f n wr) : wr.cell? ⟨X.xb, 2, none⟩ = some (.pointer (some ⟨X.lf, 0, none⟩)) := by
  obtain ⟨s, g, h, -⟩ := h
  exact h.cells.2.2
theorem FlB.cells {w wr : World} {X : Xb} {f : Nat → List UInt8} (h : FlB w X f wr) : wr.cell? ⟨X.xb, 1, none⟩ = some (.pointer (some ⟨X.K.d, 0, none⟩)) := by
  obtain ⟨s, g, h, -⟩ := h
  exact h.cells.2.1
theorem FlB.non {w wr w' : World} {X : Xb} {f : Nat → List UInt8} (h : FlB w X f wr) (hk : Keeps Non wr w') : FlB w X f w' := by
  obtain ⟨s, g, h, h2⟩ := h
  exact ⟨s, g, h.non hk, h2⟩
theorem FlB.keeps {w wr : World} {X : Xb} {f : Nat → List UInt8} (h : FlB w X f wr) : Keeps Non w wr := by
  obtain ⟨s, g, h, -⟩ := h
  exact h.keeps
/-- What is not of the disk's types stays. -/
def Kp (w w' : World) : Prop := ∀ (g t : Nat) (cs : Array Value), Blk w g t cs → t ≠ 94 → t ≠ 5 → t ≠ 97 → Blk w' g t cs
theorem Kp.of {w w' : World} (hk : Keeps Non w w') : Kp w w' := fun _ _ _ hb _ _ _ => hb.non hk
theorem Kp.trans {w w1 w2 : World} (h : Kp w w1) (k : Kp w1 w2) : Kp w w2 := fun g t cs hb a b c => k g t cs (h g t cs hb a b c) a b c
theorem Px.kp {w0 w w' : World} {X : Xb} {s : Dsk} {wv : Sl} (h : Px w0 w X s wv) (hk : Keeps (Fr X.K wv) w w') : Kp w w' := fun _ _ _ hb a b c => hb.keep hk (h.l.dm.free hb a b c)
section
variable {w wr : World} {X : Xb}
theorem fl_mark (hX : X.x = lb1 9 330) (h : FlA w X (fmt 330 (labelB (lb1 9 330))) 0 wr) :
    Calls Tryz.prog 8 #[.pointer (some ⟨X.lf, 0, none⟩), .agg #[.int .u64 9, .int .u64 7, .int .u64 3, .int .i64 0, .int .i64 0, .int .i64 0, .int .u64 0, .int .i64 0, .int .u64 0, .int .u64 0, .int .u64 0, .int .u64 0]] wr fun e w' => e = .returned (.int .i64 0) ∧ FlA w X (updL (fmt 330 (labelB (lb1 9 330))) (marks 330 7) (uberB 9 7 3)) 4 w' ∧ Kp wr w' := by
  obtain ⟨s, g, ⟨wv, hP⟩, hS⟩ := h
  have hp : X.x.pool = 9 := by rw [hX]; rfl
  have := mark8_any hP.l hS.off (by rw [hS.sh.hn]; decide) (by have := hS.wts; omega) 7 3 (by rw [hp]; decide) (by decide) (by decide) (by decide)
  obtain ⟨h1, h2⟩ := hS.mark (by decide) (uberB 9 7 3) (uberB_len _ _ _) 7
  rw [hp, hS.sh.hn, h2] at this
  exact this.mono fun e w' ⟨a, b⟩ => ⟨a, ⟨_, _, hP.did b, h1⟩, hP.kp b.choose_spec.2.1⟩
theorem fl_log (l : Nat) (hl : l < 256) (h : FlA w X (updL (fmt 330 (labelB (lb1 9 330))) (marks 330 7) (uberB 9 7 3)) 4 wr) :
    Calls Tryz.prog 13 #[.pointer (some ⟨X.lf, 0, none⟩), .int .i64 (l : Int), .int .u64 4, .slice (some ⟨wr.heap.size, 0, none⟩) 88 88] (wr.alloc (.cells (pc (zeros 88)) 5)).drew fun e w' => e = .returned (.int .i64 0) ∧ FlA w X (flF l) 5 w' ∧ Kp wr w' := by
  obtain ⟨s, g, ⟨wv, hP⟩, hS⟩ := h
  have hka : Keeps Non wr (wr.alloc (.cells (pc (zeros 88)) 5)).drew := ((Keeps.refl Non wr).alloc _).drew
  refine (logWrite13_on (hP.non hka).l hS.off hS.left (by rw [hS.sh.hn]; decide) (by have := hS.wts; omega) l 4 hl (by decide) (by decide) (zeros 88) (zeros_length _) _ 88 (At.blk (Blk.new wr 5 (pc (zeros 88))).drew)).mono ?_
  rintro e w' ⟨rfl, h'⟩
  exact ⟨rfl, ⟨_, _, (hP.non hka).did h', hS.wr1 (18 + l) _ (logB_128 _ _ (zeros_length _)) (by omega)⟩, (Kp.of hka).trans ((hP.non hka).kp h'.choose_spec.2.1)⟩
theorem fl_flush {l : Nat} (h : FlA w X (flF l) 5 wr) : Calls Tryz.prog 9 #[.pointer (some ⟨X.lf, 0, none⟩)] wr fun e w' => e = .returned (.int .i64 0) ∧ FlB w X (flF l) w' ∧ Kp wr w' := by
  obtain ⟨s, g, ⟨wv, hP⟩, hS⟩ := h
  exact (flush9_on hP.l hS.off (by have := hS.wts; omega)).mono fun e w' ⟨a, b⟩ => ⟨a, ⟨_, _, hP.did b, hS.flush⟩, hP.kp b.choose_spec.2.1⟩
/-- The mask lies in a block that is newer than V. -/
theorem fl_turn {V : World} {l : Nat} (h : FlB w X (flF l) V) (a k : Nat) (x : UInt8) (ha : a < 330) (hk : k < 128) (hV : Keeps Non V wr) (hB : Blk wr V.heap.size 5 (pc (zeros k ++ [x]))) :
    Calls Tryz.prog 19 #[.pointer (some ⟨X.K.d, 0, none⟩), .int .i64 (a : Int), .slice (some ⟨V.heap.size, 0, none⟩) (k + 1) (k + 1)] wr fun e w' => e = .returned (.int .i64 0) ∧ FlB w X (flG l a k x) w' ∧ Kp wr w' := by
  obtain ⟨s, g, ⟨wv, hp⟩, hS, hw⟩ := h
  have hl : (zeros k ++ [x]).length = k + 1 := by simp [zeros_length]
  have hp' := hp.non hV
  have := corrupt19_any hp'.l.dm hw a (by rw [hS.sh.hn]; exact ha) (zeros k ++ [x]) (by omega) (some ⟨V.heap.size, 0, none⟩) (k + 1) (At.blk hB) (fun ad e => by injection e with e; subst e; exact (hp.l.dm.old (Nat.le_refl _)).1)
  rw [hl] at this
  refine this.mono ?_
  rintro e w' ⟨rfl, h1, h2⟩
  exact ⟨rfl, ⟨_, _, hp'.step h1 h2, ⟨hS.sh.turn a k x ha hk, hS.left, hS.off, by show s.waits.length ≤ 0; rw [hw]; exact Nat.le_refl _⟩, hw⟩, hp'.kp h2⟩
/-- Opened again. -/
def FlO (w : World) (X : Xb) (f : Nat → List UInt8) (lf : Nat) (wr : World) : Prop := ∃ s g wv tA tc, Lm w wr lf X.K s wv (lb1 9 330) tA tc ∧ Sm s 330 f g 0
theorem FlO.non {w' : World} {f : Nat → List UInt8} {lf : Nat} (h : FlO w X f lf wr) (hk : Keeps Non wr w') : FlO w X f lf w' := by
  obtain ⟨s, g, wv, tA, tc, h, h2⟩ := h
  exact ⟨s, g, wv, tA, tc, h.non hk, h2⟩
theorem FlO.keeps {f : Nat → List UInt8} {lf : Nat} (h : FlO w X f lf wr) : Keeps Non w wr := by
  obtain ⟨s, g, wv, tA, tc, h, -⟩ := h
  exact h.dm.keep
theorem fl_open (hX : X.x = lb1 9 330) {l a k : Nat} {x : UInt8} (hl : l < 256) (hk : k < 128) (hx : x ≠ 0) (h : FlB w X (flG l a k x) wr) :
    Calls Tryz.prog 17 #[.pointer (some ⟨X.K.d, 0, none⟩)] wr fun e w' => ∃ lf, e = .returned (.tuple #[.pointer (some ⟨lf, 0, none⟩), .int .i64 0]) ∧ FlO w X (flG l a k x) lf w' ∧ Keeps Non wr w' := by
  obtain ⟨s, g, hP, hS, hw⟩ := h
  have hn := hS.sh.hn
  obtain ⟨j0, hj0, h1, h2⟩ := flG_label (a := a) hl hk hx
  refine (hP.open_ hS.off (by rw [hn]; decide) (by rw [hX]; exact lb1_ok (by decide) (by decide) (by decide)) (by rw [hX]; intro _; exact hn.symm) j0 hj0 (by rw [hn, hS.sh.now _ (by have := plc_lt 330 j0 (by decide); omega), h1, hX]) (fun j hj => by rw [hn, hS.sh.now _ (by have := plc_lt 330 j (by decide); omega)]; exact h2 j hj)).mono ?_
  rintro e w' ⟨lf, tA, tc, wv, rfl, hL, hk'⟩
  rw [hX] at hL
  exact ⟨lf, rfl, ⟨s, g, wv, tA, tc, hL, hS⟩, hk'⟩
theorem fl_label {f : Nat → List UInt8} {lf : Nat} (h : FlO w X f lf wr) : Calls Tryz.prog 18 #[.pointer (some ⟨lf, 0, none⟩)] wr fun e w2 => ∃ A c, e = .returned (.agg #[.int .u64 9, .slice A 1 c, .int .i64 0, .int .i64 0]) ∧ RowT w2 (.slice A 1 c) [⟨1, 1, 330⟩] ∧ Keeps Non wr w2 := by
  obtain ⟨s, g, wv, tA, tc, h, hS⟩ := h
  refine (label18_any h (by show 0 < 1; decide) (by show 1 ≤ 4; decide)).mono ?_
  rintro e w2 ⟨A, c, rfl, hR, -, hk⟩
  exact ⟨A, c, rfl, hR, hk⟩
theorem fl_ubers {l a k : Nat} {x : UInt8} (hl : l < 256) (hk : k < 128) (hx : x ≠ 0) {lf : Nat} (h : FlO w X (flG l a k x) lf wr) :
    Calls Tryz.prog 12 #[.pointer (some ⟨lf, 0, none⟩)] wr fun e w' => ∃ g mc, e = .returned (.slice (some ⟨g, 0, none⟩) 1 mc) ∧ (∀ i, i < 12 → w'.cell? ⟨g, i, none⟩ = (encB ⟨9, 7, 3⟩)[i]?) ∧ Keeps Non wr w' := by
  obtain ⟨s, g, wv, tA, tc, h, hS⟩ := h
  have hn := hS.sh.hn
  refine (ubers12_any h hS.off (by rw [hn]; decide) (by show 9 < _; decide) (fun j i => if plc 330 j + 1 + i = a then none else if i = 7 then some ⟨9, 7, 3⟩ else none) (fun j i hj hi => ?_) [⟨9, 7, 3⟩] (by decide) (fun j i u _ _ h => ?_)).mono ?_
  · rw [hn, hS.sh.now _ (ring_lt (by decide) hi)]
    exact flG_dec hl hk hx j i hj hi
  · have h' : (if plc 330 j + 1 + i = a then none else if i = 7 then some (⟨9, 7, 3⟩ : UB) else none) = some u := h
    by_cases e : plc 330 j + 1 + i = a
    · rw [if_pos e] at h'; cases h'
    · rw [if_neg e] at h'
      by_cases e7 : i = 7
      · rw [if_pos e7] at h'; injection h' with h'; rw [← h']; exact List.mem_cons_self ..
      · rw [if_neg e7] at h'; cases h'
  · rintro e w' ⟨mA, mc, M, rfl, hR, hnd, -, hm, -, -, hk'⟩
    obtain rfl := fl_one hnd hm
    obtain ⟨g1, cap, e1, -, -, hc, -, -⟩ := hR.at_ encB_len (i := 0) (by decide)
    injection e1 with e1 e2 e3
    subst e1 e3
    exact ⟨g1, _, rfl, fun i hi => by have := hc i hi; rw [Nat.zero_mul, Nat.zero_add] at this; exact this, hk'⟩
theorem fl_logr {l a k : Nat} {x : UInt8} (hl : l < 256) (hk : k < 128) (hx : x ≠ 0) {lf : Nat} (h : FlO w X (flG l a k x) lf wr) :
    Calls Tryz.prog 15 #[.pointer (some ⟨lf, 0, none⟩), .int .i64 (l : Int)] wr fun e w' => ((a = 18 + l ∧ e = .returned (.tuple #[.int .u64 0, .slice none 0 0, .bool false])) ∨ (a ≠ 18 + l ∧ ∃ b, e = .returned (.tuple #[.int .u64 4, .slice (some ⟨b, 0, none⟩) 88 88, .bool true]) ∧ Blk w' b 5 (pc (zeros 88)))) ∧ Keeps Non wr w' := by
  obtain ⟨s, g, wv, tA, tc, h, hS⟩ := h
  have hn := hS.sh.hn
  obtain ⟨h1, h2⟩ := flG_log (l := l) (a := a) hk hx
  refine (logRead15_any h hS.off (by rw [hn]; decide) l hl _ (hS.sh.now _ (by omega))).mono ?_
  rintro e w' ⟨h3 | h3, hk'⟩
  · obtain ⟨h4, b, rfl, hb, -⟩ := h3
    have hne : a ≠ 18 + l := fun e => h1 e h4
    rw [h2 hne] at hb ⊢
    rw [logB_in 4 _ (zeros_length _)] at hb
    rw [logB_no 4 _ (by decide)]
    exact ⟨.inr ⟨hne, b, rfl, hb⟩, hk'⟩
  · obtain ⟨h4, rfl⟩ := h3
    refine ⟨.inl ⟨Classical.byContradiction fun hne => h4 ?_, rfl⟩, hk'⟩
    rw [h2 hne]
    exact logB_ok 4 _ (by decide) (by decide)
end
end Go.Proofs.YtipbjiepfnjojaaGreatDoor
