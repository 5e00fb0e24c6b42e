/- LeafFlips: its disk, sector by sector. LeafApart: plain law. LeafApart: its calls, as the walk meets them. -/
import Derived.Test.YtipbjiepfnjojaaGreatDoorG25
import Derived.Test.YtipbjiepfnjojaaGreatDoorG24
namespace Go.Proofs.YtipbjiepfnjojaaGreatDoor
set_option maxRecDepth 100000
open Go.RowKit Go.Uc

/-- A sector with a byte turned. -/
def flip1 (k : Nat) (x : UInt8) (c : List UInt8) : List UInt8 := c.set k (c.getD k 0 ^^^ x)
theorem secs_set (L : List UInt8) (a k : Nat) (y : UInt8) (hk : k < 128) (p : Nat) : secs (L.set (128 * a + k) y) p 1 = if p = a then (secs L p 1).set k y else secs L p 1 := by
  apply List.ext_getElem?
  intro i
  rw [secs_get]
  by_cases hp : p = a
  · subst hp
    rw [if_pos rfl, List.getElem?_set, List.getElem?_set, secs_get]
    by_cases hi : i < 128
    · rw [if_pos hi, if_pos hi]
      by_cases hki : k = i
      · subst hki
        rw [if_pos rfl, if_pos rfl]
        unfold secs
        rw [List.length_take, List.length_drop]
        by_cases hl : 128 * p + k < L.length
        · rw [if_pos hl, if_pos (by omega)]
        · rw [if_neg hl, if_neg (by omega)]
      · rw [if_neg (by omega), if_neg hki]
    · rw [if_neg hi, if_neg (by omega), if_neg hi]
  · rw [if_neg hp, secs_get]
    by_cases hi : i < 128
    · rw [if_pos hi, if_pos hi, List.getElem?_set_ne (by omega)]
    · rw [if_neg hi, if_neg hi]
theorem secs_getD (L : List UInt8) (a k : Nat) (hk : k < 128) : (secs L a 1).getD k 0 = L.getD (128 * a + k) 0 := by
  rw [List.getD_eq_getElem?_getD, secs_get, if_pos hk, ← List.getD_eq_getElem?_getD]
theorem Sh.turn {s : Dsk} {n : Nat} {f g : Nat → List UInt8} (h : Sh s n f g) (a k : Nat) (x : UInt8) (ha : a < n) (hk : k < 128) : Sh (s.turn a (zeros k ++ [x])) n (fun p => if p = a then flip1 k x (f p) else f p) (fun p => if p = a then flip1 k x (g p) else g p) := by
  have hl : (zeros k ++ [x]).length = k + 1 := by simp [zeros_length]
  have h1 := h.ok.nw
  have h2 := h.ok.pl
  rw [h.hn] at h1 h2
  refine ⟨Dsk.turn_ok h.ok _ _, h.hn, fun p hp => ?_, fun p hp => ?_⟩
  · show secs (turnK s.now (128 * a) _ _) p 1 = if p = a then flip1 k x (f p) else f p
    rw [hl, turnK_mask _ _ _ _ (by omega), secs_set _ _ _ _ hk, h.now p hp]
    by_cases e : p = a
    · subst e
      rw [if_pos rfl, if_pos rfl]
      unfold flip1
      rw [← h.now p hp, secs_getD _ _ _ hk]
    · rw [if_neg e, if_neg e]
  · show secs (turnK s.plat (128 * a) _ _) p 1 = if p = a then flip1 k x (g p) else g p
    rw [hl, turnK_mask _ _ _ _ (by omega), secs_set _ _ _ _ hk, h.plat p hp]
    by_cases e : p = a
    · subst e
      rw [if_pos rfl, if_pos rfl]
      unfold flip1
      rw [← h.plat p hp, secs_getD _ _ _ hk]
    · rw [if_neg e, if_neg e]
theorem flip_ne {k : Nat} {x : UInt8} {c : List UInt8} (hx : x ≠ 0) : c.getD k 0 ^^^ x ≠ c.getD k 0 := xor8_ne _ _ hx
/-- The disk ahead of the turn. -/
def flF (l : Nat) : Nat → List UInt8 := upd (updL (fmt 330 (labelB (lb1 9 330))) (marks 330 7) (uberB 9 7 3)) (18 + l) (logB 4 (zeros 88))
theorem flF_ring {l j i : Nat} (hl : l < 256) (hj : j < 4) (hi : i < 8) : flF l (plc 330 j + 1 + i) = if i = 7 then uberB 9 7 3 else zeros 128 := by
  unfold flF upd updL
  rw [if_neg (ring_mid (by decide) hj hi (by omega) (by omega))]
  by_cases e : i = 7
  · rw [if_pos ((marks_ring (by decide) hj hi).2 e), if_pos e]
  · rw [if_neg (fun h => e ((marks_ring (by decide) hj hi).1 h)), if_neg e]
    exact fmt_ring (by decide) hj hi
theorem flF_label {l j : Nat} (hl : l < 256) (hj : j < 4) : flF l (plc 330 j) = labelB (lb1 9 330) := by
  have hne : plc 330 j ≠ 18 + l := by rcases plc_cases (n := 330) hj with ⟨rfl, e⟩ | ⟨rfl, e⟩ | ⟨rfl, e⟩ | ⟨rfl, e⟩ <;> omega
  show (if plc 330 j = 18 + l then _ else if plc 330 j ∈ marks 330 7 then _ else fmt 330 _ (plc 330 j)) = _
  rw [if_neg hne, if_neg (marks_label (by decide) hj)]
  exact fmt_label hj
theorem flF_log (l : Nat) : flF l (18 + l) = logB 4 (zeros 88) := if_pos rfl
/-- Behind it. -/
def flG (l a k : Nat) (x : UInt8) (p : Nat) : List UInt8 := if p = a then flip1 k x (flF l p) else flF l p
theorem flG_dec {l a k : Nat} {x : UInt8} (hl : l < 256) (hk : k < 128) (hx : x ≠ 0) (j i : Nat) (hj : j < 4) (hi : i < 8) : Slot 9 (flG l a k x (plc 330 j + 1 + i)) (if plc 330 j + 1 + i = a then none else if i = 7 then some ⟨9, 7, 3⟩ else none) := by
  unfold flG
  rw [flF_ring hl hj hi]
  by_cases e : plc 330 j + 1 + i = a
  · rw [if_pos e, if_pos e]
    show ¬ Opens _ _
    by_cases e7 : i = 7
    · rw [if_pos e7]
      exact opens_turned (uberB_len _ _ _) (uberB_opens _ _ _) k hk _ (flip_ne hx)
    · rw [if_neg e7]
      exact zeros_turned _ _
  · rw [if_neg e, if_neg e]
    by_cases e7 : i = 7
    · rw [if_pos e7, if_pos e7]
      exact slot_uber (by decide) (by decide) (by decide)
    · rw [if_neg e7, if_neg e7]
      exact slot_zero _
theorem fl_one {a : Nat} {M : List UB} (hn : M.Nodup) (hm : ∀ v, v ∈ M ↔ ∃ j i, j < 4 ∧ i < 8 ∧ (if plc 330 j + 1 + i = a then none else if i = 7 then some (⟨9, 7, 3⟩ : UB) else none) = some v) : M = [⟨9, 7, 3⟩] := single hn fun v => by
  rw [hm]
  constructor
  · rintro ⟨j, i, -, -, h⟩
    by_cases e : plc 330 j + 1 + i = a
    · rw [if_pos e] at h; cases h
    · rw [if_neg e] at h
      by_cases e7 : i = 7
      · rw [if_pos e7] at h; injection h with h; exact h.symm
      · rw [if_neg e7] at h; cases h
  · rintro rfl
    by_cases e : plc 330 0 + 1 + 7 = a
    · exact ⟨1, 7, by decide, by decide, by rw [if_neg (by rw [← e]; decide), if_pos rfl]⟩
    · exact ⟨0, 7, by decide, by decide, by rw [if_neg e, if_pos rfl]⟩
theorem flG_label {l a k : Nat} {x : UInt8} (hl : l < 256) (hk : k < 128) (hx : x ≠ 0) : ∃ j0, j0 < 4 ∧ flG l a k x (plc 330 j0) = labelB (lb1 9 330) ∧ ∀ j, j < j0 → ¬ Opens [85, 67, 76, 66] (flG l a k x (plc 330 j)) := by
  by_cases e : plc 330 0 = a
  · refine ⟨1, by decide, ?_, fun j hj => ?_⟩
    · unfold flG
      rw [if_neg (by rw [← e]; decide)]
      exact flF_label hl (by decide)
    · obtain rfl : j = 0 := by omega
      unfold flG
      rw [if_pos e, flF_label hl (by decide)]
      exact opens_turned (lb1_len 9 330) (labelB_opens _ (by show 1 ≤ 4; decide)) k hk _ (flip_ne hx)
  · refine ⟨0, by decide, ?_, fun j hj => by omega⟩
    unfold flG
    rw [if_neg e]
    exact flF_label hl (by decide)
theorem flG_log {l a k : Nat} {x : UInt8} (hk : k < 128) (hx : x ≠ 0) : (a = 18 + l → ¬ LogOk (flG l a k x (18 + l))) ∧ (a ≠ 18 + l → flG l a k x (18 + l) = logB 4 (zeros 88)) := by
  refine ⟨fun e => ?_, fun e => ?_⟩
  · unfold flG
    rw [if_pos e.symm, flF_log]
    exact logOk_turned (logB_128 _ _ (zeros_length _)) (logB_ok _ _ (by decide) (by decide)) k hk _ (flip_ne hx)
  · unfold flG
    rw [if_neg (fun h => e h.symm), flF_log]
end Go.Proofs.YtipbjiepfnjojaaGreatDoor
namespace Go.Proofs.YtipbjiepfnjojaaGreatDoor
set_option maxRecDepth 100000
open Go.RowKit Go.Uc

/-- Is a Txg marked, behind such a best one? -/
def apT (b t : Nat) : Prop := 1 ≤ t ∧ t ≤ 281474976710656 ∧ b < t
instance (b t : Nat) : Decidable (apT b t) := by unfold apT; infer_instance
/-- The best of so many, and what stands in each slot. -/
def apS : List Nat → Nat × (Nat → Option UB)
  | [] => (0, fun _ => none)
  | t :: r => if apT (apS r).1 t then (t, fun i => if i = t % 8 then some ⟨9, t, t + 1⟩ else (apS r).2 i) else apS r
/-- The first k of them, the last ahead. -/
def apK (L : List Nat) (k : Nat) : Nat × (Nat → Option UB) := apS (L.take k).reverse
theorem apK_zero (L : List Nat) : apK L 0 = (0, fun _ => none) := by simp [apK, apS]
theorem apK_succ (L : List Nat) (k : Nat) (h : k < L.length) : apK L (k + 1) = if apT (apK L k).1 L[k] then (L[k], fun i => if i = L[k] % 8 then some ⟨9, L[k], L[k] + 1⟩ else (apK L k).2 i) else apK L k := by
  unfold apK
  rw [← List.take_append_getElem h, List.reverse_append, List.reverse_singleton, List.singleton_append, apS]
/-- What is known of it. -/
structure ApI (s : Nat × (Nat → Option UB)) : Prop where
  best : s.1 ≤ 281474976710656
  none_ : s.1 = 0 → ∀ i, s.2 i = none
  top : 0 < s.1 → s.2 (s.1 % 8) = some ⟨9, s.1, s.1 + 1⟩
  some_ : ∀ i u, s.2 i = some u → ∃ t, 1 ≤ t ∧ t ≤ s.1 ∧ u = ⟨9, t, t + 1⟩
theorem apS_inv : ∀ L, ApI (apS L)
  | [] => ⟨by show 0 ≤ _; omega, fun _ _ => rfl, fun h => absurd h (by show ¬ 0 < 0; omega), fun i u h => by cases h⟩
  | t :: r => by
    have ih := apS_inv r
    rw [apS]
    by_cases h : apT (apS r).1 t
    · rw [if_pos h]
      obtain ⟨h1, h2, h3⟩ := h
      refine ⟨h2, fun e => ?_, fun _ => if_pos rfl, fun i u hu => ?_⟩
      · have e' : t = 0 := e
        omega
      · have hu' : (if i = t % 8 then some (⟨9, t, t + 1⟩ : UB) else (apS r).2 i) = some u := hu
        by_cases hi : i = t % 8
        · rw [if_pos hi] at hu'
          injection hu' with hu'
          exact ⟨t, h1, Nat.le_refl _, hu'.symm⟩
        · rw [if_neg hi] at hu'
          obtain ⟨t', a, b, c⟩ := ih.some_ i u hu'
          exact ⟨t', a, by show t' ≤ t; omega, c⟩
    · rw [if_neg h]
      exact ih
theorem apK_inv (L : List Nat) (k : Nat) : ApI (apK L k) := apS_inv _
/-- The disk behind the first k. -/
structure ApD (g : Nat → List UInt8) (L : List Nat) (k : Nat) (s : Dsk) (f : Nat → List UInt8) : Prop where
  sm : Sm s 400 f g (4 * k)
  ring : Rng 400 9 f fun _ i => (apK L k).2 i
  lab : f (plc 400 0) = labelB (lb1 9 400)
theorem ApD.start (L : List Nat) : ApD (fmt 400 (labelB (lb1 9 400))) L 0 ((Dsk.fresh 400).fst (labelB (lb1 9 400)) 7) (fmt 400 (labelB (lb1 9 400))) := by
  refine ⟨Sm.start 400 9 (by decide) (by decide), ?_, fmt_label (by decide)⟩
  rw [apK_zero]
  exact Rng.fmt (by decide)
theorem ApD.skip {g : Nat → List UInt8} {L : List Nat} {k : Nat} {s : Dsk} {f : Nat → List UInt8} (h : ApD g L k s f) (hk : k < L.length) (hn : ¬ apT (apK L k).1 L[k]) : ApD g L (k + 1) s f := by
  refine ⟨⟨h.sm.sh, h.sm.left, h.sm.off, by have := h.sm.wts; omega⟩, ?_, h.lab⟩
  rw [apK_succ L k hk, if_neg hn]
  exact h.ring
theorem ApD.mark {g : Nat → List UInt8} {L : List Nat} {k : Nat} {s : Dsk} {f : Nat → List UInt8} (h : ApD g L k s f) (hk : k < L.length) (ht : apT (apK L k).1 L[k]) : ApD g L (k + 1) (s.wrs (uberB 9 L[k] (L[k] + 1)) (marks 400 L[k])).1 (updL f (marks 400 L[k]) (uberB 9 L[k] (L[k] + 1))) ∧ (s.wrs (uberB 9 L[k] (L[k] + 1)) (marks 400 L[k])).2 = true := by
  obtain ⟨h1, h2⟩ := h.sm.mark (by decide) (uberB 9 L[k] (L[k] + 1)) (uberB_len _ _ _) L[k]
  refine ⟨⟨⟨h1.sh, h1.left, h1.off, by have := h1.wts; omega⟩, ?_, ?_⟩, h2⟩
  · rw [apK_succ L k hk, if_pos ht]
    obtain ⟨t1, t2, t3⟩ := ht
    exact h.ring.mark (by decide) (t := L[k]) (note := L[k] + 1) t1 t2 (by omega)
  · unfold updL
    rw [if_neg (marks_label (by decide) (by decide))]
    exact h.lab
/-- Behind all of it: the log's sector, the data, what a crash leaves. -/
structure ApF (s : Dsk) (dec : Nat → Option UB) (lg : Option Nat) (dt : Option (Nat × Nat × List UInt8)) (f : Nat → List UInt8) (g : Nat → List UInt8) (k : Nat) : Prop where
  sm : Sm s 400 f g k
  ring : Rng 400 9 f fun _ i => dec i
  lab : f (plc 400 0) = labelB (lb1 9 400)
  log : ∀ l, lg = some l → l < 256 ∧ f (18 + l) = logB 5 (zeros 88)
  dat : ∀ a m b, dt = some (a, m, b) → a + m ≤ 108 ∧ b.length = 128 * m ∧ ∀ p, p < m → f (274 + a + p) = (b.drop (128 * p)).take 128
theorem ApD.toF {g : Nat → List UInt8} {L : List Nat} {k : Nat} {s : Dsk} {f : Nat → List UInt8} (h : ApD g L k s f) : ApF s (apK L k).2 none none f g (4 * k) :=
  ⟨h.sm, h.ring, h.lab, fun l e => by (cases e), fun a m b e => by (cases e)⟩
theorem Rng.midN {f f' : Nat → List UInt8} {dec : Nat → Nat → Option UB} (h : Rng 400 9 f dec) (hf : ∀ p, ¬ (18 ≤ p ∧ p < 382) → f' p = f p) : Rng 400 9 f' dec := h.fits fun j i hj hi => hf _ fun e => ring_mid (n := 400) (by decide) hj hi e.1 e.2 rfl
theorem ApF.logw {s : Dsk} {dec : Nat → Option UB} {f g : Nat → List UInt8} {k : Nat} (h : ApF s dec none none f g k) (l : Nat) (hl : l < 256) : ApF (s.wr (18 + l) 1 (logB 5 (zeros 88))).1 dec (some l) none (upd f (18 + l) (logB 5 (zeros 88))) g (k + 1) := by
  refine ⟨h.sm.wr1 (18 + l) _ (logB_128 _ _ (zeros_length _)) (by omega), h.ring.midN fun p hp => ?_, ?_, fun l' e => ?_, fun a m b e => by (cases e)⟩
  · unfold upd
    rw [if_neg (by omega)]
  · unfold upd
    rw [if_neg (by show ¬ 0 = 18 + l; omega)]
    exact h.lab
  · injection e with e
    subst e
    exact ⟨hl, if_pos rfl⟩
theorem ApF.datw {s : Dsk} {dec : Nat → Option UB} {lg : Option Nat} {f g : Nat → List UInt8} {k : Nat} (h : ApF s dec lg none f g k) (a m : Nat) (b : List UInt8) (ha : a + m ≤ 108) (hb : b.length = 128 * m) : ApF (s.wr (274 + a) m b).1 dec lg (some (a, m, b)) (updN f (274 + a) m b) g (k + m) := by
  obtain ⟨o1, o2, o3, o4, o5, o6⟩ := Dsk.wr_on m s (274 + a) b h.sm.left
  refine ⟨⟨h.sm.sh.wrN m h.sm.left (274 + a) b hb (by omega), o2, o4.trans h.sm.off, by rw [o6]; have := h.sm.wts; omega⟩, h.ring.midN fun p hp => ?_, ?_, fun l e => ?_, fun a' m' b' e => ?_⟩
  · unfold updN
    rw [if_neg (by omega)]
  · unfold updN
    rw [if_neg (by show ¬ (274 + a ≤ 0 ∧ 0 < 274 + a + m); omega)]
    exact h.lab
  · obtain ⟨h1, h2⟩ := h.log l e
    refine ⟨h1, ?_⟩
    unfold updN
    rw [if_neg (by omega)]
    exact h2
  · injection e with e
    injection e with e1 e
    injection e with e2 e3
    subst e1 e2 e3
    refine ⟨ha, hb, fun p hp => ?_⟩
    unfold updN
    rw [if_pos (by omega)]
    congr 2
    omega
theorem ApF.flush {s : Dsk} {dec : Nat → Option UB} {lg : Option Nat} {dt : Option (Nat × Nat × List UInt8)} {f g : Nat → List UInt8} {k : Nat} (h : ApF s dec lg dt f g k) : ApF s.flush dec lg dt f f 0 ∧ s.flush.waits = [] :=
  ⟨⟨h.sm.flush.1, h.ring, h.lab, h.log, h.dat⟩, rfl⟩
/-- A crash behind the flush, with at most a sector of the log waiting that is not ours. -/
theorem ApF.crash {s s' : Dsk} {dec : Nat → Option UB} {lg : Option Nat} {dt : Option (Nat × Nat × List UInt8)} {f : Nat → List UInt8} (h : ApF s dec lg dt f f 0) (hw : s.waits = []) (st : List Bool) (hs' : s' = s ∨ ∃ l b, l < 256 ∧ (∀ l', lg = some l' → l' ≠ l) ∧ b.length = 128 ∧ s' = (s.wr (18 + l) 1 b).1) : s'.waits.length ≤ 1 ∧ ∃ f', ApF (s'.up st) dec lg dt f' f' 0 := by
  rcases hs' with rfl | ⟨l, b, hl, hne, hb, rfl⟩
  · refine ⟨by rw [hw]; exact Nat.zero_le _, f, h.sm.up_none hw st, h.ring, h.lab, h.log, h.dat⟩
  · obtain ⟨h1, h2, h3, h4, -⟩ := h.sm.sh.wr1 h.sm.left (18 + l) b hb (by omega)
    generalize (s.wr (18 + l) 1 b).1 = s2 at h1 h2 h3 h4 ⊢
    rw [hw, List.nil_append] at h4
    obtain ⟨f', h5, h6⟩ := h1.up st
    have key : ∀ p, p < 400 → p ≠ 18 + l → f' p = f p := fun p hp hpl => by
      rcases h6 p hp with e | ⟨x, hx, hxa, -⟩
      · exact e
      · rw [h4, List.mem_singleton] at hx
        subst hx
        exact absurd hxa.symm hpl
    refine ⟨by rw [h4]; exact Nat.le_refl 1, f', ⟨h5, rfl, rfl, Nat.le_refl _⟩, h.ring.fits fun j i hj hi => key _ (ring_lt (by decide) hi) (ring_mid (by decide) hj hi (by omega) (by omega)), (key _ (by decide) (by show 0 ≠ 18 + l; omega)).trans h.lab, fun l' e => ?_, fun a m b' e => ?_⟩
    · obtain ⟨q1, q2⟩ := h.log l' e
      exact ⟨q1, (key _ (by omega) (by have := hne l' e; omega)).trans q2⟩
    · obtain ⟨q1, q2, q3⟩ := h.dat a m b' e
      exact ⟨q1, q2, fun p hp => (key _ (by omega) (by omega)).trans (q3 p hp)⟩
/-- The data, read as one. -/
theorem secs_many {L : List UInt8} {n : Nat} (hl : L.length = 128 * n) (q : Nat) : ∀ (m : Nat) (b : List UInt8), b.length = 128 * m → q + m ≤ n → (∀ p, p < m → secs L (q + p) 1 = (b.drop (128 * p)).take 128) → secs L q m = b := by
  intro m b hb hq h
  apply List.ext_getElem?
  intro i
  unfold secs
  rw [List.getElem?_take, List.getElem?_drop]
  by_cases hi : i < 128 * m
  · rw [if_pos hi]
    have h1 := congrArg (fun l => l[i % 128]?) (h (i / 128) (by omega))
    rw [secs_get, if_pos (Nat.mod_lt _ (by decide)), List.getElem?_take, if_pos (Nat.mod_lt _ (by decide)), List.getElem?_drop] at h1
    rw [show 128 * q + i = 128 * (q + i / 128) + i % 128 by omega, h1]
    congr 1
    omega
  · rw [if_neg hi, List.getElem?_eq_none (by omega)]
/-- What Ubers tells then. -/
theorem ap_tells {s : Nat × (Nat → Option UB)} (hI : ApI s) {M : List UB} (ho : Ord M.length M) (hM : ∀ u, u ∈ M ↔ ∃ j i, j < 4 ∧ i < 8 ∧ s.2 i = some u) : (s.1 = 0 → M.length = 0) ∧ (0 < s.1 → ∃ h : 0 < M.length, M[0] = ⟨9, s.1, s.1 + 1⟩) := by
  refine ⟨fun h0 => ?_, fun h0 => ?_⟩
  · rcases Nat.eq_zero_or_pos M.length with h | h
    · exact h
    · obtain ⟨j, i, -, -, e⟩ := (hM _).1 (List.getElem_mem h)
      rw [hI.none_ h0] at e
      cases e
  · have hin : (⟨9, s.1, s.1 + 1⟩ : UB) ∈ M := (hM _).2 ⟨0, s.1 % 8, by decide, Nat.mod_lt _ (by decide), hI.top h0⟩
    have hpos := List.length_pos_of_mem hin
    refine ⟨hpos, ?_⟩
    obtain ⟨p, hp, hpe⟩ := List.getElem_of_mem hin
    have hge : s.1 ≤ (M[0]).txg := by
      rcases Nat.eq_zero_or_pos p with e | e
      · subst e; rw [hpe]; exact Nat.le_refl _
      · have := ho 0 p hpos hp e hp
        rw [hpe] at this
        exact this
    obtain ⟨j, i, -, -, e⟩ := (hM _).1 (List.getElem_mem hpos)
    obtain ⟨t, t1, t2, t3⟩ := hI.some_ i _ e
    rw [t3] at hge ⊢
    simp only at hge
    rw [show t = s.1 by omega]
def apB (dec : Nat → Option UB) : List UB := (List.range 8).filterMap dec
theorem apB_len (dec : Nat → Option UB) : (apB dec).length ≤ 19 := by
  have : ((List.range 8).filterMap dec).length ≤ (List.range 8).length := List.length_filterMap_le _ _
  rw [List.length_range] at this
  unfold apB
  omega
theorem apB_mem (dec : Nat → Option UB) : ∀ j i u, j < 4 → i < 8 → (fun (_ : Nat) i => dec i) j i = some u → u ∈ apB dec := fun _ i u _ hi h => List.mem_filterMap.2 ⟨i, List.mem_range.2 hi, h⟩
end Go.Proofs.YtipbjiepfnjojaaGreatDoor
namespace Go.Proofs.YtipbjiepfnjojaaGreatDoor
set_option maxRecDepth 100000
open Go.RowKit Go.Uc

/-- A slice of numbers without a sign, wherever it lies. -/
def AtU (w : World) (A : Option Addr) (ts : List Nat) : Prop := ∀ i (h : i < ts.length), ∃ b off, A = some ⟨b, off, none⟩ ∧ w.cell? ⟨b, off + i, none⟩ = some (.int .u64 (ts[i] : Int)) ∧ ts[i] < 18446744073709551616
theorem AtU.non {w w' : World} {A : Option Addr} {ts : List Nat} (h : AtU w A ts) (hk : Keeps Non w w') : AtU w' A ts := fun i hi => by
  obtain ⟨b, off, e, hc, hl⟩ := h i hi
  exact ⟨b, off, e, hk.cell hc id, hl⟩
def ApR (w : World) (X : Xb) (L : List Nat) (k : Nat) (wr : World) : Prop := ∃ s f, Ph w wr X s ∧ ApD (fmt 400 (labelB (lb1 9 400))) L k s f
/-- What LogWrite answered. -/
def ApL (log : Int) (ev : Int) (lg : Option Nat) : Prop := (∃ l : Nat, log = (l : Int) ∧ l < 256 ∧ ev = 0 ∧ lg = some l) ∨ (¬ (0 ≤ log ∧ log < 256) ∧ ev = 1 ∧ lg = none)
/-- What Write answered. -/
def ApW (at_ : Int) (b : List UInt8) (fv : Int) (dt : Option (Nat × Nat × List UInt8)) : Prop := (∃ a m : Nat, at_ = (a : Int) ∧ b.length = 128 * m ∧ a + m ≤ 108 ∧ fv = 0 ∧ dt = some (a, m, b)) ∨ (fv = 1 ∧ dt = none)
/-- Ahead of the flush; behind it; behind the log's second write; behind the crash. -/
def ApP (w : World) (X : Xb) (dec : Nat → Option UB) (lg : Option Nat) (dt : Option (Nat × Nat × List UInt8)) (N : Nat) (wr : World) : Prop := ∃ s f g k, Ph w wr X s ∧ ApF s dec lg dt f g k ∧ k ≤ N
def ApQ (w : World) (X : Xb) (dec : Nat → Option UB) (lg : Option Nat) (dt : Option (Nat × Nat × List UInt8)) (wr : World) : Prop := ∃ s f, Ph w wr X s ∧ ApF s dec lg dt f f 0 ∧ s.waits = []
def ApC (w : World) (X : Xb) (dec : Nat → Option UB) (lg : Option Nat) (dt : Option (Nat × Nat × List UInt8)) (wr : World) : Prop := ∃ s s' f, Ph w wr X s' ∧ ApF s dec lg dt f f 0 ∧ s.waits = [] ∧ (s' = s ∨ ∃ l b, l < 256 ∧ (∀ l', lg = some l' → l' ≠ l) ∧ b.length = 128 ∧ s' = (s.wr (18 + l) 1 b).1)
def ApE (w : World) (X : Xb) (dec : Nat → Option UB) (lg : Option Nat) (dt : Option (Nat × Nat × List UInt8)) (wr : World) : Prop := ∃ s f, Ph w wr X s ∧ ApF s dec lg dt f f 0
section
variable {w wr : World} {X : Xb} {dec : Nat → Option UB} {lg : Option Nat} {dt : Option (Nat × Nat × List UInt8)}
theorem ap_logw (hX : X.x = lb1 9 400) (log : Int) (hP : ∃ s f g k, Ph w wr X s ∧ ApF s dec none none f g k ∧ k ≤ 400000000) :
    Calls Tryz.prog 13 #[.pointer (some ⟨X.lf, 0, none⟩), .int .i64 log, .int .u64 5, .slice (some ⟨wr.heap.size, 0, none⟩) 88 88] (wr.alloc (.cells (pc (zeros 88)) 5)).drew fun e w' => ∃ ev lg, e = .returned (.int .i64 ev) ∧ ApL log ev lg ∧ ApP w X dec lg none 400000001 w' := by
  obtain ⟨s, f, g, k, hP, hF, hk⟩ := hP
  have hka : Keeps Non wr (wr.alloc (.cells (pc (zeros 88)) 5)).drew := ((Keeps.refl Non wr).alloc _).drew
  by_cases h : 0 ≤ log ∧ log < 256
  · obtain ⟨l, rfl⟩ : ∃ l : Nat, log = (l : Int) := ⟨log.toNat, by omega⟩
    have hl : l < 256 := by omega
    refine ((hP.non hka).logWrite hF.sm.off hF.sm.left (by rw [hF.sm.sh.hn]; decide) (by have := hF.sm.wts; omega) l 5 hl (by decide) (by decide) (zeros 88) (zeros_length _) _ 88 (At.blk (Blk.new wr 5 (pc (zeros 88))).drew)).mono ?_
    rintro e w' ⟨rfl, h'⟩
    exact ⟨0, some l, rfl, .inl ⟨l, rfl, hl, rfl, rfl⟩, _, _, _, _, h', hF.logw l hl, by omega⟩
  · refine (logWrite13_no log 5 _ _ _ _ h _).mono ?_
    rintro e w' ⟨rfl, rfl⟩
    exact ⟨1, none, rfl, .inr ⟨h, rfl, rfl⟩, _, _, _, _, hP.non hka, hF, by omega⟩
theorem ap_write (hP : ApP w X dec lg none 400000001 wr) (at_ : Int) (h1 : -9223372036854775808 ≤ at_) (h2 : at_ ≤ 9223372036854775807) (b : List UInt8) (A : Option Addr) (c : Nat) (hA : At w A b) (hAl : ∀ ad, A = some ad → ad.block < w.heap.size) (hbc : b.length ≤ c) (hb : b.length ≤ 140737488351232) :
    Calls Tryz.prog 14 #[.pointer (some ⟨X.lf, 0, none⟩), .int .i64 at_, .slice A b.length c] wr fun e w' => ∃ fv dt, e = .returned (.int .i64 fv) ∧ ApW at_ b fv dt ∧ ApP w X dec lg dt 400000200 w' := by
  obtain ⟨s, f, g, k, hP, hF, hk⟩ := hP
  have hn := hF.sm.sh.hn
  by_cases h : b.length % 128 = 0 ∧ 0 ≤ at_ ∧ at_ + (b.length / 128 : Nat) ≤ 108
  · obtain ⟨a, rfl⟩ : ∃ a : Nat, at_ = (a : Int) := ⟨at_.toNat, by omega⟩
    obtain ⟨m, hm⟩ : ∃ m, b.length = 128 * m := ⟨b.length / 128, by omega⟩
    have ham : a + m ≤ 108 := by have := h.2.2; rw [hm, Nat.mul_div_cancel_left _ (by decide)] at this; omega
    rw [hm]
    refine (hP.writeArg hF.sm.off hF.sm.left (by rw [hn]; decide) a m b A c hA hAl hm hbc (by rw [hn]; exact ham) (by have := hF.sm.wts; omega)).mono ?_
    rintro e w' ⟨rfl, h'⟩
    exact ⟨0, _, rfl, .inl ⟨a, m, rfl, hm, ham, rfl, rfl⟩, _, _, _, _, h', hF.datw a m b ham hm, by omega⟩
  · obtain ⟨wv, hp⟩ := hP
    refine (write14_no hp.l hF.sm.off (by rw [hn]; decide) at_ b.length A c (by rw [hn]; exact h) h1 h2 hb).mono ?_
    rintro e w' ⟨rfl, hk'⟩
    exact ⟨1, none, rfl, .inr ⟨rfl, rfl⟩, _, _, _, _, ⟨wv, hp.non hk'⟩, hF, by omega⟩
theorem ap_flush (hP : ApP w X dec lg dt 400000200 wr) : Calls Tryz.prog 9 #[.pointer (some ⟨X.lf, 0, none⟩)] wr fun e w' => e = .returned (.int .i64 0) ∧ ApQ w X dec lg dt w' := by
  obtain ⟨s, f, g, k, hP, hF, hk⟩ := hP
  exact (hP.flush hF.sm.off (by have := hF.sm.wts; omega)).mono fun e w' ⟨h1, h2⟩ => ⟨h1, _, _, h2, hF.flush.1, hF.flush.2⟩
theorem ap_logw2 {log ev : Int} (hL : ApL log ev lg) (h1 : -9223372036854775808 ≤ log) (h2 : log ≤ 9223372036854775807) (hP : ApQ w X dec lg dt wr) (z : Int) (hz : z = Int.tmod (IntKind.i64.wrap (log + 1)) 256) :
    Calls Tryz.prog 13 #[.pointer (some ⟨X.lf, 0, none⟩), .int .i64 z, .int .u64 6, .slice (some ⟨wr.heap.size, 0, none⟩) 88 88] (wr.alloc (.cells (pc (zeros 88)) 5)).drew fun e w' => (∃ v, e = .returned (.int .i64 v)) ∧ ApC w X dec lg dt w' := by
  obtain ⟨s, f, hP, hF, hw⟩ := hP
  have hka : Keeps Non wr (wr.alloc (.cells (pc (zeros 88)) 5)).drew := ((Keeps.refl Non wr).alloc _).drew
  by_cases h : 0 ≤ z ∧ z < 256
  · obtain ⟨l, rfl⟩ : ∃ l : Nat, z = (l : Int) := ⟨z.toNat, by omega⟩
    have hl : l < 256 := by omega
    refine ((hP.non hka).logWrite hF.sm.off hF.sm.left (by rw [hF.sm.sh.hn]; decide) (by have := hF.sm.wts; omega) l 6 hl (by decide) (by decide) (zeros 88) (zeros_length _) _ 88 (At.blk (Blk.new wr 5 (pc (zeros 88))).drew)).mono ?_
    rintro e w' ⟨rfl, h'⟩
    refine ⟨⟨0, rfl⟩, s, _, f, h', hF, hw, .inr ⟨l, _, hl, fun l' e => ?_, logB_128 _ _ (zeros_length _), rfl⟩⟩
    rcases hL with ⟨q, hq, hq2, -, hq3⟩ | ⟨-, -, hq3⟩
    · rw [hq3] at e
      injection e with e
      subst e
      subst hq
      have hwq : IntKind.i64.wrap ((q : Int) + 1) = (q : Int) + 1 := by rw [IntKind.wrap_i64]; omega
      rw [hwq, Int.tmod_eq_emod_of_nonneg (by omega)] at hz
      omega
    · rw [hq3] at e; cases e
  · refine (logWrite13_no z 6 _ _ _ _ h _).mono ?_
    rintro e w' ⟨rfl, rfl⟩
    exact ⟨⟨1, rfl⟩, s, s, f, hP.non hka, hF, hw, .inl rfl⟩
theorem ap_up (hP : ApC w X dec lg dt wr) (st : List Bool) (sA : Option Addr) (sc : Nat) (hS : AtB w sA st) (hSl : ∀ ad, sA = some ad → ad.block < w.heap.size) (hst : st.length ≤ 1099511627776000) :
    Calls Tryz.prog 11 #[.pointer (some ⟨X.K.p, 0, none⟩), .slice sA st.length sc] wr fun e w' => e = .returned (.tuple #[]) ∧ ApE w X dec lg dt w' := by
  obtain ⟨s, s', f, hP, hF, hw, hs'⟩ := hP
  obtain ⟨h1, f', h2⟩ := hF.crash hw st hs'
  exact (hP.up (by omega) st sA sc hS hSl hst).mono fun e w' ⟨a, b⟩ => ⟨a, _, f', b, h2⟩
theorem ap_ubers {ts : List Nat} {k : Nat} (hX : X.x = lb1 9 400) (hP : ApE w X (apK ts k).2 lg dt wr) :
    Calls Tryz.prog 12 #[.pointer (some ⟨X.lf, 0, none⟩)] wr fun e w' => ∃ mA mc M, e = .returned (.slice mA M.length mc) ∧ RowB w' (.slice mA M.length mc) M ∧ (((apK ts k).1 = 0 → M.length = 0) ∧ (0 < (apK ts k).1 → ∃ h : 0 < M.length, M[0] = ⟨9, (apK ts k).1, (apK ts k).1 + 1⟩)) ∧ M.length ≤ 19 ∧ Keeps Non wr w' := by
  obtain ⟨s, f, hP, hF⟩ := hP
  have hn := hF.sm.sh.hn
  have hp : X.x.pool = 9 := by rw [hX]; rfl
  have hd := Rng.dec hF.sm.sh (by decide) hF.ring
  have hd' : ∀ j i, j < 4 → i < 8 → Slot X.x.pool (secs s.now (plc s.n j + 1 + i) 1) ((fun (_ : Nat) i => (apK ts k).2 i) j i) := by rw [hp]; exact hd
  refine (hP.ubers hF.sm.off (by rw [hn]; decide) (by rw [hp]; decide) _ hd' (apB (apK ts k).2) (apB_len _) (apB_mem _)).mono ?_
  rintro e w' ⟨mA, mc, M, rfl, hR, -, ho, hm, hl, -, hk⟩
  exact ⟨mA, mc, M, rfl, hR, ap_tells (apK_inv ts k) ho hm, hl, hk⟩
/-- What LogRead answers. -/
def ApG (lg : Option Nat) (w' : World) (nv : Int) (rA : Option Addr) (rn rc : Nat) (tv : Bool) : Prop := ∀ l, lg = some l → nv = 5 ∧ tv = true ∧ rn = 88 ∧ At w' rA (zeros 88)
theorem ap_logr {log ev : Int} (hL : ApL log ev lg) (hP : ApE w X dec lg dt wr) :
    Calls Tryz.prog 15 #[.pointer (some ⟨X.lf, 0, none⟩), .int .i64 log] wr fun e w' => ∃ nv rA rn rc tv, e = .returned (.tuple #[.int .u64 nv, .slice rA rn rc, .bool tv]) ∧ ApG lg w' nv rA rn rc tv ∧ Keeps Non wr w' := by
  obtain ⟨s, f, hP, hF⟩ := hP
  have hn := hF.sm.sh.hn
  rcases hL with ⟨l, rfl, hl, -, rfl⟩ | ⟨h, -, rfl⟩
  · obtain ⟨-, h2⟩ := hF.log l rfl
    refine (hP.logRead hF.sm.off (by rw [hn]; decide) l hl (logB 5 (zeros 88)) (by rw [hF.sm.sh.now _ (by omega)]; exact h2)).mono ?_
    rintro e w' ⟨h | h, hk⟩
    · obtain ⟨-, b, rfl, hb, -⟩ := h
      rw [logB_in 5 _ (zeros_length _)] at hb
      refine ⟨5, _, 88, 88, true, ?_, fun l' _ => ⟨rfl, rfl, rfl, At.blk hb⟩, hk⟩
      rw [logB_no 5 _ (by decide)]
      rfl
    · exact absurd (logB_ok 5 _ (by decide) (by decide)) h.1
  · refine (logRead15_arg log _ h _).mono ?_
    rintro e w' ⟨rfl, rfl⟩
    exact ⟨0, none, 0, 0, false, rfl, fun l e => by (cases e), Keeps.refl _ _⟩
theorem ap_read {at_ fv : Int} {b : List UInt8} (hW : ApW at_ b fv dt) (hf : fv = 0) (hP : ApE w X dec lg dt wr) :
    Calls Tryz.prog 16 #[.pointer (some ⟨X.lf, 0, none⟩), .int .i64 at_, .int .i64 ((b.length / 128 : Nat) : Int)] wr fun e w' => ∃ rA rc, e = .returned (.tuple #[.slice rA b.length rc, .int .i64 0]) ∧ At w' rA b ∧ Keeps Non wr w' := by
  obtain ⟨s, f, hP, hF⟩ := hP
  have hn := hF.sm.sh.hn
  rcases hW with ⟨a, m, rfl, hb, ham, -, rfl⟩ | ⟨h, -⟩
  · obtain ⟨-, -, h3⟩ := hF.dat a m b rfl
    obtain ⟨wv, hp⟩ := hP
    have e1 : b.length / 128 = m := by rw [hb]; exact Nat.mul_div_cancel_left _ (by decide)
    rw [e1]
    refine (read16_any hp.l hF.sm.off (by rw [hn]; decide) a m (by rw [hn]; exact ham)).mono ?_
    rintro e w' ⟨g, rfl, hB, -, hk⟩
    have e2 : secs s.now (274 + a) m = b := secs_many (n := 400) (by rw [hF.sm.sh.ok.nw, hn]) _ _ _ hb (by omega) fun p hp' => by rw [hF.sm.sh.now _ (by omega)]; exact h3 p hp'
    rw [e2] at hB
    rw [hb]
    exact ⟨_, _, rfl, At.blk hB, hk⟩
  · omega
theorem ap_open (hX : X.x = lb1 9 400) (hP : ApE w X dec lg dt wr) :
    Calls Tryz.prog 17 #[.pointer (some ⟨X.K.d, 0, none⟩)] wr fun e w' => ∃ lf, e = .returned (.tuple #[.pointer (some ⟨lf, 0, none⟩), .int .i64 0]) ∧ Keeps Non wr w' ∧
      ∀ V, Keeps Non w' V → Calls Tryz.prog 18 #[.pointer (some ⟨lf, 0, none⟩)] V fun e w2 => ∃ A c, e = .returned (.agg #[.int .u64 9, .slice A 1 c, .int .i64 0, .int .i64 0]) ∧ Keeps Non V w2 := by
  obtain ⟨s, f, hP, hF⟩ := hP
  have hn := hF.sm.sh.hn
  refine (hP.open_ hF.sm.off (by rw [hn]; decide) (by rw [hX]; exact lb1_ok (by decide) (by decide) (by decide)) (by rw [hX]; intro _; exact hn.symm) 0 (by decide) (by rw [hn, hF.sm.sh.now _ (by decide), hF.lab, hX]) (fun j hj => absurd hj (by omega))).mono ?_
  rintro e w' ⟨lf, tA, tc, wv, rfl, hL, hk⟩
  rw [hX] at hL
  refine ⟨lf, rfl, hk, fun V hV => (label18_any (hL.non hV) (by show 0 < 1; decide) (by show 1 ≤ 4; decide)).mono ?_⟩
  rintro e w2 ⟨A, c, rfl, -, -, hk2⟩
  exact ⟨A, c, rfl, hk2⟩
theorem ap_keeps (hP : ApE w X dec lg dt wr) : Keeps Non w wr := by
  obtain ⟨s, f, hP, -⟩ := hP
  exact hP.keeps
theorem ApE.non {w' : World} (hP : ApE w X dec lg dt wr) (hk : Keeps Non wr w') : ApE w X dec lg dt w' := by
  obtain ⟨s, f, hP, hF⟩ := hP
  exact ⟨s, f, hP.non hk, hF⟩
end
end Go.Proofs.YtipbjiepfnjojaaGreatDoor
