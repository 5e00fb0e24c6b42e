/- The disk sector by sector. Rings and the log, sector by sector: plain law. The pair of the laws in memory. -/
import Derived.Test.YtipbjiepfnjojaaGreatDoorG22
namespace Go.Proofs.YtipbjiepfnjojaaGreatDoor
set_option maxRecDepth 100000
open Go.RowKit Go.Uc

theorem put_get {L : List UInt8} {n at_ : Nat} {b : List UInt8} (hl : L.length = 128 * n) (hb : b.length = 128) (ha : at_ < n) (k : Nat) : (put L at_ b)[k]? = if k < 128 * at_ then L[k]? else if k < 128 * at_ + 128 then b[k - 128 * at_]? else L[k]? := by
  unfold put
  have h1 : (L.take (128 * at_)).length = 128 * at_ := by rw [List.length_take]; omega
  by_cases h : k < 128 * at_
  · rw [if_pos h, List.getElem?_append_left (by omega), List.getElem?_take, if_pos h]
  · rw [if_neg h, List.getElem?_append_right (by omega), h1]
    by_cases h2 : k < 128 * at_ + 128
    · rw [if_pos h2, List.getElem?_append_left (by omega)]
    · rw [if_neg h2, List.getElem?_append_right (by omega), hb, List.getElem?_drop]
      congr 1
      omega
theorem secs_get (L : List UInt8) (p i : Nat) : (secs L p 1)[i]? = if i < 128 then L[128 * p + i]? else none := by
  unfold secs
  rw [List.getElem?_take, List.getElem?_drop]
theorem secs_put {L : List UInt8} {n at_ : Nat} {b : List UInt8} (hl : L.length = 128 * n) (hb : b.length = 128) (ha : at_ < n) (p : Nat) : secs (put L at_ b) p 1 = if p = at_ then b else secs L p 1 := by
  apply List.ext_getElem?
  intro i
  rw [secs_get, put_get hl hb ha]
  by_cases hi : i < 128
  · rw [if_pos hi]
    by_cases hp : p = at_
    · subst hp
      rw [if_pos rfl, if_neg (by omega), if_pos (by omega)]
      congr 1
      omega
    · rw [if_neg hp, secs_get, if_pos hi]
      by_cases h1 : 128 * p + i < 128 * at_
      · rw [if_pos h1]
      · rw [if_neg h1, if_neg (by omega)]
  · rw [if_neg hi]
    by_cases hp : p = at_
    · subst hp
      rw [if_pos rfl, List.getElem?_eq_none (by omega)]
    · rw [if_neg hp, secs_get, if_neg hi]
theorem secs_zeros (n p : Nat) (hp : p < n) : secs (zeros (128 * n)) p 1 = zeros 128 := by
  unfold secs zeros
  rw [List.drop_replicate, List.take_replicate]
  congr 1
  omega
/-- What stands in its sectors: for the eye, on the platter. -/
structure Sh (s : Dsk) (n : Nat) (f g : Nat → List UInt8) : Prop where
  ok : s.ok
  hn : s.n = n
  now : ∀ p, p < n → secs s.now p 1 = f p
  plat : ∀ p, p < n → secs s.plat p 1 = g p
theorem Sh.fits {s : Dsk} {n : Nat} {f g f' g' : Nat → List UInt8} (h : Sh s n f g) (hf : ∀ p, p < n → f p = f' p) (hg : ∀ p, p < n → g p = g' p) : Sh s n f' g' :=
  ⟨h.ok, h.hn, fun p hp => (h.now p hp).trans (hf p hp), fun p hp => (h.plat p hp).trans (hg p hp)⟩
def upd (f : Nat → List UInt8) (a : Nat) (b : List UInt8) (p : Nat) : List UInt8 := if p = a then b else f p
theorem Sh.one {s : Dsk} {n : Nat} {f g : Nat → List UInt8} (h : Sh s n f g) (x : Wt) (hx : x.at_ < n) : Sh (s.one x) n (upd f x.at_ x.b) g := by
  refine ⟨Dsk.one_ok h.ok x (by rw [h.hn]; exact hx), h.hn, fun p hp => ?_, h.plat⟩
  show secs (put s.now x.at_ x.b) p 1 = _
  rw [secs_put (by rw [h.ok.nw, h.hn]) x.hb hx]
  unfold upd
  split
  · rfl
  · exact h.now p hp
/-- One sector written with the power on. -/
theorem Sh.wr1 {s : Dsk} {n : Nat} {f g : Nat → List UInt8} (h : Sh s n f g) (hl : s.left = -1) (a : Nat) (b : List UInt8) (hb : b.length = 128) (ha : a < n) : Sh (s.wr a 1 b).1 n (upd f a b) g ∧ (s.wr a 1 b).1.left = -1 ∧ (s.wr a 1 b).1.off = s.off ∧ (s.wr a 1 b).1.waits = s.waits ++ [⟨a, b, hb⟩] ∧ (s.wr a 1 b).2 = true := by
  have e1 : sec0 b = b := by rw [sec0_eq (by omega), List.take_of_length_le (by omega)]
  have e : s.wr a 1 b = (s.one ⟨a, b, hb⟩, true) := by
    rw [Dsk.wr, if_neg (by omega), Dsk.wr]
    have : (⟨a, sec0 b, sec0_len b⟩ : Wt) = ⟨a, b, hb⟩ := by simp only [e1]
    rw [this]
  rw [e]
  refine ⟨h.one ⟨a, b, hb⟩ ha, ?_, rfl, rfl, rfl⟩
  show (if 0 < s.left then s.left - 1 else s.left) = -1
  rw [if_neg (by omega)]
  exact hl
/-- So many in a row. -/
def updN (f : Nat → List UInt8) (a m : Nat) (bs : List UInt8) (p : Nat) : List UInt8 := if a ≤ p ∧ p < a + m then (bs.drop (128 * (p - a))).take 128 else f p
theorem Sh.wrN {n : Nat} {g : Nat → List UInt8} : ∀ (m : Nat) {s : Dsk} {f : Nat → List UInt8}, Sh s n f g → s.left = -1 → ∀ (a : Nat) (bs : List UInt8), bs.length = 128 * m → a + m ≤ n → Sh (s.wr a m bs).1 n (updN f a m bs) g
  | 0, s, f, h, _, a, bs, _, _ => h.fits (fun p _ => by unfold updN; rw [if_neg (by omega)]) fun _ _ => rfl
  | m + 1, s, f, h, hl, a, bs, hb, ha => by
    rw [Dsk.wr, if_neg (by omega)]
    have h1 := h.one ⟨a, sec0 bs, sec0_len bs⟩ (by show a < n; omega)
    have hl1 : (s.one ⟨a, sec0 bs, sec0_len bs⟩).left = -1 := by simp [Dsk.one, hl]
    refine (Sh.wrN m h1 hl1 (a + 1) (bs.drop 128) (by rw [List.length_drop]; omega) (by omega)).fits (fun p hp => ?_) fun _ _ => rfl
    show updN (upd f a (sec0 bs)) (a + 1) m (bs.drop 128) p = _
    rw [sec0_eq (by omega)]
    unfold updN upd
    by_cases hpa : p = a
    · subst hpa
      rw [if_neg (by omega), if_pos rfl, if_pos (by omega), Nat.sub_self, Nat.mul_zero, List.drop_zero]
    · by_cases hin : a + 1 ≤ p ∧ p < a + 1 + m
      · rw [if_pos hin, if_pos (by omega), List.drop_drop]
        congr 2
        omega
      · rw [if_neg hin, if_neg hpa, if_neg (by omega)]
theorem Sh.flush {s : Dsk} {n : Nat} {f g : Nat → List UInt8} (h : Sh s n f g) : Sh s.flush n f f := ⟨Dsk.flush_ok h.ok, h.hn, h.now, h.now⟩
/-- Behind whatever cut of power: each sector is what it was, or what was being written. -/
theorem Sh.wrs : ∀ (ps : List Nat) {s : Dsk} {n : Nat} {f g : Nat → List UInt8}, Sh s n f g → ∀ (b : List UInt8), b.length = 128 → (∀ p ∈ ps, p < n) → ∃ f', Sh (s.wrs b ps).1 n f' g ∧ ∃ W : List Wt, (s.wrs b ps).1.waits = s.waits ++ W ∧ W.length ≤ ps.length ∧ ∀ x ∈ W, x.at_ ∈ ps ∧ x.b = b
  | [], s, n, f, g, h, b, hb, hp => ⟨f, h, [], by rw [List.append_nil]; rfl, Nat.le_refl _, fun x hx => (List.not_mem_nil hx).elim⟩
  | p :: ps, s, n, f, g, h, b, hb, hp => by
    have hpn := hp p (List.mem_cons_self ..)
    rw [Dsk.wrs]
    have e1 : sec0 b = b := by rw [sec0_eq (by omega), List.take_of_length_le (by omega)]
    by_cases hl : s.left = 0
    · have e : s.wr p 1 b = (s.out, false) := by rw [Dsk.wr, if_pos hl]
      rw [e, if_neg Bool.false_ne_true]
      exact ⟨f, ⟨Dsk.out_ok h.ok, h.hn, h.now, h.plat⟩, [], by rw [List.append_nil]; rfl, Nat.zero_le _, fun x hx => (List.not_mem_nil hx).elim⟩
    · have e : s.wr p 1 b = (s.one ⟨p, b, hb⟩, true) := by
        rw [Dsk.wr, if_neg hl, Dsk.wr]
        have : (⟨p, sec0 b, sec0_len b⟩ : Wt) = ⟨p, b, hb⟩ := by simp only [e1]
        rw [this]
      rw [e, if_pos rfl]
      obtain ⟨f', h', W, hW, hWl, hWm⟩ := Sh.wrs ps (h.one ⟨p, b, hb⟩ hpn) b hb fun q hq => hp q (List.mem_cons_of_mem _ hq)
      refine ⟨f', h', ⟨p, b, hb⟩ :: W, ?_, by simp; omega, fun x hx => ?_⟩
      · rw [hW]
        show (s.waits ++ [_]) ++ W = _
        rw [List.append_assoc]; rfl
      · rcases List.mem_cons.1 hx with rfl | hx
        · exact ⟨List.mem_cons_self .., rfl⟩
        · exact ⟨List.mem_cons_of_mem _ (hWm x hx).1, (hWm x hx).2⟩
def updL (f : Nat → List UInt8) (ps : List Nat) (b : List UInt8) (p : Nat) : List UInt8 := if p ∈ ps then b else f p
/-- With the power on. -/
theorem Sh.wrs_on : ∀ (ps : List Nat) {s : Dsk} {n : Nat} {f g : Nat → List UInt8}, Sh s n f g → s.left = -1 → ∀ (b : List UInt8), b.length = 128 → (∀ p ∈ ps, p < n) → Sh (s.wrs b ps).1 n (updL f ps b) g ∧ (s.wrs b ps).1.left = -1 ∧ (s.wrs b ps).1.off = s.off ∧ (s.wrs b ps).2 = true ∧ (s.wrs b ps).1.waits.length = s.waits.length + ps.length
  | [], s, n, f, g, h, hl, b, hb, hp => ⟨h.fits (fun p _ => (if_neg List.not_mem_nil).symm) fun _ _ => rfl, hl, rfl, rfl, rfl⟩
  | p :: ps, s, n, f, g, h, hl, b, hb, hp => by
    have hpn := hp p (List.mem_cons_self ..)
    obtain ⟨h1, h2, h3, h4, h5⟩ := h.wr1 hl p b hb hpn
    rw [Dsk.wrs, h5, if_pos rfl]
    obtain ⟨i1, i2, i3, i4, i5⟩ := Sh.wrs_on ps h1 h2 b hb fun q hq => hp q (List.mem_cons_of_mem _ hq)
    refine ⟨i1.fits (fun q _ => ?_) fun _ _ => rfl, i2, i3.trans h3, i4, by rw [i5, h4]; simp; omega⟩
    unfold updL upd
    by_cases hq : q ∈ ps
    · rw [if_pos hq, if_pos (List.mem_cons_of_mem _ hq)]
    · rw [if_neg hq]
      by_cases e : q = p
      · rw [if_pos e, if_pos (by rw [e]; exact List.mem_cons_self ..)]
      · rw [if_neg e, if_neg (fun h => (List.mem_cons.1 h).elim e hq)]
theorem ups_sec {n : Nat} (p : Nat) : ∀ (r : List Wt) (st : List Bool) (P : List UInt8), P.length = 128 * n → (∀ x ∈ r, x.at_ < n) → secs (ups r st P) p 1 = secs P p 1 ∨ ∃ x ∈ r, x.at_ = p ∧ secs (ups r st P) p 1 = x.b
  | [], st, P, _, _ => by rw [ups_nil]; exact .inl rfl
  | x :: r, [], P, _, _ => by rw [ups_no]; exact .inl rfl
  | x :: r, b :: st, P, hP, hx => by
    rw [ups]
    have hxn := hx x (List.mem_cons_self ..)
    have hP' : (if b then put P x.at_ x.b else P).length = 128 * n := by
      cases b
      · exact hP
      · exact put_len hP x.hb hxn
    rcases ups_sec p r st _ hP' fun y hy => hx y (List.mem_cons_of_mem _ hy) with h | ⟨y, hy, h1, h2⟩
    · rw [h]
      cases b
      · exact .inl rfl
      · rw [if_pos rfl, secs_put hP x.hb hxn]
        by_cases e : p = x.at_
        · right
          exact ⟨x, List.mem_cons_self .., e.symm, by rw [if_pos e]⟩
        · left; rw [if_neg e]
    · exact .inr ⟨y, List.mem_cons_of_mem _ hy, h1, h2⟩
/-- The power on again. -/
theorem Sh.up {s : Dsk} {n : Nat} {f g : Nat → List UInt8} (h : Sh s n f g) (st : List Bool) : ∃ f', Sh (s.up st) n f' f' ∧ ∀ p, p < n → f' p = g p ∨ ∃ x ∈ s.waits, x.at_ = p ∧ f' p = x.b := by
  refine ⟨fun p => secs (ups s.waits st s.plat) p 1, ⟨Dsk.up_ok h.ok st, h.hn, fun _ _ => rfl, fun _ _ => rfl⟩, fun p hp => ?_⟩
  rcases ups_sec (n := s.n) p s.waits st s.plat h.ok.pl h.ok.wt with e | e
  · exact .inl (e.trans (h.plat p hp))
  · exact .inr e
theorem Sh.up_none {s : Dsk} {n : Nat} {f g : Nat → List UInt8} (h : Sh s n f g) (hw : s.waits = []) (st : List Bool) : Sh (s.up st) n g g := by
  obtain ⟨f', h', hf⟩ := h.up st
  have e : ∀ p, p < n → f' p = g p := fun p hp => by
    rcases hf p hp with e | ⟨x, hx, -⟩
    · exact e
    · rw [hw] at hx; exact (List.not_mem_nil hx).elim
  exact h'.fits e e
/-- A disk that Format has just laid. -/
def fmt (n : Nat) (lb : List UInt8) (p : Nat) : List UInt8 := if p = 0 ∨ p = 9 ∨ p = n - 18 ∨ p = n - 9 then lb else zeros 128
theorem zeros_sec (m p : Nat) (hp : p < m) : ((zeros (128 * m)).drop (128 * p)).take 128 = zeros 128 := by
  unfold zeros
  rw [List.drop_replicate, List.take_replicate]
  congr 1
  omega
theorem len274 : (zeros 35072).length = 128 * 274 := zeros_length _
theorem len18 : (zeros 2304).length = 128 * 18 := zeros_length _
theorem sec274 (p : Nat) (hp : p < 274) : ((zeros 35072).drop (128 * p)).take 128 = zeros 128 := zeros_sec 274 p hp
theorem sec18 (p : Nat) (hp : p < 18) : ((zeros 2304).drop (128 * p)).take 128 = zeros 128 := zeros_sec 18 p hp
theorem fst_of (s : Dsk) (n : Nat) (lb : List UInt8) (Z Y : List UInt8) (hZ : Z.length = 128 * 274) (hY : Y.length = 128 * 18) (hZs : ∀ p, p < 274 → (Z.drop (128 * p)).take 128 = zeros 128) (hYs : ∀ p, p < 18 → (Y.drop (128 * p)).take 128 = zeros 128)
    (h1 : 324 ≤ n) (hl : lb.length = 128) (g0 : Sh s n (fun _ => zeros 128) (fun _ => zeros 128)) (s1 s2 s3 s4 s5 s6 : Dsk)
    (f1 : s1 = (s.wr 0 274 Z).1) (f2 : s2 = (s1.wr (n - 18) 18 Y).1) (f3 : s3 = (s2.wr 0 1 lb).1) (f4 : s4 = (s3.wr 9 1 lb).1) (f5 : s5 = (s4.wr (n - 18) 1 lb).1) (f6 : s6 = (s5.wr (n - 9) 1 lb).1)
    (o0 : s.left = -1) (o1 : s1.left = -1) (o2 : s2.left = -1) (o3 : s3.left = -1) (o4 : s4.left = -1) (o5 : s5.left = -1) : Sh s6 n (fmt n lb) (fun _ => zeros 128) := by
  have g1 := g0.wrN 274 o0 0 Z hZ (by omega)
  rw [← f1] at g1
  have g2 := g1.wrN 18 o1 (n - 18) Y hY (by omega)
  rw [← f2] at g2
  have e2 : Sh s2 n (fun _ => zeros 128) (fun _ => zeros 128) := g2.fits (fun p hp => by
    unfold updN
    by_cases c : n - 18 ≤ p ∧ p < n - 18 + 18
    · rw [if_pos c]
      exact hYs _ (by omega)
    · rw [if_neg c]
      by_cases d : 0 ≤ p ∧ p < 0 + 274
      · rw [if_pos d]
        exact hZs _ (by omega)
      · rw [if_neg d]) fun _ _ => rfl
  have g3 := (e2.wr1 o2 0 lb hl (by omega)).1
  rw [← f3] at g3
  have g4 := (g3.wr1 o3 9 lb hl (by omega)).1
  rw [← f4] at g4
  have g5 := (g4.wr1 o4 (n - 18) lb hl (by omega)).1
  rw [← f5] at g5
  have g6 := (g5.wr1 o5 (n - 9) lb hl (by omega)).1
  rw [← f6] at g6
  exact g6.fits (f' := fmt n lb) (fun p hp => by
    unfold fmt upd
    by_cases a : p = n - 9
    · rw [if_pos a, if_pos (by omega)]
    · rw [if_neg a]
      by_cases b : p = n - 18
      · rw [if_pos b, if_pos (by omega)]
      · rw [if_neg b]
        by_cases c : p = 9
        · rw [if_pos c, if_pos (by omega)]
        · rw [if_neg c]
          by_cases d : p = 0
          · rw [if_pos d, if_pos (by omega)]
          · rw [if_neg d, if_neg (by omega)]) (fun _ _ => rfl)
theorem flush_end {s t : Dsk} {n k : Nat} {f g : Nat → List UInt8} (h : Sh t n f g) (o : s.on t k) : Sh t.flush n f f ∧ t.flush.left = -1 ∧ t.flush.off = false ∧ t.flush.waits = [] := ⟨h.flush, o.1, o.2.2.1, rfl⟩
theorem fst_sh (n : Nat) (lb : List UInt8) (h1 : 324 ≤ n) (h2 : n ≤ 8192) (hl : lb.length = 128) : Sh ((Dsk.fresh n).fst lb 7) n (fmt n lb) (fmt n lb) ∧ ((Dsk.fresh n).fst lb 7).left = -1 ∧ ((Dsk.fresh n).fst lb 7).off = false ∧ ((Dsk.fresh n).fst lb 7).waits = [] := by
  have g0 : Sh (Dsk.fresh n) n (fun _ => zeros 128) (fun _ => zeros 128) := ⟨Dsk.fresh_ok (by omega) h2, rfl, fun p hp => secs_zeros n p hp, fun p hp => secs_zeros n p hp⟩
  have hn : (Dsk.fresh n).n = n := rfl
  have hd1 : (Dsk.fresh n).left = -1 := rfl
  have hd2 : (Dsk.fresh n).off = false := rfl
  generalize Dsk.fresh n = s at g0 hn hd1 hd2 ⊢
  obtain ⟨o0, o1, o2, o3, o4, o5, o6⟩ := Dsk.fst_on s lb hd1 hd2
  have f0 : s.fst lb 0 = s := rfl
  have f1 := fst1 s lb
  have f2 := fst2 s lb
  have f5 := fst5 s lb
  have f6 := fst6 s lb
  rw [hn] at f2 f5 f6
  rw [f0] at f1 o0
  rw [fst7]
  have e6 : Sh (s.fst lb 6) n (fmt n lb) (fun _ => zeros 128) := fst_of s n lb (zeros 35072) (zeros 2304) len274 len18 sec274 sec18 h1 hl g0 (s.fst lb 1) (s.fst lb 2) (s.fst lb 3) (s.fst lb 4) (s.fst lb 5) (s.fst lb 6) f1 f2 (fst3 s lb) (fst4 s lb) f5 f6 o0.1 o1.1 o2.1 o3.1 o4.1 o5.1
  exact flush_end e6 o6
end Go.Proofs.YtipbjiepfnjojaaGreatDoor
namespace Go.Proofs.YtipbjiepfnjojaaGreatDoor
set_option maxRecDepth 100000
open Go.RowKit Go.Uc

/-- What the rings tell. -/
def Rng (n pool : Nat) (f : Nat → List UInt8) (dec : Nat → Nat → Option UB) : Prop := ∀ j i, j < 4 → i < 8 → Slot pool (f (plc n j + 1 + i)) (dec j i)
theorem slot_zero (pool : Nat) : Slot pool (zeros 128) none := by
  show ¬ Opens _ _
  rintro ⟨h, -⟩
  exact absurd h (by decide)
theorem slot_uber {pool t note : Nat} (h1 : 1 ≤ t) (h2 : t ≤ 281474976710656) (hn : note < 18446744073709551616) : Slot pool (uberB pool t note) (some ⟨pool, t, note⟩) := ⟨rfl, rfl, h1, h2, hn⟩
theorem plc_cases {n j : Nat} (hj : j < 4) : j = 0 ∧ plc n j = 0 ∨ j = 1 ∧ plc n j = 9 ∨ j = 2 ∧ plc n j = n - 18 ∨ j = 3 ∧ plc n j = n - 9 := by
  match j, hj with
  | 0, _ => exact .inl ⟨rfl, rfl⟩
  | 1, _ => exact .inr (.inl ⟨rfl, rfl⟩)
  | 2, _ => exact .inr (.inr (.inl ⟨rfl, rfl⟩))
  | 3, _ => exact .inr (.inr (.inr ⟨rfl, rfl⟩))
theorem mem_marks {n t p : Nat} : p ∈ marks n t ↔ ∃ j, j < 4 ∧ p = plc n j + 1 + t % 8 := by
  unfold marks
  simp only [List.mem_cons, List.not_mem_nil, or_false]
  constructor
  · rintro (h | h | h | h)
    · exact ⟨0, by decide, h⟩
    · exact ⟨1, by decide, h⟩
    · exact ⟨2, by decide, h⟩
    · exact ⟨3, by decide, h⟩
  · rintro ⟨j, hj, h⟩
    match j, hj with
    | 0, _ => exact .inl h
    | 1, _ => exact .inr (.inl h)
    | 2, _ => exact .inr (.inr (.inl h))
    | 3, _ => exact .inr (.inr (.inr h))
theorem marks_ring {n t j i : Nat} (hn : 324 ≤ n) (hj : j < 4) (hi : i < 8) : plc n j + 1 + i ∈ marks n t ↔ i = t % 8 := by
  rw [mem_marks]
  constructor
  · rintro ⟨j', hj', h⟩
    have := Nat.mod_lt t (show 0 < 8 by decide)
    rcases plc_cases (n := n) hj with ⟨rfl, e⟩ | ⟨rfl, e⟩ | ⟨rfl, e⟩ | ⟨rfl, e⟩ <;> rcases plc_cases (n := n) hj' with ⟨rfl, e'⟩ | ⟨rfl, e'⟩ | ⟨rfl, e'⟩ | ⟨rfl, e'⟩ <;> omega
  · rintro rfl
    exact ⟨j, hj, rfl⟩
theorem marks_lt {n t p : Nat} (hn : 324 ≤ n) (h : p ∈ marks n t) : p < n := by
  obtain ⟨j, hj, rfl⟩ := mem_marks.1 h
  have := Nat.mod_lt t (show 0 < 8 by decide)
  have := plc_lt n j hn
  omega
/-- Neither the label's sectors, nor the log's, nor those of data are a ring's. -/
theorem marks_label {n t j : Nat} (hn : 324 ≤ n) (hj : j < 4) : plc n j ∉ marks n t := fun h => by
  obtain ⟨j', hj', h⟩ := mem_marks.1 h
  have := Nat.mod_lt t (show 0 < 8 by decide)
  rcases plc_cases (n := n) hj with ⟨rfl, e⟩ | ⟨rfl, e⟩ | ⟨rfl, e⟩ | ⟨rfl, e⟩ <;> rcases plc_cases (n := n) hj' with ⟨rfl, e'⟩ | ⟨rfl, e'⟩ | ⟨rfl, e'⟩ | ⟨rfl, e'⟩ <;> omega
theorem marks_mid {n t p : Nat} (hn : 324 ≤ n) (h1 : 18 ≤ p) (h2 : p < n - 18) : p ∉ marks n t := fun h => by
  obtain ⟨j', hj', h⟩ := mem_marks.1 h
  have := Nat.mod_lt t (show 0 < 8 by decide)
  rcases plc_cases (n := n) hj' with ⟨rfl, e'⟩ | ⟨rfl, e'⟩ | ⟨rfl, e'⟩ | ⟨rfl, e'⟩ <;> omega
theorem ring_lt {n j i : Nat} (hn : 324 ≤ n) (hi : i < 8) : plc n j + 1 + i < n := by have := plc_lt n j hn; omega
theorem ring_mid {n p j i : Nat} (hn : 324 ≤ n) (hj : j < 4) (hi : i < 8) (h1 : 18 ≤ p) (h2 : p < n - 18) : plc n j + 1 + i ≠ p := fun h => by
  rcases plc_cases (n := n) hj with ⟨rfl, e'⟩ | ⟨rfl, e'⟩ | ⟨rfl, e'⟩ | ⟨rfl, e'⟩ <;> omega
theorem fmt_label {n j : Nat} {lb : List UInt8} (hj : j < 4) : fmt n lb (plc n j) = lb := by
  unfold fmt
  rcases plc_cases (n := n) hj with ⟨rfl, e⟩ | ⟨rfl, e⟩ | ⟨rfl, e⟩ | ⟨rfl, e⟩ <;> rw [if_pos (by omega)]
theorem fmt_ring {n j i : Nat} {lb : List UInt8} (hn : 324 ≤ n) (hj : j < 4) (hi : i < 8) : fmt n lb (plc n j + 1 + i) = zeros 128 := by
  unfold fmt
  rcases plc_cases (n := n) hj with ⟨rfl, e⟩ | ⟨rfl, e⟩ | ⟨rfl, e⟩ | ⟨rfl, e⟩ <;> rw [if_neg (by omega)]
theorem fmt_mid {n p : Nat} {lb : List UInt8} (hn : 324 ≤ n) (h1 : 18 ≤ p) (h2 : p < n - 18) : fmt n lb p = zeros 128 := by
  unfold fmt
  rw [if_neg (by omega)]
theorem Rng.fmt {n pool : Nat} {lb : List UInt8} (hn : 324 ≤ n) : Rng n pool (fmt n lb) fun _ _ => none := fun j i hj hi => by
  rw [fmt_ring hn hj hi]
  exact slot_zero _
/-- An uberblock marked. -/
theorem Rng.mark {n pool t note : Nat} {f : Nat → List UInt8} {dec : Nat → Nat → Option UB} (h : Rng n pool f dec) (hn : 324 ≤ n) (h1 : 1 ≤ t) (h2 : t ≤ 281474976710656) (hno : note < 18446744073709551616) : Rng n pool (updL f (marks n t) (uberB pool t note)) fun j i => if i = t % 8 then some ⟨pool, t, note⟩ else dec j i := fun j i hj hi => by
  show Slot pool (updL f (marks n t) (uberB pool t note) (plc n j + 1 + i)) (if i = t % 8 then some ⟨pool, t, note⟩ else dec j i)
  unfold updL
  by_cases e : i = t % 8
  · rw [if_pos ((marks_ring hn hj hi).2 e), if_pos e]
    exact slot_uber h1 h2 hno
  · rw [if_neg (fun h => e ((marks_ring hn hj hi).1 h)), if_neg e]
    exact h j i hj hi
theorem Rng.fits {n pool : Nat} {f f' : Nat → List UInt8} {dec : Nat → Nat → Option UB} (h : Rng n pool f dec) (hf : ∀ j i, j < 4 → i < 8 → f' (plc n j + 1 + i) = f (plc n j + 1 + i)) : Rng n pool f' dec := fun j i hj hi => by rw [hf j i hj hi]; exact h j i hj hi
theorem Rng.dec {n pool : Nat} {s : Dsk} {f g : Nat → List UInt8} {dec : Nat → Nat → Option UB} (hs : Sh s n f g) (hn : 324 ≤ n) (h : Rng n pool f dec) : ∀ j i, j < 4 → i < 8 → Slot pool (secs s.now (plc s.n j + 1 + i) 1) (dec j i) := fun j i hj hi => by
  rw [hs.hn, hs.now _ (ring_lt hn hi)]
  exact h j i hj hi
/-- A sector of the log. -/
theorem sumAt_head (s : S4) (hs : s.ok) (xs : List UInt8) : sumAt (s.bytes ++ xs) 0 = s := by
  obtain ⟨h1, h2, h3, h4⟩ := hs
  obtain ⟨a, b, c, d⟩ := s
  simp only at h1 h2 h3 h4
  have e1 : ((S4.bytes ⟨a, b, c, d⟩ ++ xs).drop 0).take 8 = le 8 a := mid_eq _ [] _ (le 8 b ++ le 8 c ++ le 8 d ++ xs) (by simp [S4.bytes]) _ _ rfl (le_length _ _)
  have e2 : ((S4.bytes ⟨a, b, c, d⟩ ++ xs).drop (0 + 8)).take 8 = le 8 b := mid_eq _ (le 8 a) _ (le 8 c ++ le 8 d ++ xs) (by simp [S4.bytes]) _ _ (by simp [le_length]) (le_length _ _)
  have e3 : ((S4.bytes ⟨a, b, c, d⟩ ++ xs).drop (0 + 16)).take 8 = le 8 c := mid_eq _ (le 8 a ++ le 8 b) _ (le 8 d ++ xs) (by simp [S4.bytes]) _ _ (by simp [le_length]) (le_length _ _)
  have e4 : ((S4.bytes ⟨a, b, c, d⟩ ++ xs).drop (0 + 24)).take 8 = le 8 d := mid_eq _ (le 8 a ++ le 8 b ++ le 8 c) _ xs (by simp [S4.bytes]) _ _ (by simp [le_length]) (le_length _ _)
  unfold sumAt n8
  rw [e1, e2, e3, e4, leVal_le, leVal_le, leVal_le, leVal_le, Nat.mod_eq_of_lt h1, Nat.mod_eq_of_lt h2, Nat.mod_eq_of_lt h3, Nat.mod_eq_of_lt h4]
theorem logB_drop (no : Nat) (bs : List UInt8) : (logB no bs).drop 32 = logIn no bs := by
  unfold logB
  rw [List.drop_append_of_le_length (by rw [S4.bytes_len]; exact Nat.le_refl _), List.drop_of_length_le (by rw [S4.bytes_len]; exact Nat.le_refl _)]
  rfl
theorem logB_no (no : Nat) (bs : List UInt8) (h : no < 18446744073709551616) : n8 (logB no bs) 32 = no := by
  unfold n8
  rw [logB_drop, logIn, List.take_append_of_le_length (by rw [le_length]; exact Nat.le_refl _), List.take_of_length_le (by rw [le_length]; exact Nat.le_refl _), leVal_le]
  exact Nat.mod_eq_of_lt h
theorem logB_ok (no : Nat) (bs : List UInt8) (h1 : 1 ≤ no) (h2 : no ≤ 281474976710656) : LogOk (logB no bs) := by
  refine ⟨?_, ?_, ?_⟩
  · rw [logB_drop]
    exact sumAt_head _ (fl_ok _) _
  · rw [logB_no no bs (by omega)]; exact h1
  · rw [logB_no no bs (by omega)]; exact h2
theorem logB_in (no : Nat) (bs : List UInt8) (hb : bs.length = 88) : ((logB no bs).drop 40).take 88 = bs := by
  rw [show 40 = 32 + 8 from rfl, ← List.drop_drop, logB_drop, logIn, List.drop_append_of_le_length (by rw [le_length]; exact Nat.le_refl _), List.drop_of_length_le (by rw [le_length]; exact Nat.le_refl _)]
  exact List.take_of_length_le (by simp [hb])
theorem logB_128 (no : Nat) (bs : List UInt8) (hb : bs.length = 88) : (logB no bs).length = 128 := by rw [logB_len, hb]
theorem single {α : Type} {M : List α} {a : α} (hn : M.Nodup) (h : ∀ u, u ∈ M ↔ u = a) : M = [a] := by
  match M, hn, h with
  | [], _, h => exact absurd ((h a).2 rfl) List.not_mem_nil
  | [x], _, h => rw [(h x).1 (List.mem_cons_self ..)]
  | x :: y :: r, hn, h =>
    have hx := (h x).1 (List.mem_cons_self ..)
    have hy := (h y).1 (List.mem_cons_of_mem _ (List.mem_cons_self ..))
    rw [hx, hy] at hn
    exact absurd (List.mem_cons_self ..) (List.nodup_cons.1 hn).1
end Go.Proofs.YtipbjiepfnjojaaGreatDoor
namespace Go.Proofs.YtipbjiepfnjojaaGreatDoor
set_option maxRecDepth 100000
open Go.RowKit Go.Uc

/-- Where the pair lies. -/
structure Xb where
  xb : Nat
  lf : Nat
  K : Kb
  x : Lb
  tA : Option Addr
  tc : Nat
  q : Nat
  mf : Nat
/-- The pair in memory; the disk's state. -/
structure Px (w0 w : World) (X : Xb) (s : Dsk) (wv : Sl) : Prop where
  l : Lm w0 w X.lf X.K s wv X.x X.tA X.tc
  b : Blk w X.xb 40 #[.pointer (some ⟨X.K.p, 0, none⟩), .pointer (some ⟨X.K.d, 0, none⟩), .pointer (some ⟨X.lf, 0, none⟩), .pointer (some ⟨X.q, 0, none⟩), .pointer (some ⟨X.mf, 0, none⟩)]
  new : w0.heap.size ≤ X.xb
def Ph (w0 w : World) (X : Xb) (s : Dsk) : Prop := ∃ wv, Px w0 w X s wv
section
variable {w0 w w' : World} {X : Xb} {s s' : Dsk} {wv : Sl}
theorem Px.non (h : Px w0 w X s wv) (hk : Keeps Non w w') : Px w0 w' X s wv := ⟨h.l.non hk, h.b.non hk, h.new⟩
theorem Ph.non (h : Ph w0 w X s) (hk : Keeps Non w w') : Ph w0 w' X s := h.imp fun _ i => i.non hk
theorem Px.step {wv' : Sl} (h : Px w0 w X s wv) (hd : Dm w0 w' X.K s' wv') (hk : Keeps (Fr X.K wv) w w') : Ph w0 w' X s' :=
  ⟨wv', h.l.step hd hk, h.b.keep hk (h.l.dm.free h.b (by decide) (by decide) (by decide)), h.new⟩
theorem Px.did (h : Px w0 w X s wv) (hd : Did w0 w X.lf X.K wv X.x X.tA X.tc s' w') : Ph w0 w' X s' := by
  obtain ⟨wv', hl, hk, -⟩ := hd
  exact ⟨wv', hl, h.b.keep hk (h.l.dm.free h.b (by decide) (by decide) (by decide)), h.new⟩
theorem Ph.keeps (h : Ph w0 w X s) : Keeps Non w0 w := by
  obtain ⟨wv, h⟩ := h
  exact h.l.dm.keep
theorem Ph.ok (h : Ph w0 w X s) : s.ok := by
  obtain ⟨wv, h⟩ := h
  exact h.l.dm.ok
end
/-- What begun leaves. -/
theorem Begun.ph {w w' : World} {pool n xb : Nat} (h : Begun w pool n xb w') : ∃ X : Xb, X.xb = xb ∧ X.x = lb1 pool n ∧ Ph w w' X ((Dsk.fresh n).fst (labelB (lb1 pool n)) 7) := by
  obtain ⟨K, lf, wv, tA, tc, q, mf, hB, hx, hL, hK⟩ := h
  exact ⟨⟨xb, lf, K, lb1 pool n, tA, tc, q, mf⟩, rfl, rfl, wv, hL, hB, hx⟩
theorem lb1_len (pool n : Nat) : (labelB (lb1 pool n)).length = 128 := labelB_len _ (by show 1 ≤ 4; decide)
section
variable {w0 w : World} {X : Xb} {s : Dsk}
/-- Its calls, from the pair's side: the state that is left. -/
theorem Ph.mark (h : Ph w0 w X s) (ho : s.off = false) (hn : 324 ≤ s.n) (hW : s.waits.length ≤ 1000000000) (txg note : Nat) (hpx : X.x.pool < 18446744073709551616) (h1 : 1 ≤ txg) (h2 : txg ≤ 281474976710656) (hno : note < 18446744073709551616) :
    Calls Tryz.prog 8 #[.pointer (some ⟨X.lf, 0, none⟩), .agg #[.int .u64 (X.x.pool : Int), .int .u64 (txg : Int), .int .u64 (note : Int), .int .i64 0, .int .i64 0, .int .i64 0, .int .u64 0, .int .i64 0, .int .u64 0, .int .u64 0, .int .u64 0, .int .u64 0]] w fun e w' => e = .returned (.int .i64 (if (s.wrs (uberB X.x.pool txg note) (marks s.n txg)).2 then 0 else 5)) ∧ Ph w0 w' X (s.wrs (uberB X.x.pool txg note) (marks s.n txg)).1 := by
  obtain ⟨wv, h⟩ := h
  exact (mark8_any h.l ho hn hW txg note hpx h1 h2 hno).mono fun e w' ⟨h1, h2⟩ => ⟨h1, h.did h2⟩
theorem Ph.flush (h : Ph w0 w X s) (ho : s.off = false) (hW : s.waits.length ≤ 1099511627776) :
    Calls Tryz.prog 9 #[.pointer (some ⟨X.lf, 0, none⟩)] w fun e w' => e = .returned (.int .i64 0) ∧ Ph w0 w' X s.flush := by
  obtain ⟨wv, h⟩ := h
  exact (flush9_on h.l ho hW).mono fun e w' ⟨h1, h2⟩ => ⟨h1, h.did h2⟩
theorem Ph.cut (h : Ph w0 w X s) (a : Int) (h1 : -9223372036854775808 ≤ a) (h2 : a ≤ 9223372036854775807) :
    Calls Tryz.prog 10 #[.pointer (some ⟨X.K.p, 0, none⟩), .int .i64 a] w fun e w' => e = .returned (.tuple #[]) ∧ Ph w0 w' X { s with left := if a < 0 then -1 else a } := by
  obtain ⟨wv, h⟩ := h
  exact (cut10_any h.l.dm a h1 h2).mono fun e w' ⟨h1, h2, h3⟩ => ⟨h1, h.step h2 (h3.mono fun i e => .inl e)⟩
theorem Ph.up (h : Ph w0 w X s) (hW : s.waits.length ≤ 1099511627776) (st : List Bool) (sA : Option Addr) (sc : Nat) (hS : AtB w0 sA st) (hSl : ∀ ad, sA = some ad → ad.block < w0.heap.size) (hst : st.length ≤ 1099511627776000) :
    Calls Tryz.prog 11 #[.pointer (some ⟨X.K.p, 0, none⟩), .slice sA st.length sc] w fun e w' => e = .returned (.tuple #[]) ∧ Ph w0 w' X (s.up st) := by
  obtain ⟨wv, h⟩ := h
  exact (up11_any h.l.dm hW st sA sc (hS.keep h.l.dm.keep fun _ _ e => e) (fun ad e e' => by have := hSl ad e; have := h.l.dm.new.2.2.1; omega) hst).mono fun e w' ⟨h1, h2, h3⟩ => ⟨h1, h.step h2 h3⟩
theorem Ph.ubers (h : Ph w0 w X s) (ho : s.off = false) (hn : 324 ≤ s.n) (hpx : X.x.pool < 18446744073709551616) (dec : Nat → Nat → Option UB) (hdec : ∀ j i, j < 4 → i < 8 → Slot X.x.pool (secs s.now (plc s.n j + 1 + i) 1) (dec j i)) (B : List UB) (hB : B.length ≤ 19) (hdB : ∀ j i u, j < 4 → i < 8 → dec j i = some u → u ∈ B) :
    Calls Tryz.prog 12 #[.pointer (some ⟨X.lf, 0, none⟩)] w fun e w' => ∃ (mA : Option Addr) (mc : Nat) (M : List UB), e = .returned (.slice mA M.length mc) ∧ RowB w' (.slice mA M.length mc) M ∧ M.Nodup ∧ Ord M.length M ∧ (∀ u, u ∈ M ↔ ∃ j i, j < 4 ∧ i < 8 ∧ dec j i = some u) ∧ M.length ≤ 19 ∧ (∀ q ∈ own (.slice mA M.length mc), w.heap.size ≤ q) ∧ Keeps Non w w' := by
  obtain ⟨wv, h⟩ := h
  exact ubers12_any h.l ho hn hpx dec hdec B hB hdB
theorem Ph.logRead (h : Ph w0 w X s) (ho : s.off = false) (hn : 324 ≤ s.n) (at_ : Nat) (ha : at_ < 256) (c : List UInt8) (hc : secs s.now (18 + at_) 1 = c) :
    Calls Tryz.prog 15 #[.pointer (some ⟨X.lf, 0, none⟩), .int .i64 (at_ : Int)] w fun e w' => ((LogOk c ∧ ∃ b, e = .returned (.tuple #[.int .u64 (n8 c 32 : Int), .slice (some ⟨b, 0, none⟩) 88 88, .bool true]) ∧ Blk w' b 5 (pc ((c.drop 40).take 88)) ∧ w.heap.size ≤ b) ∨ (¬ LogOk c ∧ e = .returned (.tuple #[.int .u64 0, .slice none 0 0, .bool false]))) ∧ Keeps Non w w' := by
  obtain ⟨wv, h⟩ := h
  exact logRead15_any h.l ho hn at_ ha c hc
theorem Ph.open_ (h : Ph w0 w X s) (ho : s.off = false) (hn : 324 ≤ s.n) (hx : X.x.ok) (hs : ∀ hh : X.x.top < X.x.ts.length, (X.x.ts[X.x.top]).s = s.n) (j0 : Nat) (hj0 : j0 < 4) (hl0 : secs s.now (plc s.n j0) 1 = labelB X.x) (hlt0 : ∀ j, j < j0 → ¬ Opens [85, 67, 76, 66] (secs s.now (plc s.n j) 1)) :
    Calls Tryz.prog 17 #[.pointer (some ⟨X.K.d, 0, none⟩)] w fun e w' => ∃ lf tA tc wv, e = .returned (.tuple #[.pointer (some ⟨lf, 0, none⟩), .int .i64 0]) ∧ Lm w0 w' lf X.K s wv X.x tA tc ∧ Keeps Non w w' := by
  obtain ⟨wv, h⟩ := h
  exact (open17_any h.l.dm ho hn X.x hx hs j0 hj0 hl0 hlt0).mono fun e w' ⟨lf, tA, tc, h1, h2, _, _, h5⟩ => ⟨lf, tA, tc, wv, h1, h2, h5⟩
theorem Ph.logWrite (h : Ph w0 w X s) (ho : s.off = false) (hl1 : s.left = -1) (hn : 324 ≤ s.n) (hW : s.waits.length ≤ 1000000000) (at_ no : Nat) (ha : at_ < 256) (h1 : 1 ≤ no) (h2 : no ≤ 281474976710656) (bs : List UInt8) (hl : bs.length = 88) (A : Option Addr) (c : Nat) (hA : At w A bs) :
    Calls Tryz.prog 13 #[.pointer (some ⟨X.lf, 0, none⟩), .int .i64 (at_ : Int), .int .u64 (no : Int), .slice A 88 c] w fun e w' => e = .returned (.int .i64 0) ∧ Ph w0 w' X (s.wr (18 + at_) 1 (logB no bs)).1 := by
  obtain ⟨wv, h⟩ := h
  exact (logWrite13_on h.l ho hl1 hn hW at_ no ha h1 h2 bs hl A c hA).mono fun e w' ⟨h1, h2⟩ => ⟨h1, h.did h2⟩
/-- Data from bytes just made. -/
theorem Ph.writeNew (h : Ph w0 w X s) (ho : s.off = false) (hl1 : s.left = -1) (hn : 324 ≤ s.n) (at_ m : Nat) (bs : List UInt8) (hl : bs.length = 128 * m) (ha : at_ + m ≤ s.n - 292) (hW : s.waits.length + m ≤ 1073741824) :
    Calls Tryz.prog 14 #[.pointer (some ⟨X.lf, 0, none⟩), .int .i64 (at_ : Int), .slice (some ⟨w.heap.size, 0, none⟩) (128 * m) (128 * m)] (w.alloc (.cells (pc bs) 5)).drew fun e w' => e = .returned (.int .i64 0) ∧ Ph w0 w' X (s.wr (274 + at_) m bs).1 := by
  obtain ⟨wv, h⟩ := h
  have hk : Keeps Non w (w.alloc (.cells (pc bs) 5)).drew := ((Keeps.refl Non w).alloc _).drew
  have h' := h.non hk
  have hA : At (w.alloc (.cells (pc bs) 5)).drew (some ⟨w.heap.size, 0, none⟩) bs := At.blk (Blk.new w 5 (pc bs)).drew
  refine (write14_any h'.l ho hn at_ m bs _ (128 * m) hA hl (by omega) ha (fun ad e => ?_) hW).mono fun e w' ⟨h1, h2⟩ => ⟨?_, h'.did h2⟩
  · injection e with e
    subst e
    exact ⟨by show w.heap.size < (w.alloc _).heap.size; simp, (h.l.dm.old (Nat.le_refl _)).1⟩
  · rw [h1, (Dsk.wr_on m s (274 + at_) bs hl1).1]
    rfl
/-- Data from the arguments. -/
theorem Ph.writeArg (h : Ph w0 w X s) (ho : s.off = false) (hl1 : s.left = -1) (hn : 324 ≤ s.n) (at_ m : Nat) (bs : List UInt8) (A : Option Addr) (c : Nat) (hA : At w0 A bs) (hAl : ∀ ad, A = some ad → ad.block < w0.heap.size) (hl : bs.length = 128 * m) (hc : bs.length ≤ c) (ha : at_ + m ≤ s.n - 292) (hW : s.waits.length + m ≤ 1073741824) :
    Calls Tryz.prog 14 #[.pointer (some ⟨X.lf, 0, none⟩), .int .i64 (at_ : Int), .slice A (128 * m) c] w fun e w' => e = .returned (.int .i64 0) ∧ Ph w0 w' X (s.wr (274 + at_) m bs).1 := by
  obtain ⟨wv, h⟩ := h
  refine (write14_any h.l ho hn at_ m bs A c (hA.non h.l.dm.keep) hl hc ha (fun ad e => ⟨Nat.lt_of_lt_of_le (hAl ad e) h.l.dm.keep.size, h.l.dm.low (hAl ad e)⟩) hW).mono fun e w' ⟨h1, h2⟩ => ⟨?_, h.did h2⟩
  rw [h1, (Dsk.wr_on m s (274 + at_) bs hl1).1]
  rfl
theorem Ph.size (h : Ph w0 w X s) (hn : 324 ≤ s.n) : Calls Tryz.prog 21 #[.pointer (some ⟨X.lf, 0, none⟩)] w fun e w' => e = .returned (.int .i64 ((s.n - 292 : Nat) : Int)) ∧ w' = w := by
  obtain ⟨wv, h⟩ := h
  exact size21_any h.l hn
theorem Ph.cells (h : Ph w0 w X s) : w.cell? ⟨X.xb, 0, none⟩ = some (.pointer (some ⟨X.K.p, 0, none⟩)) ∧ w.cell? ⟨X.xb, 1, none⟩ = some (.pointer (some ⟨X.K.d, 0, none⟩)) ∧ w.cell? ⟨X.xb, 2, none⟩ = some (.pointer (some ⟨X.lf, 0, none⟩)) := by
  obtain ⟨wv, h⟩ := h
  exact ⟨h.b.cell 0, h.b.cell 1, h.b.cell 2⟩
end
end Go.Proofs.YtipbjiepfnjojaaGreatDoor
