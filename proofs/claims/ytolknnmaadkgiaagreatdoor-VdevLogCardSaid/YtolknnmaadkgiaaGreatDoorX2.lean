/- The disk sector by sector. -/
import Derived.Test.YtolknnmaadkgiaaGreatDoorG11
import Derived.Test.YtolknnmaadkgiaaGreatDoorG13
set_option linter.unusedVariables false
set_option linter.unusedSimpArgs false
namespace Go.Proofs.YtolknnmaadkgiaaGreatDoor
set_option maxRecDepth 100000
open Go.RowKit Go.Uc
theorem put_get {L : List UInt8} {n at_ : Nat} {b : List UInt8} (hl : L.length = 128 * n) (hb : b.length = 128) (ha : at_ < n) (k : Nat) : (put L at_ b)[k]? = if k < 128 * at_ then L[k]? else if k < 128 * at_ + 128 then b[k - 128 * at_]? else L[k]? := by
 unfold put
 have h1 : (L.take (128 * at_)).length = 128 * at_ := by rw [List.length_take]; omega
 by_cases h : k < 128 * at_
 · rw [if_pos h, List.getElem?_append_left (by omega), List.getElem?_take, if_pos h]
 · rw [if_neg h, List.getElem?_append_right (by omega), h1]
   by_cases h2 : k < 128 * at_ + 128
   · rw [if_pos h2, List.getElem?_append_left (by omega)]
   · rw [if_neg h2, List.getElem?_append_right (by omega), hb, List.getElem?_drop]
     congr 1
     omega
theorem secs_get (L : List UInt8) (p i : Nat) : (secs L p 1)[i]? = if i < 128 then L[128 * p + i]? else none := by
 unfold secs
 rw [List.getElem?_take, List.getElem?_drop]
theorem secs_put {L : List UInt8} {n at_ : Nat} {b : List UInt8} (hl : L.length = 128 * n) (hb : b.length = 128) (ha : at_ < n) (p : Nat) : secs (put L at_ b) p 1 = if p = at_ then b else secs L p 1 := by
 apply List.ext_getElem?
 intro i
 rw [secs_get, put_get hl hb ha]
 by_cases hi : i < 128
 · rw [if_pos hi]
   by_cases hp : p = at_
   · subst hp
     rw [if_pos rfl, if_neg (by omega), if_pos (by omega)]
     congr 1
     omega
   · rw [if_neg hp, secs_get, if_pos hi]
     by_cases h1 : 128 * p + i < 128 * at_
     · rw [if_pos h1]
     · rw [if_neg h1, if_neg (by omega)]
 · rw [if_neg hi]
   by_cases hp : p = at_
   · subst hp
     rw [if_pos rfl, List.getElem?_eq_none (by omega)]
   · rw [if_neg hp, secs_get, if_neg hi]
theorem secs_zeros (n p : Nat) (hp : p < n) : secs (zeros (128 * n)) p 1 = zeros 128 := by
 unfold secs zeros
 rw [List.drop_replicate, List.take_replicate]
 congr 1
 omega
structure Sh (s : Dsk) (n : Nat) (f g : Nat → List UInt8) : Prop where
 ok : s.ok
 hn : s.n = n
 now : ∀ p, p < n → secs s.now p 1 = f p
 plat : ∀ p, p < n → secs s.plat p 1 = g p
theorem Sh.fits {s : Dsk} {n : Nat} {f g f' g' : Nat → List UInt8} (h : Sh s n f g) (hf : ∀ p, p < n → f p = f' p) (hg : ∀ p, p < n → g p = g' p) : Sh s n f' g' :=
 ⟨h.ok, h.hn, fun p hp => (h.now p hp).trans (hf p hp), fun p hp => (h.plat p hp).trans (hg p hp)⟩
def upd (f : Nat → List UInt8) (a : Nat) (b : List UInt8) (p : Nat) : List UInt8 := if p = a then b else f p
theorem Sh.one {s : Dsk} {n : Nat} {f g : Nat → List UInt8} (h : Sh s n f g) (x : Wt) (hx : x.at_ < n) : Sh (s.one x) n (upd f x.at_ x.b) g := by
 refine ⟨Dsk.one_ok h.ok x (by rw [h.hn]; exact hx), h.hn, fun p hp => ?_, h.plat⟩
 show secs (put s.now x.at_ x.b) p 1 = _
 rw [secs_put (by rw [h.ok.nw, h.hn]) x.hb hx]
 unfold upd
 split
 · rfl
 · exact h.now p hp
theorem Sh.wr1 {s : Dsk} {n : Nat} {f g : Nat → List UInt8} (h : Sh s n f g) (hl : s.left = -1) (a : Nat) (b : List UInt8) (hb : b.length = 128) (ha : a < n) : Sh (s.wr a 1 b).1 n (upd f a b) g ∧ (s.wr a 1 b).1.left = -1 ∧ (s.wr a 1 b).1.off = s.off ∧ (s.wr a 1 b).1.waits = s.waits ++ [⟨s.d, a, b, hb⟩] ∧ (s.wr a 1 b).2 = true := by
 have e1 : sec0 b = b := by rw [sec0_eq (by omega), List.take_of_length_le (by omega)]
 have e : s.wr a 1 b = (s.one ⟨s.d, a, b, hb⟩, true) := by
   rw [Dsk.wr, if_neg (by omega), Dsk.wr]
   have : (⟨s.d, a, sec0 b, sec0_len b⟩ : Wt) = ⟨s.d, a, b, hb⟩ := by simp only [e1]
   rw [this]
 rw [e]
 refine ⟨h.one ⟨s.d, a, b, hb⟩ ha, ?_, rfl, rfl, rfl⟩
 show (if 0 < s.left then s.left - 1 else s.left) = -1
 rw [if_neg (by omega)]
 exact hl
def updN (f : Nat → List UInt8) (a m : Nat) (bs : List UInt8) (p : Nat) : List UInt8 := if a ≤ p ∧ p < a + m then (bs.drop (128 * (p - a))).take 128 else f p
theorem Sh.wrN {n : Nat} {g : Nat → List UInt8} : ∀ (m : Nat) {s : Dsk} {f : Nat → List UInt8}, Sh s n f g → s.left = -1 → ∀ (a : Nat) (bs : List UInt8), bs.length = 128 * m → a + m ≤ n → Sh (s.wr a m bs).1 n (updN f a m bs) g
 | 0, s, f, h, _, a, bs, _, _ => h.fits (fun p _ => by unfold updN; rw [if_neg (by omega)]) fun _ _ => rfl
 | m + 1, s, f, h, hl, a, bs, hb, ha => by
   rw [Dsk.wr, if_neg (by omega)]
   have h1 := h.one ⟨s.d, a, sec0 bs, sec0_len bs⟩ (by show a < n; omega)
   have hl1 : (s.one ⟨s.d, a, sec0 bs, sec0_len bs⟩).left = -1 := by simp [Dsk.one, hl]
   refine (Sh.wrN m h1 hl1 (a + 1) (bs.drop 128) (by rw [List.length_drop]; omega) (by omega)).fits (fun p hp => ?_) fun _ _ => rfl
   show updN (upd f a (sec0 bs)) (a + 1) m (bs.drop 128) p = _
   rw [sec0_eq (by omega)]
   unfold updN upd
   by_cases hpa : p = a
   · subst hpa
     rw [if_neg (by omega), if_pos rfl, if_pos (by omega), Nat.sub_self, Nat.mul_zero, List.drop_zero]
   · by_cases hin : a + 1 ≤ p ∧ p < a + 1 + m
     · rw [if_pos hin, if_pos (by omega), List.drop_drop]
       congr 2
       omega
     · rw [if_neg hin, if_neg hpa, if_neg (by omega)]
theorem Sh.flush {s : Dsk} {n : Nat} {f g : Nat → List UInt8} (h : Sh s n f g) : Sh s.flush n f f := ⟨Dsk.flush_ok h.ok, h.hn, h.now, h.now⟩
theorem Sh.wrs : ∀ (ps : List Nat) {s : Dsk} {n : Nat} {f g : Nat → List UInt8}, Sh s n f g → ∀ (b : List UInt8), b.length = 128 → (∀ p ∈ ps, p < n) → ∃ f', Sh (s.wrs b ps).1 n f' g ∧ ∃ W : List Wt, (s.wrs b ps).1.waits = s.waits ++ W ∧ W.length ≤ ps.length ∧ ∀ x ∈ W, x.d = s.d ∧ x.at_ ∈ ps ∧ x.b = b
 | [], s, n, f, g, h, b, hb, hp => ⟨f, h, [], by rw [List.append_nil]; rfl, Nat.le_refl _, fun x hx => (List.not_mem_nil hx).elim⟩
 | p :: ps, s, n, f, g, h, b, hb, hp => by
   have hpn := hp p (List.mem_cons_self ..)
   rw [Dsk.wrs]
   have e1 : sec0 b = b := by rw [sec0_eq (by omega), List.take_of_length_le (by omega)]
   by_cases hl : s.left = 0
   · have e : s.wr p 1 b = (s.out, false) := by rw [Dsk.wr, if_pos hl]
     rw [e, if_neg Bool.false_ne_true]
     exact ⟨f, ⟨Dsk.out_ok h.ok, h.hn, h.now, h.plat⟩, [], by rw [List.append_nil]; rfl, Nat.zero_le _, fun x hx => (List.not_mem_nil hx).elim⟩
   · have e : s.wr p 1 b = (s.one ⟨s.d, p, b, hb⟩, true) := by
       rw [Dsk.wr, if_neg hl, Dsk.wr]
       have : (⟨s.d, p, sec0 b, sec0_len b⟩ : Wt) = ⟨s.d, p, b, hb⟩ := by simp only [e1]
       rw [this]
     rw [e, if_pos rfl]
     obtain ⟨f', h', W, hW, hWl, hWm⟩ := Sh.wrs ps (h.one ⟨s.d, p, b, hb⟩ hpn) b hb fun q hq => hp q (List.mem_cons_of_mem _ hq)
     refine ⟨f', h', ⟨s.d, p, b, hb⟩ :: W, ?_, by simp; omega, fun x hx => ?_⟩
     · rw [hW]
       show (s.waits ++ [_]) ++ W = _
       rw [List.append_assoc]; rfl
     · rcases List.mem_cons.1 hx with rfl | hx
       · exact ⟨rfl, List.mem_cons_self .., rfl⟩
       · exact ⟨(hWm x hx).1, List.mem_cons_of_mem _ (hWm x hx).2.1, (hWm x hx).2.2⟩
def updL (f : Nat → List UInt8) (ps : List Nat) (b : List UInt8) (p : Nat) : List UInt8 := if p ∈ ps then b else f p
theorem Sh.wrs_on : ∀ (ps : List Nat) {s : Dsk} {n : Nat} {f g : Nat → List UInt8}, Sh s n f g → s.left = -1 → ∀ (b : List UInt8), b.length = 128 → (∀ p ∈ ps, p < n) → Sh (s.wrs b ps).1 n (updL f ps b) g ∧ (s.wrs b ps).1.left = -1 ∧ (s.wrs b ps).1.off = s.off ∧ (s.wrs b ps).2 = true ∧ (s.wrs b ps).1.waits.length = s.waits.length + ps.length
 | [], s, n, f, g, h, hl, b, hb, hp => ⟨h.fits (fun p _ => (if_neg List.not_mem_nil).symm) fun _ _ => rfl, hl, rfl, rfl, rfl⟩
 | p :: ps, s, n, f, g, h, hl, b, hb, hp => by
   have hpn := hp p (List.mem_cons_self ..)
   obtain ⟨h1, h2, h3, h4, h5⟩ := h.wr1 hl p b hb hpn
   rw [Dsk.wrs, h5, if_pos rfl]
   obtain ⟨i1, i2, i3, i4, i5⟩ := Sh.wrs_on ps h1 h2 b hb fun q hq => hp q (List.mem_cons_of_mem _ hq)
   refine ⟨i1.fits (fun q _ => ?_) fun _ _ => rfl, i2, i3.trans h3, i4, by rw [i5, h4]; simp; omega⟩
   unfold updL upd
   by_cases hq : q ∈ ps
   · rw [if_pos hq, if_pos (List.mem_cons_of_mem _ hq)]
   · rw [if_neg hq]
     by_cases e : q = p
     · rw [if_pos e, if_pos (by rw [e]; exact List.mem_cons_self ..)]
     · rw [if_neg e, if_neg (fun h => (List.mem_cons.1 h).elim e hq)]
theorem ups_sec {n : Nat} (d p : Nat) : ∀ (r : List Wt) (st : List Bool) (P : List UInt8), P.length = 128 * n → (∀ x ∈ r, x.d = d → x.at_ < n) → secs (ups d r st P) p 1 = secs P p 1 ∨ ∃ x ∈ r, x.d = d ∧ x.at_ = p ∧ secs (ups d r st P) p 1 = x.b
 | [], st, P, _, _ => by rw [ups_nil]; exact .inl rfl
 | x :: r, [], P, _, _ => by rw [ups_no]; exact .inl rfl
 | x :: r, b :: st, P, hP, hx => by
   rw [ups]
   have hxn := hx x (List.mem_cons_self ..)
   have hP' : (if b = true ∧ x.d = d then put P x.at_ x.b else P).length = 128 * n := by
     split
     · rename_i h; exact put_len hP x.hb (hxn h.2)
     · exact hP
   rcases ups_sec d p r st _ hP' fun y hy => hx y (List.mem_cons_of_mem _ hy) with h | ⟨y, hy, h0, h1, h2⟩
   · rw [h]
     by_cases c : b = true ∧ x.d = d
     · rw [if_pos c, secs_put hP x.hb (hxn c.2)]
       by_cases e : p = x.at_
       · right
         exact ⟨x, List.mem_cons_self .., c.2, e.symm, by rw [if_pos e]⟩
       · left; rw [if_neg e]
     · rw [if_neg c]; exact .inl rfl
   · exact .inr ⟨y, List.mem_cons_of_mem _ hy, h0, h1, h2⟩
theorem Dsk.up_ok {s : Dsk} (h : s.ok) (st : List Bool) (hw : ∀ x ∈ s.waits, x.d = s.d → x.at_ < s.n) : (s.up st).ok := by
 have := ups_len s.waits st s.plat h.pl hw
 exact ⟨h.n1, h.n2, this, this, by simp [Dsk.up], by simp [Dsk.up]⟩
theorem Sh.up {s : Dsk} {n : Nat} {f g : Nat → List UInt8} (h : Sh s n f g) (st : List Bool) (hw : ∀ x ∈ s.waits, x.d = s.d → x.at_ < s.n) : ∃ f', Sh (s.up st) n f' f' ∧ ∀ p, p < n → f' p = g p ∨ ∃ x ∈ s.waits, x.d = s.d ∧ x.at_ = p ∧ f' p = x.b := by
 refine ⟨fun p => secs (ups s.d s.waits st s.plat) p 1, ⟨Dsk.up_ok h.ok st hw, h.hn, fun _ _ => rfl, fun _ _ => rfl⟩, fun p hp => ?_⟩
 rcases ups_sec (n := s.n) s.d p s.waits st s.plat h.ok.pl hw with e | e
 · exact .inl (e.trans (h.plat p hp))
 · exact .inr e
def fmt (n : Nat) (lb : List UInt8) (p : Nat) : List UInt8 := if p = 0 ∨ p = 9 ∨ p = n - 18 ∨ p = n - 9 then lb else zeros 128
theorem zeros_sec (m p : Nat) (hp : p < m) : ((zeros (128 * m)).drop (128 * p)).take 128 = zeros 128 := by
 unfold zeros
 rw [List.drop_replicate, List.take_replicate]
 congr 1
 omega
theorem len274 : (zeros 35072).length = 128 * 274 := zeros_length _
theorem len18 : (zeros 2304).length = 128 * 18 := zeros_length _
theorem sec274 (p : Nat) (hp : p < 274) : ((zeros 35072).drop (128 * p)).take 128 = zeros 128 := zeros_sec 274 p hp
theorem sec18 (p : Nat) (hp : p < 18) : ((zeros 2304).drop (128 * p)).take 128 = zeros 128 := zeros_sec 18 p hp
def fmtG (n : Nat) (lb : List UInt8) (f : Nat → List UInt8) (q : Nat) : List UInt8 := if q = 0 ∨ q = 9 ∨ q = n - 18 ∨ q = n - 9 then lb else if 274 ≤ q ∧ q < n - 18 then f q else zeros 128
theorem fmtG_zero (n : Nat) (lb : List UInt8) (f : Nat → List UInt8) (hf : ∀ q, q < n → f q = zeros 128) : ∀ q, q < n → fmtG n lb f q = fmt n lb q := fun q hq => by
 unfold fmtG fmt
 split
 · rfl
 · split
   · exact hf q hq
   · rfl
theorem fst_of (s : Dsk) (n : Nat) (f g : Nat → List UInt8) (lb : List UInt8) (Z Y : List UInt8) (hZ : Z.length = 128 * 274) (hY : Y.length = 128 * 18) (hZs : ∀ p, p < 274 → (Z.drop (128 * p)).take 128 = zeros 128) (hYs : ∀ p, p < 18 → (Y.drop (128 * p)).take 128 = zeros 128)
   (h1 : 324 ≤ n) (hl : lb.length = 128) (g0 : Sh s n f g) (s1 s2 s3 s4 s5 s6 : Dsk)
   (f1 : s1 = (s.wr 0 274 Z).1) (f2 : s2 = (s1.wr (n - 18) 18 Y).1) (f3 : s3 = (s2.wr 0 1 lb).1) (f4 : s4 = (s3.wr 9 1 lb).1) (f5 : s5 = (s4.wr (n - 18) 1 lb).1) (f6 : s6 = (s5.wr (n - 9) 1 lb).1)
   (o0 : s.left = -1) (o1 : s1.left = -1) (o2 : s2.left = -1) (o3 : s3.left = -1) (o4 : s4.left = -1) (o5 : s5.left = -1) : Sh s6 n (fmtG n lb f) g := by
 have g1 := g0.wrN 274 o0 0 Z hZ (by omega)
 rw [← f1] at g1
 have g2 := g1.wrN 18 o1 (n - 18) Y hY (by omega)
 rw [← f2] at g2
 have e2 : Sh s2 n (fun q => if 274 ≤ q ∧ q < n - 18 then f q else zeros 128) g := g2.fits (fun p hp => by
   unfold updN
   by_cases c : n - 18 ≤ p ∧ p < n - 18 + 18
   · rw [if_pos c, if_neg (by omega)]
     exact hYs _ (by omega)
   · rw [if_neg c]
     by_cases d : 0 ≤ p ∧ p < 0 + 274
     · rw [if_pos d, if_neg (by omega)]
       exact hZs _ (by omega)
     · rw [if_neg d, if_pos (by omega)]) fun _ _ => rfl
 have g3 := (e2.wr1 o2 0 lb hl (by omega)).1
 rw [← f3] at g3
 have g4 := (g3.wr1 o3 9 lb hl (by omega)).1
 rw [← f4] at g4
 have g5 := (g4.wr1 o4 (n - 18) lb hl (by omega)).1
 rw [← f5] at g5
 have g6 := (g5.wr1 o5 (n - 9) lb hl (by omega)).1
 rw [← f6] at g6
 exact g6.fits (f' := fmtG n lb f) (fun p hp => by
   unfold fmtG upd
   by_cases a : p = n - 9
   · rw [if_pos a, if_pos (by omega)]
   · rw [if_neg a]
     by_cases b : p = n - 18
     · rw [if_pos b, if_pos (by omega)]
     · rw [if_neg b]
       by_cases c : p = 9
       · rw [if_pos c, if_pos (by omega)]
       · rw [if_neg c]
         by_cases d : p = 0
         · rw [if_pos d, if_pos (by omega)]
         · rw [if_neg d, if_neg (by omega)]) (fun _ _ => rfl)
theorem Dsk.wr_own : ∀ (m : Nat) (s : Dsk) (a : Nat) (bs : List UInt8), ∃ W, (s.wr a m bs).1.waits = s.waits ++ W ∧ (s.wr a m bs).1.d = s.d ∧ ∀ x ∈ W, x.d = s.d ∧ a ≤ x.at_ ∧ x.at_ < a + m
 | 0, s, a, bs => ⟨[], by rw [List.append_nil]; rfl, rfl, fun x hx => (List.not_mem_nil hx).elim⟩
 | m + 1, s, a, bs => by
   rw [Dsk.wr]
   by_cases h : s.left = 0
   · rw [if_pos h]
     exact ⟨[], by rw [List.append_nil]; rfl, rfl, fun x hx => (List.not_mem_nil hx).elim⟩
   · rw [if_neg h]
     obtain ⟨W, hW, hd, hm⟩ := Dsk.wr_own m (s.one ⟨s.d, a, sec0 bs, sec0_len bs⟩) (a + 1) (bs.drop 128)
     refine ⟨⟨s.d, a, sec0 bs, sec0_len bs⟩ :: W, ?_, hd, fun x hx => ?_⟩
     · rw [hW]
       show (s.waits ++ [_]) ++ W = _
       rw [List.append_assoc]; rfl
     · rcases List.mem_cons.1 hx with rfl | hx
       · exact ⟨rfl, Nat.le_refl _, by show a < a + (m + 1); omega⟩
       · obtain ⟨h1, h2, h3⟩ := hm x hx
         exact ⟨h1, by omega, by omega⟩
theorem kept_app (d : Nat) (L W : List Wt) (h : ∀ x ∈ W, x.d = d) : kept d (L ++ W) = kept d L := by
 unfold kept
 rw [List.filter_append, (List.filter_eq_nil_iff (l := W)).2 (fun x hx => by simp [h x hx]), List.append_nil]
theorem flush_end {s t : Dsk} {n k : Nat} {f g : Nat → List UInt8} (h : Sh t n f g) (o : s.on t k) : Sh t.flush n f f ∧ t.flush.left = -1 ∧ t.flush.off = false ∧ t.flush.waits = kept t.d t.waits := ⟨h.flush, o.1, o.2.2.1, rfl⟩
theorem fst_sh (s : Dsk) (n : Nat) (lb : List UInt8) (h1 : 324 ≤ n) (h2 : n ≤ 8192) (hl : lb.length = 128) (f g : Nat → List UInt8) (g0 : Sh s n f g) (hd1 : s.left = -1) (hd2 : s.off = false) : Sh (s.fst lb 7) n (fmtG n lb f) (fmtG n lb f) ∧ (s.fst lb 7).left = -1 ∧ (s.fst lb 7).off = false ∧ (s.fst lb 7).waits = kept s.d s.waits ∧ (s.fst lb 7).d = s.d ∧ (s.fst lb 7).n = n := by
 have hn : s.n = n := g0.hn
 obtain ⟨o0, o1, o2, o3, o4, o5, o6⟩ := Dsk.fst_on s lb hd1 hd2
 have f0 : s.fst lb 0 = s := rfl
 have f1 := fst1 s lb
 have f2 := fst2 s lb
 have f3 := fst3 s lb
 have f4 := fst4 s lb
 have f5 := fst5 s lb
 have f6 := fst6 s lb
 rw [hn] at f2 f5 f6
 rw [f0] at f1 o0
 rw [fst7]
 have e6 : Sh (s.fst lb 6) n (fmtG n lb f) g := fst_of s n f g lb (zeros 35072) (zeros 2304) len274 len18 sec274 sec18 h1 hl g0 (s.fst lb 1) (s.fst lb 2) (s.fst lb 3) (s.fst lb 4) (s.fst lb 5) (s.fst lb 6) f1 f2 f3 f4 f5 f6 o0.1 o1.1 o2.1 o3.1 o4.1 o5.1
 obtain ⟨i1, i2, i3, i4⟩ := flush_end e6 o6
 have hw : ∀ {t : Dsk} {a m : Nat} {bs : List UInt8} {u : Dsk}, u = (t.wr a m bs).1 → t.d = s.d → kept s.d t.waits = kept s.d s.waits → u.d = s.d ∧ kept s.d u.waits = kept s.d s.waits := fun {t a m bs u} e ed ek => by
   obtain ⟨W, w1, w2, w3⟩ := Dsk.wr_own m t a bs
   rw [e, w1]
   exact ⟨w2.trans ed, by rw [kept_app _ _ _ fun x hx => ((w3 x hx).1).trans ed]; exact ek⟩
 have k1 := hw f1 rfl rfl
 have k2 := hw f2 k1.1 k1.2
 have k3 := hw f3 k2.1 k2.2
 have k4 := hw f4 k3.1 k3.2
 have k5 := hw f5 k4.1 k4.2
 have k6 := hw f6 k5.1 k5.2
 exact ⟨i1, i2, i3, by rw [i4, k6.1, k6.2], k6.1, i1.hn⟩
end Go.Proofs.YtolknnmaadkgiaaGreatDoor
