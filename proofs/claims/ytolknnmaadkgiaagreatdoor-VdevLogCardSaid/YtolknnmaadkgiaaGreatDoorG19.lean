/- What a leaf is asked, and what it is told, said of the disks as a whole. Disks as a whole: their sizes, Open, Format, the power on again. A mirror in memory; what it is asked that it answers by itself. What the leaves of a mirror lack. -/
import Derived.Test.YtolknnmaadkgiaaGreatDoorG18
set_option linter.unusedVariables false
set_option linter.unusedSimpArgs false
namespace Go.Proofs.YtolknnmaadkgiaaGreatDoor
set_option maxRecDepth 100000
open Go.RowKit Go.Uc
def cat (f : Nat → List UInt8) (a : Nat) : Nat → List UInt8
 | 0 => []
 | k + 1 => f a ++ cat f (a + 1) k
theorem secs_cat {s : Dsk} {n : Nat} {f g : Nat → List UInt8} (h : Sh s n f g) : ∀ (k a : Nat), a + k ≤ n → secs s.now a k = cat f a k
 | 0, a, _ => by simp [secs, cat]
 | k + 1, a, hk => by
   rw [cat, ← secs_cat h k (a + 1) (by omega), ← h.now a (by omega)]
   unfold secs
   rw [show 128 * (k + 1) = 128 * 1 + 128 * k by omega, List.take_add, List.drop_drop, show 128 * a + 128 * 1 = 128 * (a + 1) by omega]
theorem Sh.len {s : Dsk} {n : Nat} {f g : Nat → List UInt8} (h : Sh s n f g) {q : Nat} (hq : q < n) : (f q).length = 128 := by
 rw [← h.now q hq, secs_len h.ok.nw (by rw [h.hn]; omega)]
def Pow.on (P : Pow) : Prop := P.left = -1 ∧ P.off = false
def St.wr (T : St) (i : Nat) (f' : Nat → List UInt8) (W : List Wt) : St := ⟨fun j => if j = i then f' else T.f j, T.g, ⟨T.P.waits ++ W, T.P.left, T.P.off⟩⟩
def St.fl (T : St) (i d : Nat) : St := ⟨T.f, fun j => if j = i then T.f i else T.g j, ⟨kept d T.P.waits, T.P.left, T.P.off⟩⟩
section
variable {w0 w : World} {p m n : Nat} {dv : Sl} {K : Nat → Kb} {T : St} {lf i : Nat} {x : Lb} {tA : Option Addr} {tc : Nat}
theorem gs_size (h : Gs w0 w p dv m n K T) (hi : i < m) (hl : Lq w0 w lf (K i).d x tA tc) (hn : 324 ≤ n) : Calls Tryz.prog 135 #[.pointer (some ⟨lf, 0, none⟩)] w fun e w' => e = .returned (.int .i64 ((n - 292 : Nat) : Int)) ∧ w' = w := by
 obtain ⟨wv, s, hL, hS, -⟩ := h.lm hi hl
 have := size21_any hL (by rw [hS.hn]; exact hn)
 rw [hS.hn] at this
 exact this
theorem gs_read (h : Gs w0 w p dv m n K T) (hi : i < m) (hl : Lq w0 w lf (K i).d x tA tc) (hn : 324 ≤ n) (ho : T.P.off = false) (a k : Nat) (ha : a + k ≤ n - 292) :
   Calls Tryz.prog 75 #[.pointer (some ⟨lf, 0, none⟩), .int .i64 (a : Int), .int .i64 (k : Int)] w fun e w' => ∃ b, e = .returned (.tuple #[.slice (some ⟨b, 0, none⟩) (128 * k) (128 * k), .int .i64 0]) ∧ Blk w' b 5 (pc (cat (T.f i) (274 + a) k)) ∧ w.heap.size ≤ b ∧ Keeps Non w w' := by
 obtain ⟨wv, s, hL, hS, hP, -⟩ := h.lm hi hl
 have ho' : s.off = false := by rw [← hP] at ho; exact ho
 have := read16_any hL ho' (by rw [hS.hn]; exact hn) a k (by rw [hS.hn]; exact ha)
 rw [secs_cat hS k (274 + a) (by omega)] at this
 exact this
theorem wr_on {s : Dsk} {P : Pow} {f g : Nat → List UInt8} (hS : Sh s n f g) (hP : s.pow = P) (ho : P.on) (a k : Nat) (bs : List UInt8) (hb : bs.length = 128 * k) (ha : a + k ≤ n) :
   ∃ W, Sh (s.wr a k bs).1 n (updN f a k bs) g ∧ (s.wr a k bs).2 = true ∧ (s.wr a k bs).1.pow = ⟨P.waits ++ W, P.left, P.off⟩ ∧ W.length = k ∧ (∀ y ∈ W, y.d = s.d ∧ a ≤ y.at_ ∧ y.at_ < a + k) ∧ (∀ y ∈ (s.wr a k bs).1.waits, y ∈ s.waits ∨ (y.d = s.d ∧ y.at_ < n)) := by
 subst hP
 have hl : s.left = -1 := ho.1
 obtain ⟨W, hW, -, hm⟩ := Dsk.wr_own k s a bs
 obtain ⟨o1, o2, o3, o4, o5, o6⟩ := Dsk.wr_on k s a bs hl
 refine ⟨W, hS.wrN k hl a bs hb ha, o1, ?_, ?_, hm, fun y hy => ?_⟩
 · show (⟨_, _, _⟩ : Pow) = _
   rw [hW, o2, o4]
   show _ = (⟨s.waits ++ W, s.left, s.off⟩ : Pow)
   rw [hl]
 · rw [hW, List.length_append] at o6
   omega
 · rw [hW, List.mem_append] at hy
   rcases hy with hy | hy
   · exact .inl hy
   · obtain ⟨h1, h2, h3⟩ := hm y hy
     exact .inr ⟨h1, by omega⟩
def Said (W : List Wt) (f' : Nat → List UInt8) : Prop := ∀ y ∈ W, f' y.at_ = y.b
theorem Dsk.wr_said : ∀ (k : Nat) (s : Dsk) (a : Nat) (bs : List UInt8) (f : Nat → List UInt8), s.left = -1 → bs.length = 128 * k → ∀ W, (s.wr a k bs).1.waits = s.waits ++ W → Said W (updN f a k bs)
 | 0, s, a, bs, f, _, _, W, hW => by
   have : s.waits = s.waits ++ W := hW
   have hn : W = [] := by simpa using this
   rw [hn]
   intro y hy
   exact (List.not_mem_nil hy).elim
 | k + 1, s, a, bs, f, hl, hb, W, hW => by
   rw [Dsk.wr, if_neg (by omega)] at hW
   have hl1 : (s.one ⟨s.d, a, sec0 bs, sec0_len bs⟩).left = -1 := by simp [Dsk.one, hl]
   obtain ⟨W1, hW1, -, hm1⟩ := Dsk.wr_own k (s.one ⟨s.d, a, sec0 bs, sec0_len bs⟩) (a + 1) (bs.drop 128)
   have ih := Dsk.wr_said k (s.one ⟨s.d, a, sec0 bs, sec0_len bs⟩) (a + 1) (bs.drop 128) f hl1 (by rw [List.length_drop]; omega) W1 hW1
   have e : W = ⟨s.d, a, sec0 bs, sec0_len bs⟩ :: W1 := by
     rw [hW1] at hW
     have h2 : s.waits ++ (⟨s.d, a, sec0 bs, sec0_len bs⟩ :: W1) = s.waits ++ W := by
       rw [← hW]
       show s.waits ++ ([_] ++ W1) = (s.waits ++ [_]) ++ W1
       rw [List.append_assoc]
     exact (List.append_cancel_left h2).symm
   rw [e]
   intro y hy
   rcases List.mem_cons.1 hy with rfl | hy
   · show updN f a (k + 1) bs a = sec0 bs
     unfold updN
     rw [if_pos (by omega), Nat.sub_self, Nat.mul_zero, List.drop_zero, sec0_eq (by omega)]
   · rw [← ih y hy]
     obtain ⟨-, h2, h3⟩ := hm1 y hy
     unfold updN
     rw [if_pos (by omega), if_pos (by omega), List.drop_drop]
     congr 2
     omega
theorem gs_write (h : Gs w0 w p dv m n K T) (hi : i < m) (hl : Lq w0 w lf (K i).d x tA tc) (hn : 324 ≤ n) (ho : T.P.on) (hw : T.P.waits.length ≤ 1000000000) (a k : Nat) (ha : a + k ≤ n - 292) (bs : List UInt8) (A : Option Addr) (c : Nat) (hA : At w A bs) (hb : bs.length = 128 * k) (hk : k ≤ 100000) (hc : bs.length ≤ c) (hF : ∀ ad, A = some ad → ad.block < w.heap.size ∧ ¬ Fg w p m K ad.block) :
   Calls Tryz.prog 249 #[.pointer (some ⟨lf, 0, none⟩), .int .i64 (a : Int), .slice A (128 * k) c] w fun e w' => ∃ W, e = .returned (.int .i64 0) ∧ Gs w0 w' p dv m n K (T.wr i (updN (T.f i) (274 + a) k bs) W) ∧ W.length = k ∧ (∀ y ∈ W, y.d = (K i).d ∧ 274 + a ≤ y.at_ ∧ y.at_ < 274 + a + k) ∧ Said W (updN (T.f i) (274 + a) k bs) ∧ Keeps (Fg w p m K) w w' := by
 obtain ⟨wv, s, hL, hS, hP, hd, -, hT⟩ := h.lm hi hl
 have ho' : s.off = false := by have := ho.2; rw [← hP] at this; exact this
 have hl1 : s.left = -1 := by have := ho.1; rw [← hP] at this; exact this
 have hwl : s.waits.length ≤ 1000000000 := by rw [← hP] at hw; exact hw
 obtain ⟨W, g1, g2, g3, g4, g5, g6⟩ := wr_on hS hP ho (274 + a) k bs hb (by omega)
 refine (write14_any hL ho' (by rw [hS.hn]; exact hn) a k bs A c hA hb hc (by rw [hS.hn]; exact ha) (fun ad e => ⟨(hF ad e).1, fun q => (hF ad e).2 ?_⟩) (by omega)).mono ?_
 · rcases q with q | q | q | q
   · obtain ⟨wv', S, hG, -⟩ := h
     exact .inl (.inl (q.trans (hG.kp i hi).1))
   · exact .inl (.inr ⟨i, hi, .inl q⟩)
   · exact .inl (.inr ⟨i, hi, .inr q⟩)
   · right
     have := hL.dm.wt
     rcases this.form with ⟨e1, -⟩ | ⟨g', cap, cur, e1, hB, -⟩
     · rw [e1] at q; exact (List.not_mem_nil q).elim
     · rw [e1, own_slice, List.mem_singleton] at q
       exact ⟨_, q ▸ hB⟩
 · rintro e w' ⟨rfl, wv', h1, h2, h3⟩
   obtain ⟨j1, j2⟩ := hT w' _ wv' _ _ h1.dm h2 g1 g6
   have hsw : (s.wr (274 + a) k bs).1.waits = s.waits ++ W := by
     have := congrArg Pow.waits g3
     rw [← hP] at this
     exact this
   refine ⟨W, by rw [g2]; rfl, ?_, g4, fun y hy => ⟨(g5 y hy).1.trans hd, (g5 y hy).2⟩, Dsk.wr_said k s (274 + a) bs (T.f i) hl1 hb W hsw, j2⟩
   rw [g3] at j1
   refine j1.fits (fun _ _ _ _ => rfl) (fun j q _ _ => ?_) rfl
   show (if j = i then T.g i else T.g j) q = T.g j q
   split
   · rename_i e; rw [e]
   · rfl
theorem gs_flush (h : Gs w0 w p dv m n K T) (hi : i < m) (hl : Lq w0 w lf (K i).d x tA tc) (ho : T.P.on) (hw : T.P.waits.length ≤ 1000000000) :
   Calls Tryz.prog 248 #[.pointer (some ⟨lf, 0, none⟩)] w fun e w' => e = .returned (.int .i64 0) ∧ Gs w0 w' p dv m n K (T.fl i (K i).d) ∧ Keeps (Fg w p m K) w w' := by
 obtain ⟨wv, s, hL, hS, hP, hd, -, hT⟩ := h.lm hi hl
 have ho' : s.off = false := by have := ho.2; rw [← hP] at this; exact this
 have hwl : s.waits.length ≤ 1000000000 := by rw [← hP] at hw; exact hw
 refine (flush9_on hL ho' (by omega)).mono ?_
 rintro e w' ⟨rfl, wv', h1, h2, h3⟩
 obtain ⟨j1, j2⟩ := hT w' _ wv' _ _ h1.dm h2 hS.flush (fun y hy => .inl (kept_mem hy))
 refine ⟨rfl, j1.fits (fun j q _ _ => ?_) (fun _ _ _ _ => rfl) ?_, j2⟩
 · show (if j = i then T.f i else T.f j) q = T.f j q
   split
   · rename_i e; rw [e]
   · rfl
 · show (⟨kept s.d s.waits, s.left, s.off⟩ : Pow) = ⟨kept (K i).d T.P.waits, T.P.left, T.P.off⟩
   rw [← hP, hd]
   rfl
theorem gs_logRead (h : Gs w0 w p dv m n K T) (hi : i < m) (hl : Lq w0 w lf (K i).d x tA tc) (hn : 324 ≤ n) (ho : T.P.off = false) (a : Nat) (ha : a < 256) :
   Calls Tryz.prog 66 #[.pointer (some ⟨lf, 0, none⟩), .int .i64 (a : Int)] w fun e w' => ((LogOk (T.f i (18 + a)) ∧ ∃ b, e = .returned (.tuple #[.int .u64 (n8 (T.f i (18 + a)) 32 : Int), .slice (some ⟨b, 0, none⟩) 88 88, .bool true]) ∧ Blk w' b 5 (pc (((T.f i (18 + a)).drop 40).take 88)) ∧ w.heap.size ≤ b) ∨ (¬ LogOk (T.f i (18 + a)) ∧ e = .returned (.tuple #[.int .u64 0, .slice none 0 0, .bool false]))) ∧ Keeps Non w w' := by
 obtain ⟨wv, s, hL, hS, hP, -⟩ := h.lm hi hl
 have ho' : s.off = false := by rw [← hP] at ho; exact ho
 exact logRead15_any hL ho' (by rw [hS.hn]; exact hn) a ha _ (hS.now _ (by omega))
theorem gs_logWrite (h : Gs w0 w p dv m n K T) (hi : i < m) (hl : Lq w0 w lf (K i).d x tA tc) (hn : 324 ≤ n) (ho : T.P.on) (hw : T.P.waits.length ≤ 1000000000) (a no : Nat) (ha : a < 256) (h1 : 1 ≤ no) (h2 : no ≤ 281474976710656) (bs : List UInt8) (hb : bs.length = 88) (A : Option Addr) (c : Nat) (hA : At w A bs) :
   Calls Tryz.prog 36 #[.pointer (some ⟨lf, 0, none⟩), .int .i64 (a : Int), .int .u64 (no : Int), .slice A 88 c] w fun e w' => ∃ W, e = .returned (.int .i64 0) ∧ Gs w0 w' p dv m n K (T.wr i (upd (T.f i) (18 + a) (logB no bs)) W) ∧ W.length = 1 ∧ (∀ y ∈ W, y.d = (K i).d ∧ y.at_ = 18 + a ∧ y.b = logB no bs) ∧ Keeps (Fg w p m K) w w' := by
 obtain ⟨wv, s, hL, hS, hP, hd, -, hT⟩ := h.lm hi hl
 have ho' : s.off = false := by have := ho.2; rw [← hP] at this; exact this
 have hl1 : s.left = -1 := by have := ho.1; rw [← hP] at this; exact this
 have hwl : s.waits.length ≤ 1000000000 := by rw [← hP] at hw; exact hw
 have hX : (logB no bs).length = 128 := by rw [logB_len, hb]
 obtain ⟨g1, g2, g3, g4, g5⟩ := hS.wr1 hl1 (18 + a) (logB no bs) hX (by omega)
 refine (logWrite13_on hL ho' hl1 (by rw [hS.hn]; exact hn) hwl a no ha h1 h2 bs hb A c hA).mono ?_
 rintro e w' ⟨rfl, wv', i1, i2, i3⟩
 obtain ⟨j1, j2⟩ := hT w' _ wv' _ _ i1.dm i2 g1 (fun y hy => by
   rw [g4, List.mem_append, List.mem_singleton] at hy
   rcases hy with hy | rfl
   · exact .inl hy
   · exact .inr ⟨rfl, by show 18 + a < n; omega⟩)
 refine ⟨[⟨s.d, 18 + a, logB no bs, hX⟩], rfl, j1.fits (fun _ _ _ _ => rfl) (fun j q _ _ => ?_) ?_, rfl, fun y hy => ?_, j2⟩
 · show (if j = i then T.g i else T.g j) q = T.g j q
   split
   · rename_i e; rw [e]
   · rfl
 · show (⟨_, _, _⟩ : Pow) = (⟨T.P.waits ++ _, T.P.left, T.P.off⟩ : Pow)
   rw [g4, g2, g3, ← hP]
   show (⟨_, _, _⟩ : Pow) = (⟨s.waits ++ _, s.left, s.off⟩ : Pow)
   rw [hl1]
 · rw [List.mem_singleton] at hy
   subst hy
   exact ⟨hd, rfl, rfl⟩
theorem gs_mark (h : Gs w0 w p dv m n K T) (hi : i < m) (hl : Lq w0 w lf (K i).d x tA tc) (hn : 324 ≤ n) (ho : T.P.on) (hw : T.P.waits.length ≤ 1000000000) (txg note : Nat) (r : Pt) (hpx : x.pool < 18446744073709551616) (h1 : 1 ≤ txg) (h2 : txg ≤ 281474976710656) (hno : note < 18446744073709551616) (hro : r.ok) (hrb : r.bi ≤ txg) :
   Calls Tryz.prog 54 #[.pointer (some ⟨lf, 0, none⟩), .agg #[.int .u64 (x.pool : Int), .int .u64 (txg : Int), .int .u64 (note : Int), .int .i64 (r.t : Int), .int .i64 (r.at_ : Int), .int .i64 (r.n : Int), .int .u64 (r.bi : Int), .int .i64 (r.k : Int), .int .u64 (r.s.a : Int), .int .u64 (r.s.b : Int), .int .u64 (r.s.c : Int), .int .u64 (r.s.d : Int)]] w fun e w' => ∃ W, e = .returned (.int .i64 0) ∧ Gs w0 w' p dv m n K (T.wr i (updL (T.f i) (marks n txg) (uberB x.pool txg note r)) W) ∧ W.length ≤ 4 ∧ (∀ y ∈ W, y.d = (K i).d ∧ y.at_ ∈ marks n txg ∧ y.b = uberB x.pool txg note r) ∧ Keeps (Fg w p m K) w w' := by
 obtain ⟨wv, s, hL, hS, hP, hd, -, hT⟩ := h.lm hi hl
 have ho' : s.off = false := by have := ho.2; rw [← hP] at this; exact this
 have hl1 : s.left = -1 := by have := ho.1; rw [← hP] at this; exact this
 have hwl : s.waits.length ≤ 1000000000 := by rw [← hP] at hw; exact hw
 have hX := uberB_len x.pool txg note r
 have hlt : ∀ q ∈ marks n txg, q < n := fun q hq => by
   have h8 := Nat.mod_lt txg (show 0 < 8 by decide)
   have a0 := plc_lt n 0 hn
   have a1 := plc_lt n 1 hn
   have a2 := plc_lt n 2 hn
   have a3 := plc_lt n 3 hn
   simp only [marks, List.mem_cons, List.not_mem_nil, or_false] at hq
   rcases hq with rfl | rfl | rfl | rfl <;> omega
 obtain ⟨g1, g2, g3, g4, g5⟩ := hS.wrs_on (marks n txg) hl1 _ hX hlt
 obtain ⟨f', -, W, hW, hWl, hWm⟩ := hS.wrs (marks n txg) _ hX hlt
 have hM := mark8_any hL ho' (by rw [hS.hn]; exact hn) hwl txg note r hpx h1 h2 hno hro hrb
 rw [hS.hn, g4] at hM
 refine hM.mono ?_
 rintro e w' ⟨rfl, wv', i1, i2, i3⟩
 obtain ⟨j1, j2⟩ := hT w' _ wv' _ _ i1.dm i2 g1 (fun y hy => by
   rw [hW, List.mem_append] at hy
   rcases hy with hy | hy
   · exact .inl hy
   · exact .inr ⟨(hWm y hy).1, hlt _ (hWm y hy).2.1⟩)
 refine ⟨W, rfl, j1.fits (fun _ _ _ _ => rfl) (fun j q _ _ => ?_) ?_, hWl, fun y hy => ⟨(hWm y hy).1.trans hd, (hWm y hy).2⟩, j2⟩
 · show (if j = i then T.g i else T.g j) q = T.g j q
   split
   · rename_i e; rw [e]
   · rfl
 · show (⟨_, _, _⟩ : Pow) = (⟨T.P.waits ++ _, T.P.left, T.P.off⟩ : Pow)
   rw [hW, g2, g3, ← hP]
   show (⟨_, _, _⟩ : Pow) = (⟨s.waits ++ _, s.left, s.off⟩ : Pow)
   rw [hl1]
theorem gs_ubers (h : Gs w0 w p dv m n K T) (hi : i < m) (hl : Lq w0 w lf (K i).d x tA tc) (hn : 324 ≤ n) (ho : T.P.off = false) (hpx : x.pool < 18446744073709551616) (dec : Nat → Nat → Option UB) (hdec : ∀ j q, j < 4 → q < 8 → Slot x.pool (T.f i (plc n j + 1 + q)) (dec j q)) (B : List UB) (hB : B.length ≤ 19) (hdB : ∀ j q u, j < 4 → q < 8 → dec j q = some u → u ∈ B) :
   Calls Tryz.prog 55 #[.pointer (some ⟨lf, 0, none⟩)] w fun e w' => ∃ (mA : Option Addr) (mc : Nat) (M : List UB), e = .returned (.slice mA M.length mc) ∧ RowB w' (.slice mA M.length mc) M ∧ M.Nodup ∧ Ord M.length M ∧ (∀ u, u ∈ M ↔ ∃ j i, j < 4 ∧ i < 8 ∧ dec j i = some u) ∧ M.length ≤ 19 ∧ (∀ q ∈ own (.slice mA M.length mc), w.heap.size ≤ q) ∧ Keeps Non w w' := by
 obtain ⟨wv, s, hL, hS, hP, -⟩ := h.lm hi hl
 have ho' : s.off = false := by rw [← hP] at ho; exact ho
 refine ubers12_any hL ho' (by rw [hS.hn]; exact hn) hpx dec (fun j q hj hq => ?_) B hB hdB
 have := plc_lt n j hn
 rw [hS.hn, hS.now _ (by omega)]
 exact hdec j q hj hq
end
end Go.Proofs.YtolknnmaadkgiaaGreatDoor
namespace Go.Proofs.YtolknnmaadkgiaaGreatDoor
set_option maxRecDepth 100000
open Go.RowKit Go.Uc
section
variable {w0 w : World} {p m n : Nat} {dv : Sl} {K : Nat → Kb} {T : St} {lf i : Nat} {x : Lb} {tA : Option Addr} {tc : Nat}
theorem Gs.dm (h : Gs w0 w p dv m n K T) (hi : i < m) :
   ∃ (wv : Sl) (s : Dsk), Dm w0 w (K i) s wv ∧ Sh s n (T.f i) (T.g i) ∧ s.pow = T.P ∧ s.d = (K i).d ∧ (∀ x ∈ s.waits, x.d = s.d → x.at_ < n) ∧
     ∀ (w' : World) (s' : Dsk) (wv' : Sl) (f' g' : Nat → List UInt8), Dm w0 w' (K i) s' wv' → Keeps (Fr (K i) wv) w w' → Sh s' n f' g' → (∀ y ∈ s'.waits, y ∈ s.waits ∨ (y.d = s.d ∧ y.at_ < n)) →
       Gs w0 w' p dv m n K ⟨fun j => if j = i then f' else T.f j, fun j => if j = i then g' else T.g j, s'.pow⟩ ∧ Keeps (Fg w p m K) w w' := by
 obtain ⟨wv, S, hG, hS⟩ := h
 have hdm := hG.dm i hi
 refine ⟨wv, S i, hdm, hS i hi, hG.po i hi, hdm.hd, fun x hx e => ?_, fun w' s' wv' f' g' hD hK hS' hW => ⟨⟨wv', _, hG.turn hi hD hK (fun y hy => ?_) (by rw [hS'.hn, (hS i hi).hn]), fun j hj => ?_⟩, hK.mono fun g e => ?_⟩⟩
 · have hx' : x ∈ T.P.waits := by rw [← hG.po i hi]; exact hx
   obtain ⟨j, hj, a, b⟩ := hG.at_ x hx'
   rw [(hS j hj).hn] at b
   exact b
 · rcases hW y hy with e | ⟨e1, e2⟩
   · exact .inl e
   · exact .inr ⟨e1.trans hdm.hd, by rw [(hS i hi).hn]; exact e2⟩
 · by_cases e : j = i
   · subst e
     simp only [if_true]
     exact hS'
   · simp only [if_neg e]
     have := hS j hj
     exact ⟨⟨this.ok.n1, this.ok.n2, this.ok.pl, this.ok.nw, hS'.ok.l1, hS'.ok.l2⟩, this.hn, this.now, this.plat⟩
 · rcases e with e | e | e | e
   · exact .inl (.inl (e.trans (hG.kp i hi).1))
   · exact .inl (.inr ⟨i, hi, .inl e⟩)
   · exact .inl (.inr ⟨i, hi, .inr e⟩)
   · right
     rcases hG.wt.form with ⟨e1, -⟩ | ⟨g', cap, cur, e1, hB, -⟩
     · rw [e1] at e; exact (List.not_mem_nil e).elim
     · rw [e1, own_slice, List.mem_singleton] at e
       subst e
       exact ⟨_, hB⟩
theorem gs_sectors (h : Gs w0 w p dv m n K T) (hi : i < m) : Calls Tryz.prog 49 #[.pointer (some ⟨(K i).d, 0, none⟩)] w fun e w' => e = .returned (.int .i64 (n : Int)) ∧ w' = w := by
 obtain ⟨wv, s, hL, hS, -⟩ := h.dm hi
 have := sectors52_any hL
 rw [hS.hn] at this
 exact this
theorem Gs.dk (h : Gs w0 w p dv m n K T) (hi : i < m) : ∃ cs, Blk w (K i).d 110 cs := by
 obtain ⟨wv, s, hL, -⟩ := h.dm hi
 exact ⟨_, hL.dk⟩
theorem Gs.dne (h : Gs w0 w p dv m n K T) {j : Nat} (hi : i < m) (hj : j < m) (hij : i ≠ j) : (K i).d ≠ (K j).d := by
 obtain ⟨wv, S, hG, -⟩ := h
 exact (hG.ap i j hi hj hij).1
theorem gs_open (h : Gs w0 w p dv m n K T) (hi : i < m) (hn : 324 ≤ n) (ho : T.P.off = false) (hx : x.ok) (hs : ∀ hh : x.top < x.ts.length, (x.ts[x.top]).s = n) (hl0 : T.f i 0 = labelB x) :
   Calls Tryz.prog 39 #[.pointer (some ⟨(K i).d, 0, none⟩)] w fun e w' => ∃ lf tA tc, e = .returned (.tuple #[.pointer (some ⟨lf, 0, none⟩), .int .i64 0]) ∧ Lq w0 w' lf (K i).d x tA tc ∧ w.heap.size ≤ lf ∧ (∀ q ∈ own (.slice tA x.ts.length tc), w.heap.size ≤ q) ∧ Keeps Non w w' := by
 obtain ⟨wv, s, hL, hS, hP, -⟩ := h.dm hi
 have ho' : s.off = false := by rw [← hP] at ho; exact ho
 refine (open17_any hL ho' (by rw [hS.hn]; exact hn) x hx (by rw [hS.hn]; exact hs) 0 (by decide) (by rw [show plc s.n 0 = 0 from rfl, hS.now 0 (by omega)]; exact hl0) (fun j hj => absurd hj (by omega))).mono ?_
 rintro e w' ⟨lf, tA, tc, rfl, hm, h1, h2, h3⟩
 exact ⟨lf, tA, tc, rfl, ⟨hm.blk, hm.ts, hm.new⟩, h1, h2, h3⟩
theorem gs_label (h : Gs w0 w p dv m n K T) (hi : i < m) (hl : Lq w0 w lf (K i).d x tA tc) (hp : 0 < x.ts.length) (hm : x.ts.length ≤ 4) :
   Calls Tryz.prog 40 #[.pointer (some ⟨lf, 0, none⟩)] w fun e w' => ∃ A2 c2, e = .returned (.agg #[.int .u64 (x.pool : Int), .slice A2 x.ts.length c2, .int .i64 (x.top : Int), .int .i64 (x.place : Int)]) ∧ RowT w' (.slice A2 x.ts.length c2) x.ts ∧ (∀ q ∈ own (.slice A2 x.ts.length c2), w.heap.size ≤ q) ∧ Keeps Non w w' := by
 obtain ⟨wv, s, hL, -⟩ := h.lm hi hl
 exact label18_any hL hp hm
def St.fmt (T : St) (i d n : Nat) (lb : List UInt8) : St := ⟨fun j => if j = i then fmtG n lb (T.f i) else T.f j, fun j => if j = i then fmtG n lb (T.f i) else T.g j, ⟨kept d T.P.waits, T.P.left, T.P.off⟩⟩
theorem gs_format (h : Gs w0 w p dv m n K T) (hi : i < m) (hn : 324 ≤ n) (ho : T.P.on) (hw : T.P.waits.length ≤ 100000) (hx : x.ok) (hs : ∀ hh : x.top < x.ts.length, (x.ts[x.top]).s = n) (A : Option Addr) (c : Nat) (hR : RowT w (.slice A x.ts.length c) x.ts) :
   Calls Tryz.prog 50 #[.pointer (some ⟨(K i).d, 0, none⟩), .agg #[.int .u64 (x.pool : Int), .slice A x.ts.length c, .int .i64 (x.top : Int), .int .i64 (x.place : Int)]] w fun e w' => ∃ lf tA tc, e = .returned (.tuple #[.pointer (some ⟨lf, 0, none⟩), .int .i64 0]) ∧ w.heap.size ≤ lf ∧ Lq w0 w' lf (K i).d x tA tc ∧ Gs w0 w' p dv m n K (T.fmt i (K i).d n (labelB x)) ∧ Keeps (Fg w p m K) w w' := by
 obtain ⟨wv, s, hL, hS, hP, hd, -, hT⟩ := h.dm hi
 have ho' : s.off = false := by have := ho.2; rw [← hP] at this; exact this
 have hl1 : s.left = -1 := by have := ho.1; rw [← hP] at this; exact this
 have hwl : s.waits.length ≤ 100000 := by rw [← hP] at hw; exact hw
 have hn2 := h.n2 hi
 have h4 : x.ts.length ≤ 4 := hx.2.2.1
 obtain ⟨g1, g2, g3, g4, g5, g6⟩ := fst_sh s n (labelB x) hn hn2.2 (labelB_len x h4) _ _ hS hl1 ho'
 refine (format26_any hL ho' hl1 (by rw [hS.hn]; exact hn) hwl x hx (by rw [hS.hn]; exact hs) A c hR).mono ?_
 rintro e w' ⟨lf, tA, tc, rfl, h0, wv', h1, h2, h3⟩
 obtain ⟨j1, j2⟩ := hT w' _ wv' _ _ h1.dm h2 g1 (fun y hy => .inl (by rw [g4] at hy; exact kept_mem hy))
 refine ⟨lf, tA, tc, rfl, h0, ⟨h1.blk, h1.ts, h1.new⟩, ?_, j2⟩
 have e : (s.fst (labelB x) 7).pow = ⟨kept (K i).d T.P.waits, T.P.left, T.P.off⟩ := by
   show (⟨_, _, _⟩ : Pow) = _
   rw [g2, g3, g4, ← hP, hd]
   show (⟨_, _, _⟩ : Pow) = ⟨kept (K i).d s.waits, s.left, s.off⟩
   rw [hl1, ho']
 rw [e] at j1
 exact j1
theorem gs_up (h : Gs w0 w p dv m n K T) (hW : T.P.waits.length ≤ 1099511627776) (hm : m ≤ 1000000) (st : List Bool) (sA : Option Addr) (sc : Nat) (hS : AtB w sA st) (hSF : ∀ ad, sA = some ad → ¬ Fu p m K ad.block) (hst : st.length ≤ 1099511627776000) :
   Calls Tryz.prog 11 #[.pointer (some ⟨p, 0, none⟩), .slice sA st.length sc] w fun e w' => e = .returned (.tuple #[]) ∧ ∃ f : Nat → Nat → List UInt8, Gs w0 w' p dv m n K ⟨f, f, ⟨[], -1, false⟩⟩ ∧ (∀ i q, i < m → q < n → f i q = T.g i q ∨ ∃ y ∈ T.P.waits, y.d = (K i).d ∧ y.at_ = q ∧ f i q = y.b) ∧ Keeps (Fg w p m K) w w' := by
 obtain ⟨wv, S, hG, hSh⟩ := h
 refine (up11_any hG hW hm st sA sc hS hSF hst).mono ?_
 rintro e w' ⟨rfl, hG', hK⟩
 have ch : ∀ i, ∃ f : Nat → List UInt8, i < m → Sh ((S i).up st) n f f ∧ ∀ q, q < n → f q = T.g i q ∨ ∃ y ∈ T.P.waits, y.d = (K i).d ∧ y.at_ = q ∧ f q = y.b := fun i => by
   by_cases hi : i < m
   · have hpo := hG.po i hi
     have hw : ∀ y ∈ (S i).waits, y.d = (S i).d → y.at_ < (S i).n := fun y hy e => by
       have hy' : y ∈ T.P.waits := by rw [← hpo]; exact hy
       obtain ⟨j, hj, a, b⟩ := hG.at_ y hy'
       rw [(hSh j hj).hn] at b
       rw [(hSh i hi).hn]
       exact b
     obtain ⟨f, h1, h2⟩ := (hSh i hi).up st hw
     refine ⟨f, fun _ => ⟨h1, fun q hq => ?_⟩⟩
     rcases h2 q hq with e | ⟨y, hy, e1, e2, e3⟩
     · exact .inl e
     · exact .inr ⟨y, by rw [← hpo]; exact hy, by rw [e1, (hG.dm i hi).hd], e2, e3⟩
   · exact ⟨fun _ => [], fun h => absurd h hi⟩
 refine ⟨rfl, fun i => (ch i).choose, ⟨_, _, hG', fun i hi => ((ch i).choose_spec hi).1⟩, fun i q hi hq => ((ch i).choose_spec hi).2 q hq, hK.mono fun g e => .inl e⟩
end
end Go.Proofs.YtolknnmaadkgiaaGreatDoor
namespace Go.Proofs.YtolknnmaadkgiaaGreatDoor
set_option maxRecDepth 100000
open Go.RowKit Go.Uc
structure Lk where
 f : Nat
 t : Nat
 is : Bool
def Lk.no : Lk := ⟨0, 0, false⟩
def encK (x : Lk) : List Value := [.int .u64 (x.f : Int), .int .u64 (x.t : Int), .bool x.is]
theorem encK_len (x : Lk) : (encK x).length = 3 := rfl
def encO (o : Option Nat) : List Value := [.pointer (o.map fun b => ⟨b, 0, none⟩)]
theorem encO_len (o : Option Nat) : (encO o).length = 1 := rfl
theorem encO_one (o : Option Nat) : ∀ u ∈ encO o, u.oneCell' = true := by intro u hu; simp [encO] at hu; subst hu; rfl
structure Mt (w : World) (t : Nat) (lv kv : Sl) (L : List (Option Nat)) (lk : List Lk) (sz : Int) : Prop where
 blk : Blk w t 249 #[lv.v, kv.v, .int .i64 sz]
 lr : RowP w 93 1 encO lv.v L
 ln : lv.n = L.length
 kr : RowP w 350 3 encK kv.v lk
 kn : kv.n = lk.length
 len : lk.length = L.length
 few : L.length ≤ 5
section
variable {w w' : World} {t sz : Nat} {lv kv : Sl} {L : List (Option Nat)} {lk : List Lk}
theorem Mt.non {sz : Int} (h : Mt w t lv kv L lk sz) (hk : Keeps Non w w') : Mt w' t lv kv L lk sz := ⟨h.blk.non hk, h.lr.non hk, h.ln, h.kr.non hk, h.kn, h.len, h.few⟩
theorem Mt.c0 {sz : Int} (h : Mt w t lv kv L lk sz) : w.cell? ⟨t, 0, none⟩ = some (.slice lv.A L.length lv.c) := by rw [← h.ln]; exact h.blk.cell 0
theorem Mt.c1 {sz : Int} (h : Mt w t lv kv L lk sz) : w.cell? ⟨t, 1, none⟩ = some (.slice kv.A L.length kv.c) := by rw [← h.len, ← h.kn]; exact h.blk.cell 1
theorem Mt.c2 {sz : Int} (h : Mt w t lv kv L lk sz) : w.cell? ⟨t, 2, none⟩ = some (.int .i64 sz) := h.blk.cell 2
def need (b : Nat) : Nat := (b + 127) / 128
set_option maxHeartbeats 1000000 in
theorem need_any (v : Value) (b : Nat) (h1 : 1 ≤ b) (h2 : b ≤ 1024) (w : World) : Calls Tryz.prog 280 #[v, .int .i64 (b : Int)] w fun e w' => e = .returned (.int .i64 (need b : Int)) ∧ w' = w := by
 have d1 : decide ((b : Int) < 1) = false := decide_eq_false (by omega)
 have d2 : decide ((1024 : Int) < (b : Int)) = false := decide_eq_false (by omega)
 go_enter Tryz.func280, Tryz.ntmps280
 go_wp2_with fail
 go_ret
 refine ⟨?_, rfl⟩
 unfold need
 first
   | (show Ending.returned (.int .i64 (((b : Int) + 128 - 1) / 128)) = _; exact ret_int (by omega))
   | (show Ending.returned (.int .i64 (((b : Int) + 127) / 128)) = _; exact ret_int (by omega))
set_option maxHeartbeats 1000000 in
theorem size_mt (h : Mt w t lv kv L lk sz) : Calls Tryz.prog 284 #[.pointer (some ⟨t, 0, none⟩)] w fun e w' => e = .returned (.int .i64 (sz : Int)) ∧ w' = w := by
 have c2 := h.c2
 clear h
 go_enter Tryz.func284, Tryz.ntmps284
 go_wp2_with fail
 go_ret
 exact ⟨rfl, rfl⟩
set_option maxHeartbeats 1000000 in
theorem fits_yes (h : Mt w t lv kv L lk sz) (a b : Nat) (h1 : 1 ≤ b) (h2 : b ≤ 1024) (hf : a + need b ≤ sz) (hs : sz ≤ 8192) : Calls Tryz.prog 290 #[.pointer (some ⟨t, 0, none⟩), .int .i64 (a : Int), .int .i64 (b : Int)] w fun e w' => e = .returned (.bool true) ∧ w' = w := by
 have c2 := h.c2
 have HN := Lib.hid (fun v V => need_any v b h1 h2 V)
 have hp : 0 < need b := by unfold need; omega
 generalize need b = k at *
 have d0 : decide ((0 : Int) < (k : Int)) = true := decide_eq_true (by omega)
 have d0' : decide (0 < k) = true := decide_eq_true hp
 have d1 : decide ((a : Int) ≤ (sz : Int)) = true := decide_eq_true (by omega)
 have d1' : decide (a ≤ sz) = true := decide_eq_true (by omega)
 have d2 : decide ((k : Int) ≤ (sz : Int) - (a : Int)) = true := decide_eq_true (by omega)
 have d3 : decide ((0 : Int) ≤ (a : Int)) = true := decide_eq_true (by omega)
 clear h
 go_enter Tryz.func290, Tryz.ntmps290
 go_wp2_with ((go_at_call 280; go_must (refine (HN.out _ _).mono ?_); rintro e _ ⟨rfl, rfl⟩))
 go_ret
 exact ⟨rfl, rfl⟩
set_option maxHeartbeats 1000000 in
theorem has_yes (h : Mt w t lv kv L lk sz) (k : Nat) (hk : k < L.length) : Calls Tryz.prog 287 #[.pointer (some ⟨t, 0, none⟩), .int .i64 (k : Int)] w fun e w' => e = .returned (.bool true) ∧ w' = w := by
 have c0 := h.c0
 generalize L.length = l at c0 hk
 have d1 : decide ((k : Int) < (l : Int)) = true := decide_eq_true (by omega)
 have d1' : decide (k < l) = true := decide_eq_true hk
 have d3 : decide ((0 : Int) ≤ (k : Int)) = true := decide_eq_true (by omega)
 clear h
 go_enter Tryz.func287, Tryz.ntmps287
 go_wp2_with fail
 go_ret
 exact ⟨rfl, rfl⟩
end
end Go.Proofs.YtolknnmaadkgiaaGreatDoor
namespace Go.Proofs.YtolknnmaadkgiaaGreatDoor
set_option maxRecDepth 100000
open Go.RowKit Go.Uc
section
variable {w w' : World} {t sz : Nat} {lv kv : Sl} {L : List (Option Nat)} {lk : List Lk}
set_option maxHeartbeats 2000000 in
theorem lacks_any (h : Mt w t lv kv L lk sz) (k : Nat) (hk : k < L.length) (o : Lk) (ho : lk[k]? = some o) : Calls Tryz.prog 279 #[.pointer (some ⟨t, 0, none⟩), .int .i64 (k : Int)] w fun e w' => e = .returned (.tuple #[.agg #[.int .u64 (o.f : Int), .int .u64 (o.t : Int)], .bool o.is]) ∧ Keeps Non w w' := by
 have hB := Blk.new w 74 #[.int .u64 0, .int .u64 0]
 have ka := (Keeps.refl Non w).alloc (.cells #[.int .u64 0, .int .u64 0] 74)
 have hM := h.non ka
 have HH := Lib.hid (fun V (hV : Keeps Non w V) => has_yes (h.non hV) k hk)
 have hlt : k < lk.length := by rw [h.len]; exact hk
 have hge : lk[k] = o := by rw [List.getElem?_eq_getElem hlt] at ho; injection ho
 have c1 := hM.c1
 obtain ⟨g, cap, e1, -, -, hc, -, -⟩ := hM.kr.at_ encK_len hlt
 injection e1 with e1 e2 e3
 rw [e1] at c1
 rw [hge] at hc
 have x0 : (w.alloc (.cells #[.int .u64 0, .int .u64 0] 74)).cell? ⟨g, k * 3, none⟩ = some (.int .u64 (o.f : Int)) := hc 0 (by decide)
 have x1 : (w.alloc (.cells #[.int .u64 0, .int .u64 0] 74)).cell? ⟨g, k * 3 + 1, none⟩ = some (.int .u64 (o.t : Int)) := hc 1 (by decide)
 have x2 : (w.alloc (.cells #[.int .u64 0, .int .u64 0] 74)).cell? ⟨g, k * 3 + 2, none⟩ = some (.bool o.is) := hc 2 (by decide)
 have hki : (k : Int) < (L.length : Int) := by omega
 have HK := Lib.hid ka
 have HH1 := Lib.hid (HH.out _ ka)
 have ntq : ¬ t = w.heap.size := by have := h.blk.lt; omega
 have ngq : ¬ g = w.heap.size := by
   have : g ∈ own kv.v := by show g ∈ own (.slice kv.A kv.n kv.c); rw [e1, own_slice]; exact List.mem_singleton.2 rfl
   have := RowP.lt h.kr g this
   omega
 obtain ⟨of, ot, ois⟩ := o
 simp only at x0 x1 x2
 clear hM hc ho hge h hlt e1 e2 e3 HH ka
 obtain ⟨q, hq⟩ : ∃ z, z = w.heap.size := ⟨_, rfl⟩
 go_enter Tryz.func279, Tryz.ntmps279
 go_upto_region 1 with fail
 obtain ⟨w1, hw1⟩ : ∃ V : World, V = w.alloc (.cells #[.int .u64 0, .int .u64 0] 74) := ⟨_, rfl⟩
 rw [← hw1] at hB x0 x1 x2 c1 HK HH1 ⊢
 rw [← hq] at hB ntq ngq ⊢
 have hqw := Lib.hid hq
 clear hw1 hq
 go_upto_region 3 with ((go_at_call 287; go_must (refine HH1.out.mono ?_); rintro e w3 ⟨rfl, hw3⟩; subst w3))
 have f0 := hB.frozen 0
 have f1 := hB.frozen 1
 have y0 : w1.cell? ⟨q, 0, none⟩ = some (.int .u64 0) := hB.cell 0
 have y1 : w1.cell? ⟨q, 1, none⟩ = some (.int .u64 0) := hB.cell 1
 have k1 : Keeps Non w ((w1.setCell ⟨q, 0, none⟩ (.int .u64 (of : Int))).setCell ⟨q, 1, none⟩ (.int .u64 (ot : Int))).drew := (HK.out.then (((Keeps.refl (Only q) w1).set (p := ⟨q, 0, none⟩) rfl _).set (p := ⟨q, 1, none⟩) rfl _) (fun i hi e => by unfold Only at e; have := hqw.out; omega)).drew
 have hB1 := ((hB.set 0 (.int .u64 (of : Int))).set 1 (.int .u64 (ot : Int))).drew
 have HF := Lib.hid (And.intro hB1 k1)
 clear hB1 k1
 go_region
 go_wp2_with fail
 refine bodyPost_ret (results_cell_tmp (ty := 74) rfl _ q 74 _ _ rfl HF.out.1 Tryz.underlying74 rfl (by kernel_rfl)) rfl ⟨rfl, HF.out.2⟩
theorem Mt.setK (h : Mt w t lv kv L lk sz) {g k : Nat} (hg : kv.A = some ⟨g, 0, none⟩) (hk : k < L.length) (x : Lk) :
   Mt (((w.setCell ⟨g, k * 3, none⟩ (.int .u64 (x.f : Int))).setCell ⟨g, k * 3 + 1, none⟩ (.int .u64 (x.t : Int))).setCell ⟨g, k * 3 + 2, none⟩ (.bool x.is)) t lv kv L (lk.set k x) sz ∧
   Keeps (fun g => g ∈ own kv.v) w (((w.setCell ⟨g, k * 3, none⟩ (.int .u64 (x.f : Int))).setCell ⟨g, k * 3 + 1, none⟩ (.int .u64 (x.t : Int))).setCell ⟨g, k * 3 + 2, none⟩ (.bool x.is)) := by
 obtain ⟨kA, kn, kc⟩ := kv
 simp only at hg
 subst hg
 have hkn : kn = lk.length := h.kn
 subst hkn
 have hlt : k < lk.length := by rw [h.len]; exact hk
 have hk3 : Keeps (Only g) w (((w.setCell ⟨g, k * 3, none⟩ (.int .u64 (x.f : Int))).setCell ⟨g, k * 3 + 1, none⟩ (.int .u64 (x.t : Int))).setCell ⟨g, k * 3 + 2, none⟩ (.bool x.is)) := (((Keeps.refl (Only g) w).set (p := ⟨g, k * 3, none⟩) rfl _).set (p := ⟨g, k * 3 + 1, none⟩) rfl _).set (p := ⟨g, k * 3 + 2, none⟩) rfl _
 have hR := RowP.setAt encK_len h.kr hlt x
 obtain ⟨cur, hB⟩ : ∃ cur, Blk w g 350 cur := by
   rcases h.kr.form with ⟨e, -⟩ | ⟨g', cap, cur, e, hB, -⟩
   · cases e
   · injection e with e
     injection e with e
     injection e with e
     subst e
     exact ⟨cur, hB⟩
 refine ⟨⟨h.blk.one hk3 (h.blk.ne hB (by decide)), h.lr.keep hk3 fun q hq e => by unfold Only at e; subst e; exact own_type h.lr hB (by decide) hq, h.ln, ?_, by simp, by rw [List.length_set]; exact h.len, h.few⟩, hk3.mono fun q e => by unfold Only at e; subst e; show q ∈ own (.slice _ _ _); rw [own_slice]; exact List.mem_singleton.2 rfl⟩
 rw [show (⟨some ⟨g, 0, none⟩, lk.length, kc⟩ : Sl).v = .slice (some ⟨g, 0, none⟩) (lk.set k x).length kc by rw [List.length_set]]
 have hl : (lk.set k x).length = lk.length := by simp
 rw [hl]
 exact hR
set_option maxHeartbeats 2000000 in
theorem whole_any (h : Mt w t lv kv L lk sz) (k : Nat) (hk : k < L.length) : Calls Tryz.prog 285 #[.pointer (some ⟨t, 0, none⟩), .int .i64 (k : Int)] w fun e w' => e = .returned (.int .i64 0) ∧ Mt w' t lv kv L (lk.set k Lk.no) sz ∧ Keeps (fun g => g ∈ own kv.v) w w' := by
 have HH := Lib.hid (has_yes h k hk)
 have hlt : k < lk.length := by rw [h.len]; exact hk
 have c1 := h.c1
 obtain ⟨g, cap, e1, -, -, hc, hf, -⟩ := h.kr.at_ encK_len hlt
 injection e1 with e1 e2 e3
 rw [e1] at c1
 have hki : (k : Int) < (L.length : Int) := by omega
 obtain ⟨v0, x0⟩ : ∃ v, w.cell? ⟨g, k * 3, none⟩ = some v := ⟨_, hc 0 (by decide)⟩
 obtain ⟨v1, x1⟩ : ∃ v, w.cell? ⟨g, k * 3 + 1, none⟩ = some v := ⟨_, hc 1 (by decide)⟩
 obtain ⟨v2, x2⟩ : ∃ v, w.cell? ⟨g, k * 3 + 2, none⟩ = some v := ⟨_, hc 2 (by decide)⟩
 have f0 : w.frozen? ⟨g, k * 3, none⟩ = false := hf _
 have f1 : w.frozen? ⟨g, k * 3 + 1, none⟩ = false := hf _
 have f2 : w.frozen? ⟨g, k * 3 + 2, none⟩ = false := hf _
 have HZ := Lib.hid (h.setK e1 hk Lk.no)
 clear h hc e2 e3 hf hlt e1
 go_enter Tryz.func285, Tryz.ntmps285
 go_wp2_with ((go_at_call 287; go_must (refine HH.out.mono ?_); rintro e w3 ⟨rfl, hw3⟩; subst w3))
 go_ret
 exact ⟨rfl, HZ.out⟩
set_option maxHeartbeats 2000000 in
theorem behind_any (h : Mt w t lv kv L lk sz) (k : Nat) (hk : k < L.length) (o : Lk) (ho : lk[k]? = some o) (hi : o.is = false) (bf bt : Nat) : Calls Tryz.prog 288 #[.pointer (some ⟨t, 0, none⟩), .int .i64 (k : Int), .agg #[.int .u64 (bf : Int), .int .u64 (bt : Int)]] w fun e w' => e = .returned (.tuple #[]) ∧ Mt w' t lv kv L (lk.set k ⟨bf, bt, true⟩) sz ∧ Keeps (fun g => g ∈ own kv.v) w w' := by
 have hlt : k < lk.length := by rw [h.len]; exact hk
 have hge : lk[k] = o := by rw [List.getElem?_eq_getElem hlt] at ho; injection ho
 have c1 := h.c1
 obtain ⟨g, cap, e1, -, -, hc, hf, -⟩ := h.kr.at_ encK_len hlt
 injection e1 with e1 e2 e3
 rw [e1] at c1
 rw [hge] at hc
 have hki : (k : Int) < (L.length : Int) := by omega
 obtain ⟨of, ot, ois⟩ := o
 simp only at hi
 subst hi
 have x0 : w.cell? ⟨g, k * 3, none⟩ = some (.int .u64 (of : Int)) := hc 0 (by decide)
 have x1 : w.cell? ⟨g, k * 3 + 1, none⟩ = some (.int .u64 (ot : Int)) := hc 1 (by decide)
 have x2 : w.cell? ⟨g, k * 3 + 2, none⟩ = some (.bool false) := hc 2 (by decide)
 have hkd : ∀ V, Keeps Non w V → ∀ i, V.frozen? ⟨g, i, none⟩ = false := fun V hV i => by
   obtain ⟨g', cap', e1', -, -, -, hf', -⟩ := (h.non hV).kr.at_ encK_len hlt
   injection e1' with e1' _ _
   rw [e1] at e1'
   injection e1' with e1'
   injection e1' with e1'
   subst e1'
   exact hf' _
 have hgl : g < w.heap.size := RowP.lt h.kr g (by show g ∈ own (.slice kv.A kv.n kv.c); rw [e1, own_slice]; exact List.mem_singleton.2 rfl)
 have htl := h.blk.lt
 have H := Lib.hid h
 have HE := Lib.hid e1
 have HFz := Lib.hid hkd
 clear h hc e2 e3 hf ho hge hkd e1
 go_enter Tryz.func288, Tryz.ntmps288
 go_upto_region 2 with fail
 obtain ⟨hA, hB, hk2⟩ := two_new w #[.int .u64 (bf : Int), .int .u64 (bt : Int)] #[.int .u64 (of : Int), .int .u64 (ot : Int), .bool false] 74 350
 obtain ⟨w2, hw2⟩ : ∃ V : World, V = (w.alloc (.cells #[.int .u64 (bf : Int), .int .u64 (bt : Int)] 74)).alloc (.cells #[.int .u64 (of : Int), .int .u64 (ot : Int), .bool false] 350) := ⟨_, rfl⟩
 rw [← hw2] at hA hB hk2 ⊢
 clear hw2
 obtain ⟨q, hq⟩ : ∃ z, z = w.heap.size := ⟨_, rfl⟩
 rw [← hq] at hA hB hgl htl ⊢
 clear hq x0 x1 x2 c1
 have b2 : w2.cell? ⟨q + 1, 2, none⟩ = some (.bool false) := hB.cell 2
 go_upto_region 4 with fail
 have hkd : Keeps Non w2 w2.drew := (Keeps.refl Non w2).drew
 have hM2 := H.out.non hk2
 have c1 := hM2.c1
 rw [HE.out] at c1
 have a0 : w2.cell? ⟨q, 0, none⟩ = some (.int .u64 (bf : Int)) := hA.cell 0
 have a1 : w2.cell? ⟨q, 1, none⟩ = some (.int .u64 (bt : Int)) := hA.cell 1
 obtain ⟨g', cap', e1', -, -, hc', -, -⟩ := hM2.kr.at_ encK_len hlt
 obtain rfl : g = g' := by
   injection e1' with e1' _ _
   rw [HE.out] at e1'
   injection e1' with e1'
   injection e1' with e1'
 obtain ⟨v0, x0⟩ : ∃ v, w2.cell? ⟨g, k * 3, none⟩ = some v := ⟨_, hc' 0 (by decide)⟩
 obtain ⟨v1, x1⟩ : ∃ v, w2.cell? ⟨g, k * 3 + 1, none⟩ = some v := ⟨_, hc' 1 (by decide)⟩
 obtain ⟨v2, x2⟩ : ∃ v, w2.cell? ⟨g, k * 3 + 2, none⟩ = some v := ⟨_, hc' 2 (by decide)⟩
 have f0 : w2.frozen? ⟨g, k * 3, none⟩ = false := HFz.out w2 hk2 _
 have f1 : w2.frozen? ⟨g, k * 3 + 1, none⟩ = false := HFz.out w2 hk2 _
 have f2 : w2.frozen? ⟨g, k * 3 + 2, none⟩ = false := HFz.out w2 hk2 _
 have HZ := Lib.hid (hM2.setK HE.out hk ⟨bf, bt, true⟩)
 clear hc' e1' hM2 hA hB
 go_region
 go_wp2_with fail
 go_end0
 exact ⟨rfl, HZ.out.1.non ((Keeps.refl Non _).drew), (hk2.of_non.trans HZ.out.2).drew⟩
set_option maxHeartbeats 2000000 in
theorem behind_mt (h : Mt w t lv kv L lk sz) (k : Nat) (hk : k < L.length) (o : Lk) (ho : lk[k]? = some o) (hi : o.is = false) (bf bt : Nat) (h1 : 1 ≤ bf) (h2 : bf ≤ bt) (h3 : bt ≤ 281474976710656) : Calls Tryz.prog 277 #[.pointer (some ⟨t, 0, none⟩), .int .i64 (k : Int), .agg #[.int .u64 (bf : Int), .int .u64 (bt : Int)]] w fun e w' => e = .returned (.int .i64 0) ∧ Mt w' t lv kv L (lk.set k ⟨bf, bt, true⟩) sz ∧ Keeps (fun g => g ∈ own kv.v) w w' := by
 have hA := Blk.new w 74 #[.int .u64 (bf : Int), .int .u64 (bt : Int)]
 have ka := (Keeps.refl Non w).alloc (.cells #[.int .u64 (bf : Int), .int .u64 (bt : Int)] 74)
 have HH := Lib.hid (has_yes (h.non ka) k hk)
 have HB := Lib.hid (behind_any (h.non ka) k hk o ho hi bf bt)
 have d1 : decide ((bf : Int) < 1) = false := decide_eq_false (by omega)
 have d2 : decide ((bt : Int) < (bf : Int)) = false := decide_eq_false (by omega)
 have d2' : decide (bt < bf) = false := decide_eq_false (by omega)
 have d3 : decide ((281474976710656 : Int) < (bt : Int)) = false := decide_eq_false (by omega)
 clear h ho
 go_enter Tryz.func277, Tryz.ntmps277
 go_upto_region 1 with fail
 obtain ⟨w1, hw1⟩ : ∃ V : World, V = w.alloc (.cells #[.int .u64 (bf : Int), .int .u64 (bt : Int)] 74) := ⟨_, rfl⟩
 rw [← hw1] at hA ka HH HB ⊢
 clear hw1
 obtain ⟨q, hq⟩ : ∃ z, z = w.heap.size := ⟨_, rfl⟩
 rw [← hq] at hA ⊢
 clear hq
 have a0 : w1.cell? ⟨q, 0, none⟩ = some (.int .u64 (bf : Int)) := hA.cell 0
 have a1 : w1.cell? ⟨q, 1, none⟩ = some (.int .u64 (bt : Int)) := hA.cell 1
 go_wp2_with (first
   | (go_at_call 287; go_must (refine HH.out.mono ?_); rintro e w3 ⟨rfl, hw3⟩; subst w3)
   | (go_at_call 288; go_must (refine HB.out.mono ?_); rintro e w4 ⟨rfl, hM4, hK4⟩))
 go_ret
 exact ⟨rfl, hM4, ka.of_non.trans hK4⟩
end
end Go.Proofs.YtolknnmaadkgiaaGreatDoor
