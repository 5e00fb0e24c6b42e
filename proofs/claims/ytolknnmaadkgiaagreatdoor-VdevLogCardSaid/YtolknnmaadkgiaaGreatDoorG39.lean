/- A tank at work, as a whole. Import of one disk of a tank. A block with its Fletcher sum. A tank of one mirror: Replace; what was there ahead of all stays. -/
import Derived.Test.YtolknnmaadkgiaaGreatDoorG38
import Derived.Test.YtolknnmaadkgiaaGreatDoorG25
set_option linter.unusedVariables false
set_option linter.unusedSimpArgs false
namespace Go.Proofs.YtolknnmaadkgiaaGreatDoor
set_option maxRecDepth 100000
open Go.RowKit Go.Uc Go.Shelf
structure Ru (w0 wr : World) (pool : Nat) (tp : Tp) (x p gd gc : Nat) (dv : Sl) (K : Nat → Kb) (k : Nat) (B : TB) (L Dk : List (Option Nat)) (F : Nat → Lr) (q u : Nat) (T : St) (lg : Nat) : Prop where
 bx : Blk wr x 41 #[.pointer (some ⟨p, 0, none⟩), .slice (some ⟨gd, 0, none⟩) tp.l gc, .pointer (some ⟨k, 0, none⟩), .pointer (some ⟨q, 0, none⟩), .pointer (some ⟨u, 0, none⟩), .slice none 0 0]
 dr : RowP wr 49 1 encP (.slice (some ⟨gd, 0, none⟩) tp.l gc) ((List.range tp.l).map fun i => (K i).d)
 tk : Tk wr k pool tp B L Dk (List.replicate tp.l Lk.no) 32 lg
 gs : Gs w0 wr p dv tp.l 324 K T
 lv : Lvs w0 wr tp.l K (lbX pool tp) F L
 ll : L.length = tp.l
 le : ∀ i, i < tp.l → L[i]? = some (some (F i).b)
 ixe : ∀ i, i < tp.l → (F i).ix = i
 nk : w0.heap.size ≤ k
 gdv : gd ∉ own dv.v
 l2 : 2 ≤ tp.l ∧ tp.l ≤ 5
section
variable {w0 wr w' : World} {pool x p gd gc k q u lg : Nat} {tp : Tp} {dv : Sl} {K : Nat → Kb} {B : TB} {L Dk : List (Option Nat)} {F : Nat → Lr} {T T' : St}
theorem Bg.ru {Tj : St} (h : Bg w0 wr pool tp x p gd gc dv K k B L Dk F Tj q u) (hl : 2 ≤ tp.l ∧ tp.l ≤ 5) : Ru w0 wr pool tp x p gd gc dv K k B L Dk F q u Tj 1 :=
 ⟨h.bx, h.dr, h.tk, h.gs, h.lv, h.ll, h.le, h.ixe, h.new.2.1, h.gdv, hl⟩
theorem Ru.non (h : Ru w0 wr pool tp x p gd gc dv K k B L Dk F q u T lg) (hk : Keeps Non wr w') : Ru w0 w' pool tp x p gd gc dv K k B L Dk F q u T lg :=
 ⟨h.bx.non hk, h.dr.non hk, h.tk.non hk, h.gs.non hk, h.lv.non hk, h.ll, h.le, h.ixe, h.nk, h.gdv, h.l2⟩
theorem Ru.fg (h : Ru w0 wr pool tp x p gd gc dv K k B L Dk F q u T lg) (hk : Keeps (Fg wr p tp.l K) wr w') (hG : Gs w0 w' p dv tp.l 324 K T') : Ru w0 w' pool tp x p gd gc dv K k B L Dk F q u T' lg :=
 ⟨h.gs.stay hk h.bx (by decide) (by decide) (by decide), h.gs.stayRow hk h.dr (by decide) (by decide) (by decide), h.tk.fg h.gs hk, hG, h.lv.fg h.gs hk, h.ll, h.le, h.ixe, h.nk, h.gdv, h.l2⟩
theorem Ru.fgk {lg' : Nat} (h : Ru w0 wr pool tp x p gd gc dv K k B L Dk F q u T lg) (hk : Keeps (fun g => Fg wr p tp.l K g ∨ g = k) wr w') (hG : Gs w0 w' p dv tp.l 324 K T') (hT : Tk w' k pool tp B L Dk (List.replicate tp.l Lk.no) 32 lg') : Ru w0 w' pool tp x p gd gc dv K k B L Dk F q u T' lg' := by
 have hf : ∀ {g t : Nat} {cs : Array Value}, Blk wr g t cs → t ≠ 104 → t ≠ 5 → t ≠ 107 → t ≠ 99 → ¬ (Fg wr p tp.l K g ∨ g = k) := fun hb a b c d e => by
   rcases e with e | e
   · exact h.gs.free hb a b c e
   · exact hb.ne h.tk.blk d e
 exact ⟨h.bx.keep hk (hf h.bx (by decide) (by decide) (by decide) (by decide)), row_keepT h.dr hk (fun hb => hf hb (by decide) (by decide) (by decide) (by decide)), hT, hG, h.lv.keepX hk (fun hb => hf hb (by decide) (by decide) (by decide) (by decide)) (fun i b e g hg e2 => by
   have hr := (h.lv.lf i b e).2.2.ts
   rcases hr.form with ⟨e1, -⟩ | ⟨g', cap, cur, e1, hB, -⟩
   · rw [e1] at hg; exact (List.not_mem_nil hg).elim
   · rw [e1, own_slice, List.mem_singleton] at hg
     subst hg
     exact hf hB (by decide) (by decide) (by decide) (by decide) e2), h.ll, h.le, h.ixe, h.nk, h.gdv, h.l2⟩
theorem Ru.all (h : Ru w0 wr pool tp x p gd gc dv K k B L Dk F q u T lg) : ∀ k, k < L.length → ∃ b, L[k]? = some (some b) := fun i hi => ⟨_, h.le i (by rw [← h.ll]; exact hi)⟩
theorem Ru.pres (h : Ru w0 wr pool tp x p gd gc dv K k B L Dk F q u T lg) : pres L L.length ≠ [] := pres_mem (h.le 0 (by have := h.l2; omega)) (by have := h.ll; have := h.l2; omega)
theorem Ru.ixs (h : Ru w0 wr pool tp x p gd gc dv K k B L Dk F q u T lg) : ∀ i, i < tp.l → i ∈ ixs F tp.l := mem_ixs_of h.ixe
theorem Ru.psl (h : Ru w0 wr pool tp x p gd gc dv K k B L Dk F q u T lg) : ∀ y ∈ Proofs.YtolknnmaadkgiaaGreatDoor.pres L L.length, (F y.1).ix < tp.l := fun y hy => by
 have h1 := (pres_in hy).1
 rw [h.ll] at h1
 rw [h.ixe _ h1]
 exact h1
theorem Ru.pix (h : Ru w0 wr pool tp x p gd gc dv K k B L Dk F q u T lg) : ∀ i, i ∈ (Proofs.YtolknnmaadkgiaaGreatDoor.pres L L.length).map (fun y => (F y.1).ix) ↔ i < tp.l := fun i => by
 constructor
 · intro hi
   obtain ⟨y, hy, rfl⟩ := List.mem_map.1 hi
   exact h.psl y hy
 · intro hi
   refine List.mem_map.2 ⟨(i, (F i).b), ?_, h.ixe i hi⟩
   unfold Proofs.YtolknnmaadkgiaaGreatDoor.pres
   exact List.mem_filterMap.2 ⟨i, List.mem_range.2 (by rw [h.ll]; exact hi), by rw [h.le i hi]⟩
theorem ru_write (h : Ru w0 wr pool tp x p gd gc dv K k B L Dk F q u T lg) (ho : T.P.on) (hw : T.P.waits.length ≤ 900000000)
   (a : Nat) (b : List UInt8) (h1 : 1 ≤ b.length) (h2 : b.length ≤ 1024) (ha : a + need b.length ≤ 32) (kd : Nat) (s : S4) (tx : Nat) (ht1 : 1 ≤ tx) (ht2 : tx ≤ 281474976710656) (A : Option Addr) (c : Nat) (hA : At wr A b) (hF : Far wr p tp.l K A)
   (hO : ∀ V, At V A b → Calls Tryz.prog 52 #[.int .i64 (kd : Int), .slice A b.length c] V fun e w' => e = .returned (.tuple #[.agg #[.int .u64 (s.a : Int), .int .u64 (s.b : Int), .int .u64 (s.c : Int), .int .u64 (s.d : Int)], .int .i64 0]) ∧ Keeps Non V w') :
   Calls Tryz.prog 16 #[.pointer (some ⟨k, 0, none⟩), .int .i64 0, .int .i64 (a : Int), .slice A b.length c, .int .i64 (kd : Int), .int .u64 (tx : Int)] wr fun e w' => ∃ W, e = .returned (.tuple #[.agg #[.int .i64 0, .int .i64 (a : Int), .int .i64 (b.length : Int), .int .u64 (tx : Int), .int .i64 (kd : Int), .int .u64 (s.a : Int), .int .u64 (s.b : Int), .int .u64 (s.c : Int), .int .u64 (s.d : Int)], .int .i64 0]) ∧ Ru w0 w' pool tp x p gd gc dv K k B L Dk F q u (T.all (Proofs.YtolknnmaadkgiaaGreatDoor.ixs F tp.l) (fun f => updN f (274 + a) (need b.length) (pad b)) W) lg ∧ W.length ≤ 40 ∧ Of K (Proofs.YtolknnmaadkgiaaGreatDoor.ixs F tp.l) W ∧ Keeps (Fg wr p tp.l K) wr w' := by
 have hl := h.l2
 have hll := h.ll
 have hc := write_tk h.tk h.gs h.lv h.all (by omega) (by decide) rfl ho hw a b h1 h2 ha kd s tx ht1 ht2 A c hA hF hO
 rw [hll] at hc
 refine hc.mono ?_
 rintro e w' ⟨W, rfl, hG, hWl, hWo, hK⟩
 exact ⟨W, rfl, h.fg hK hG, by omega, hWo, hK⟩
theorem ru_mark (h : Ru w0 wr pool tp x p gd gc dv K k B L Dk F q u T lg) (hpool : pool < 18446744073709551616) (ho : T.P.on) (hw : T.P.waits.length ≤ 900000000)
   (txg note : Nat) (r : Pt) (h1 : 1 ≤ txg) (h2 : txg ≤ 281474976710656) (hno : note < 18446744073709551616) (hro : r.ok) (hrb : r.bi ≤ txg) :
   Calls Tryz.prog 17 #[.pointer (some ⟨k, 0, none⟩), .agg #[.int .u64 (pool : Int), .int .u64 (txg : Int), .int .u64 (note : Int), .int .i64 (r.t : Int), .int .i64 (r.at_ : Int), .int .i64 (r.n : Int), .int .u64 (r.bi : Int), .int .i64 (r.k : Int), .int .u64 (r.s.a : Int), .int .u64 (r.s.b : Int), .int .u64 (r.s.c : Int), .int .u64 (r.s.d : Int)]] wr fun e w' => ∃ W, e = .returned (.int .i64 0) ∧ Ru w0 w' pool tp x p gd gc dv K k B L Dk F q u (T.all (Proofs.YtolknnmaadkgiaaGreatDoor.ixs F tp.l) (fun f => updL f (marks 324 txg) (uberB pool txg note r)) W) lg ∧ W.length ≤ 20 ∧ Of K (Proofs.YtolknnmaadkgiaaGreatDoor.ixs F tp.l) W ∧ Keeps (Fg wr p tp.l K) wr w' := by
 have hl := h.l2
 have hll := h.ll
 have hc := mark_tk h.tk h.gs h.lv h.all (by omega) (fun j hj => ⟨Lk.no, by rw [List.getElem?_replicate, if_pos (by omega)], rfl⟩) (fun _ => rfl) hpool (by decide) ho hw txg note r h1 h2 hno hro hrb
 rw [hll] at hc
 refine hc.mono ?_
 rintro e w' ⟨W, rfl, hG, hWl, hWo, hK⟩
 exact ⟨W, rfl, h.fg hK hG, by omega, hWo, hK⟩
theorem ru_flush (h : Ru w0 wr pool tp x p gd gc dv K k B L Dk F q u T lg) (ho : T.P.on) (hw : T.P.waits.length ≤ 1000000000) (hO : ∀ y ∈ T.P.waits, ∃ i, i < tp.l ∧ y.d = (K i).d) :
   Calls Tryz.prog 9 #[.pointer (some ⟨k, 0, none⟩)] wr fun e w' => e = .returned (.int .i64 0) ∧ ∃ T', Ru w0 w' pool tp x p gd gc dv K k B L Dk F q u T' lg ∧ T'.f = T.f ∧ (∀ i, i < tp.l → T'.g i = T.f i) ∧ T'.P = ⟨[], T.P.left, T.P.off⟩ ∧ Keeps (Fg wr p tp.l K) wr w' := by
 have hl := h.l2
 have hll := h.ll
 refine (flush_tk h.tk h.gs h.lv (by omega) h.pres ho hw).mono ?_
 rintro e w' ⟨rfl, hG, hK⟩
 refine ⟨rfl, _, h.fg hK hG, rfl, fun i hi => if_pos ((h.pix i).2 hi), ?_, hK⟩
 have := flN_none (K := K) (T := T) (I := (Proofs.YtolknnmaadkgiaaGreatDoor.pres L L.length).map fun y => (F y.1).ix) fun y hy => by
   obtain ⟨i, hi, e⟩ := hO y hy
   exact ⟨i, (h.pix i).2 hi, e⟩
 show (⟨_, _, _⟩ : Pow) = _
 rw [← this]
 rfl
theorem ru_logWrite (h : Ru w0 wr pool tp x p gd gc dv K k B L Dk F q u T lg) (ho : T.P.on) (hw : T.P.waits.length ≤ 100000) (hlg1 : 1 ≤ lg) (hlg2 : lg ≤ 1000000)
   (at_ : Nat) (b : List UInt8) (hb : at_ + b.length ≤ 22528) (A : Option Addr) (c : Nat) (hA : At wr A b) (hc : b.length ≤ c) (hF : Far wr p tp.l K A) (hAk : ∀ ad, A = some ad → ad.block ≠ k) :
   Calls Tryz.prog 8 #[.pointer (some ⟨k, 0, none⟩), .int .i64 (at_ : Int), .slice A b.length c] wr fun e w' => ∃ v W lg', e = .returned (.int .i64 0) ∧ Ru w0 w' pool tp x p gd gc dv K k B L Dk F q u (T.ov (Proofs.YtolknnmaadkgiaaGreatDoor.ixs F tp.l) v W) lg' ∧ lg ≤ lg' ∧ lg' ≤ lg + b.length ∧ Lw K (Proofs.YtolknnmaadkgiaaGreatDoor.ixs F tp.l) v W ∧ W.length ≤ 5 * b.length ∧ logD (T.ov (Proofs.YtolknnmaadkgiaaGreatDoor.ixs F tp.l) v W) F (Proofs.YtolknnmaadkgiaaGreatDoor.pres L L.length) = mid (logD T F (Proofs.YtolknnmaadkgiaaGreatDoor.pres L L.length)) b at_ b.length ∧ Keeps (fun g => Fg wr p tp.l K g ∨ g = k) wr w' := by
 have hl := h.l2
 have hll := h.ll
 have hc := logWrite_tk h.tk h.gs h.lv h.all (by omega) (by decide) ho hw hlg1 hlg2 h.nk at_ b hb A c hA hc hF hAk
 rw [hll] at hc ⊢
 refine hc.mono ?_
 rintro e w' ⟨v, W, lg', rfl, hT, h1, h2, hG, hW, hWl, hD, hK⟩
 exact ⟨v, W, lg', rfl, h.fgk hK hG hT, h1, h2, hW, hWl, hD, hK⟩
theorem ru_up (h : Ru w0 wr pool tp x p gd gc dv K k B L Dk F q u T lg) (hW : T.P.waits.length ≤ 1099511627776) (st : List Bool) (sA : Option Addr) (sc : Nat) (hS : AtB wr sA st) (hSF : ∀ ad, sA = some ad → ¬ Fu p tp.l K ad.block) (hst : st.length ≤ 1099511627776000) :
   Calls Tryz.prog 11 #[.pointer (some ⟨p, 0, none⟩), .slice sA st.length sc] wr fun e w' => e = .returned (.tuple #[]) ∧ ∃ f : Nat → Nat → List UInt8, Ru w0 w' pool tp x p gd gc dv K k B L Dk F q u ⟨f, f, ⟨[], -1, false⟩⟩ lg ∧ (∀ i q, i < tp.l → q < 324 → f i q = T.g i q ∨ ∃ y ∈ T.P.waits, y.d = (K i).d ∧ y.at_ = q ∧ f i q = y.b) ∧ Keeps (Fg wr p tp.l K) wr w' := by
 have hl := h.l2
 refine (gs_up h.gs hW (by omega) st sA sc hS hSF hst).mono ?_
 rintro e w' ⟨rfl, f, hG, hf, hK⟩
 exact ⟨rfl, f, h.fg hK hG, hf, hK⟩
theorem ru_logRead (h : Ru w0 wr pool tp x p gd gc dv K k B L Dk F q u T lg) (ho : T.P.off = false) (at_ many : Nat) (ha : at_ + many ≤ 22528) :
   Calls Tryz.prog 10 #[.pointer (some ⟨k, 0, none⟩), .int .i64 (at_ : Int), .int .i64 (many : Int)] wr fun e w' => ∃ v, e = .returned (.tuple #[v, .int .i64 0]) ∧ OwnB w' wr.heap.size 5 v (((logD T F (Proofs.YtolknnmaadkgiaaGreatDoor.pres L L.length)).drop at_).take many) ∧ Keeps Non wr w' := by
 have hl := h.l2
 have hll := h.ll
 exact logRead_tk h.tk h.gs h.lv (by omega) (by decide) ho at_ many ha
end
end Go.Proofs.YtolknnmaadkgiaaGreatDoor
namespace Go.Proofs.YtolknnmaadkgiaaGreatDoor
set_option maxRecDepth 100000
open Go.RowKit Go.Uc Go.Shelf
theorem bst_one {hd : Nat → Option UB} {L : List (Option Nat)} {i b : Nat} : ∀ l, (∀ q, q < l → L[q]? = some (if q = i then some b else none)) → bst hd L l = if i < l then later UB.zero (hd i) else UB.zero
 | 0, _ => by rw [bst, if_neg (by omega)]
 | l + 1, h => by
   rw [bst, h l (by omega), bst_one l fun q hq => h q (by omega)]
   by_cases e : l = i
   · subst e
     rw [if_pos rfl, if_neg (by omega), if_pos (by omega)]
   · rw [if_neg e]
     by_cases c : i < l
     · rw [if_pos c, if_pos (by omega)]
     · rw [if_neg c, if_neg (by omega)]
theorem who_one (pool i q : Nat) : who (fun _ => pool) (fun _ => i) pool q 1 = if q = i then some 0 else none := by
 rw [who, who]
 by_cases e : q = i
 · subst e
   simp
 · simp [e, Ne.symm e]
def txO : Option UB → Nat
 | some u => u.txg
 | none => 0
def Dec (dec : Nat → Nat → Option UB) (uo : Option UB) : Prop := (uo = none ∧ ∀ j i, dec j i = none) ∨ ∃ u t, t < 8 ∧ uo = some u ∧ (dec = fun _ i => if i = t then some u else none) ∧ 1 ≤ u.txg ∧ u.txg ≤ 281474976710656
section
variable {w0 wr w' : World} {pool x p gd gc k q u lg : Nat} {tp : Tp} {dv : Sl} {K : Nat → Kb} {B : TB} {L Dk : List (Option Nat)} {F : Nat → Lr} {T T' : St}
theorem ubers_dec (hG : Gs w0 wr p dv tp.l 324 K T) {i lf : Nat} {X : Lb} {tA : Option Addr} {tc : Nat} (hi : i < tp.l) (hl : Lq w0 wr lf (K i).d X tA tc) (ho : T.P.off = false) (hp : X.pool < 18446744073709551616) {dec : Nat → Nat → Option UB} {uo : Option UB} (hR : Rng 324 X.pool (T.f i) dec) (hd : Dec dec uo) :
   Calls Tryz.prog 55 #[.pointer (some ⟨lf, 0, none⟩)] wr fun e w' => ∃ (mA : Option Addr) (mc : Nat) (M : List UB), e = .returned (.slice mA M.length mc) ∧ RowB w' (.slice mA M.length mc) M ∧ M.head? = uo ∧ M.length ≤ 19 ∧ Keeps Non wr w' := by
 rcases hd with ⟨rfl, hn⟩ | ⟨u, t, ht, rfl, rfl, -, -⟩
 · refine (gs_ubers hG hi hl (by decide) ho hp dec (fun j q hj hq => hR j q hj hq) [] (by decide) (fun j q v _ _ e => by rw [hn] at e; cases e)).mono ?_
   rintro e w' ⟨mA, mc, M, rfl, h1, -, -, h4, h5, -, h7⟩
   refine ⟨mA, mc, M, rfl, h1, ?_, h5, h7⟩
   cases M with
   | nil => rfl
   | cons a r =>
     obtain ⟨j, i, -, -, e⟩ := (h4 a).1 (List.mem_cons_self ..)
     rw [hn] at e; cases e
 · refine (gs_ubers hG hi hl (by decide) ho hp _ (fun j q hj hq => hR j q hj hq) [u] (by simp) (fun j q v _ _ e => by
     by_cases c : q = t
     · simp only [if_pos c] at e; injection e with e; subst e; exact List.mem_cons_self ..
     · simp only [if_neg c] at e; cases e)).mono ?_
   rintro e w' ⟨mA, mc, M, rfl, h1, h2, -, h4, h5, -, h7⟩
   have hM := one_uber ht h2 h4
   exact ⟨mA, mc, M, rfl, h1, by rw [hM]; rfl, h5, h7⟩
theorem ru_import1 (h : Ru w0 wr pool tp x p gd gc dv K k B L Dk F q u T lg) (ho : T.P.off = false) (htp : tp.ok) (hk2 : tp.k = 2) (hts : tp.s = 324) (hpool : pool < 18446744073709551616) {dec : Nat → Nat → Option UB} {dt lgf : Nat → List UInt8} {uo : Option UB} (hA : Aw tp.l pool tp T.f dec dt lgf) (hd : Dec dec uo) (i : Nat) (hi : i < tp.l) {gb cd : Nat} (hcd : 1 ≤ cd) (hc : wr.cell? ⟨gb, 0, none⟩ = some (.pointer (some ⟨(K i).d, 0, none⟩))) :
   Calls Tryz.prog 12 #[.slice (some ⟨gb, 0, none⟩) 1 cd] wr fun e w' => ∃ k B L Dk F lg, e = .returned (.tuple #[.pointer (some ⟨k, 0, none⟩), .int .i64 0]) ∧ Fo w0 wr w' p tp.l 324 dv K T pool tp 1 (fun _ => i) (fun _ => pool) (fun _ => i) k B L Dk F lg (txO uo) := by
 have hI : Ip w0 wr p tp.l 324 dv K T pool tp 1 (fun _ => i) (fun _ => pool) (fun _ => i) gb 0 cd := ⟨h.gs, ho, by decide, by decide, by decide, htp, hk2, hts, rfl, fun _ _ => hpool, fun _ _ => hi, fun _ _ => hi, fun a b ha hb hne => absurd (show a = b by omega) hne, fun _ _ => hA.lb i hi, hcd, fun j hj => by
   obtain rfl : j = 0 := by omega
   exact hc⟩
 have htx : txO uo ≤ 281474976710656 := by
   rcases hd with ⟨rfl, -⟩ | ⟨u, t, -, rfl, -, -, h2⟩
   · exact Nat.zero_le _
   · exact h2
 refine import_one hI (fun q => if q = i then uo else none) (fun V q' i' lf tA tc hw hG hl => ?_) (txO uo) htx (fun L f hL hle => ?_) (fun q' i' hw => ?_)
 · rw [who_one] at hw
   by_cases e : q' = i
   · subst e
     rw [if_pos rfl]
     exact ubers_dec hG hi hl ho hpool (hA.rg _ hi) hd
   · rw [if_neg e] at hw; cases hw
 · rw [bst_one (i := i) (b := f i) tp.l (fun q hq => by
     rw [hle q hq, who_one]
     by_cases e : q = i
     · subst e; rw [if_pos rfl, if_pos rfl]; rfl
     · rw [if_neg e, if_neg e]; rfl), if_pos hi, if_pos rfl]
   rcases hd with ⟨rfl, -⟩ | ⟨u, t, -, rfl, -, h1, -⟩
   · rfl
   · show (if UB.zero.txg < u.txg then u else UB.zero).txg = u.txg
     rw [if_pos (show UB.zero.txg < u.txg from h1)]
 · rw [who_one] at hw
   by_cases e : q' = i
   · rw [if_pos e]
     rcases hd with ⟨rfl, -⟩ | ⟨u, t, -, rfl, -, -, -⟩
     · exact .inl rfl
     · exact .inr fun hh => by cases hh
   · rw [if_neg e] at hw; cases hw
end
section
variable {w0 w w' : World} {p k lg tx i : Nat} {pool : Nat} {tp : Tp} {dv : Sl} {K : Nat → Kb} {B : TB} {L Dk : List (Option Nat)} {F : Nat → Lr} {T : St}
theorem Fo.one (h : Fo w0 w w' p tp.l 324 dv K T pool tp 1 (fun _ => i) (fun _ => pool) (fun _ => i) k B L Dk F lg tx) (hi : i < tp.l) : L[i]? = some (some (F i).b) ∧ (∀ q, q < tp.l → q ≠ i → L[q]? = some none) ∧ Dk[i]? = some (some (K i).d) ∧ (∀ q, q < tp.l → q ≠ i → Dk[q]? = some none) ∧ (F i).ix = i := by
 refine ⟨?_, fun q hq hne => ?_, ?_, fun q hq hne => ?_, ?_⟩
 · rw [h.le i hi, who_one, if_pos rfl]; rfl
 · rw [h.le q hq, who_one, if_neg hne]; rfl
 · rw [h.de i hi, who_one, if_pos rfl]; rfl
 · rw [h.de q hq, who_one, if_neg hne]; rfl
 · exact h.ixe i 0 (by rw [who_one, if_pos rfl])
theorem Fo.pres1 (h : Fo w0 w w' p tp.l 324 dv K T pool tp 1 (fun _ => i) (fun _ => pool) (fun _ => i) k B L Dk F lg tx) (hi : i < tp.l) : pres L L.length ≠ [] ∧ ∀ y ∈ pres L L.length, (F y.1).ix < tp.l := by
 obtain ⟨h1, h2, -, -, h5⟩ := h.one hi
 refine ⟨pres_mem h1 (by rw [h.ll]; exact hi), fun y hy => ?_⟩
 obtain ⟨a, b⟩ := pres_in hy
 rw [h.ll] at a
 by_cases e : y.1 = i
 · rw [e, h5]; exact hi
 · rw [h2 _ a e] at b
   injection b with b
   cases b
end
end Go.Proofs.YtolknnmaadkgiaaGreatDoor
namespace Go.Proofs.YtolknnmaadkgiaaGreatDoor
set_option maxRecDepth 100000
open Go.RowKit Go.Uc Go.Shelf
def fl4 (b : List UInt8) : S4 := toS4 (rn0.add b).value
theorem fl4_ok (b : List UInt8) : (fl4 b).ok := ⟨BitVec.isLt _, BitVec.isLt _, BitVec.isLt _, BitVec.isLt _⟩
theorem fl4_v (b : List UInt8) : (rn0.add b).value.v = .agg #[.int .u64 ((fl4 b).a : Int), .int .u64 ((fl4 b).b : Int), .int .u64 ((fl4 b).c : Int), .int .u64 ((fl4 b).d : Int)] := rfl
theorem at_pre {w : World} {A : Option Addr} {xs ys : List UInt8} (h : At w A (xs ++ ys)) : At w A xs := fun i hi => by
 obtain ⟨ad, e, hc⟩ := h i (by simp; omega)
 refine ⟨ad, e, ?_⟩
 rw [hc, List.getElem_append_left hi]
theorem fl_of {A : Option Addr} {c : Nat} {b : List UInt8} (hc : b.length ≤ c) (hn : b.length ≤ 1024) : ∀ V, At V A b → Calls Tryz.prog 52 #[.int .i64 ((1 : Nat) : Int), .slice A b.length c] V fun e w' => e = .returned (.tuple #[.agg #[.int .u64 ((fl4 b).a : Int), .int .u64 ((fl4 b).b : Int), .int .u64 ((fl4 b).c : Int), .int .u64 ((fl4 b).d : Int)], .int .i64 0]) ∧ Keeps Non V w' := fun V hA => of1_any A c b V hA hc (by omega)
theorem fl_ck {b : List UInt8} (hn : b.length ≤ 1024) : ∀ V g, Blk V g 5 (pc (pad b)) → Calls Tryz.prog 117 #[.int .i64 ((1 : Nat) : Int), .agg #[.int .u64 ((fl4 b).a : Int), .int .u64 ((fl4 b).b : Int), .int .u64 ((fl4 b).c : Int), .int .u64 ((fl4 b).d : Int)], .slice (some ⟨g, 0, none⟩) b.length (128 * need b.length)] V fun e w' => e = .returned (.bool true) ∧ Keeps Non V w' := fun V g hB => by
 have hA : At V (some ⟨g, 0, none⟩) b := at_pre (At.blk hB)
 have h1 : b.length ≤ 128 * need b.length := by unfold need; omega
 have := check1_any (rn0.add b).value (some ⟨g, 0, none⟩) (128 * need b.length) b V hA h1 (by omega)
 rw [(Sum4.eqv_iff _ _).2 rfl, fl4_v] at this
 exact this
theorem cat_updN {f : Nat → List UInt8} {a m : Nat} {bs : List UInt8} : ∀ k j, j + k ≤ m → cat (updN f a m bs) (a + j) k = (bs.drop (128 * j)).take (128 * k)
 | 0, j, _ => by rw [cat]; simp
 | k + 1, j, h => by
   rw [cat, show a + j + 1 = a + (j + 1) by omega, cat_updN k (j + 1) (by omega)]
   have e : updN f a m bs (a + j) = (bs.drop (128 * j)).take 128 := by
     unfold updN
     rw [if_pos (by omega), show a + j - a = j by omega]
   rw [e, show 128 * (j + 1) = 128 * j + 128 by omega, ← List.drop_drop, show 128 * (k + 1) = 128 + 128 * k by omega, List.take_add]
theorem cat_dt {l pool : Nat} {tp : Tp} {f : Nat → Nat → List UInt8} {dec : Nat → Nat → Option UB} {dt0 lg : Nat → List UInt8} {a : Nat} {b : List UInt8} (h : Aw l pool tp f dec (updN dt0 (274 + a) (need b.length) (pad b)) lg) (ha : a + need b.length ≤ 32) {i : Nat} (hi : i < l) : cat (f i) (274 + a) (need b.length) = pad b := by
 rw [cat_congr (f := updN dt0 (274 + a) (need b.length) (pad b)) _ _ fun q h1 h2 => h.dt i q hi (by omega) (by omega)]
 have := cat_updN (f := dt0) (a := 274 + a) (m := need b.length) (bs := pad b) (need b.length) 0 (by omega)
 rw [Nat.add_zero, Nat.mul_zero, List.drop_zero, List.take_of_length_le (by rw [pad_len]; exact Nat.le_refl _)] at this
 exact this
theorem lstep_len {c : List UInt8} (h : c.length = 128) : (lstep (0, zeros 88) c).2.length = 88 := by
 unfold lstep
 split
 · show ((c.drop 40).take 88).length = 88
   rw [List.length_take, List.length_drop, h]
   rfl
 · exact zeros_length 88
theorem cat_len88 {f : Nat → List UInt8} : ∀ k a, (∀ q, a ≤ q → q < a + k → (f q).length = 88) → (cat f a k).length = 88 * k
 | 0, _, _ => rfl
 | k + 1, a, h => by rw [cat, List.length_append, h a (Nat.le_refl _) (by omega), cat_len88 k (a + 1) fun q h1 h2 => h q (by omega) (by omega)]; omega
theorem Aw.logLen {l pool : Nat} {tp : Tp} {T : St} {dec : Nat → Nat → Option UB} {dt lg : Nat → List UInt8} (h : Aw l pool tp T.f dec dt lg) (hlg : ∀ a, a < 256 → (lg a).length = 128) {F : Nat → Lr} {ps : List (Nat × Nat)} (h0 : ps ≠ []) (hps : ∀ x ∈ ps, (F x.1).ix < l) : (logD T F ps).length = 22528 := by
 unfold logD
 rw [cat_len88 256 0 fun q _ hq => by rw [h.sec h0 hps (by omega)]; exact lstep_len (hlg q (by omega))]
theorem mid_at {D b : List UInt8} {a m : Nat} (hD : a ≤ D.length) (hm : m ≤ b.length) : ((mid D b a b.length).drop a).take m = b.take m := by
 unfold mid
 have h1 : (D.take a).length = a := by rw [List.length_take]; omega
 have h2 := drop_over (P := D.take a) (Q := b.take b.length ++ D.drop (a + b.length)) (r := 0) h1
 rw [Nat.add_zero] at h2
 rw [h2, List.drop_zero, List.take_length, List.take_append_of_le_length hm]
end Go.Proofs.YtolknnmaadkgiaaGreatDoor
namespace Go.Proofs.YtolknnmaadkgiaaGreatDoor
set_option maxRecDepth 100000
open Go.RowKit Go.Uc Go.Shelf
section
variable {w0 w w' : World} {p m n k pool sz lg : Nat} {tp : Tp} {B : TB} {dv : Sl} {K : Nat → Kb} {T : St} {L Dk : List (Option Nat)} {lk : List Lk} {X : Nat → Lb} {F : Nat → Lr}
set_option maxHeartbeats 8000000 in
theorem replace_own (h : Tk w k pool tp B L Dk lk sz lg) (hG : Gs w0 w p dv m n K T) (hL : Lvs w0 w m K X F L) (hpool : pool < 18446744073709551616) (htp : tp.ok) (hts : tp.s = n) (htl : L.length ≤ tp.l) (hsz : sz = n - 292) (ho : T.P.on) (hw : T.P.waits.length ≤ 100000)
   (j : Nat) (hj : j < L.length) (i : Nat) (hi : i < m) (hDk : ∀ b, some b ∈ Dk → b ≠ (K i).d ∧ ∃ cs, Blk w b 110 cs) (hlk : ∃ o, lk[j]? = some o) (hne : ∀ q ∈ own B.dk.v, q ∉ own dv.v) (hnf : ∀ q, q ∈ own B.lf.v ∨ q ∈ own B.dk.v → w0.heap.size ≤ q) (hnf2 : ∀ q, q ∈ own B.lv.v ∨ q ∈ own B.kv.v → w0.heap.size ≤ q)
   (tx : Nat) (ht1 : 1 ≤ tx) (ht2 : tx ≤ 281474976710656) :
   Calls Tryz.prog 25 #[.pointer (some ⟨k, 0, none⟩), .int .i64 0, .int .i64 (j : Int), .pointer (some ⟨(K i).d, 0, none⟩), .int .u64 (tx : Int)] w fun e w' => ∃ lf, e = .returned (.int .i64 0) ∧ Tk w' k pool tp B (L.set j (some lf)) (Dk.set j (some (K i).d)) (lk.set j ⟨1, tx, true⟩) sz lg ∧ Keeps (Tg w p m K B) w w' ∧ Keeps Non w0 w' := by
 have h0 : 0 < L.length := by omega
 obtain ⟨tb, lb, db, fb, gb, hd⟩ := h.hds h0
 have HH := Lib.hid (fun V (hV : Keeps Non w V) => has_tk (h.non hV))
 have HS := Lib.hid (fun V (hV : Keeps Non w V) => gs_sectors (hG.non hV) hi)
 have hT := h.tc hd
 have hfew := h.mt.few
 have hmc : w.cell? ⟨k, 1, none⟩ = some (.slice B.made.A 1 B.made.c) := by have : w.cell? ⟨k, 1, none⟩ = some (.slice B.made.A B.made.n B.made.c) := h.blk.cell 1; rw [h.mdn] at this; exact this
 obtain ⟨mb, cap, em, -, -, hmc2, -, -⟩ := h.md.at_ encT_len (i := 0) (by simp)
 injection em with em emn emc
 subst emc
 clear emn
 have hs2 : w.cell? ⟨mb, 2, none⟩ = some (.int .i64 (n : Int)) := by have := hmc2 2 (by decide); rw [← hts]; exact this
 have c2 := hT.c2
 have c3 := hT.c3
 have cl := hT.cl
 have c4 := hT.c4
 have cd := hT.cd
 rw [em] at hmc
 have d1 : decide (L.length ≤ j) = false := decide_eq_false (by omega)
 have d2 : decide ((281474976710656 : Int) < (tx : Int)) = false := decide_eq_false (by omega)
 have d3 : decide ((j : Int) < 0) = false := decide_eq_false (by omega)
 have HX := Lib.hid (show _ ∧ _ from ⟨h, hG⟩)
 have HIx : Hid (∀ V, Keeps Non w V → Calls Tryz.prog 59 #[.slice (some ⟨gb, 0, none⟩) L.length B.dk.c, .pointer (some ⟨(K i).d, 0, none⟩)] V fun e w' => e = .returned (.int .i64 (-1)) ∧ w' = V) := Lib.hid (fun V (hV : Keeps Non w V) => by
   have := index59_no B.dk h.dkn (h.dk.non hV) (K i).d (let ⟨c, hc⟩ := hG.dk hi; ⟨c, hc.non hV⟩) (fun b hb => ⟨(hDk b hb).1, let ⟨c, hc⟩ := (hDk b hb).2; ⟨c, hc.non hV⟩⟩) (by rw [h.dkl]; omega)
   rw [hd.g, h.dkn, h.dkl] at this
   exact this)
 have HLb : Hid (∀ V, Keeps Non w V → Calls Tryz.prog 47 #[.pointer (some ⟨k, 0, none⟩), .int .i64 0, .int .i64 (j : Int)] V fun e w' => e = .returned (.agg #[.int .u64 (pool : Int), .slice B.made.A 1 B.made.c, .int .i64 0, .int .i64 (j : Int)]) ∧ Keeps Non V w') := Lib.hid (fun V (hV : Keeps Non w V) => labelOf_any (w := V) (k := k) (pool := pool) B.made.A 1 B.made.c 0 j ((h.non hV).blk.cell 0) (by have : V.cell? ⟨k, 1, none⟩ = some (.slice B.made.A B.made.n B.made.c) := (h.non hV).blk.cell 1; rw [h.mdn] at this; exact this))
 have HFm : Hid (∀ V, Keeps Non w V → Calls Tryz.prog 50 #[.pointer (some ⟨(K i).d, 0, none⟩), .agg #[.int .u64 (pool : Int), .slice B.made.A 1 B.made.c, .int .i64 0, .int .i64 (j : Int)]] V fun e w' => ∃ lf tA tc, e = .returned (.tuple #[.pointer (some ⟨lf, 0, none⟩), .int .i64 0]) ∧ V.heap.size ≤ lf ∧ Lq w0 w' lf (K i).d ⟨pool, [tp], 0, j⟩ tA tc ∧ Gs w0 w' p dv m n K (T.fmt i (K i).d n (labelB ⟨pool, [tp], 0, j⟩)) ∧ Keeps (Fg V p m K) V w') := Lib.hid (fun V (hV : Keeps Non w V) => gs_format (x := ⟨pool, [tp], 0, j⟩) (hG.non hV) hi (by rw [← hts]; exact htp.2.1) ho hw ⟨hpool, by simp, by simp, ⟨by simp, by simp; omega⟩, by intro t ht; simp at ht; subst ht; exact htp⟩ (fun _ => hts) B.made.A B.made.c (by have := (h.non hV).md; rw [show B.made.v = .slice B.made.A B.made.n B.made.c from rfl, h.mdn] at this; exact this))
 have HHd := Lib.hid hd
 have HKi := Lib.hid (hDk)
 clear h hG hL hT hDk
 go_enter Tryz.func25, Tryz.ntmps25
 go_upto_region 1 with fail
 obtain ⟨wz, rfl⟩ : ∃ V : World, V = w := ⟨_, rfl⟩
 go_quiet (first
   | (go_at_call 51; exact Calls.quiet_of_same (HH.out _ (by first | exact Keeps.refl _ _ | exact (Keeps.refl _ _).drewN _ | exact (Keeps.refl _ _).drew)))
   | (go_at_call 49; exact Calls.quiet_of_same (HS.out _ (by first | exact Keeps.refl _ _ | exact (Keeps.refl _ _).drewN _ | exact (Keeps.refl _ _).drew))))
 obtain ⟨w1, hw1⟩ : ∃ V : World, V = wz.drewN nq := ⟨_, rfl⟩
 rw [← hw1]
 have k1 : Keeps Non wz w1 := by rw [hw1]; exact (Keeps.refl _ _).drewN nq
 clear hw1 c2 c3 cl c4 cd hmc hmc2 hs2 d1 d2 d3 HH HS hd em
 obtain ⟨wy, rfl⟩ : ∃ V : World, V = w1 := ⟨_, rfl⟩
 have hT1 := (HX.out.1.non k1).tc HHd.out
 have c4 := hT1.c4
 have cd := hT1.cd
 have HI1 := Lib.hid (HIx.out wy k1)
 clear hT1 HIx
 go_upto_region 4 with fail
 go_loopw [63] (fun i wr => ∃ j : Nat, j ≤ 1 ∧ i = .int .i64 (j : Int) ∧ wr = wy) (fun i _ => 1 - (intOf i).toNat)
 case atStart => exact ⟨0, by omega, rfl, rfl⟩
 case round =>
   obtain ⟨j', hj', rfl, rfl⟩ := hrel
   by_cases hj0 : j' = 0
   · subst hj0
     rw [show ((0 : Nat) : Int) = 0 from rfl]
     go_wp2_with (go_at_call 59; go_must (refine HI1.out.mono ?_); rintro e w4 ⟨rfl, hw4⟩; subst w4)
     go_roundw
     case rel => exact ⟨1, by omega, by go_num, by trivial⟩
     case measure => simp [intOf]
   · obtain rfl : j' = 1 := by omega
     clear c4 cd HI1
     have HL1 := Lib.hid (HLb.out _ k1)
     clear HLb
     obtain ⟨wv, rfl⟩ : ∃ V : World, V = wr := ⟨_, rfl⟩
     go_upto_region 13 with (first
       | (go_at_call 47; go_must (refine HL1.out.mono ?_); rintro e w4 ⟨rfl, hK4⟩; have HF4 := Lib.hid (HFm.out w4 (k1.trans hK4)))
       | (go_at_call 50; go_must (refine HF4.out.mono ?_); rintro e w5 ⟨lf, tA, tc, rfl, hlf, hL5, hG5, hK5⟩))
     have HT5 := Lib.hid ((HX.out.1.non (k1.trans hK4)).fg (HX.out.2.non (k1.trans hK4)) hK5)
     have HK5 := Lib.hid (show Keeps (Fg wz p m K) wz w5 from fg_trans (fg_non (k1.trans hK4)) hK5)
     have HG5 := Lib.hid (And.intro hG5 (And.intro hL5 hlf))
     clear hG5 hL5 hlf hK5 HF4 HL1 HFm
     have hT5 := HT5.out.tc HHd.out
     obtain ⟨cf, hf⟩ := row_blk HT5.out.lf HHd.out.f
     obtain ⟨cg, hg⟩ := row_blk HT5.out.dk HHd.out.g
     obtain ⟨cl', hl'⟩ := row_blk HT5.out.lr HHd.out.l
     obtain ⟨cd', hd'⟩ := row_blk HT5.out.dr HHd.out.d
     have n1 : k ≠ fb := HT5.out.blk.ne hf (by decide)
     have n2 : k ≠ gb := HT5.out.blk.ne hg (by decide)
     have n3 : lb ≠ fb := hl'.ne hf (by decide)
     have n4 : lb ≠ gb := hl'.ne hg (by decide)
     have n5 : db ≠ fb := hd'.ne hf (by decide)
     have n6 : db ≠ gb := hd'.ne hg (by decide)
     have n7 : fb ≠ gb := hf.ne hg (by decide)
     have c3 := hT5.c3
     have cl := hT5.cl
     have c4 := hT5.c4
     have cd := hT5.cd
     have cf1 := hT5.cf j _ (List.getElem?_eq_getElem hj)
     have cg1 := hT5.cg j _ (List.getElem?_eq_getElem (by rw [HT5.out.dkl]; exact hj))
     have ff := hf.frozen j
     have fg := hg.frozen j
     have hji : (j : Int) < (L.length : Int) := by omega
     clear hT5 hl' hd' hf hg
     go_region
     have hlt := HT5.out.dkl
     obtain ⟨r1, k61⟩ := row_set1 encO_len HT5.out.lf HT5.out.lfn HHd.out.f hj (some lf) (v := .pointer (some ⟨lf, 0, none⟩)) rfl
     have rd := HT5.out.dk.keep k61 (fun q hq e => by rw [own_sl HHd.out.g, List.mem_singleton] at hq; unfold Only at e; omega)
     obtain ⟨r2, k62⟩ := row_set1 encO_len rd HT5.out.dkn HHd.out.g (i := j) (by rw [hlt]; exact hj) (some (K i).d) (v := .pointer (some ⟨(K i).d, 0, none⟩)) rfl
     have r1' := r1.keep k62 (fun q hq e => by rw [own_sl HHd.out.f, List.mem_singleton] at hq; unfold Only at e; omega)
     have kk : Keeps (fun g => g = fb ∨ g = gb) w5 ((w5.setCell ⟨fb, j, none⟩ (.pointer (some ⟨lf, 0, none⟩))).setCell ⟨gb, j, none⟩ (.pointer (some ⟨(K i).d, 0, none⟩))).drew := ((k61.mono fun q e => Or.inl e).trans (k62.mono fun q e => Or.inr e)).drew
     have r1'' := r1'.keep (Keeps.drew (Keeps.refl Non _)) (fun q hq e => e)
     have r2'' := r2.keep (Keeps.drew (Keeps.refl Non _)) (fun q hq e => e)
     have hgf : Gs w0 ((w5.setCell ⟨fb, j, none⟩ (.pointer (some ⟨lf, 0, none⟩))).setCell ⟨gb, j, none⟩ (.pointer (some ⟨(K i).d, 0, none⟩))).drew p dv m n K (T.fmt i (K i).d n (labelB ⟨pool, [tp], 0, j⟩)) := by
       obtain ⟨cf, hf⟩ := row_blk HT5.out.lf HHd.out.f
       obtain ⟨cg, hg⟩ := row_blk HT5.out.dk HHd.out.g
       exact ((HG5.out.1.far hf (by decide) (by decide) (by decide) (by decide) (by decide) (hnf _ (.inl (by rw [own_sl HHd.out.f]; exact List.mem_singleton.2 rfl))) k61).far49 (hg.one k61 (Ne.symm n7)) (hne gb (by rw [own_sl HHd.out.g]; exact List.mem_singleton.2 rfl)) (hnf _ (.inr (by rw [own_sl HHd.out.g]; exact List.mem_singleton.2 rfl))) k62).non (Keeps.drew (Keeps.refl Non _))
     clear r1 rd r2 r1' k61 k62
     obtain ⟨w6, hw6⟩ : ∃ V : World, V = ((w5.setCell ⟨fb, j, none⟩ (.pointer (some ⟨lf, 0, none⟩))).setCell ⟨gb, j, none⟩ (.pointer (some ⟨(K i).d, 0, none⟩))).drew := ⟨_, rfl⟩
     rw [← hw6] at kk r1'' r2'' hgf ⊢
     clear hw6
     obtain ⟨hM6, hP6⟩ := HT5.out.put2 HHd.out j (some lf) (some (K i).d) r1'' r2'' kk
     have hq6 : Lq w0 w6 lf (K i).d ⟨pool, [tp], 0, j⟩ tA tc := by
       obtain ⟨cf, hf⟩ := row_blk HT5.out.lf HHd.out.f
       obtain ⟨cg, hg⟩ := row_blk HT5.out.dk HHd.out.g
       have hl := HG5.out.2.1
       refine ⟨hl.blk.keep kk ?_, hl.ts.keep kk ?_, hl.new⟩
       · rintro (e | e)
         · exact hl.blk.ne hf (by decide) e
         · exact hl.blk.ne hg (by decide) e
       · rintro q hq (e | e)
         · subst e; exact own_type hl.ts hf (by decide) hq
         · subst e; exact own_type hl.ts hg (by decide) hq
     have HSz : Hid (∀ V, Keeps Non w6 V → Calls Tryz.prog 135 #[.pointer (some ⟨lf, 0, none⟩)] V fun e w' => e = .returned (.int .i64 (sz : Int)) ∧ w' = V) := Lib.hid (fun V hV => by
       rw [hsz]
       exact gs_size (hgf.non hV) hi (hq6.non hV) (by rw [← hts]; exact htp.2.1))
     have HPu := Lib.hid (put_any hM6 j hj lf HSz.out)
     have hcell : ∀ V, Keeps (fun g => g ∈ own B.lv.v ∨ g ∈ own B.kv.v) w6 V → V.cell? ⟨k, 2, none⟩ = some (.slice (some ⟨tb, 0, none⟩) 1 B.tops.c) ∧ V.cell? ⟨tb, 0, none⟩ = some (.iface 183 (.pointer (some ⟨B.t, 0, none⟩))) := fun V hV => by
       have hT5 := HT5.out.tc HHd.out
       obtain ⟨cf, hf⟩ := row_blk HT5.out.lf HHd.out.f
       obtain ⟨cg, hg⟩ := row_blk HT5.out.dk HHd.out.g
       obtain ⟨ct, ht⟩ := row_blk HT5.out.tr HHd.out.t
       have hb6 := HT5.out.blk.keep kk (fun e => e.elim (fun e => n1 e) (fun e => n2 e))
       have ht6 := ht.keep kk (fun e => e.elim (fun e => ht.ne hf (by decide) e) (fun e => ht.ne hg (by decide) e))
       have c2 := kk.cell hT5.c2 (fun e => e.elim (fun e => n1 e) (fun e => n2 e))
       have ct := kk.cell hT5.ct (fun e => e.elim (fun e => ht.ne hf (by decide) e) (fun e => ht.ne hg (by decide) e))
       exact ⟨hV.cell c2 (fun e => e.elim (fun e => own_type hM6.lr hb6 (by decide) e) (fun e => own_type hM6.kr hb6 (by decide) e)), hV.cell ct (fun e => e.elim (fun e => own_type hM6.lr ht6 (by decide) e) (fun e => own_type hM6.kr ht6 (by decide) e))⟩
     have HC := Lib.hid hcell
     have HP := Lib.hid (And.intro hP6 kk)
     have HKg := Lib.hid hgf.keep
     have HLk := Lib.hid hlk
     obtain ⟨t2, t0⟩ := hcell w6 (Keeps.refl _ _)
     clear hcell hP6 hM6 hq6 hgf r1'' r2'' kk c3 cl c4 cd cf1 cg1 ff fg n1 n2 n3 n4 n5 n6 n7 hlt hlk HSz HG5
     go_upto_region 15 with (go_at_call 281; go_must (refine HPu.out.mono ?_); rintro e w7 ⟨rfl, hM7, hK7⟩)
     obtain ⟨u2, u0⟩ := HC.out w7 hK7
     have HBe : Hid (Calls Tryz.prog 277 #[.pointer (some ⟨B.t, 0, none⟩), .int .i64 (j : Int), .agg #[.int .u64 1, .int .u64 (tx : Int)]] w7 fun e w' => e = .returned (.int .i64 0) ∧ Mt w' B.t B.lv B.kv (L.set j (some lf)) (lk.set j ⟨1, tx, true⟩) (sz : Int) ∧ Keeps (fun g => g ∈ own B.kv.v) w7 w') := Lib.hid (by
       have hjl : j < lk.length := by
         obtain ⟨o, e⟩ := HLk.out
         rcases Nat.lt_or_ge j lk.length with h | h
         · exact h
         · rw [List.getElem?_eq_none h] at e; cases e
       have := behind_mt hM7 j (by rw [List.length_set]; exact hj) Lk.no (by rw [List.getElem?_set_self hjl]) rfl 1 tx (by omega) ht1 ht2
       rw [List.set_set] at this
       exact this)
     have h1t : (0 : Int) < (tx : Int) := by omega
     have HK7 := Lib.hid hK7
     clear hM7 hK7 t2 t0 HPu
     go_wp2_with (go_at_call 277; go_must (refine HBe.out.mono ?_); rintro e w8 ⟨rfl, hM8, hK8⟩)
     go_ret
     have hk8 := HK7.out.trans (hK8.mono fun q e => Or.inr e)
     refine ⟨lf, rfl, HP.out.1 _ _ hk8 hM8, ?_, HKg.out.then hk8 fun i hi e => by have := hnf2 i e; omega⟩
     refine ((HK5.out.mono fun q e => Or.inl e).trans (HP.out.2.mono fun q e => ?_)).trans (hk8.mono fun q e => ?_)
     · rcases e with e | e
       · exact .inr (.inl (by rw [own_sl HHd.out.f]; exact List.mem_singleton.2 e))
       · exact .inr (.inr (.inl (by rw [own_sl HHd.out.g]; exact List.mem_singleton.2 e)))
     · rcases e with e | e
       · exact .inr (.inr (.inr (.inl e)))
       · exact .inr (.inr (.inr (.inr e)))
end
end Go.Proofs.YtolknnmaadkgiaaGreatDoor
