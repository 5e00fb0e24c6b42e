/- A pair of tables; Look upon it. -/
import Derived.Test.YtmlffigfhhoihacS24
import Derived.StillTailTactics
namespace Go.Proofs.Ytmlffigfhhoihac
open Go.RowKit Go.Uc

/-- A table of the program, and the document's. -/
structure PD where
  g : Nat
  ok : Option Nat
  K : Nat → Rp
  f : Int
  a : Int
  r : Int
  q : Nat
/-- The document's row is not the table's. -/
def Sep (w : World) (q : Nat) (ok : Option Nat) : Prop := ∀ v k, w.cell? ⟨q, 0, none⟩ = some v → v.ownBlock = some k → ok ≠ some k
structure PairAt (w0 w : World) (B gp : Nat) (x : PD) : Prop where
  tab : Tab w B (fun _ => True) x.g x.ok x.K x.f x.a x.r
  doc : Doc w0 w B x.q x.K x.f x.a x.r
  good : Good x.K
  ptr : Blk w gp 47 #[.pointer (some ⟨x.g, 0, none⟩), .pointer (some ⟨x.q, 0, none⟩)]
  sep : Sep w x.q x.ok
/-- What a call on a pair may turn. -/
def Foot (x : PD) (k : Nat) : Prop := k = x.g ∨ x.ok = some k ∨ k = x.q
/-- What a call on a pair leaves. -/
def DoneP (w0 : World) (B gp : Nat) (x : PD) (w : World) (e : Ending) (w' : World) : Prop :=
  ∃ x', e = .returned (.bool true) ∧ x'.g = x.g ∧ x'.q = x.q ∧ PairAt w0 w' B gp x' ∧ Ext w x.ok x'.ok ∧ VNew w w' x.q ∧ Keeps (Foot x) w w'

section lems
variable {w w' : World} {S : Nat → Prop} {B g : Nat} {ok : Option Nat} {A : Nat → Prop} {K : Nat → Rp} {f a r : Int} {l d : Value} {p : Rp} {N : Nat}
theorem Tab.tight (h : Tab w B A g ok K f a r) : Tab w B (fun k => k < w.heap.size) g ok K f a r := by
  rcases h with h | ⟨gk, h1, h2⟩
  · exact .inl h
  · obtain ⟨cur, c1, c2, c3⟩ := h2.row
    refine .inr ⟨gk, h1, ⟨h2.lowg, h2.lowk, h2.tb, ⟨cur, c1, c2, fun i hi => ?_⟩, h2.fine⟩⟩
    obtain ⟨l, d, x0, x1, x2, x3, x4, x5, x6, hr, -, -⟩ := c3 i hi
    exact ⟨l, d, x0, x1, x2, x3, x4, x5, x6, hr, fun k hk => (World.ownsRow.lt hr.1 k hk).2, fun k hk => (World.ownsRow.lt hr.2 k hk).2⟩
theorem Tab.keep (h : Tab w B A g ok K f a r) (hk : Keeps S w w') (hg : ¬ S g) (hok : ∀ gk, ok = some gk → ¬ S gk) (hS : ∀ k, k < w.heap.size → S k → ¬ A k ∨ ∃ t cs, Blk w k t cs ∧ t ≠ 9 ∧ t ≠ 5) : Tab w' B A g ok K f a r := by
  rcases h with ⟨h1, h2, h3, h4⟩ | ⟨gk, h1, h2⟩
  · exact .inl ⟨h1, h2, h3.keep hk hg, h4⟩
  · exact .inr ⟨gk, h1, h2.keep hk hg (hok gk h1) hS⟩
/-- The blocks of a reply's own slices. -/
def Spo (l d : Value) (k : Nat) : Prop := l.ownBlock = some k ∨ d.ownBlock = some k
theorem RpO.typed {B0 : Nat} {k : Nat} (h : RpO w B0 l d p) (hs : Spo l d k) : ∀ t cs, Blk w k t cs → t = 9 ∨ t = 5 := fun t cs hb => by
  by_cases h9 : t = 9
  · exact .inl h9
  · by_cases h5 : t = 5
    · exact .inr h5
    · rcases hs with hs | hs
      · exact absurd rfl (Blk.apart hb h.1 h9 k hs)
      · exact absurd rfl (Blk.apart hb h.2 h5 k hs)
theorem RpO.low {B0 k : Nat} (h : RpO w B0 l d p) (hs : Spo l d k) : B0 ≤ k ∧ k < w.heap.size := by
  rcases hs with hs | hs
  · exact World.ownsRow.lt h.1 k hs
  · exact World.ownsRow.lt h.2 k hs
theorem Tab.typed (h : Tab w B A g ok K f a r) {k : Nat} (hk : k = g ∨ ok = some k) : ∃ t cs, Blk w k t cs ∧ (t = 71 ∨ t = 31) := by
  rcases hk with rfl | hk
  · obtain ⟨d, kept, hb, -⟩ := h.blk
    exact ⟨71, _, hb, .inl rfl⟩
  · rcases h with ⟨e, -⟩ | ⟨gk, e, h⟩
    · rw [e] at hk; cases hk
    · rw [e] at hk
      injection hk with hk
      subst hk
      obtain ⟨cur, hc, -⟩ := h.row
      exact ⟨31, _, hc, .inr rfl⟩
/-- A reply that is another's is spoilt: the table stands. -/
theorem Tab.spoilt (h : Tab w B (fun k => k < N) g ok K f a r) (hr : RpO w N l d p) (hk : Keeps (Spo l d) w w') : Tab w' B (fun k => k < N) g ok K f a r := by
  refine h.keep hk (fun hs => ?_) (fun gk hok hs => ?_) fun k _ hs => .inl (by have := (hr.low hs).1; omega)
  · obtain ⟨t, cs, hb, ht⟩ := h.typed (.inl rfl)
    rcases ht with rfl | rfl <;> rcases hr.typed hs _ cs hb with e | e <;> exact absurd e (by decide)
  · obtain ⟨t, cs, hb, ht⟩ := h.typed (.inr hok)
    rcases ht with rfl | rfl <;> rcases hr.typed hs _ cs hb with e | e <;> exact absurd e (by decide)
theorem Doc.spoilt {w0 : World} {q : Nat} {B0 : Nat} (h : Doc w0 w B q K f a r) (hr : RpO w B0 l d p) (hk : Keeps (Spo l d) w w') : Doc w0 w' B q K f a r := by
  refine h.keep hk (fun hs => ?_) fun k hs cs hb => ?_
  · obtain ⟨v, -, hb, -⟩ := h
    rcases hr.typed hs _ _ hb with e | e <;> simp at e
  · rcases hr.typed hs _ _ hb with e | e <;> simp at e
theorem Blk.spoilt {B0 g t : Nat} {cs : Array Value} (h : Blk w g t cs) (hr : RpO w B0 l d p) (hk : Keeps (Spo l d) w w') (h9 : t ≠ 9) (h5 : t ≠ 5) : Blk w' g t cs := h.keep hk fun hs => by
  rcases hr.typed hs _ _ h with e | e
  · exact h9 e
  · exact h5 e
theorem Doc.cell0 {w0 : World} {q : Nat} (h : Doc w0 w B q K f a r) : ∃ v, w.cell? ⟨q, 0, none⟩ = some v ∧ ∀ k, v.ownBlock = some k → k < w.heap.size ∧ ∃ cs, Blk w k 31 cs := by
  obtain ⟨v, h1, h2, h3⟩ := h
  refine ⟨v, h2.cell 0, fun k hk => ?_⟩
  obtain ⟨vss, ho, -⟩ := h3
  refine ⟨(World.ownsRow.lt ho k hk).2, ?_⟩
  rcases ho.2 with ⟨rfl, h4⟩ | ⟨g', cap, cur, rfl, h4, h5, -⟩
  · cases hk
  · simp [Value.ownBlock] at hk
    subst hk
    exact ⟨cur, h5⟩
/-- A table is turned: the document's stands. -/
theorem Doc.tab {w0 : World} {q : Nat} (h : Doc w0 w B q K f a r) {A' : Nat → Prop} {K' : Nat → Rp} {f' a' r' : Int} (ht : Tab w B A' g ok K' f' a' r') (hs : Sep w q ok) (hk : Keeps (fun k => k = g ∨ ok = some k) w w') : Doc w0 w' B q K f a r := by
  obtain ⟨v, h1, h2, h3⟩ := h
  refine ⟨v, h1, h2.keep hk fun e => ?_, h3.keep hk fun k hk' e => ?_⟩
  · obtain ⟨t, cs, hb, ht⟩ := ht.typed e
    exact hb.ne h2 (by rcases ht with rfl | rfl <;> decide) rfl
  · rcases e with rfl | e
    · obtain ⟨d, kept, hb, -⟩ := ht.blk
      obtain ⟨v', hv', hkk⟩ := Doc.cell0 ⟨v, h1, h2, h3⟩
      have e1 : w.cell? ⟨q, 0, none⟩ = some v := h2.cell 0
      rw [hv'] at e1
      injection e1 with e1
      subst e1
      obtain ⟨-, cs, hb'⟩ := hkk _ hk'
      exact hb.ne hb' (by decide) rfl
    · exact hs v k (h2.cell 0) hk' e
/-- The document's table is turned: the program's stands. -/
theorem Tab.doc {w0 : World} {q : Nat} {K' : Nat → Rp} {f' a' r' : Int} (h : Tab w B A g ok K f a r) (hd : Doc w0 w B q K' f' a' r') (hk : Keeps (Only q) w w') : Tab w' B A g ok K f a r := by
  obtain ⟨v, -, hb, -⟩ := hd
  have ne : ∀ k, (k = g ∨ ok = some k) → k ≠ q := fun k hk e => by
    obtain ⟨t, cs, hb', ht⟩ := h.typed hk
    subst e
    exact hb'.ne hb (by rcases ht with rfl | rfl <;> decide) rfl
  exact h.keep hk (ne g (.inl rfl)) (fun gk e => ne gk (.inr e)) fun k _ e => .inr (by unfold Only at e; subst e; exact ⟨45, _, hb, by decide, by decide⟩)
theorem Sep.non {q : Nat} (h : Sep w q ok) (hk : w'.cell? ⟨q, 0, none⟩ = w.cell? ⟨q, 0, none⟩) : Sep w' q ok := fun v k hv => h v k (by rw [← hk]; exact hv)
theorem Sep.ext {w0 : World} {q : Nat} {ok' : Option Nat} (h : Sep w q ok) (hd : Doc w0 w B q K f a r) (he : Ext w ok ok') : Sep w q ok' := fun v k hv hk e => by
  rcases he with e' | ⟨-, gk, e', hg⟩
  · exact h v k hv hk (by rw [← e']; exact e)
  · obtain ⟨v', hv', hkk⟩ := hd.cell0
    rw [hv] at hv'
    injection hv' with hv'
    subst hv'
    rw [e'] at e
    injection e with e
    have := (hkk k hk).1
    omega
theorem Sep.vnew {q : Nat} (h : Sep w q ok) (hv : VNew w w' q) (hl : ∀ gk, ok = some gk → gk < w.heap.size) : Sep w' q ok := fun v k hv' hk e => by
  rcases hv v hv' with h1 | h1
  · exact h v k h1 hk e
  · have := h1 k hk
    have := hl k e
    omega
theorem VNew.trans {q : Nat} {w1 w2 w3 : World} (h1 : VNew w1 w2 q) (h2 : VNew w2 w3 q) (hz : w1.heap.size ≤ w2.heap.size) : VNew w1 w3 q := fun v hv => by
  rcases h2 v hv with h | h
  · exact h1 v h
  · exact .inr fun k hk => by have := h k hk; omega
theorem Doc.same {w0 : World} {q : Nat} (h : Doc w0 w B q K f a r) (hk : Keeps S w w') (hq : ¬ S q) : w'.cell? ⟨q, 0, none⟩ = w.cell? ⟨q, 0, none⟩ := by
  obtain ⟨v, -, hb, -⟩ := h
  have e1 : w.cell? ⟨q, 0, none⟩ = some v := hb.cell 0
  have e2 : w'.cell? ⟨q, 0, none⟩ = some v := (hb.keep hk hq).cell 0
  rw [e1, e2]
/-- A box that came between is written: the document's table stands. -/
theorem Doc.boxl {w0 w1 w'' : World} {q e : Nat} {K' : Nat → Rp} {f' a' r' : Int} (h : Doc w0 w' B q K' f' a' r') (hd : Doc w0 w B q K f a r) (hv : VNew w1 w' q) (hc : w1.cell? ⟨q, 0, none⟩ = w.cell? ⟨q, 0, none⟩) (he1 : w.heap.size ≤ e) (he2 : e < w1.heap.size) (hk : Keeps (Only e) w' w'') (hne : e ≠ q) : Doc w0 w'' B q K' f' a' r' := by
  obtain ⟨v, h1, h2, h3⟩ := h
  refine ⟨v, h1, h2.one hk hne.symm, h3.keep hk fun k hk' hs => ?_⟩
  unfold Only at hs
  subst hs
  rcases hv v (h2.cell 0) with hx | hx
  · rw [hc] at hx
    obtain ⟨v', hv', hkk⟩ := hd.cell0
    rw [hx] at hv'
    injection hv' with hv'
    subst hv'
    have := (hkk k hk').1
    omega
  · have := hx k hk'
    omega
theorem Doc.nospo {w0 : World} {q B0 : Nat} (h : Doc w0 w B q K f a r) (hr : RpO w B0 l d p) : ¬ Spo l d q := fun hs => by
  obtain ⟨v, -, hb, -⟩ := h
  rcases hr.typed hs _ _ hb with e | e <;> exact absurd e (by decide)
theorem Ext.down {w w1 : World} {ok ok' : Option Nat} (h : Ext w1 ok ok') (hz : w.heap.size ≤ w1.heap.size) : Ext w ok ok' := by
  rcases h with e | ⟨e, gk, e2, e3⟩
  · exact .inl e
  · exact .inr ⟨e, gk, e2, by omega⟩
/-- The steps of a call on a pair, put together: the program's table, the document's, and what is spoilt. -/
theorem pair_end {w0 w1 wc wd : World} {gp q : Nat} {ok' : Option Nat} {K' : Nat → Rp} {f' a' r' : Int} {N : Nat} (hB : w0.heap.size ≤ B) (h0 : Keeps Non w0 w) (hk1 : Keeps Non w w1) (hT : Tab w B (fun _ => True) g ok K f a r) (hD : Doc w0 w B q K f a r) (hP : Blk w gp 47 #[.pointer (some ⟨g, 0, none⟩), .pointer (some ⟨q, 0, none⟩)]) (hS : Sep w q ok) (hG : Good K')
    (hKc : Keeps (fun k => k = g ∨ ok = some k) w1 wc) (hE : Ext w1 ok ok') (hDd : Doc w0 wd B q K' f' a' r') (hV : VNew wc wd q) (hKd : Keeps (Only q) wc wd) (hTd : Tab wd B (fun k => k < N) g ok' K' f' a' r') (hTc : ∀ gk, ok' = some gk → gk < wc.heap.size) (hz : w1.heap.size ≤ N) :
    Doc w0 wd B q K' f' a' r' ∧ Blk wd gp 47 #[.pointer (some ⟨g, 0, none⟩), .pointer (some ⟨q, 0, none⟩)] ∧ Sep wd q ok' ∧ VNew w wd q ∧ Ext w ok ok' ∧ Keeps (fun k => k = g ∨ ok = some k ∨ k = q) w wd ∧ Keeps Non w0 wd := by
  have hD1 := hD.non hk1
  have hT1 := hT.non hk1
  have nq : ¬ (q = g ∨ ok = some q) := fun e => by
    obtain ⟨t, cs, hb, ht⟩ := hT1.typed e
    exact hD1.ne hb (by rcases ht with rfl | rfl <;> decide) rfl
  have np : ¬ (gp = g ∨ ok = some gp) := fun e => by
    obtain ⟨t, cs, hb, ht⟩ := hT1.typed e
    exact hb.ne (hP.non hk1) (by rcases ht with rfl | rfl <;> decide) rfl
  have hs1 : Sep w1 q ok' := (hS.non (hD.same hk1 id)).ext hD1 hE
  have hsc : Sep wc q ok' := hs1.non (hD1.same hKc nq)
  have hz1 := hk1.size
  have hz2 := hKc.size
  have hg := hT.lowk
  obtain ⟨v, hq, -⟩ := id hD
  refine ⟨hDd, ((hP.non hk1).keep hKc np).one hKd (hD.ne hP (by decide)), hsc.vnew hV hTc, (VNew.trans (VNew.trans (VNew.same (hD.same hk1 id)) (VNew.same (hD1.same hKc nq)) hz1) hV (by omega)), hE.down hz1, ?_, ?_⟩
  · refine (hk1.of_non.trans (hKc.mono fun k e => ?_)).trans (hKd.mono fun k e => .inr (.inr e))
    rcases e with e | e
    · exact .inl e
    · exact .inr (.inl e)
  · refine ((h0.trans hk1).then hKc fun i hi e => ?_).then hKd fun i hi e => ?_
    · have := h0.size
      rcases e with e | e
      · omega
      · have := hg.2 i e; omega
    · unfold Only at e
      omega
end lems
end Go.Proofs.Ytmlffigfhhoihac
