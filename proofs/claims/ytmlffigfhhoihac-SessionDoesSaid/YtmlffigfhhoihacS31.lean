/- Many pairs. -/
import Derived.Test.YtmlffigfhhoihacS30
namespace Go.Proofs.Ytmlffigfhhoihac
open Go.RowKit Go.Uc

def updX (xs : Nat → PD) (i : Nat) (x : PD) : Nat → PD := fun j => if j = i then x else xs j
theorem updX_same (xs : Nat → PD) (i : Nat) (x : PD) : updX xs i x i = x := by simp [updX]
theorem updX_other (xs : Nat → PD) {i j : Nat} (h : j ≠ i) (x : PD) : updX xs i x j = xs j := by simp [updX, h]
/-- Pairs that know nothing of one another. -/
structure PairsAt (w0 w : World) (B : Nat) (gps : List Nat) (xs : Nat → PD) : Prop where
  at_ : ∀ i (h : i < gps.length), PairAt w0 w B gps[i] (xs i)
  apart : ∀ i j, i < gps.length → j < gps.length → i ≠ j → (xs i).g ≠ (xs j).g ∧ (∀ k, (xs i).ok = some k → (xs j).ok ≠ some k) ∧ (xs i).q ≠ (xs j).q
  sep : ∀ i j, i < gps.length → j < gps.length → Sep w (xs i).q (xs j).ok

section
variable {w0 w w' : World} {B gp gp2 : Nat} {x x' y : PD} {gps : List Nat} {xs : Nat → PD}
theorem PairAt.non (h : PairAt w0 w B gp x) (hk : Keeps Non w w') : PairAt w0 w' B gp x := ⟨h.tab.non hk, h.doc.non hk, h.good, h.ptr.non hk, h.sep.non (h.doc.same hk id)⟩
theorem PairsAt.non (h : PairsAt w0 w B gps xs) (hk : Keeps Non w w') : PairsAt w0 w' B gps xs := ⟨fun i hi => (h.at_ i hi).non hk, h.apart, fun i j hi hj => (h.sep i j hi hj).non ((h.at_ i hi).doc.same hk id)⟩
theorem PairAt.foot (h : PairAt w0 w B gp x) {k : Nat} (hk : Foot x k) : (∃ t cs, Blk w k t cs ∧ (t = 71 ∨ t = 31 ∨ t = 45)) ∧ B ≤ k := by
  have hlk := h.tab.lowk
  obtain ⟨v, hq, hb, -⟩ := h.doc
  rcases hk with e | e | e
  · obtain ⟨t, cs, hb, ht⟩ := h.tab.typed (.inl e)
    exact ⟨⟨t, cs, hb, ht.elim .inl fun e => .inr (.inl e)⟩, by omega⟩
  · obtain ⟨t, cs, hb, ht⟩ := h.tab.typed (.inr e)
    exact ⟨⟨t, cs, hb, ht.elim .inl fun e => .inr (.inl e)⟩, hlk.2 k e⟩
  · subst e
    exact ⟨⟨45, _, hb, .inr (.inr rfl)⟩, hq⟩
/-- Another pair is turned. -/
theorem PairAt.other (h : PairAt w0 w B gp x) (h' : PairAt w0 w B gp2 y) (hk : Keeps (Foot y) w w') (hg : y.g ≠ x.g) (hok : ∀ k, y.ok = some k → x.ok ≠ some k) (hq : y.q ≠ x.q) (hs : Sep w x.q y.ok) : PairAt w0 w' B gp x ∧ w'.cell? ⟨x.q, 0, none⟩ = w.cell? ⟨x.q, 0, none⟩ := by
  have ty := fun k (hk : Foot y k) => (h'.foot hk).1
  obtain ⟨dy, ky, hby, -⟩ := h'.tab.blk
  obtain ⟨dx, kx, hbx, -⟩ := h.tab.blk
  obtain ⟨vy, -, hqy, -⟩ := id h'.doc
  obtain ⟨vx, hqB, hqx, hrx⟩ := id h.doc
  have gk31 : ∀ k, x.ok = some k → ∃ cs, Blk w k 31 cs := fun k e => by
    rcases h.tab with ⟨e', -⟩ | ⟨gk', e', h'⟩
    · rw [e'] at e; cases e
    · rw [e'] at e
      injection e with e
      subst e
      obtain ⟨cur, hc, -⟩ := h'.row
      exact ⟨_, hc⟩
  have yk31 : ∀ k, y.ok = some k → ∃ cs, Blk w k 31 cs := fun k e => by
    rcases h'.tab with ⟨e', -⟩ | ⟨gk', e', h'⟩
    · rw [e'] at e; cases e
    · rw [e'] at e
      injection e with e
      subst e
      obtain ⟨cur, hc, -⟩ := h'.row
      exact ⟨_, hc⟩
  have ng : ¬ Foot y x.g := fun e => by
    rcases e with e | e | e
    · exact hg e.symm
    · obtain ⟨cs, hc⟩ := yk31 _ e
      exact hc.ne hbx (by decide) rfl
    · rw [e] at hbx
      exact hbx.ne hqy (by decide) rfl
  have nok : ∀ gk, x.ok = some gk → ¬ Foot y gk := fun gk hgk e => by
    obtain ⟨cs, hc⟩ := gk31 gk hgk
    rcases e with e | e | e
    · rw [e] at hc
      exact hc.ne hby (by decide) rfl
    · exact hok gk e hgk
    · rw [e] at hc
      exact hc.ne hqy (by decide) rfl
  have nq : ¬ Foot y x.q := fun e => by
    rcases e with e | e | e
    · rw [← e] at hby
      exact hqx.ne hby (by decide) rfl
    · obtain ⟨cs, hc⟩ := yk31 _ e
      exact hc.ne hqx (by decide) rfl
    · exact hq e.symm
  have hc0 : w.cell? ⟨x.q, 0, none⟩ = some vx := hqx.cell 0
  have nrow : ∀ k, vx.ownBlock = some k → ¬ Foot y k := fun k hk' e => by
    obtain ⟨v', hv', hkk⟩ := h.doc.cell0
    rw [hc0] at hv'
    injection hv' with hv'
    subst hv'
    obtain ⟨-, cs, hc⟩ := hkk k hk'
    rcases e with e | e | e
    · rw [e] at hc
      exact hc.ne hby (by decide) rfl
    · exact hs vx k hc0 hk' e
    · rw [e] at hc
      exact hc.ne hqy (by decide) rfl
  have np : ¬ Foot y gp := fun e => by
    obtain ⟨t, cs, hc, ht⟩ := ty gp e
    exact hc.ne h.ptr (by rcases ht with rfl | rfl | rfl <;> decide) rfl
  have hcell := h.doc.same hk nq
  refine ⟨⟨h.tab.keep hk ng nok fun k _ e => .inr ?_, ⟨vx, hqB, hqx.keep hk nq, hrx.keep hk nrow⟩, h.good, h.ptr.keep hk np, h.sep.non hcell⟩, hcell⟩
  obtain ⟨t, cs, hc, ht⟩ := ty k e
  exact ⟨t, cs, hc, by rcases ht with rfl | rfl | rfl <;> decide, by rcases ht with rfl | rfl | rfl <;> decide⟩
/-- One of the pairs is turned. -/
theorem PairsAt.done (h : PairsAt w0 w B gps xs) {i : Nat} (hi : i < gps.length) (hg : x'.g = (xs i).g) (hq : x'.q = (xs i).q) (hx : PairAt w0 w' B gps[i] x') (hE : Ext w (xs i).ok x'.ok) (hV : VNew w w' (xs i).q) (hk : Keeps (Foot (xs i)) w w') : PairsAt w0 w' B gps (updX xs i x') := by
  have oth := fun j (hj : j < gps.length) (hne : j ≠ i) => (h.at_ j hj).other (h.at_ i hi) hk (h.apart i j hi hj hne.symm).1 (h.apart i j hi hj hne.symm).2.1 (h.apart i j hi hj hne.symm).2.2 (h.sep j i hj hi)
  refine ⟨fun j hj => ?_, fun j k hj hk' hne => ?_, fun j k hj hk' => ?_⟩
  · by_cases e : j = i
    · subst e; rw [updX_same]; exact hx
    · rw [updX_other _ e]; exact (oth j hj e).1
  · by_cases e : j = i
    · subst e
      rw [updX_same, updX_other _ hne.symm, hg, hq]
      have hap := h.apart j k hj hk' hne
      exact ⟨hap.1, hE.dis (h.at_ k hk').tab.low hap.2.1, hap.2.2⟩
    · rw [updX_other _ e]
      by_cases e' : k = i
      · subst e'
        rw [updX_same, hg, hq]
        have hap := h.apart j k hj hk' hne
        have hap' := h.apart k j hk' hj hne.symm
        exact ⟨hap.1, fun n e1 e2 => (hE.dis (h.at_ j hj).tab.low hap'.2.1) n e2 e1, hap.2.2⟩
      · rw [updX_other _ e']
        exact h.apart j k hj hk' hne
  · by_cases e : j = i
    · subst e
      rw [updX_same]
      by_cases e' : k = j
      · subst e'
        rw [updX_same]
        exact hx.sep
      · rw [updX_other _ e', hq]
        exact (h.sep j k hj hk').vnew hV (h.at_ k hk').tab.low
    · rw [updX_other _ e]
      by_cases e' : k = i
      · subst e'
        rw [updX_same]
        exact ((h.sep j k hj hk').ext (h.at_ j hj).doc hE).non (oth j hj e).2
      · rw [updX_other _ e']
        exact (h.sep j k hj hk').non (oth j hj e).2
/-- A pair more. -/
theorem PairsAt.snoc (h : PairsAt w0 w B gps xs) (hx : PairAt w0 w B gp x) (ha : ∀ j, j < gps.length → x.g ≠ (xs j).g ∧ (∀ k, x.ok = some k → (xs j).ok ≠ some k) ∧ x.q ≠ (xs j).q ∧ Sep w (xs j).q x.ok ∧ Sep w x.q (xs j).ok) : PairsAt w0 w B (gps ++ [gp]) (updX xs gps.length x) := by
  have hlen : (gps ++ [gp]).length = gps.length + 1 := by simp
  refine ⟨fun j hj => ?_, fun j k hj hk hne => ?_, fun j k hj hk => ?_⟩
  · by_cases e : j = gps.length
    · subst e; rw [updX_same, List.getElem_append_right (Nat.le_refl _)]; simpa using hx
    · rw [updX_other _ e, List.getElem_append_left (by omega)]; exact h.at_ j (by omega)
  · by_cases e : j = gps.length
    · subst e
      rw [updX_same, updX_other _ hne.symm]
      have := ha k (by omega)
      exact ⟨this.1, this.2.1, this.2.2.1⟩
    · rw [updX_other _ e]
      by_cases e' : k = gps.length
      · subst e'
        rw [updX_same]
        have := ha j (by omega)
        exact ⟨this.1.symm, fun n e1 e2 => this.2.1 n e2 e1, this.2.2.1.symm⟩
      · rw [updX_other _ e']
        exact h.apart j k (by omega) (by omega) hne
  · by_cases e : j = gps.length
    · subst e
      rw [updX_same]
      by_cases e' : k = gps.length
      · subst e'; rw [updX_same]; exact hx.sep
      · rw [updX_other _ e']; exact (ha k (by omega)).2.2.2.2
    · rw [updX_other _ e]
      by_cases e' : k = gps.length
      · subst e'; rw [updX_same]; exact (ha j (by omega)).2.2.2.1
      · rw [updX_other _ e']; exact h.sep j k (by omega) (by omega)
theorem PairAt.down {B' : Nat} (h : PairAt w0 w B gp x) (hB : B' ≤ B) : PairAt w0 w B' gp x := ⟨h.tab.down hB, h.doc.down hB, h.good, h.ptr, h.sep⟩
/-- A pair more, whose blocks are all newer. -/
theorem PairsAt.newer {N : Nat} (h : PairsAt w0 w B gps xs) (hk : Keeps Non w w') (hx : PairAt w0 w' N gp x) (hN : w.heap.size ≤ N) (hB : B ≤ N) : PairsAt w0 w' B (gps ++ [gp]) (updX xs gps.length x) := by
  refine (h.non hk).snoc (hx.down hB) fun j hj => ?_
  have hj' := h.at_ j hj
  have hlk := hx.tab.lowk
  obtain ⟨v, hqB, -⟩ := id hx.doc
  refine ⟨by have := hj'.tab.lt; omega, fun k e e' => by have := hj'.tab.low k e'; have := hlk.2 k e; omega, by have := hj'.doc.lt; omega, fun v k hv hk' e => ?_, hx.doc.sep fun gk e => by have := hj'.tab.low gk e; omega⟩
  obtain ⟨v', hv', hkk⟩ := hj'.doc.cell0
  rw [hj'.doc.same hk id, hv'] at hv
  injection hv with hv
  subst hv
  have := (hkk k hk').1
  have := hlk.2 k e
  omega
/-- A clone was taken: the table that was cloned. -/
theorem PairsAt.cloned1 {m : Nat} {ok' : Option Nat} {A : Nat → Prop} (h : PairsAt w0 w B gps xs) (hm : m < gps.length)
    (hT : Tab w' B A (xs m).g ok' (xs m).K (xs m).f (xs m).a (xs m).r) (hE : Ext w (xs m).ok ok') (hK : Keeps (Only (xs m).g) w w') : PairsAt w0 w' B gps (updX xs m ⟨(xs m).g, ok', (xs m).K, (xs m).f, (xs m).a, (xs m).r, (xs m).q⟩) := by
  have hx := h.at_ m hm
  obtain ⟨d, kept, hb, -⟩ := hx.tab.blk
  have hq : ¬ Only (xs m).g (xs m).q := fun e => by
    obtain ⟨v, -, hqb, -⟩ := hx.doc
    unfold Only at e
    rw [e] at hqb
    exact hqb.ne hb (by decide) rfl
  have hc := hx.doc.same hK hq
  have hK' : Keeps (fun k => k = (xs m).g ∨ (xs m).ok = some k) w w' := hK.mono fun k e => .inl e
  exact h.done hm rfl rfl ⟨hT.mono fun _ _ => trivial, hx.doc.tab hx.tab hx.sep hK', hx.good, hx.ptr.one hK (hx.ptr.ne hb (by decide)), (hx.sep.ext hx.doc hE).non hc⟩ hE (VNew.same hc) (hK.mono fun k e => .inl e)
/-- A clone was taken: the pair more. -/
theorem PairsAt.cloned {m g' q' : Nat} {w7 wE : World} {ok' ok2 : Option Nat} {A A' : Nat → Prop} (h : PairsAt w0 w B gps xs) (hm : m < gps.length) (hB : B ≤ w.heap.size)
    (hT : Tab w' B A (xs m).g ok' (xs m).K (xs m).f (xs m).a (xs m).r) (hE : Ext w (xs m).ok ok') (hK : Keeps (Only (xs m).g) w w')
    (hN : Tab w' w.heap.size A' g' ok2 (xs m).K (xs m).f (xs m).a (xs m).r) (hdis : ∀ k, ok2 = some k → ok' ≠ some k) (hD : Doc w0 w7 w'.heap.size q' (xs m).K (xs m).f (xs m).a (xs m).r) (hK7 : Keeps Non w' w7) (hKE : Keeps Non w7 wE)
    (hp : Blk wE gp 47 #[.pointer (some ⟨g', 0, none⟩), .pointer (some ⟨q', 0, none⟩)]) : PairsAt w0 wE B (gps ++ [gp]) (updX (updX xs m ⟨(xs m).g, ok', (xs m).K, (xs m).f, (xs m).a, (xs m).r, (xs m).q⟩) gps.length ⟨g', ok2, (xs m).K, (xs m).f, (xs m).a, (xs m).r, q'⟩) := by
  have h6 := h.cloned1 hm hT hE hK
  have hz := hK.size
  have hKx := hK7.trans hKE
  have hlk := hN.lowk
  obtain ⟨v7, hq7, -⟩ := id hD
  refine (h6.non hKx).snoc ⟨((hN.non hKx).down hB).mono fun _ _ => trivial, (hD.non hKE).down (by omega), (h.at_ m hm).good, hp, (hD.sep hN.low).non (hD.same hKE id)⟩ fun j hj => ?_
  have hj5 := h.at_ j hj
  have hj6 := h6.at_ j hj
  have hgj : (updX xs m ⟨(xs m).g, ok', (xs m).K, (xs m).f, (xs m).a, (xs m).r, (xs m).q⟩ j).g = (xs j).g := by
    by_cases e : j = m
    · subst e; rw [updX_same]
    · rw [updX_other _ e]
  have hqj : (updX xs m ⟨(xs m).g, ok', (xs m).K, (xs m).f, (xs m).a, (xs m).r, (xs m).q⟩ j).q = (xs j).q := by
    by_cases e : j = m
    · subst e; rw [updX_same]
    · rw [updX_other _ e]
  refine ⟨by rw [hgj]; show g' ≠ (xs j).g; have := hj5.tab.lt; omega, fun k e e' => ?_, by rw [hqj]; show q' ≠ (xs j).q; have := hj5.doc.lt; omega, fun v k hv hk' e => ?_, (hD.sep fun gk e => hj6.tab.low gk e).non (hD.same hKE id)⟩
  · by_cases ej : j = m
    · subst ej
      rw [updX_same] at e'
      exact hdis k e e'
    · rw [updX_other _ ej] at e'
      have := hj5.tab.low k e'
      have := hlk.2 k e
      omega
  · rw [hj6.doc.same hKx id, hqj] at hv
    have hne : ¬ Only (xs m).g (xs j).q := fun e => by
      obtain ⟨d, kept, hb, -⟩ := (h.at_ m hm).tab.blk
      obtain ⟨v, -, hqb, -⟩ := hj5.doc
      unfold Only at e
      rw [e] at hqb
      exact hqb.ne hb (by decide) rfl
    rw [hj5.doc.same hK hne] at hv
    obtain ⟨v', hv', hkk⟩ := hj5.doc.cell0
    rw [hv] at hv'
    injection hv' with hv'
    subst hv'
    have := (hkk k hk').1
    have := hlk.2 k e
    omega
theorem LoadsP.split {e : Ending} (h : LoadsP w0 w e w') : Keeps Non w w' ∧ ∃ v, e = .returned (.tuple #[v, .bool true]) ∧ ((∃ gp x, v = .pointer (some ⟨gp, 0, none⟩) ∧ PairAt w0 w' w.heap.size gp x) ∨ v = .pointer none) := by
  obtain ⟨hk, ⟨gp, x, rfl, -, h⟩ | rfl⟩ := h
  · exact ⟨hk, _, rfl, .inl ⟨gp, x, rfl, h⟩⟩
  · exact ⟨hk, _, rfl, .inr rfl⟩
theorem Reps.repsE {A : Option Addr} {rs : List Rp} (h : Reps w A rs) : RepsE w (RdE w) A rs := fun i hi => by
  obtain ⟨b, off, l, d, h0, h1, h2, h3, h4, h5, h6, h7, h8, h9, -⟩ := h i hi
  refine ⟨b, off, l, d, h0, fun j hj => ?_, h8.one, h8, h9⟩
  match j, hj with
  | 0, _ => exact h1
  | 1, _ => exact h2
  | 2, _ => exact h3
  | 3, _ => exact h4
  | 4, _ => exact h5
  | 5, _ => exact h6
  | 6, _ => exact h7
end
end Go.Proofs.Ytmlffigfhhoihac
