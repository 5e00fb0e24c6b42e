/- Tables of replies: what they are in memory; Look. -/
import Derived.Test.YtmlffigfhhoihacS3
namespace Go.Proofs.Ytmlffigfhhoihac
open Go.RowKit Go.Uc

/-- Seven cells of a row that read as a reply in memory of its own, which lies where A says. -/
def SevenAt (w : World) (A : Nat → Prop) (cur : Array Value) (o : Nat) (r : Rp) : Prop := ∃ l d, cur[o]? = some (.int .i64 r.ses) ∧ cur[o + 1]? = some (.int .i64 r.id) ∧ cur[o + 2]? = some (.int .i64 r.err) ∧ cur[o + 3]? = some (.int .i64 r.num) ∧ cur[o + 4]? = some (.string r.text) ∧ cur[o + 5]? = some l ∧ cur[o + 6]? = some d ∧
  RpO w 0 l d r ∧ (∀ k, l.ownBlock = some k → A k) ∧ (∀ k, d.ownBlock = some k → A k)
/-- A table whose row is there. -/
structure TabD (w : World) (B : Nat) (A : Nat → Prop) (g gk : Nat) (K : Nat → Rp) (f a r : Int) : Prop where
  lowg : B ≤ g
  lowk : B ≤ gk
  tb : Blk w g 71 (tabC 1 0 (.slice (some ⟨gk, 0, none⟩) 9 9) f a r)
  row : ∃ cur, Blk w gk 31 cur ∧ cur.size = 63 ∧ ∀ i, i < 9 → SevenAt w A cur (i * 7) (K i)
  fine : ∀ i, RpB (K i)
/-- A table. -/
def Tab (w : World) (B : Nat) (A : Nat → Prop) (g : Nat) (ok : Option Nat) (K : Nat → Rp) (f a r : Int) : Prop :=
  (ok = none ∧ B ≤ g ∧ Blk w g 71 (tabC 0 0 (.slice none 0 0) f a r) ∧ ∀ i, K i = Rp.none) ∨ ∃ gk, ok = some gk ∧ TabD w B A g gk K f a r
/-- The row is the one that was there, or a new one. -/
def Ext (w : World) (ok ok' : Option Nat) : Prop := ok' = ok ∨ (ok = none ∧ ∃ gk, ok' = some gk ∧ w.heap.size ≤ gk)

theorem SevenAt.keep {w w' : World} {A S : Nat → Prop} {cur : Array Value} {o : Nat} {r : Rp} (h : SevenAt w A cur o r) (hk : Keeps S w w') (hS : ∀ k, k < w.heap.size → S k → ¬ A k ∨ ∃ t cs, Blk w k t cs ∧ t ≠ 9 ∧ t ≠ 5) : SevenAt w' A cur o r := by
  obtain ⟨l, d, h0, h1, h2, h3, h4, h5, h6, ⟨hl, hd⟩, hA, hD⟩ := h
  refine ⟨l, d, h0, h1, h2, h3, h4, h5, h6, ⟨hl.keep hk fun k hkk hs => ?_, hd.keep hk fun k hkk hs => ?_⟩, hA, hD⟩
  · rcases hS k (World.ownsRow.lt hl k hkk).2 hs with h | ⟨t, cs, hb, h9, -⟩
    · exact h (hA k hkk)
    · exact Blk.apart hb hl h9 k hkk rfl
  · rcases hS k (World.ownsRow.lt hd k hkk).2 hs with h | ⟨t, cs, hb, -, h5'⟩
    · exact h (hD k hkk)
    · exact Blk.apart hb hd h5' k hkk rfl
theorem TabD.keep {w w' : World} {B g gk : Nat} {A S : Nat → Prop} {K : Nat → Rp} {f a r : Int} (h : TabD w B A g gk K f a r) (hk : Keeps S w w') (hg : ¬ S g) (hgk : ¬ S gk) (hS : ∀ k, k < w.heap.size → S k → ¬ A k ∨ ∃ t cs, Blk w k t cs ∧ t ≠ 9 ∧ t ≠ 5) : TabD w' B A g gk K f a r := by
  obtain ⟨cur, h1, h2, h3⟩ := h.row
  exact ⟨h.lowg, h.lowk, h.tb.keep hk hg, ⟨cur, h1.keep hk hgk, h2, fun i hi => (h3 i hi).keep hk hS⟩, h.fine⟩
theorem TabD.non {w w' : World} {B g gk : Nat} {A : Nat → Prop} {K : Nat → Rp} {f a r : Int} (h : TabD w B A g gk K f a r) (hk : Keeps Non w w') : TabD w' B A g gk K f a r := h.keep hk id id fun _ _ e => e.elim
theorem SevenAt.mono {w : World} {A A' : Nat → Prop} {cur : Array Value} {o : Nat} {r : Rp} (h : SevenAt w A cur o r) (hA : ∀ k, A k → A' k) : SevenAt w A' cur o r := by
  obtain ⟨l, d, h0, h1, h2, h3, h4, h5, h6, hr, h7, h8⟩ := h
  exact ⟨l, d, h0, h1, h2, h3, h4, h5, h6, hr, fun k hk => hA k (h7 k hk), fun k hk => hA k (h8 k hk)⟩
theorem TabD.mono {w : World} {B g gk : Nat} {A A' : Nat → Prop} {K : Nat → Rp} {f a r : Int} (h : TabD w B A g gk K f a r) (hA : ∀ k, A k → A' k) : TabD w B A' g gk K f a r := by
  obtain ⟨cur, h1, h2, h3⟩ := h.row
  exact ⟨h.lowg, h.lowk, h.tb, ⟨cur, h1, h2, fun i hi => (h3 i hi).mono hA⟩, h.fine⟩
theorem Tab.non {w w' : World} {B g : Nat} {ok : Option Nat} {A : Nat → Prop} {K : Nat → Rp} {f a r : Int} (h : Tab w B A g ok K f a r) (hk : Keeps Non w w') : Tab w' B A g ok K f a r := by
  rcases h with ⟨h1, h2, h3, h4⟩ | ⟨gk, h1, h2⟩
  · exact .inl ⟨h1, h2, h3.non hk, h4⟩
  · exact .inr ⟨gk, h1, h2.non hk⟩
theorem Tab.mono {w : World} {B g : Nat} {ok : Option Nat} {A A' : Nat → Prop} {K : Nat → Rp} {f a r : Int} (h : Tab w B A g ok K f a r) (hA : ∀ k, A k → A' k) : Tab w B A' g ok K f a r := by
  rcases h with h | ⟨gk, h1, h2⟩
  · exact .inl h
  · exact .inr ⟨gk, h1, h2.mono hA⟩
theorem TabD.tab {w : World} {B g gk : Nat} {A : Nat → Prop} {K : Nat → Rp} {f a r : Int} (h : TabD w B A g gk K f a r) : Tab w B A g (some gk) K f a r := .inr ⟨gk, rfl, h⟩
/-- The counters turn. -/
theorem TabD.count {w w' : World} {B g gk : Nat} {A : Nat → Prop} {K : Nat → Rp} {f a r f' a' r' : Int} (h : TabD w B A g gk K f a r) (hk : Keeps (Only g) w w') (hb : Blk w' g 71 (tabC 1 0 (.slice (some ⟨gk, 0, none⟩) 9 9) f' a' r')) : TabD w' B A g gk K f' a' r' := by
  obtain ⟨cur, h1, h2, h3⟩ := h.row
  exact ⟨h.lowg, h.lowk, hb, ⟨cur, h1.one hk (h1.ne h.tb (by decide)), h2, fun i hi => (h3 i hi).keep hk fun k _ e => .inr (by unfold Only at e; subst e; exact ⟨71, _, h.tb, by decide, by decide⟩)⟩, h.fine⟩
theorem zeroAt (i j : Nat) (v : Value) (hi : i < 9) (hj : j < 7) (hv : zeroRep[j]? = some v) : zeroRow[i * 7 + j]? = some v := by
  have hm : (i * 7 + j) % 7 = j := by omega
  have hs : zeroRep.toArray.size = 7 := rfl
  unfold zeroRow madeCells
  rw [Array.getElem?_map, Array.getElem?_eq_getElem (by simp; omega)]
  simp only [Array.getElem_range, Option.map_some, hs, hm]
  rw [← hv]
  match j, hj with
  | 0, _ => rfl
  | 1, _ => rfl
  | 2, _ => rfl
  | 3, _ => rfl
  | 4, _ => rfl
  | 5, _ => rfl
  | 6, _ => rfl
theorem zeroSeven (w : World) (A : Nat → Prop) (i : Nat) (hi : i < 9) : SevenAt w A zeroRow (i * 7) Rp.none :=
  ⟨.slice none 0 0, .slice none 0 0, zeroAt i 0 _ hi (by omega) rfl, zeroAt i 1 _ hi (by omega) rfl, zeroAt i 2 _ hi (by omega) rfl, zeroAt i 3 _ hi (by omega) rfl, zeroAt i 4 _ hi (by omega) rfl, zeroAt i 5 _ hi (by omega) rfl, zeroAt i 6 _ hi (by omega) rfl, ⟨OwnS.nil _ _, OwnB.nil _ _ _⟩, ⟨fun k h => (by cases h), fun k h => (by cases h)⟩⟩

theorem places_any {B g : Nat} {ok : Option Nat} {A : Nat → Prop} {K : Nat → Rp} {f a r : Int} (w : World) (h : Tab w B A g ok K f a r) (hB : B ≤ w.heap.size) :
    Calls Try.prog 19 #[.pointer (some ⟨g, 0, none⟩)] w fun e w' => ∃ gk, e = .returned (.slice (some ⟨gk, 0, none⟩) 9 9) ∧ TabD w' B A g gk K f a r ∧ Ext w ok (some gk) ∧ Keeps (Only g) w w' := by
  rcases h with ⟨rfl, h2, h3, h4⟩ | ⟨gk, rfl, h2⟩
  · refine (places_new g f a r w h3).mono ?_
    rintro e w' ⟨gk, rfl, hg, hb, hz, hk⟩
    refine ⟨gk, rfl, ⟨h2, by omega, hb, ⟨zeroRow, hz, zeroRow_size, fun i hi => by rw [h4 i]; exact zeroSeven _ _ i hi⟩, fun i => by rw [h4 i]; simp [RpB, Rp.none]⟩, .inr ⟨rfl, gk, rfl, hg⟩, hk⟩
  · refine (places_old g gk f a r w h2.tb).mono ?_
    rintro e w' ⟨rfl, hk⟩
    exact ⟨gk, rfl, h2.non hk, .inl rfl, hk.of_non⟩
end Go.Proofs.Ytmlffigfhhoihac
