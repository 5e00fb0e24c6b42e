/- Look. -/
import Derived.Test.YtmlffigfhhoihacS4
namespace Go.Proofs.Ytmlffigfhhoihac
open Go.RowKit Go.Uc

set_option maxRecDepth 100000 in
theorem results_look {fn : Func} {p u v : Tmp} (h : fn.results = #[.cell p 31, .tmp u, .tmp v]) (tmps : Array Value) (w : World) (g : Nat) (cs : Array Value)
    (hp : tmps.getD p undef = .pointer (some ⟨g, 0, none⟩)) (hg : Blk w g 31 cs) (hz : cs.size = 7) :
    (results fn tmps).run Try.prog w = .ok (.tuple #[.agg cs, tmps.getD u undef, tmps.getD v undef]) w := by
  have hp' : tmps[p]?.getD undef = .pointer (some ⟨g, 0, none⟩) := by simpa using hp
  have hi : (Try.prog.info? 31).map (·.size) = some cs.size := by rw [hz]; kernel_rfl
  simp [results, h, hp', asAddr, run_loadVar_row w g 31 31 cs (0, 0) _ hg Try.underlying30 rfl hi]

/-- What Look tells. -/
inductive LookV (w0 w' : World) (K : Nat → Rp) (s i a r : Int) : Value → Value → Value → Int → Int → Prop
  | bad : isB s i = false → LookV w0 w' K s i a r (.agg zeroRep.toArray) (.bool false) (.int .i64 240) a (wrap64 (r + 1))
  | stale : isB s i = true → i < (K s.toNat).id → LookV w0 w' K s i a r (.agg zeroRep.toArray) (.bool false) (.int .i64 241) a (wrap64 (r + 1))
  | same (l d : Value) : isB s i = true → i = (K s.toNat).id → RpO w' w0.heap.size l d (K s.toNat) → LookV w0 w' K s i a r (.agg #[.int .i64 (K s.toNat).ses, .int .i64 (K s.toNat).id, .int .i64 (K s.toNat).err, .int .i64 (K s.toNat).num, .string (K s.toNat).text, l, d]) (.bool true) (.int .i64 0) (wrap64 (a + 1)) r
  | new : isB s i = true → (K s.toNat).id < i → LookV w0 w' K s i a r (.agg zeroRep.toArray) (.bool false) (.int .i64 0) a r

def LookP (B : Nat) (A : Nat → Prop) (g : Nat) (ok : Option Nat) (K : Nat → Rp) (f a r s i : Int) (w : World) (e : Ending) (w' : World) : Prop :=
  ∃ v1 v2 v3 ok' a' r', e = .returned (.tuple #[v1, v2, v3]) ∧ LookV w w' K s i a r v1 v2 v3 a' r' ∧ Tab w' B A g ok' K f a' r' ∧ Ext w ok ok' ∧ Keeps (Only g) w w'

theorem Tab.blk {w : World} {B g : Nat} {ok : Option Nat} {A : Nat → Prop} {K : Nat → Rp} {f a r : Int} (h : Tab w B A g ok K f a r) :
    ∃ d kept, Blk w g 71 (tabC d 0 kept f a r) ∧ ∀ w' f' a' r', Keeps (Only g) w w' → Blk w' g 71 (tabC d 0 kept f' a' r') → Tab w' B A g ok K f' a' r' := by
  rcases h with ⟨rfl, h2, h3, h4⟩ | ⟨gk, rfl, h2⟩
  · exact ⟨_, _, h3, fun w' f' a' r' _ hb => .inl ⟨rfl, h2, hb, h4⟩⟩
  · exact ⟨_, _, h2.tb, fun w' f' a' r' hk hb => .inr ⟨gk, rfl, h2.count hk hb⟩⟩
theorem add_refused {w : World} {B g : Nat} {ok : Option Nat} {A : Nat → Prop} {K : Nat → Rp} {f a r : Int} (h : Tab w B A g ok K f a r) :
    Calls Try.prog 20 #[.pointer (some ⟨g, 6, none⟩), .int .i64 1] w fun e w' => ∃ v, e = .returned v ∧ Tab w' B A g ok K f a (wrap64 (r + 1)) ∧ Keeps (Only g) w w' := by
  obtain ⟨d, kept, hb, hc⟩ := h.blk
  refine (add_any ⟨g, 6, none⟩ r 1 w (hb.cell 6) (hb.frozen 6)).mono ?_
  rintro e w' ⟨rfl, rfl⟩
  have hk : Keeps (Only g) w (w.setCell ⟨g, 6, none⟩ (.int .i64 (wrap64 (r + 1)))) := (Keeps.refl (Only g) w).set (p := ⟨g, 6, none⟩) rfl _
  exact ⟨_, rfl, hc _ _ _ _ hk (hb.set 6 _), hk⟩
theorem add_again {w : World} {B g : Nat} {ok : Option Nat} {A : Nat → Prop} {K : Nat → Rp} {f a r : Int} (h : Tab w B A g ok K f a r) :
    Calls Try.prog 20 #[.pointer (some ⟨g, 5, none⟩), .int .i64 1] w fun e w' => ∃ v, e = .returned v ∧ Tab w' B A g ok K f (wrap64 (a + 1)) r ∧ Keeps (Only g) w w' := by
  obtain ⟨d, kept, hb, hc⟩ := h.blk
  refine (add_any ⟨g, 5, none⟩ a 1 w (hb.cell 5) (hb.frozen 5)).mono ?_
  rintro e w' ⟨rfl, rfl⟩
  have hk : Keeps (Only g) w (w.setCell ⟨g, 5, none⟩ (.int .i64 (wrap64 (a + 1)))) := (Keeps.refl (Only g) w).set (p := ⟨g, 5, none⟩) rfl _
  exact ⟨_, rfl, hc _ _ _ _ hk (hb.set 5 _), hk⟩
theorem add_fresh {w : World} {B g : Nat} {ok : Option Nat} {A : Nat → Prop} {K : Nat → Rp} {f a r : Int} (h : Tab w B A g ok K f a r) :
    Calls Try.prog 20 #[.pointer (some ⟨g, 4, none⟩), .int .i64 1] w fun e w' => ∃ v, e = .returned v ∧ Tab w' B A g ok K (wrap64 (f + 1)) a r ∧ Keeps (Only g) w w' := by
  obtain ⟨d, kept, hb, hc⟩ := h.blk
  refine (add_any ⟨g, 4, none⟩ f 1 w (hb.cell 4) (hb.frozen 4)).mono ?_
  rintro e w' ⟨rfl, rfl⟩
  have hk : Keeps (Only g) w (w.setCell ⟨g, 4, none⟩ (.int .i64 (wrap64 (f + 1)))) := (Keeps.refl (Only g) w).set (p := ⟨g, 4, none⟩) rfl _
  exact ⟨_, rfl, hc _ _ _ _ hk (hb.set 4 _), hk⟩
theorem set7_zero (a0 a1 a2 a3 a4 a5 a6 : Value) : set7 zeroRep.toArray 0 a0 a1 a2 a3 a4 a5 a6 = #[a0, a1, a2, a3, a4, a5, a6] := rfl
theorem Blk.gne {w : World} {g q : Nat} {t t' : TypeId} {c c' : Array Value} (h : Blk w g t c) (h' : Blk w q t' c') (hne : t ≠ t') : ¬ q = g := fun e => h.ne h' hne e.symm
/-- The box for a result is one of its own. -/
theorem Tab.box {w : World} {B g q : Nat} {ok : Option Nat} {A : Nat → Prop} {K : Nat → Rp} {f a r : Int} {cs : Array Value} (h : Tab w B A g ok K f a r) (hq : Blk w q 31 cs) : q ≠ g := by
  obtain ⟨d, kept, hb, -⟩ := h.blk
  exact hq.ne hb (by decide)
/-- A box for a result is written: the table stands. -/
theorem Tab.boxed {w w' : World} {B g q : Nat} {ok : Option Nat} {A : Nat → Prop} {K : Nat → Rp} {f a r : Int} {cs : Array Value} (h : Tab w B A g ok K f a r) (hq : Blk w q 31 cs) (hne : ∀ gk, ok = some gk → gk ≠ q) (hk : Keeps (Only q) w w') : Tab w' B A g ok K f a r := by
  have hg := h.box hq
  rcases h with ⟨h1, h2, h3, h4⟩ | ⟨gk, h1, h2⟩
  · exact .inl ⟨h1, h2, h3.keep hk (fun e => hg e.symm), h4⟩
  · exact .inr ⟨gk, h1, h2.keep hk (fun e => hg e.symm) (hne gk h1) fun k _ e => .inr (by unfold Only at e; subst e; exact ⟨31, _, hq, by decide, by decide⟩)⟩
theorem Tab.low {w : World} {B g : Nat} {ok : Option Nat} {A : Nat → Prop} {K : Nat → Rp} {f a r : Int} (h : Tab w B A g ok K f a r) : ∀ gk, ok = some gk → gk < w.heap.size := by
  intro gk hg
  rcases h with ⟨h1, -⟩ | ⟨gk', h1, h2⟩
  · rw [h1] at hg; cases hg
  · rw [h1] at hg
    injection hg with hg
    subst hg
    obtain ⟨cur, hb, -⟩ := h2.row
    exact hb.lt

set_option maxRecDepth 100000 in
set_option maxHeartbeats 2000000 in
theorem look_bad {B g : Nat} {ok : Option Nat} {A : Nat → Prop} {K : Nat → Rp} {f a r : Int} (s i : Int) (w : World) (h : Tab w B A g ok K f a r) (hs : isB s i = false) :
    Calls Try.prog 9 #[.pointer (some ⟨g, 0, none⟩), .int .i64 s, .int .i64 i] w (LookP B A g ok K f a r s i w) := by
  obtain ⟨w1, hw1⟩ : ∃ w1, w1 = w.alloc (.cells zeroRep.toArray 31) := ⟨_, rfl⟩
  obtain ⟨q, hq⟩ : ∃ q, q = w.heap.size := ⟨_, rfl⟩
  have hk1 : Keeps Non w w1 := by rw [hw1]; exact (Keeps.refl _ _).alloc _
  have hQ1 : Blk w1 q 31 zeroRep.toArray := by rw [hw1, hq]; exact Blk.new _ _ _
  have h1 := h.non hk1
  have hlow := h.low
  have HIS := Lib.hid (fun W => is_any s i W)
  have HS := Lib.hid hs
  clear hs
  go_enter Try.func9, Try.ntmps9
  go_wp2_with fail
  rw [show (#[.int .i64 0, .int .i64 0, .int .i64 0, .int .i64 0, .string { data := #[] }, .slice none 0 0, .slice none 0 0] : Array Value) = zeroRep.toArray from rfl, ← hw1, ← hq]
  have hqw : w.heap.size ≤ q := by omega
  clear hw1 hq
  refine (HIS.out _).mono ?_
  rw [HS.out]
  rintro e w2 ⟨rfl, rfl⟩
  go_wp2_with fail
  have HA := Lib.hid (add_refused h1)
  refine HA.out.mono ?_
  rintro e w3 ⟨v3, rfl, h3, hK3⟩
  have hQ3 := hQ1.one hK3 (h1.box hQ1)
  obtain ⟨⟨va0, sa0⟩, fa0, ⟨va1, sa1⟩, fa1, ⟨va2, sa2⟩, fa2, ⟨va3, sa3⟩, fa3, ⟨va4, sa4⟩, fa4, ⟨va5, sa5⟩, fa5, ⟨va6, sa6⟩, fa6, hBa, hKa⟩ := store_seven hQ3 (0) (by decide) (.int .i64 0) (.int .i64 0) (.int .i64 0) (.int .i64 0) (.string { data := #[] }) (.slice none 0 0) (.slice none 0 0); simp only [Nat.zero_add] at sa0 fa0 sa1 fa1 sa2 fa2 sa3 fa3 sa4 fa4 sa5 fa5 sa6 fa6 hBa hKa
  have hq : Hid (w.heap.size ≤ q) := hqw
  rw [set7_zero] at hBa
  have FB := Lib.hid hBa
  have FK := Lib.hid hKa
  have F3 := Lib.hid h3
  have FK3 := Lib.hid (hk1.of_non.trans hK3)
  clear hBa hKa h3 hK3 HA
  go_wp2_with fail
  refine bodyPost_ret (results_look rfl _ _ q _ rfl FB.out rfl) rfl ?_
  refine ⟨_, _, _, ok, a, wrap64 (r + 1), rfl, .bad HS.out, ?_, .inl rfl, ?_⟩
  · exact F3.out.boxed hQ3 (fun gk e => by have := hlow gk e; have := hq.out; omega) FK.out
  · exact FK3.out.then FK.out fun i hi e => by unfold Only at e; have := hq.out; omega
set_option maxRecDepth 100000 in
set_option maxHeartbeats 4000000 in
theorem look_stale {B g : Nat} {ok : Option Nat} {A : Nat → Prop} {K : Nat → Rp} {f a r : Int} (sn : Nat) (i : Int) (w : World) (h : Tab w B A g ok K f a r) (hB : B ≤ w.heap.size) (hs : isB sn i = true) (hs8 : sn ≤ 8) (hlt : i < (K sn).id) :
    Calls Try.prog 9 #[.pointer (some ⟨g, 0, none⟩), .int .i64 sn, .int .i64 i] w (LookP B A g ok K f a r sn i w) := by
  obtain ⟨w1, hw1⟩ : ∃ w1, w1 = w.alloc (.cells zeroRep.toArray 31) := ⟨_, rfl⟩
  obtain ⟨q, hq⟩ : ∃ q, q = w.heap.size := ⟨_, rfl⟩
  have hk1 : Keeps Non w w1 := by rw [hw1]; exact (Keeps.refl _ _).alloc _
  have hQ1 : Blk w1 q 31 zeroRep.toArray := by rw [hw1, hq]; exact Blk.new _ _ _
  have h1 := h.non hk1
  have hz1 := hk1.size
  have hlow := h.low
  have HIS := Lib.hid (fun W => is_any sn i W)
  have HS := Lib.hid hs
  clear hs
  go_enter Try.func9, Try.ntmps9
  go_wp2_with fail
  rw [show (#[.int .i64 0, .int .i64 0, .int .i64 0, .int .i64 0, .string { data := #[] }, .slice none 0 0, .slice none 0 0] : Array Value) = zeroRep.toArray from rfl, ← hw1, ← hq]
  have hqw : w.heap.size ≤ q := by omega
  clear hw1 hq
  refine (HIS.out _).mono ?_
  rw [HS.out]
  rintro e w2 ⟨rfl, rfl⟩
  have HP := Lib.hid (places_any w2 h1 (by omega))
  have hg1 := h1.box hQ1
  go_wp2_with fail
  refine HP.out.mono ?_
  rintro e w3 ⟨gk, rfl, hT3, hE3, hK3⟩
  have hQ3 := hQ1.one hK3 hg1
  obtain ⟨cur, hcb, hcz, hcv⟩ := hT3.row
  obtain ⟨l, d, -, e1, -⟩ := hcv sn (by omega)
  have c1 : w3.cell? ⟨gk, sn * 7 + 1, none⟩ = some (.int .i64 (K sn).id) := by rw [hcb.cell]; exact e1
  have HL := Lib.hid hlt
  have hgq : gk ≠ q := by
    rcases hE3 with e | ⟨-, gk', e, e2⟩
    · have := hlow gk e.symm; omega
    · injection e with e; subst e; have := hQ1.lt; omega
  have HA := Lib.hid (add_refused hT3.tab)
  have HT3 := Lib.hid hT3
  clear hcb hcv e1 hT3
  go_wp2_with fail
  refine HA.out.mono ?_
  rintro e w4 ⟨v4, rfl, h4, hK4⟩
  have hQ4 := hQ3.one hK4 hg1
  obtain ⟨⟨va0, sa0⟩, fa0, ⟨va1, sa1⟩, fa1, ⟨va2, sa2⟩, fa2, ⟨va3, sa3⟩, fa3, ⟨va4, sa4⟩, fa4, ⟨va5, sa5⟩, fa5, ⟨va6, sa6⟩, fa6, hBa, hKa⟩ := store_seven hQ4 (0) (by decide) (.int .i64 0) (.int .i64 0) (.int .i64 0) (.int .i64 0) (.string { data := #[] }) (.slice none 0 0) (.slice none 0 0); simp only [Nat.zero_add] at sa0 fa0 sa1 fa1 sa2 fa2 sa3 fa3 sa4 fa4 sa5 fa5 sa6 fa6 hBa hKa
  have hq : Hid (w.heap.size ≤ q) := hqw
  rw [set7_zero] at hBa
  have FB := Lib.hid hBa
  have FK := Lib.hid hKa
  have F3 := Lib.hid h4
  have FK3 := Lib.hid ((hk1.of_non.trans hK3).trans hK4)
  have HE3 := Lib.hid hE3
  clear hBa hKa h4 hK3 hK4 HA c1 hlt hE3
  go_wp2_with fail
  refine bodyPost_ret (results_look rfl _ _ q _ rfl FB.out rfl) rfl ?_
  refine ⟨_, _, _, some gk, a, wrap64 (r + 1), rfl, .stale HS.out (by simpa using HL.out), ?_, ?_, ?_⟩
  · exact F3.out.boxed hQ4 (fun gk' e => by injection e with e; rw [← e]; exact hgq) FK.out
  · rcases HE3.out with e | ⟨e, gk', e2, e3⟩
    · exact .inl e
    · exact .inr ⟨e, gk', e2, by omega⟩
  · exact FK3.out.then FK.out fun i hi e => by unfold Only at e; have := hq.out; omega
end Go.Proofs.Ytmlffigfhhoihac
