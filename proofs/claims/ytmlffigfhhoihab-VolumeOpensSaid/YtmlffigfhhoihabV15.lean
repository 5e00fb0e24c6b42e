/- spoil: cells are their owner's. -/
import Derived.Test.YtmlffigfhhoihabV14
namespace Go.Proofs.Ytmlffigfhhoihab
open Go.RowKit Go.Uc

/-- Blocks from B on. -/
def Above (B k : Nat) : Prop := B ≤ k
/-- Blocks from B on, ahead of U. -/
def Between (B U k : Nat) : Prop := B ≤ k ∧ k < U
/-- Bytes of the call's own, whatever they are. -/
def WB (w : World) (B U : Nat) (d : Value) (m : Nat) : Prop := (∃ ys, w.ownsRow B 5 1 d m ys) ∧ ∀ g, d.ownBlock = some g → g < U
theorem WB.slice {w : World} {B U m : Nat} {d : Value} (h : WB w B U d m) : ∃ A c, d = .slice A m c := by
  obtain ⟨⟨ys, h⟩, -⟩ := h
  rcases h.2 with ⟨rfl, h2⟩ | ⟨g, cap, cur, rfl, _⟩
  · exact ⟨none, 0, by rw [h2]⟩
  · exact ⟨_, cap, rfl⟩
theorem row_any_set {w : World} {B n size : Nat} {e : TypeId} {v : Value} {ys : List Value} (h : w.ownsRow B e size v n ys) (p : Addr) (hp : p.spot = none) (u : Value) : ∃ zs, (w.setCell p u).ownsRow B e size v n zs := by
  obtain ⟨b, off, sp⟩ := p
  simp only at hp
  subst hp
  rcases h.2 with ⟨rfl, h2⟩ | ⟨g, cap, cur, rfl, h2, h3, h4, h5, h6, h7⟩
  · exact ⟨ys, h.1, .inl ⟨rfl, h2⟩⟩
  · by_cases hb : g = b
    · subst hb
      have hb2 : Blk w g e cur := h3
      have := hb2.set off u
      refine ⟨(cur.setIfInBounds off u).toList.take (n * size), ?_, .inr ⟨g, cap, _, rfl, h2, this, h4, h5, by simpa using h6, rfl⟩⟩
      rw [List.length_take, Array.length_toList, Array.size_setIfInBounds, h6]
      exact Nat.min_eq_left (Nat.mul_le_mul_right _ h4)
    · have hb2 : Blk w g e cur := h3
      exact ⟨ys, h.1, .inr ⟨g, cap, cur, rfl, h2, hb2.far hb u, h4, h5, h6, h7⟩⟩
theorem WB.set {w : World} {B U m : Nat} {d : Value} (h : WB w B U d m) (p : Addr) (hp : p.spot = none) (u : Value) : WB (w.setCell p u) B U d m := by
  obtain ⟨⟨ys, h⟩, h2⟩ := h
  exact ⟨row_any_set h p hp u, h2⟩
theorem WB.keep {w w' : World} {B U m : Nat} {d : Value} {S : Nat → Prop} (h : WB w B U d m) (hk : Keeps S w w') (hb : ∀ g, d.ownBlock = some g → ¬ S g) : WB w' B U d m := by
  obtain ⟨⟨ys, h⟩, h2⟩ := h
  exact ⟨⟨ys, row_keep h hk hb⟩, h2⟩
/-- Four cells, as a cell of a content has them. -/
def Four (w : World) (B U : Nat) (cur : Array Value) (o : Nat) : Prop := ∃ (a b c : Int) (d : Value) (m : Nat), cur[o]? = some (.int .i64 a) ∧ cur[o + 1]? = some (.int .i64 b) ∧ cur[o + 2]? = some (.int .i64 c) ∧ cur[o + 3]? = some d ∧ WB w B U d m
/-- A row of cells of the call's own, whatever they are: its block. -/
structure RowL (w : World) (B U g n cap : Nat) (cur : Array Value) : Prop where
  low : B ≤ g
  high : g < U
  blk : Blk w g 60 cur
  fits : n ≤ cap
  most : cap ≤ maxLen
  size : cur.size = cap * 4
  each : ∀ i, i < n → Four w B U cur (i * 4)
theorem RowC.loose {w : World} {B : Nat} {v : Value} {cs : List Cel} (h : RowC w B (OwnB w B 5) v cs) (h0 : 0 < cs.length) : ∃ g cap cur, v = .slice (some ⟨g, 0, none⟩) cs.length cap ∧ RowL w B w.heap.size g cs.length cap cur := by
  obtain ⟨vss, h1, h2, h3⟩ := h
  obtain ⟨g, cap, cur, rfl, a1, a2, a3, a4, a5, a6⟩ := row_form h1 h0
  refine ⟨g, cap, cur, rfl, a1, a2.lt, a2, a3, a4, a5, fun i hi => ?_⟩
  obtain ⟨d, e, hd⟩ := h3 i hi (by omega)
  have key : ∀ j, j < 4 → cur[i * 4 + j]? = (vss[i]'(by omega))[j]? := fun j hj => by
    have e2 : (cur.toList.take (cs.length * 4))[i * 4 + j]? = vss.flatten[i * 4 + j]? := by rw [a6]
    rw [List.getElem?_take, if_pos (by omega)] at e2
    have e3 : vss.flatten[i * 4 + j]? = (vss[i]'(by omega))[j]? := RowC.open.flat4 vss (fun k hk => by obtain ⟨d', e', _⟩ := h3 k (by omega) hk; rw [e']; rfl) i j (by omega) hj
    rw [← e3, ← e2]
    simp
  have k0 := key 0 (by omega)
  have k1 := key 1 (by omega)
  have k2 := key 2 (by omega)
  have k3 := key 3 (by omega)
  rw [e] at k0 k1 k2 k3
  exact ⟨_, _, _, d, _, by simpa using k0, by simpa using k1, by simpa using k2, by simpa using k3, ⟨_, hd⟩, hd.old⟩
/-- A byte stored in other memory of the call's own. -/
theorem RowL.byte {w : World} {B U g n cap : Nat} {cur : Array Value} (h : RowL w B U g n cap cur) (p : Addr) (hp : p.spot = none) (hg : g ≠ p.block) (u : Value) : RowL (w.setCell p u) B U g n cap cur :=
  ⟨h.low, h.high, h.blk.far hg u, h.fits, h.most, h.size, fun i hi => by
    obtain ⟨a, b, c, d, m, e0, e1, e2, e3, e4⟩ := h.each i hi
    exact ⟨a, b, c, d, m, e0, e1, e2, e3, e4.set p hp u⟩⟩
def set4 (cur : Array Value) (o : Nat) (a b c d : Value) : Array Value := (((cur.setIfInBounds o a).setIfInBounds (o + 1) b).setIfInBounds (o + 2) c).setIfInBounds (o + 3) d
theorem set4_size (cur : Array Value) (o : Nat) (a b c d : Value) : (set4 cur o a b c d).size = cur.size := by simp [set4]
theorem set4_at {cur : Array Value} {o : Nat} (h : o + 3 < cur.size) (a b c d : Value) : (set4 cur o a b c d)[o]? = some a ∧ (set4 cur o a b c d)[o + 1]? = some b ∧ (set4 cur o a b c d)[o + 2]? = some c ∧ (set4 cur o a b c d)[o + 3]? = some d := by
  unfold set4
  refine ⟨?_, ?_, ?_, ?_⟩ <;> simp [Array.getElem?_setIfInBounds] <;> omega
theorem set4_far (cur : Array Value) (o i : Nat) (a b c d : Value) (h : i < o ∨ o + 4 ≤ i) : (set4 cur o a b c d)[i]? = cur[i]? := by
  unfold set4
  simp only [Array.getElem?_setIfInBounds]
  rw [if_neg (by omega), if_neg (by omega), if_neg (by omega), if_neg (by omega)]
/-- Four cells stored into the row: what each step asks, and what is left. -/
theorem store_four {w : World} {g t : Nat} {cur : Array Value} (h : Blk w g t cur) (o : Nat) (ho : o + 4 ≤ cur.size) (a b c d : Value) :
    (∃ v, w.cell? ⟨g, o, none⟩ = some v) ∧ w.frozen? ⟨g, o, none⟩ = false ∧
    (∃ v, (w.setCell ⟨g, o, none⟩ a).cell? ⟨g, o + 1, none⟩ = some v) ∧ (w.setCell ⟨g, o, none⟩ a).frozen? ⟨g, o + 1, none⟩ = false ∧
    (∃ v, ((w.setCell ⟨g, o, none⟩ a).setCell ⟨g, o + 1, none⟩ b).cell? ⟨g, o + 2, none⟩ = some v) ∧ ((w.setCell ⟨g, o, none⟩ a).setCell ⟨g, o + 1, none⟩ b).frozen? ⟨g, o + 2, none⟩ = false ∧
    (∃ v, (((w.setCell ⟨g, o, none⟩ a).setCell ⟨g, o + 1, none⟩ b).setCell ⟨g, o + 2, none⟩ c).cell? ⟨g, o + 3, none⟩ = some v) ∧ (((w.setCell ⟨g, o, none⟩ a).setCell ⟨g, o + 1, none⟩ b).setCell ⟨g, o + 2, none⟩ c).frozen? ⟨g, o + 3, none⟩ = false ∧
    Blk ((((w.setCell ⟨g, o, none⟩ a).setCell ⟨g, o + 1, none⟩ b).setCell ⟨g, o + 2, none⟩ c).setCell ⟨g, o + 3, none⟩ d) g t (set4 cur o a b c d) ∧
    Keeps (Only g) w ((((w.setCell ⟨g, o, none⟩ a).setCell ⟨g, o + 1, none⟩ b).setCell ⟨g, o + 2, none⟩ c).setCell ⟨g, o + 3, none⟩ d) := by
  have h1 := h.set o a
  have h2 := h1.set (o + 1) b
  have h3 := h2.set (o + 2) c
  have h4 := h3.set (o + 3) d
  have ex : ∀ {w' : World} {cs : Array Value} {i : Nat}, Blk w' g t cs → i < cs.size → ∃ v, w'.cell? ⟨g, i, none⟩ = some v := fun {w'} {cs} {i} hb hi => ⟨_, by rw [hb.cell, Array.getElem?_eq_getElem hi]⟩
  exact ⟨ex h (by omega), h.frozen _, ex h1 (by simp; omega), h1.frozen _, ex h2 (by simp; omega), h2.frozen _, ex h3 (by simp; omega), h3.frozen _, h4,
    ((((Keeps.refl (Only g) w).set (p := ⟨g, o, none⟩) rfl _).set (p := ⟨g, o + 1, none⟩) rfl _).set (p := ⟨g, o + 2, none⟩) rfl _).set (p := ⟨g, o + 3, none⟩) rfl _⟩
theorem RowL.put {w w' : World} {B U g n cap k : Nat} {cur : Array Value} (h : RowL w B U g n cap cur) (hk : Keeps (Only g) w w') (hkn : k < n) (x y z : Int) (hb : Blk w' g 60 (set4 cur (k * 4) (.int .i64 x) (.int .i64 y) (.int .i64 z) (.slice none 0 0))) :
    RowL w' B U g n cap (set4 cur (k * 4) (.int .i64 x) (.int .i64 y) (.int .i64 z) (.slice none 0 0)) := by
  have hsz := h.size
  have hf := h.fits
  refine ⟨h.low, h.high, hb, h.fits, h.most, by rw [set4_size]; exact h.size, fun i hi => ?_⟩
  by_cases e : i = k
  · subst e
    obtain ⟨a, b, c, d⟩ := set4_at (cur := cur) (o := i * 4) (by omega) (.int .i64 x) (.int .i64 y) (.int .i64 z) (.slice none 0 0)
    exact ⟨x, y, z, _, 0, a, b, c, d, ⟨[], World.ownsRow_nil _ _ _ _⟩, fun _ h => by cases h⟩
  · obtain ⟨a, b, c, d, m, e0, e1, e2, e3, ⟨ys, e4⟩, e5⟩ := h.each i hi
    refine ⟨a, b, c, d, m, ?_, ?_, ?_, ?_, ?_⟩
    · rw [set4_far _ _ _ _ _ _ _ (by omega)]; exact e0
    · rw [set4_far _ _ _ _ _ _ _ (by omega)]; exact e1
    · rw [set4_far _ _ _ _ _ _ _ (by omega)]; exact e2
    · rw [set4_far _ _ _ _ _ _ _ (by omega)]; exact e3
    · refine ⟨⟨ys, row_keep e4 hk fun g' hg' he => ?_⟩, e5⟩
      unfold Only at he
      subst he
      exact Blk.apart h.blk e4 (by decide) hg'

set_option maxRecDepth 100000 in
set_option maxHeartbeats 4000000 in
theorem spoil_any (g n c B U : Nat) (cur : Array Value) (w : World) (hR : RowL w B U g n c cur) (hB0 : B ≤ w.heap.size) (hn : (n + 1) * 48 ≤ 140737488355328) :
    Calls Try.prog 19 #[.slice (some ⟨g, 0, none⟩) n c] w fun e w' => e = .returned (.tuple #[]) ∧ Keeps (Between B U) w w' := by
  have hgB := hR.low
  have hgU := hR.high
  go_enter Try.func19, Try.ntmps19
  go_wp2
  go_loopw [2, 3] (fun i _ wr => ∃ (k : Nat) (cur : Array Value), k ≤ n ∧ i = .int .i64 k ∧ RowL wr B U g n c cur ∧ Keeps (Between B U) w wr) (fun i _ _ => n - (intOf i).toNat)
  case atStart => exact ⟨0, cur, Nat.zero_le _, rfl, hR, Keeps.refl _ _⟩
  case round =>
    clear hR
    obtain ⟨k, cur, hk, rfl, hRr, hK⟩ := hrel
    by_cases hlt : k < n
    · go_wp2_with fail
      obtain ⟨wo, rfl⟩ : ∃ wo : World, wo = wr := ⟨_, rfl⟩
      obtain ⟨x1, x2, x3, d, m, e0, e1, e2, e3, hd⟩ := hRr.each k hlt
      obtain ⟨Ad, cd, rfl⟩ := hd.slice
      have hmb : m ≤ 9223372036854775807 := by obtain ⟨⟨ys, hy⟩, -⟩ := hd; rcases hy.2 with ⟨_, h⟩ | ⟨_, cap', _, _, _, _, h1, h2, _⟩; omega; unfold maxLen at h2; omega
      go_loopw [3] (fun i wi => ∃ j : Nat, j ≤ m ∧ i = .int .i64 j ∧ RowL wi B U g n c cur ∧ WB wi B U (.slice Ad m cd) m ∧ Keeps (Between B U) wo wi) (fun i _ => m - (intOf i).toNat)
      case atStart => exact ⟨0, Nat.zero_le _, rfl, hRr, hd, Keeps.refl _ _⟩
      case round =>
        clear hRr hd
        obtain ⟨j, hj, rfl, hrow, hwb, hKj⟩ := hrel
        have kc : wr.cell? ⟨g, k * 4 + 3, none⟩ = some (.slice Ad m cd) := by rw [hrow.blk.cell]; exact e3
        by_cases hjl : j < m
        · obtain ⟨⟨ys, hy⟩, hyU⟩ := hwb
          obtain ⟨gd, cap', cur', eA', hb1, hb2, hb3, hb4, hb5, hb6⟩ := row_form hy (by omega)
          injection eA' with eA' _ ec'
          subst eA' ec'
          have hne : g ≠ gd := fun e => by subst e; exact Blk.apart hrow.blk hy (by decide) rfl
          obtain ⟨v7, hv7⟩ : ∃ v7, wr.cell? ⟨gd, j, none⟩ = some v7 := ⟨_, by rw [hb2.cell, Array.getElem?_eq_getElem (by omega)]⟩
          have hf := hb2.frozen j
          have H1 := Lib.hid (hrow.byte ⟨gd, j, none⟩ rfl hne (.int .u8 99))
          have H3 := Lib.hid (WB.set ⟨⟨ys, hy⟩, hyU⟩ ⟨gd, j, none⟩ rfl (.int .u8 99))
          have H4 := Lib.hid (hKj.set (p := ⟨gd, j, none⟩) ⟨hb1, hyU _ rfl⟩ (.int .u8 99))
          clear hrow hy hb1 hb2 hb3 hb4 hb5 hb6 hKj e0 e1 e2 e3
          go_wp2_with fail
          go_roundw
          case rel => exact ⟨j + 1, by omega, by go_num, H1.out, H3.out, H4.out⟩
          case measure => simp [intOf]; omega
        · obtain rfl : j = m := by omega
          have hsz := hrow.size
          have hfi := hrow.fits
          obtain ⟨⟨v0, s0⟩, f0, ⟨v1, s1⟩, f1, ⟨v2, s2⟩, f2, ⟨v3, s3⟩, f3, hB4, hK4⟩ := store_four hrow.blk (k * 4) (by omega) (.int .i64 (-1)) (.int .i64 0) (.int .i64 0) (.slice none 0 0)
          have H1 := Lib.hid (hrow.put hK4 hlt (-1) 0 0 hB4)
          have H2 := Lib.hid ((hK.trans hKj).trans (hK4.mono fun i e => by unfold Only at e; unfold Between; omega))
          clear hsz hrow hwb hKj hB4 hK4 e0 e1 e2 e3
          go_wp2_with fail
          go_roundw
          case rel => exact ⟨k + 1, _, by omega, by go_num, H1.out, H2.out⟩
          case measure => simp [intOf]; omega
    · obtain rfl : k = n := by omega
      have hown : wr.ownsRow B 60 4 (.slice (some ⟨g, 0, none⟩) k c) k (cur.toList.take (k * 4)) := by
        have := hRr.size
        have := hRr.fits
        exact ⟨by simp; omega, .inr ⟨g, c, cur, rfl, hRr.low, hRr.blk, hRr.fits, hRr.most, hRr.size, rfl⟩⟩
      have hBw : B ≤ wr.heap.size := by have := hK.size; omega
      have HRr := Lib.hid hRr
      clear hRr
      go_wp2_with (at_builtin; go_must (refine wpList_append_cell rfl (.tmp 32) (.tmp 34) rfl B (.slice (some ⟨g, 0, none⟩) k c) _ _ rfl (row_keep hown ((Keeps.refl Non _).alloc _) fun _ _ e => e) (some ⟨wr.heap.size, 0, none⟩) 1 [.int .i64 (-2), .int .i64 0, .int .i64 0, .slice none 0 0] rfl rfl (Ats.four _ _ _ _ _ _) (by intro u hu; simp at hu; rcases hu with rfl | rfl | rfl <;> rfl) (by omega) (by simp; omega) ?_); intro v6 w6 hR6 hK6 hat6; obtain ⟨g6, cap6, cur6, rfl, l1, l2, l3, l4, l5, l6⟩ := row_form hR6 (by omega); obtain ⟨v8, s8⟩ : ∃ v8, w6.cell? ⟨g6, k * 4 + 1, none⟩ = some v8 := ⟨_, by rw [l2.cell, Array.getElem?_eq_getElem (by omega)]⟩; have f8 := l2.frozen (k * 4 + 1); clear l2 l3 l4 l5 l6 hR6)
      go_end0
      have hk6 : Keeps (Between B U) w w6 := (hK.alloc _).then hK6 fun i _ e => by simp [Owned, Value.ownBlock] at e; unfold Between; omega
      refine ⟨rfl, ?_⟩
      rcases hat6 with h6 | h6
      · simp [Value.ownBlock] at h6
        exact hk6.set (p := ⟨g6, k * 4 + 1, none⟩) ⟨l1, by simp only; omega⟩ _
      · simp [Value.ownBlock] at h6
        exact hk6.setNew (p := ⟨g6, k * 4 + 1, none⟩) (by have := hK.size; simp only; omega) _
end Go.Proofs.Ytmlffigfhhoihab
