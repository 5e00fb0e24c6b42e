/- A pair of volumes: Cells and Open upon both; any call. -/
import Derived.Test.YtmlffigfhhoihabV17
namespace Go.Proofs.Ytmlffigfhhoihab
open Go.RowKit Go.Uc

theorem RowL.keep {w w' : World} {S : Nat → Prop} {B U g n cap : Nat} {cur : Array Value} (h : RowL w B U g n cap cur) (hk : Keeps S w w') (hS : ∀ k, B ≤ k → k < U → ¬ S k) : RowL w' B U g n cap cur :=
  ⟨h.low, h.high, h.blk.keep hk (hS g h.low h.high), h.fits, h.most, h.size, fun i hi => by
    obtain ⟨a, b, c, d, m, e0, e1, e2, e3, e4⟩ := h.each i hi
    refine ⟨a, b, c, d, m, e0, e1, e2, e3, e4.keep hk fun g' hg' => ?_⟩
    obtain ⟨⟨ys, hy⟩, hu⟩ := e4
    exact hS g' (World.ownsRow.lt hy g' hg').1 (hu g' hg')⟩

set_option maxRecDepth 100000 in
set_option maxHeartbeats 8000000 in
theorem does_cells (B gp gx gbx gy gby co : Nat) (X : List UInt8) (o : Opr) (Ao : Option Addr) (w : World) (hP : PairB w B gp gx gbx gy gby X) (hs : szB (X.length : Int) = true) (hk0 : I64 o.kind) (hkd : pk o.kind 5 = 3) :
    Calls Try.prog 30 #[.pointer (some ⟨gp, 0, none⟩), .agg #[.int .i64 o.kind, .int .i64 o.at_, .int .i64 o.many, .slice Ao o.b.length co]] w (DoneB w B gp gy gby X.length) := by
  have HKD := Lib.hid hkd
  have hN := szB_of hs
  have HS := Lib.hid hs
  unfold I64 at hk0
  clear hkd hs
  go_enter Try.func30, Try.ntmps30
  go_wp2_with fail
  obtain ⟨w1, hw1⟩ : ∃ w1, w1 = w.alloc (.cells #[.int .i64 o.kind, .int .i64 o.at_, .int .i64 o.many, .slice Ao o.b.length co] 25) := ⟨_, rfl⟩
  have hk1 : Keeps Non w w1 := by rw [hw1]; exact (Keeps.refl _ _).alloc _
  have hB1 : Blk w1 w.heap.size 25 #[.int .i64 o.kind, .int .i64 o.at_, .int .i64 o.many, .slice Ao o.b.length co] := by rw [hw1]; exact Blk.new _ _ _
  rw [← hw1]
  obtain ⟨gO, hgO⟩ : ∃ q, q = w.heap.size := ⟨_, rfl⟩
  rw [← hgO] at hB1 ⊢
  have hl := hP.lts
  have hd := hP.dis
  have hlo := hP.low
  have hgo : gO ≠ gp ∧ gO ≠ gx ∧ gO ≠ gbx ∧ gO ≠ gy ∧ gO ≠ gby := by omega
  have hP1 := hP.non hk1
  have hs1 := hk1.size
  have hB1l := hB1.lt
  obtain ⟨d1, d2, d3, d4, d5, d6, d7, d8, d9, d10⟩ := hd
  clear hw1 hgO hP
  refine (pick_pk o.kind 5 _ (by omega) (by omega) hk0.1 hk0.2).mono ?_
  rw [HKD.out]
  rintro e w2 ⟨rfl, rfl⟩
  have k1 : w1.cell? ⟨gO, 1, none⟩ = some (.int .i64 o.at_) := hB1.cell 1
  have k2 : w1.cell? ⟨gO, 2, none⟩ = some (.int .i64 o.many) := hB1.cell 2
  have k3 : w1.cell? ⟨gO, 3, none⟩ = some (.slice Ao o.b.length co) := hB1.cell 3
  have c0 : w1.cell? ⟨gp, 0, none⟩ = some (.pointer (some ⟨gx, 0, none⟩)) := hP1.pb.cell 0
  have c1 : w1.cell? ⟨gp, 1, none⟩ = some (.pointer (some ⟨gy, 0, none⟩)) := hP1.pb.cell 1
  obtain ⟨cs, hcs⟩ : ∃ cs, cs = cellsTo X (X.length / 256) := ⟨_, rfl⟩
  have hcl := cellsTo_length X (X.length / 256)
  have hc0 : 0 < cs.length := by rw [hcs, cellsTo_cons]; simp
  have C1 := fun W h => cells_any gx gbx X W h (by omega) (by omega)
  have C2 := fun W h => refCells_any gy gby X W h (by omega) (by omega)
  have C3 := fun cc AA W => open_own cc AA X W HS.out
  rw [← hcs] at C1 C2 C3 hcl
  have HC1 := Lib.hid C1
  have HC2 := Lib.hid C2
  have HC3 := Lib.hid C3
  clear C1 C2 C3 hcs k1 k2 k3 c1
  go_wp2_with fail
  refine (HC1.out _ hP1.vx).mono ?_
  rintro e w3 ⟨v1, rfl, hR1, hK3⟩
  obtain ⟨A1, n1, rfl, hCe1, hn1, -⟩ := hR1.open
  have hP3 := hP1.non hK3
  have hB3 := hB1.non hK3
  have c1 : w3.cell? ⟨gp, 1, none⟩ = some (.pointer (some ⟨gy, 0, none⟩)) := hP3.pb.cell 1
  clear hP1 hB1 c0 HC1
  go_wp2_with fail
  refine (HC2.out _ hP3.vy).mono ?_
  rintro e w4 ⟨v2, rfl, hR2, hK4⟩
  obtain ⟨A2, n2, rfl, hCe2, hn2, -⟩ := hR2.open
  have hP4 := hP3.non hK4
  have hB4 := hB3.non hK4
  have hCe1' := hCe1.non hK4
  have c0 : w4.cell? ⟨gp, 0, none⟩ = some (.pointer (some ⟨gx, 0, none⟩)) := hP4.pb.cell 0
  clear hP3 hB3 c1 HC2 hR2
  go_wp2_with fail
  refine (size_any gx gbx X _ hP4.vx).mono ?_
  rintro e w5 ⟨rfl, rfl⟩
  go_wp2_with fail
  refine (same_any A1 A2 n1 n2 cs _ hCe1' hCe2 (by omega)).mono ?_
  rintro e w6 ⟨rfl, hK6⟩
  have hP6 := hP4.non hK6
  have hB6 := hB4.non hK6
  have hk36 : Keeps Non w3 w6 := hK4.trans hK6
  have hkw6 : Keeps Non w w6 := (hk1.trans hK3).trans hk36
  have hCe6 := hCe1'.non hK6
  have hR6 := hR1.all hk36 (fun _ _ e => e)
  obtain ⟨gr, cap, cur, er, hL6⟩ := hR6.loose hc0
  injection er with er1 _ er2
  subst er1 er2
  have k0 : w6.cell? ⟨gO, 0, none⟩ = some (.int .i64 o.kind) := hB6.cell 0
  have hz6 := hkw6.size
  clear hP4 hB4 c0 hCe1 hCe1' hCe2 hR1 hR6 hK4 hK6 hK3 hk36
  go_wp2_with fail
  refine (pick_pk o.kind 5 _ (by omega) (by omega) hk0.1 hk0.2).mono ?_
  rw [HKD.out]
  rintro e w7 ⟨rfl, rfl⟩
  go_wp2_with fail
  refine (spoil_any gr cs.length n1 w1.heap.size w6.heap.size cur w6 hL6 (by have := hL6.low; have := hL6.high; omega) (by omega)).mono ?_
  rintro e w7 ⟨rfl, hK7⟩
  have hP7 := hP6.keep hK7 (fun e => by unfold Between at e; omega) (fun e => by unfold Between at e; omega) (fun e => by unfold Between at e; omega) (fun e => by unfold Between at e; omega) (fun e => by unfold Between at e; omega)
  have hkk : Keeps (Above B) w w7 := (hkw6.of_non).trans (hK7.mono fun i e => by unfold Between at e; unfold Above; omega)
  have c1 : w7.cell? ⟨gp, 1, none⟩ = some (.pointer (some ⟨gy, 0, none⟩)) := hP7.pb.cell 1
  have c2 : w7.cell? ⟨gy, 0, none⟩ = some (.slice (some ⟨gby, 0, none⟩) X.length X.length) := hP7.vy.1.cell 0
  go_wp2_with fail
  go_ret
  exact ⟨rfl, ⟨gx, gbx, _, hP7, rfl⟩, hkk⟩

set_option maxRecDepth 100000 in
set_option maxHeartbeats 8000000 in
theorem does_open (B gp gx gbx gy gby co : Nat) (X : List UInt8) (o : Opr) (Ao : Option Addr) (w : World) (hP : PairB w B gp gx gbx gy gby X) (hs : szB (X.length : Int) = true) (hk0 : I64 o.kind) (hkd : pk o.kind 5 = 4) :
    Calls Try.prog 30 #[.pointer (some ⟨gp, 0, none⟩), .agg #[.int .i64 o.kind, .int .i64 o.at_, .int .i64 o.many, .slice Ao o.b.length co]] w (DoneB w B gp gy gby X.length) := by
  have HKD := Lib.hid hkd
  have hN := szB_of hs
  have HS := Lib.hid hs
  unfold I64 at hk0
  clear hkd hs
  go_enter Try.func30, Try.ntmps30
  go_wp2_with fail
  obtain ⟨w1, hw1⟩ : ∃ w1, w1 = w.alloc (.cells #[.int .i64 o.kind, .int .i64 o.at_, .int .i64 o.many, .slice Ao o.b.length co] 25) := ⟨_, rfl⟩
  have hk1 : Keeps Non w w1 := by rw [hw1]; exact (Keeps.refl _ _).alloc _
  have hB1 : Blk w1 w.heap.size 25 #[.int .i64 o.kind, .int .i64 o.at_, .int .i64 o.many, .slice Ao o.b.length co] := by rw [hw1]; exact Blk.new _ _ _
  rw [← hw1]
  obtain ⟨gO, hgO⟩ : ∃ q, q = w.heap.size := ⟨_, rfl⟩
  rw [← hgO] at hB1 ⊢
  have hl := hP.lts
  have hd := hP.dis
  have hlo := hP.low
  have hgo : gO ≠ gp ∧ gO ≠ gx ∧ gO ≠ gbx ∧ gO ≠ gy ∧ gO ≠ gby := by omega
  have hP1 := hP.non hk1
  have hs1 := hk1.size
  have hB1l := hB1.lt
  obtain ⟨d1, d2, d3, d4, d5, d6, d7, d8, d9, d10⟩ := hd
  clear hw1 hgO hP
  refine (pick_pk o.kind 5 _ (by omega) (by omega) hk0.1 hk0.2).mono ?_
  rw [HKD.out]
  rintro e w2 ⟨rfl, rfl⟩
  have k1 : w1.cell? ⟨gO, 1, none⟩ = some (.int .i64 o.at_) := hB1.cell 1
  have k2 : w1.cell? ⟨gO, 2, none⟩ = some (.int .i64 o.many) := hB1.cell 2
  have k3 : w1.cell? ⟨gO, 3, none⟩ = some (.slice Ao o.b.length co) := hB1.cell 3
  have c0 : w1.cell? ⟨gp, 0, none⟩ = some (.pointer (some ⟨gx, 0, none⟩)) := hP1.pb.cell 0
  have c1 : w1.cell? ⟨gp, 1, none⟩ = some (.pointer (some ⟨gy, 0, none⟩)) := hP1.pb.cell 1
  obtain ⟨cs, hcs⟩ : ∃ cs, cs = cellsTo X (X.length / 256) := ⟨_, rfl⟩
  have hcl := cellsTo_length X (X.length / 256)
  have hc0 : 0 < cs.length := by rw [hcs, cellsTo_cons]; simp
  have C1 := fun W h => cells_any gx gbx X W h (by omega) (by omega)
  have C2 := fun W h => refCells_any gy gby X W h (by omega) (by omega)
  have C3 := fun cc AA W => open_own cc AA X W HS.out
  rw [← hcs] at C1 C2 C3 hcl
  have HC1 := Lib.hid C1
  have HC2 := Lib.hid C2
  have HC3 := Lib.hid C3
  clear C1 C2 C3 hcs k1 k2 k3 c1
  go_wp2_with fail
  refine (HC1.out _ hP1.vx).mono ?_
  rintro e w3 ⟨v1, rfl, hR1, hK3⟩
  obtain ⟨A1, n1, rfl, hCe1, hn1, -⟩ := hR1.open
  have hP3 := hP1.non hK3
  have hB3 := hB1.non hK3
  have c1 : w3.cell? ⟨gp, 1, none⟩ = some (.pointer (some ⟨gy, 0, none⟩)) := hP3.pb.cell 1
  clear hP1 hB1 c0 HC1
  go_wp2_with fail
  refine (HC2.out _ hP3.vy).mono ?_
  rintro e w4 ⟨v2, rfl, hR2, hK4⟩
  obtain ⟨A2, n2, rfl, hCe2, hn2, -⟩ := hR2.open
  have hP4 := hP3.non hK4
  have hB4 := hB3.non hK4
  have hCe1' := hCe1.non hK4
  have c0 : w4.cell? ⟨gp, 0, none⟩ = some (.pointer (some ⟨gx, 0, none⟩)) := hP4.pb.cell 0
  clear hP3 hB3 c1 HC2 hR2
  go_wp2_with fail
  refine (size_any gx gbx X _ hP4.vx).mono ?_
  rintro e w5 ⟨rfl, rfl⟩
  go_wp2_with fail
  refine (same_any A1 A2 n1 n2 cs _ hCe1' hCe2 (by omega)).mono ?_
  rintro e w6 ⟨rfl, hK6⟩
  have hP6 := hP4.non hK6
  have hB6 := hB4.non hK6
  have hk36 : Keeps Non w3 w6 := hK4.trans hK6
  have hkw6 : Keeps Non w w6 := (hk1.trans hK3).trans hk36
  have hCe6 := hCe1'.non hK6
  have hR6 := hR1.all hk36 (fun _ _ e => e)
  obtain ⟨gr, cap, cur, er, hL6⟩ := hR6.loose hc0
  injection er with er1 _ er2
  subst er1 er2
  have k0 : w6.cell? ⟨gO, 0, none⟩ = some (.int .i64 o.kind) := hB6.cell 0
  have hz6 := hkw6.size
  clear hP4 hB4 c0 hCe1 hCe1' hCe2 hR1 hR6 hK4 hK6 hK3 hk36
  go_wp2_with fail
  refine (pick_pk o.kind 5 _ (by omega) (by omega) hk0.1 hk0.2).mono ?_
  rw [HKD.out]
  rintro e w7 ⟨rfl, rfl⟩
  go_wp2_with fail
  refine (HC3.out n1 _ w6 hCe6 hL6.fits).mono ?_
  rintro e w7 ⟨gx', gbx', rfl, hv7, hb1, hb2, hK7⟩
  have hP7 := hP6.non hK7
  have hL7 := hL6.keep hK7 (fun _ _ _ e => e)
  have f0 := Blk.frozen hP7.pb 0
  have c0 : w7.cell? ⟨gp, 0, none⟩ = some (.pointer (some ⟨gx, 0, none⟩)) := hP7.pb.cell 0
  have hset : Keeps (Only gp) w7 (w7.setCell ⟨gp, 0, none⟩ (.pointer (some ⟨gx', 0, none⟩))) := (Keeps.refl (Only gp) w7).set (p := ⟨gp, 0, none⟩) rfl _
  have hpb8 : Blk (w7.setCell ⟨gp, 0, none⟩ (.pointer (some ⟨gx', 0, none⟩))) gp 47 #[.pointer (some ⟨gx', 0, none⟩), .pointer (some ⟨gy, 0, none⟩)] := hP7.pb.set 0 _
  have HS8 := Lib.hid hset
  have HP8 := Lib.hid hpb8
  clear hset hpb8 hP6 hL6 hCe6 HC3 k0
  go_wp2_with fail
  obtain ⟨w8, hw8⟩ : ∃ w8, w8 = w7.setCell ⟨gp, 0, none⟩ (.pointer (some ⟨gx', 0, none⟩)) := ⟨_, rfl⟩
  rw [← hw8] at HS8 HP8 ⊢
  have hv8 := hv7.keep HS8.out (fun e => by unfold Only at e; omega) (fun e => by unfold Only at e; omega)
  have hy8 := hP7.vy.keep HS8.out (fun e => d3 e.symm) (fun e => d4 e.symm)
  have hL8 := hL7.keep HS8.out (fun k a b e => by unfold Only at e; omega)
  have hz7 := hK7.size
  have hz8 := HS8.out.size
  clear hw8 f0 c0
  refine (spoil_any gr cs.length n1 w1.heap.size w6.heap.size cur w8 hL8 (by have := hL8.low; have := hL8.high; omega) (by omega)).mono ?_
  rintro e w9 ⟨rfl, hK9⟩
  have hv9 := hv8.keep hK9 (fun e => by unfold Between at e; omega) (fun e => by unfold Between at e; omega)
  have hy9 := hy8.keep hK9 (fun e => by unfold Between at e; omega) (fun e => by unfold Between at e; omega)
  have hp9 := HP8.out.keep hK9 (fun e => by unfold Between at e; omega)
  have hkk : Keeps (Above B) w w9 := (((hkw6.trans hK7).of_non).trans (HS8.out.mono fun i e => by unfold Only at e; unfold Above; omega)).trans (hK9.mono fun i e => by unfold Between at e; unfold Above; omega)
  have c1 : w9.cell? ⟨gp, 1, none⟩ = some (.pointer (some ⟨gy, 0, none⟩)) := hp9.cell 1
  have c2 : w9.cell? ⟨gy, 0, none⟩ = some (.slice (some ⟨gby, 0, none⟩) X.length X.length) := hy9.1.cell 0
  go_wp2_with fail
  go_ret
  exact ⟨rfl, ⟨gx', gbx', X, ⟨hp9, hv9, hy9, by omega, by omega⟩, rfl⟩, hkk⟩

theorem does_any (B gp gx gbx gy gby co : Nat) (X : List UInt8) (o : Opr) (Ao : Option Addr) (w : World) (hP : PairB w B gp gx gbx gy gby X) (hs : szB (X.length : Int) = true) (hk0 : I64 o.kind) (hA : At w Ao o.b) (hlow : ∀ ad, Ao = some ad → 0 < o.b.length → ad.block < B) (hco : o.b.length ≤ co) (h64 : o.b.length ≤ 140737488351232) :
    Calls Try.prog 30 #[.pointer (some ⟨gp, 0, none⟩), .agg #[.int .i64 o.kind, .int .i64 o.at_, .int .i64 o.many, .slice Ao o.b.length co]] w (DoneB w B gp gy gby X.length) := by
  have hb := pk_bounds o.kind 5 (by omega)
  by_cases h0 : pk o.kind 5 = 0
  · exact does_write B gp gx gbx gy gby co X o Ao w hP hs hk0 h0 hA hlow hco h64
  by_cases h1 : pk o.kind 5 = 1
  · exact does_discard B gp gx gbx gy gby co X o Ao w hP hs hk0 h1
  by_cases h2 : pk o.kind 5 = 2
  · exact does_read B gp gx gbx gy gby co X o Ao w hP hs hk0 h2
  by_cases h3 : pk o.kind 5 = 3
  · exact does_cells B gp gx gbx gy gby co X o Ao w hP hs hk0 h3
  exact does_open B gp gx gbx gy gby co X o Ao w hP hs hk0 (by omega)
end Go.Proofs.Ytmlffigfhhoihab
