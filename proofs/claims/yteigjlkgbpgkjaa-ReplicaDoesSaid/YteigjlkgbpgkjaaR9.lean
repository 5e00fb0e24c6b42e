/- What is asked: the other two. -/
import Derived.Test.YteigjlkgbpgkjaaR8
namespace Go.Proofs.Yteigjlkgbpgkjaa
open Go.RowKit Go.Uc

section
variable {g : Nat} {on : Option Nat} {j : Job} {x : St} {pv : Value}
set_option maxRecDepth 100000 in
set_option maxHeartbeats 8000000 in
theorem asks_any (w : World) (h : RepS w g on j x pv) (h3 : x.at_ = 3) :
    Calls Try.prog 28 #[.pointer (some ⟨g, 0, none⟩)] w fun en w' => en = .returned (.agg (rqC (askV j x) (.slice none 0 0))) ∧ Keeps Non w w' := by
  have HA : Hid (askV j x = ⟨0, 0, 37, j.name, j.snap, j.base, ByteArray.empty, x.has, if j.deep = true then 1 else 0, []⟩) := by show _ = _; unfold askV; rw [if_pos h3]
  obtain ⟨dd, steps, hB, -⟩ := h.blk
  obtain ⟨p, hp⟩ : ∃ p, p = w.heap.size := ⟨_, rfl⟩
  obtain ⟨w1, hw1⟩ : ∃ W, W = w.alloc (.cells #[.int .i64 0, .int .i64 0, .int .i64 0, .string { data := #[] }, .string { data := #[] }, .string { data := #[] }, .string { data := #[] }, .int .i64 0, .int .i64 0, .slice none 0 0] 41) := ⟨_, rfl⟩
  have hP1 : Blk w1 p 41 #[.int .i64 0, .int .i64 0, .int .i64 0, .string { data := #[] }, .string { data := #[] }, .string { data := #[] }, .string { data := #[] }, .int .i64 0, .int .i64 0, .slice none 0 0] := by rw [hw1, hp]; exact Blk.new _ _ _
  have hk1 : Keeps Non w w1 := by rw [hw1]; exact (Keeps.refl _ _).alloc _
  have hB1 := hB.non hk1
  have hlt1 := hB1.lt
  have hplt := hP1.lt
  have hpw : w.heap.size ≤ p := by omega
  have hka : ∀ o, Keeps Non w1 (w1.alloc o).drew := fun o => ((Keeps.refl Non w1).alloc o).drew
  have hBd := hB1.drew
  have hBz := hB1.non (hka (.cells #[.int .i64 0, .int .i64 0, .int .i64 0, .string { data := #[] }, .string { data := #[] }, .string { data := #[] }, .string { data := #[] }, .int .i64 0, .int .i64 0, .slice none 0 0] 41))
  have hBr := hB1.non (hka (.cells #[.int .i64 0, .int .i64 0, .int .i64 37, .string j.name, .string j.snap, .string j.base, .string { data := #[] }, .int .i64 x.has, .int .i64 0, .slice none 0 0] 41))
  have FS1 : Hid (w1.drew.cell? ⟨g, 0, none⟩ = some (.string j.name) ∧ w1.drew.cell? ⟨g, 1, none⟩ = some (.string j.snap) ∧ w1.drew.cell? ⟨g, 2, none⟩ = some (.string j.base) ∧ w1.drew.cell? ⟨g, 14, none⟩ = some (.int .i64 x.has)) := ⟨hBd.cell 0, hBd.cell 1, hBd.cell 2, hBd.cell 14⟩
  have FS2 : Hid ((w1.alloc (.cells #[.int .i64 0, .int .i64 0, .int .i64 0, .string { data := #[] }, .string { data := #[] }, .string { data := #[] }, .string { data := #[] }, .int .i64 0, .int .i64 0, .slice none 0 0] 41)).drew.cell? ⟨g, 0, none⟩ = some (.string j.name) ∧ (w1.alloc (.cells #[.int .i64 0, .int .i64 0, .int .i64 0, .string { data := #[] }, .string { data := #[] }, .string { data := #[] }, .string { data := #[] }, .int .i64 0, .int .i64 0, .slice none 0 0] 41)).drew.cell? ⟨g, 1, none⟩ = some (.string j.snap) ∧ (w1.alloc (.cells #[.int .i64 0, .int .i64 0, .int .i64 0, .string { data := #[] }, .string { data := #[] }, .string { data := #[] }, .string { data := #[] }, .int .i64 0, .int .i64 0, .slice none 0 0] 41)).drew.cell? ⟨g, 2, none⟩ = some (.string j.base) ∧ (w1.alloc (.cells #[.int .i64 0, .int .i64 0, .int .i64 0, .string { data := #[] }, .string { data := #[] }, .string { data := #[] }, .string { data := #[] }, .int .i64 0, .int .i64 0, .slice none 0 0] 41)).drew.cell? ⟨g, 14, none⟩ = some (.int .i64 x.has)) := ⟨hBz.cell 0, hBz.cell 1, hBz.cell 2, hBz.cell 14⟩
  have FS3 : Hid ((w1.alloc (.cells #[.int .i64 0, .int .i64 0, .int .i64 37, .string j.name, .string j.snap, .string j.base, .string { data := #[] }, .int .i64 x.has, .int .i64 0, .slice none 0 0] 41)).drew.cell? ⟨g, 0, none⟩ = some (.string j.name) ∧ (w1.alloc (.cells #[.int .i64 0, .int .i64 0, .int .i64 37, .string j.name, .string j.snap, .string j.base, .string { data := #[] }, .int .i64 x.has, .int .i64 0, .slice none 0 0] 41)).drew.cell? ⟨g, 1, none⟩ = some (.string j.snap) ∧ (w1.alloc (.cells #[.int .i64 0, .int .i64 0, .int .i64 37, .string j.name, .string j.snap, .string j.base, .string { data := #[] }, .int .i64 x.has, .int .i64 0, .slice none 0 0] 41)).drew.cell? ⟨g, 2, none⟩ = some (.string j.base) ∧ (w1.alloc (.cells #[.int .i64 0, .int .i64 0, .int .i64 37, .string j.name, .string j.snap, .string j.base, .string { data := #[] }, .int .i64 x.has, .int .i64 0, .slice none 0 0] 41)).drew.cell? ⟨g, 14, none⟩ = some (.int .i64 x.has)) := ⟨hBr.cell 0, hBr.cell 1, hBr.cell 2, hBr.cell 14⟩
  clear h hB h3 hBd hBz
  go_enter Try.func28, Try.ntmps28
  go_upto_region 1 with fail
  rw [← hw1, ← hp]
  clear hw1 hp
  go_region_held3 (fun w' : World => w'.cell? ⟨g, 0, none⟩ = some (.string j.name) ∧ w'.cell? ⟨g, 1, none⟩ = some (.string j.snap) ∧ w'.cell? ⟨g, 2, none⟩ = some (.string j.base) ∧ w'.cell? ⟨g, 14, none⟩ = some (.int .i64 x.has)) (with_reducible (first | exact FS1.out | exact FS2.out | exact FS3.out)) (fail)
  obtain ⟨e, he⟩ : ∃ e, e = w1.heap.size := ⟨_, rfl⟩
  obtain ⟨w2, hw2⟩ : ∃ W, W = (w1.alloc (.cells #[.int .i64 0, .int .i64 0, .int .i64 37, .string j.name, .string j.snap, .string j.base, .string { data := #[] }, .int .i64 x.has, .int .i64 0, .slice none 0 0] 41)).drew := ⟨_, rfl⟩
  have hE2 : Blk w2 e 41 #[.int .i64 0, .int .i64 0, .int .i64 37, .string j.name, .string j.snap, .string j.base, .string { data := #[] }, .int .i64 x.has, .int .i64 0, .slice none 0 0] := by rw [hw2, he]; exact (Blk.new _ _ _).drew
  have hk12 : Keeps Non w1 w2 := by rw [hw2]; exact hka _
  have hB2 := hB1.non hk12
  have hP2 := hP1.non hk12
  have hpe : p ≠ e := by omega
  have hk2 := hk1.trans hk12
  have hew : w.heap.size ≤ e := by have := hk1.size; omega
  rw [← hw2, ← he]
  clear hw2 he FS1 FS2 FS3 hBr hka hB1 hP1 hk1 hk12
  have c3 : w2.cell? ⟨g, 3, none⟩ = some (.bool j.deep) := hB2.cell 3
  have e8 : w2.cell? ⟨e, 8, none⟩ = some (.int .i64 0) := hE2.cell 8
  have fe8 := hE2.frozen 8
  cases hd : j.deep with
  | true =>
    have HD : Hid ((if j.deep = true then (1 : Int) else 0) = 1) := by show _ = _; rw [hd]; rfl
    rw [hd] at c3
    obtain ⟨w3, hw3⟩ : ∃ W, W = w2.setCell ⟨e, 8, none⟩ (.int .i64 1) := ⟨_, rfl⟩
    have hE3 : Blk w3 e 41 #[.int .i64 0, .int .i64 0, .int .i64 37, .string j.name, .string j.snap, .string j.base, .string { data := #[] }, .int .i64 x.has, .int .i64 1, .slice none 0 0] := by rw [hw3]; exact hE2.set 8 (.int .i64 1)
    have hke : Keeps (Only e) w2 w3 := by rw [hw3]; exact (Keeps.refl (Only e) w2).set (p := ⟨e, 8, none⟩) rfl _
    have hP3 := hP2.one hke hpe
    have hB3 := hB2
    have hk3 : Keeps Non w w3 := hk2.then hke fun i hi e' => by unfold Only at e'; omega
    clear hd
    go_upto_region 4 with fail
    rw [← hw3]
    clear hw3 c3 e8 fe8 hP2 hE2 hke hk2 hB2
    have y0 : w3.cell? ⟨e, 0, none⟩ = some (.int .i64 0) := hE3.cell 0
    have y1 : w3.cell? ⟨e, 1, none⟩ = some (.int .i64 0) := hE3.cell 1
    have y2 : w3.cell? ⟨e, 2, none⟩ = some (.int .i64 37) := hE3.cell 2
    have y3 : w3.cell? ⟨e, 3, none⟩ = some (.string j.name) := hE3.cell 3
    have y4 : w3.cell? ⟨e, 4, none⟩ = some (.string j.snap) := hE3.cell 4
    have y5 : w3.cell? ⟨e, 5, none⟩ = some (.string j.base) := hE3.cell 5
    have y6 : w3.cell? ⟨e, 6, none⟩ = some (.string { data := #[] }) := hE3.cell 6
    have y7 : w3.cell? ⟨e, 7, none⟩ = some (.int .i64 x.has) := hE3.cell 7
    have y8 : w3.cell? ⟨e, 8, none⟩ = some (.int .i64 1) := hE3.cell 8
    have y9 : w3.cell? ⟨e, 9, none⟩ = some (.slice none 0 0) := hE3.cell 9
    obtain ⟨za0, Ta0⟩ : ∃ v, w3.cell? ⟨p, 0, none⟩ = some v := ⟨_, hP3.cell 0⟩; have Fa0 := hP3.frozen 0; obtain ⟨za1, Ta1⟩ : ∃ v, w3.cell? ⟨p, 1, none⟩ = some v := ⟨_, hP3.cell 1⟩; have Fa1 := hP3.frozen 1; obtain ⟨za2, Ta2⟩ : ∃ v, w3.cell? ⟨p, 2, none⟩ = some v := ⟨_, hP3.cell 2⟩; have Fa2 := hP3.frozen 2; obtain ⟨za3, Ta3⟩ : ∃ v, w3.cell? ⟨p, 3, none⟩ = some v := ⟨_, hP3.cell 3⟩; have Fa3 := hP3.frozen 3; obtain ⟨za4, Ta4⟩ : ∃ v, w3.cell? ⟨p, 4, none⟩ = some v := ⟨_, hP3.cell 4⟩; have Fa4 := hP3.frozen 4; obtain ⟨za5, Ta5⟩ : ∃ v, w3.cell? ⟨p, 5, none⟩ = some v := ⟨_, hP3.cell 5⟩; have Fa5 := hP3.frozen 5; obtain ⟨za6, Ta6⟩ : ∃ v, w3.cell? ⟨p, 6, none⟩ = some v := ⟨_, hP3.cell 6⟩; have Fa6 := hP3.frozen 6; obtain ⟨za7, Ta7⟩ : ∃ v, w3.cell? ⟨p, 7, none⟩ = some v := ⟨_, hP3.cell 7⟩; have Fa7 := hP3.frozen 7; obtain ⟨za8, Ta8⟩ : ∃ v, w3.cell? ⟨p, 8, none⟩ = some v := ⟨_, hP3.cell 8⟩; have Fa8 := hP3.frozen 8; obtain ⟨za9, Ta9⟩ : ∃ v, w3.cell? ⟨p, 9, none⟩ = some v := ⟨_, hP3.cell 9⟩; have Fa9 := hP3.frozen 9; obtain ⟨hTa, hKTa⟩ := store_ten hP3 (.int .i64 0) (.int .i64 0) (.int .i64 37) (.string j.name) (.string j.snap) (.string j.base) (.string { data := #[] }) (.int .i64 x.has) (.int .i64 1) (.slice none 0 0)
    have FB := Lib.hid hTa
    have FK := Lib.hid (hk3.then hKTa fun i hi e => by unfold Only at e; omega)
    clear hTa hKTa hP3 hk3 hE3 hB3
    go_wp2_with fail
    refine bodyPost_ret (results_cell_row (ty := 41) rfl _ _ p 41 _ (0, 0) _ rfl FB.out Try.underlying41 rfl (by kernel_rfl)) rfl ?_
    rw [HA.out, HD.out]
    exact ⟨rfl, FK.out⟩
  | false =>
    have HD : Hid ((if j.deep = true then (1 : Int) else 0) = 0) := by show _ = _; rw [hd]; rfl
    rw [hd] at c3
    clear hd
    go_upto_region 4 with fail
    obtain ⟨w3, rfl⟩ : ∃ W : World, W = w2 := ⟨_, rfl⟩
    have hE3 := hE2
    have hP3 := hP2
    have hk3 := hk2
    have hB3 := hB2
    clear c3 e8 fe8 hP2 hE2 hk2 hB2
    have y0 : w3.cell? ⟨e, 0, none⟩ = some (.int .i64 0) := hE3.cell 0
    have y1 : w3.cell? ⟨e, 1, none⟩ = some (.int .i64 0) := hE3.cell 1
    have y2 : w3.cell? ⟨e, 2, none⟩ = some (.int .i64 37) := hE3.cell 2
    have y3 : w3.cell? ⟨e, 3, none⟩ = some (.string j.name) := hE3.cell 3
    have y4 : w3.cell? ⟨e, 4, none⟩ = some (.string j.snap) := hE3.cell 4
    have y5 : w3.cell? ⟨e, 5, none⟩ = some (.string j.base) := hE3.cell 5
    have y6 : w3.cell? ⟨e, 6, none⟩ = some (.string { data := #[] }) := hE3.cell 6
    have y7 : w3.cell? ⟨e, 7, none⟩ = some (.int .i64 x.has) := hE3.cell 7
    have y8 : w3.cell? ⟨e, 8, none⟩ = some (.int .i64 0) := hE3.cell 8
    have y9 : w3.cell? ⟨e, 9, none⟩ = some (.slice none 0 0) := hE3.cell 9
    obtain ⟨za0, Ta0⟩ : ∃ v, w3.cell? ⟨p, 0, none⟩ = some v := ⟨_, hP3.cell 0⟩; have Fa0 := hP3.frozen 0; obtain ⟨za1, Ta1⟩ : ∃ v, w3.cell? ⟨p, 1, none⟩ = some v := ⟨_, hP3.cell 1⟩; have Fa1 := hP3.frozen 1; obtain ⟨za2, Ta2⟩ : ∃ v, w3.cell? ⟨p, 2, none⟩ = some v := ⟨_, hP3.cell 2⟩; have Fa2 := hP3.frozen 2; obtain ⟨za3, Ta3⟩ : ∃ v, w3.cell? ⟨p, 3, none⟩ = some v := ⟨_, hP3.cell 3⟩; have Fa3 := hP3.frozen 3; obtain ⟨za4, Ta4⟩ : ∃ v, w3.cell? ⟨p, 4, none⟩ = some v := ⟨_, hP3.cell 4⟩; have Fa4 := hP3.frozen 4; obtain ⟨za5, Ta5⟩ : ∃ v, w3.cell? ⟨p, 5, none⟩ = some v := ⟨_, hP3.cell 5⟩; have Fa5 := hP3.frozen 5; obtain ⟨za6, Ta6⟩ : ∃ v, w3.cell? ⟨p, 6, none⟩ = some v := ⟨_, hP3.cell 6⟩; have Fa6 := hP3.frozen 6; obtain ⟨za7, Ta7⟩ : ∃ v, w3.cell? ⟨p, 7, none⟩ = some v := ⟨_, hP3.cell 7⟩; have Fa7 := hP3.frozen 7; obtain ⟨za8, Ta8⟩ : ∃ v, w3.cell? ⟨p, 8, none⟩ = some v := ⟨_, hP3.cell 8⟩; have Fa8 := hP3.frozen 8; obtain ⟨za9, Ta9⟩ : ∃ v, w3.cell? ⟨p, 9, none⟩ = some v := ⟨_, hP3.cell 9⟩; have Fa9 := hP3.frozen 9; obtain ⟨hTa, hKTa⟩ := store_ten hP3 (.int .i64 0) (.int .i64 0) (.int .i64 37) (.string j.name) (.string j.snap) (.string j.base) (.string { data := #[] }) (.int .i64 x.has) (.int .i64 0) (.slice none 0 0)
    have FB := Lib.hid hTa
    have FK := Lib.hid (hk3.then hKTa fun i hi e => by unfold Only at e; omega)
    clear hTa hKTa hP3 hk3 hE3 hB3
    go_wp2_with fail
    refine bodyPost_ret (results_cell_row (ty := 41) rfl _ _ p 41 _ (0, 0) _ rfl FB.out Try.underlying41 rfl (by kernel_rfl)) rfl ?_
    rw [HA.out, HD.out]
    exact ⟨rfl, FK.out⟩

set_option maxRecDepth 100000 in
set_option maxHeartbeats 8000000 in
theorem feeds_any (w : World) (h : RepS w g on j x pv) (h4 : x.at_ = 4) (hO : OwnB w 0 5 pv x.piece) (hn : x.piece.length ≤ 140737488355328) :
    Calls Try.prog 30 #[.pointer (some ⟨g, 0, none⟩)] w fun en w' => ∃ dv, en = .returned (.agg (rqC (askV j x) dv)) ∧ OwnB w' w.heap.size 5 dv x.piece ∧ Keeps Non w w' := by
  have HA : Hid (askV j x = ⟨0, 0, 25, j.to_, ByteArray.empty, ByteArray.empty, ByteArray.empty, 0, 0, x.piece⟩) := by show _ = _; unfold askV; rw [if_neg (by omega), if_pos h4]
  obtain ⟨Ap, cp, rfl, -, hAp, -⟩ := hO.open
  obtain ⟨dd, steps, hB, -⟩ := h.blk
  obtain ⟨p, hp⟩ : ∃ p, p = w.heap.size := ⟨_, rfl⟩
  obtain ⟨w1, hw1⟩ : ∃ W, W = w.alloc (.cells #[.int .i64 0, .int .i64 0, .int .i64 0, .string { data := #[] }, .string { data := #[] }, .string { data := #[] }, .string { data := #[] }, .int .i64 0, .int .i64 0, .slice none 0 0] 41) := ⟨_, rfl⟩
  have hP1 : Blk w1 p 41 #[.int .i64 0, .int .i64 0, .int .i64 0, .string { data := #[] }, .string { data := #[] }, .string { data := #[] }, .string { data := #[] }, .int .i64 0, .int .i64 0, .slice none 0 0] := by rw [hw1, hp]; exact Blk.new _ _ _
  have hk1 : Keeps Non w w1 := by rw [hw1]; exact (Keeps.refl _ _).alloc _
  have hB1 := hB.non hk1
  have hz1 := hk1.size
  have hpw : w.heap.size ≤ p := by omega
  have hgp : g ≠ p := hB1.ne hP1 (by decide)
  have HCL := Lib.hid (clone_b Ap cp x.piece w1.drew ((hAp.non hk1).non (Keeps.refl _ _).drew) hn)
  have FS1 : Hid (w1.drew.cell? ⟨g, 4, none⟩ = some (.string j.to_) ∧ w1.drew.cell? ⟨g, 16, none⟩ = some (.slice Ap x.piece.length cp)) := ⟨hB1.cell 4, hB1.cell 16⟩
  clear h hB h4 hO hAp
  go_enter Try.func30, Try.ntmps30
  go_upto_region 1 with fail
  rw [← hw1, ← hp]
  clear hw1 hp
  go_region_held3 (fun w' : World => w'.cell? ⟨g, 4, none⟩ = some (.string j.to_) ∧ w'.cell? ⟨g, 16, none⟩ = some (.slice Ap x.piece.length cp)) (with_reducible (first | exact FS1.out | exact FS2.out | exact FS3.out))
    (first | (go_at_call 38; go_must (refine HCL.out.mono ?_); rintro en w2 ⟨v, rfl, hOv, hK2⟩; go_must (obtain ⟨Av, cv, rfl, -, -, -⟩ := id hOv.open; have hB2 := hB1.drew.non hK2; have hP2 := hP1.drew.non hK2; have FS2 : Hid (w2.cell? ⟨g, 4, none⟩ = some (.string j.to_) ∧ w2.cell? ⟨g, 16, none⟩ = some (.slice Ap x.piece.length cp)) := ⟨hB2.cell 4, hB2.cell 16⟩; obtain ⟨za0, Ta0⟩ : ∃ v, w2.cell? ⟨p, 0, none⟩ = some v := ⟨_, hP2.cell 0⟩; have Fa0 := hP2.frozen 0; obtain ⟨za1, Ta1⟩ : ∃ v, w2.cell? ⟨p, 1, none⟩ = some v := ⟨_, hP2.cell 1⟩; have Fa1 := hP2.frozen 1; obtain ⟨za2, Ta2⟩ : ∃ v, w2.cell? ⟨p, 2, none⟩ = some v := ⟨_, hP2.cell 2⟩; have Fa2 := hP2.frozen 2; obtain ⟨za3, Ta3⟩ : ∃ v, w2.cell? ⟨p, 3, none⟩ = some v := ⟨_, hP2.cell 3⟩; have Fa3 := hP2.frozen 3; obtain ⟨za4, Ta4⟩ : ∃ v, w2.cell? ⟨p, 4, none⟩ = some v := ⟨_, hP2.cell 4⟩; have Fa4 := hP2.frozen 4; obtain ⟨za5, Ta5⟩ : ∃ v, w2.cell? ⟨p, 5, none⟩ = some v := ⟨_, hP2.cell 5⟩; have Fa5 := hP2.frozen 5; obtain ⟨za6, Ta6⟩ : ∃ v, w2.cell? ⟨p, 6, none⟩ = some v := ⟨_, hP2.cell 6⟩; have Fa6 := hP2.frozen 6; obtain ⟨za7, Ta7⟩ : ∃ v, w2.cell? ⟨p, 7, none⟩ = some v := ⟨_, hP2.cell 7⟩; have Fa7 := hP2.frozen 7; obtain ⟨za8, Ta8⟩ : ∃ v, w2.cell? ⟨p, 8, none⟩ = some v := ⟨_, hP2.cell 8⟩; have Fa8 := hP2.frozen 8; obtain ⟨za9, Ta9⟩ : ∃ v, w2.cell? ⟨p, 9, none⟩ = some v := ⟨_, hP2.cell 9⟩; have Fa9 := hP2.frozen 9; obtain ⟨hTa, hKTa⟩ := store_ten hP2 (.int .i64 0) (.int .i64 0) (.int .i64 25) (.string j.to_) (.string { data := #[] }) (.string { data := #[] }) (.string { data := #[] }) (.int .i64 0) (.int .i64 0) (.slice Av x.piece.length cv); have hB3 := hB2.one hKTa hgp; have FS3 : Hid (((((((((((w2.setCell ⟨p, 0, none⟩ (.int .i64 0)).setCell ⟨p, 1, none⟩ (.int .i64 0)).setCell ⟨p, 2, none⟩ (.int .i64 25)).setCell ⟨p, 3, none⟩ (.string j.to_)).setCell ⟨p, 4, none⟩ (.string { data := #[] })).setCell ⟨p, 5, none⟩ (.string { data := #[] })).setCell ⟨p, 6, none⟩ (.string { data := #[] })).setCell ⟨p, 7, none⟩ (.int .i64 0)).setCell ⟨p, 8, none⟩ (.int .i64 0)).setCell ⟨p, 9, none⟩ (.slice Av x.piece.length cv)).cell? ⟨g, 4, none⟩ = some (.string j.to_) ∧ ((((((((((w2.setCell ⟨p, 0, none⟩ (.int .i64 0)).setCell ⟨p, 1, none⟩ (.int .i64 0)).setCell ⟨p, 2, none⟩ (.int .i64 25)).setCell ⟨p, 3, none⟩ (.string j.to_)).setCell ⟨p, 4, none⟩ (.string { data := #[] })).setCell ⟨p, 5, none⟩ (.string { data := #[] })).setCell ⟨p, 6, none⟩ (.string { data := #[] })).setCell ⟨p, 7, none⟩ (.int .i64 0)).setCell ⟨p, 8, none⟩ (.int .i64 0)).setCell ⟨p, 9, none⟩ (.slice Av x.piece.length cv)).cell? ⟨g, 16, none⟩ = some (.slice Ap x.piece.length cp)) := ⟨hB3.cell 4, hB3.cell 16⟩; have FB := Lib.hid hTa; have FK := Lib.hid ((hk1.drew.trans hK2).then hKTa fun i hi e => by unfold Only at e; omega); have FO := Lib.hid ((hOv.keep hKTa (Blk.apart hP2 hOv (by decide))).mono (show w.heap.size ≤ w1.drew.heap.size from hz1)); clear hTa hKTa)))
  all_goals
    clear FS1 FS2 FS3 hB2 hP2 hB3 hOv hK2 HCL hB1 hP1 hk1
    clear Ta0 Fa0 Ta1 Fa1 Ta2 Fa2 Ta3 Fa3 Ta4 Fa4 Ta5 Fa5 Ta6 Fa6 Ta7 Fa7 Ta8 Fa8 Ta9 Fa9
    go_wp2_with fail
    refine bodyPost_ret (results_cell_row (ty := 41) rfl _ _ p 41 _ (0, 0) _ rfl FB.out Try.underlying41 rfl (by kernel_rfl)) rfl ?_
    rw [HA.out]
    exact ⟨_, rfl, FO.out, FK.out⟩
end
end Go.Proofs.Yteigjlkgbpgkjaa
