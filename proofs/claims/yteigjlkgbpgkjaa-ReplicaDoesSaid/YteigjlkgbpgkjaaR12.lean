/- The document's New and Next. -/
import Derived.Test.YteigjlkgbpgkjaaR11
namespace Go.Proofs.Yteigjlkgbpgkjaa
open Go.RowKit Go.Uc

/-- The document's replica. -/
def docC (j : Job) (x : St) (pv : Value) : Array Value := #[.string j.name, .string j.snap, .string j.base, .bool j.deep, .string j.to_, .int .i64 j.ses, .int .i64 j.first, .bool j.anew, .int .i64 x.at_, .int .i64 x.id, .int .i64 x.has, .int .i64 x.tries, pv, .int .i64 x.how, .int .i64 x.why]
/-- Bytes, where the law was called. -/
def PcA (w0 : World) (v : Value) (bs : List UInt8) : Prop := ∃ A c, v = .slice A bs.length c ∧ At w0 A bs
def DocR (w0 w : World) (q : Nat) (j : Job) (x : St) : Prop := ∃ pv, Blk w q 64 (docC j x pv) ∧ PcA w0 pv x.piece
theorem DocR.keep {w0 w w' : World} {S : Nat → Prop} {q : Nat} {j : Job} {x : St} (h : DocR w0 w q j x) (hk : Keeps S w w') (hq : ¬ S q) : DocR w0 w' q j x := by
  obtain ⟨pv, h1, h2⟩ := h
  exact ⟨pv, h1.keep hk hq, h2⟩
section
variable {q : Nat} {j : Job} {x : St} {pv : Value}
set_option maxRecDepth 100000 in
set_option maxHeartbeats 8000000 in
theorem rnext_off (w : World) (hB : Blk w q 64 (docC j x pv)) (h0 : x.how ≠ 0) :
    Calls Try.prog 8 #[.pointer (some ⟨q, 0, none⟩)] w fun en w' => en = .returned (.tuple #[.agg (rqC Rq.none (.slice none 0 0)), .int .i64 0, .bool false]) ∧ Keeps Non w w' := by
  obtain ⟨p, hp⟩ : ∃ p, p = w.heap.size := ⟨_, rfl⟩
  obtain ⟨w1, hw1⟩ : ∃ W, W = w.alloc (.cells #[.int .i64 0, .int .i64 0, .int .i64 0, .string { data := #[] }, .string { data := #[] }, .string { data := #[] }, .string { data := #[] }, .int .i64 0, .int .i64 0, .slice none 0 0] 41) := ⟨_, rfl⟩
  have hP1 : Blk w1 p 41 #[.int .i64 0, .int .i64 0, .int .i64 0, .string { data := #[] }, .string { data := #[] }, .string { data := #[] }, .string { data := #[] }, .int .i64 0, .int .i64 0, .slice none 0 0] := by rw [hw1, hp]; exact Blk.new _ _ _
  have hk1 : Keeps Non w w1 := by rw [hw1]; exact (Keeps.refl _ _).alloc _
  have c13 : w1.cell? ⟨q, 13, none⟩ = some (.int .i64 x.how) := (hB.non hk1).cell 13
  have hb : (x.how != 0) = true := by rw [bne_iff_ne]; exact h0
  have hpw : w.heap.size ≤ p := by omega
  obtain ⟨za0, Ta0⟩ : ∃ v, w1.cell? ⟨p, 0, none⟩ = some v := ⟨_, hP1.cell 0⟩; have Fa0 := hP1.frozen 0; obtain ⟨za1, Ta1⟩ : ∃ v, w1.cell? ⟨p, 1, none⟩ = some v := ⟨_, hP1.cell 1⟩; have Fa1 := hP1.frozen 1; obtain ⟨za2, Ta2⟩ : ∃ v, w1.cell? ⟨p, 2, none⟩ = some v := ⟨_, hP1.cell 2⟩; have Fa2 := hP1.frozen 2; obtain ⟨za3, Ta3⟩ : ∃ v, w1.cell? ⟨p, 3, none⟩ = some v := ⟨_, hP1.cell 3⟩; have Fa3 := hP1.frozen 3; obtain ⟨za4, Ta4⟩ : ∃ v, w1.cell? ⟨p, 4, none⟩ = some v := ⟨_, hP1.cell 4⟩; have Fa4 := hP1.frozen 4; obtain ⟨za5, Ta5⟩ : ∃ v, w1.cell? ⟨p, 5, none⟩ = some v := ⟨_, hP1.cell 5⟩; have Fa5 := hP1.frozen 5; obtain ⟨za6, Ta6⟩ : ∃ v, w1.cell? ⟨p, 6, none⟩ = some v := ⟨_, hP1.cell 6⟩; have Fa6 := hP1.frozen 6; obtain ⟨za7, Ta7⟩ : ∃ v, w1.cell? ⟨p, 7, none⟩ = some v := ⟨_, hP1.cell 7⟩; have Fa7 := hP1.frozen 7; obtain ⟨za8, Ta8⟩ : ∃ v, w1.cell? ⟨p, 8, none⟩ = some v := ⟨_, hP1.cell 8⟩; have Fa8 := hP1.frozen 8; obtain ⟨za9, Ta9⟩ : ∃ v, w1.cell? ⟨p, 9, none⟩ = some v := ⟨_, hP1.cell 9⟩; have Fa9 := hP1.frozen 9; obtain ⟨hTa, hKTa⟩ := store_ten hP1 (.int .i64 0) (.int .i64 0) (.int .i64 0) (.string { data := #[] }) (.string { data := #[] }) (.string { data := #[] }) (.string { data := #[] }) (.int .i64 0) (.int .i64 0) (.slice none 0 0)
  have FB := Lib.hid hTa
  have FK := Lib.hid (hk1.then hKTa fun i hi e => by unfold Only at e; omega)
  clear hB hP1 hk1 hTa hKTa h0
  go_enter Try.func8, Try.ntmps8
  go_upto_region 1 with fail
  rw [← hw1, ← hp]
  clear hw1 hp
  go_wp2_with fail
  refine bodyPost_ret (results_next rfl _ _ p _ rfl FB.out rfl) rfl ?_
  exact ⟨rfl, FK.out⟩
set_option maxRecDepth 100000 in
set_option maxHeartbeats 16000000 in
theorem rnext_on (w0 w : World) (hB : Blk w q 64 (docC j x pv)) (hpv : PcA w0 pv x.piece) (hk : x.at_ < 6) (h0 : x.how = 0) :
    Calls Try.prog 8 #[.pointer (some ⟨q, 0, none⟩)] w fun en w' => ∃ dv, en = .returned (.tuple #[.agg (rqC (nextV j x) dv), .int .i64 (whoK x.at_), .bool true]) ∧ PcA w0 dv (nextV j x).data ∧ Keeps Non w w' := by
  obtain ⟨p, hp⟩ : ∃ p, p = w.heap.size := ⟨_, rfl⟩
  obtain ⟨w1, hw1⟩ : ∃ W, W = w.alloc (.cells #[.int .i64 0, .int .i64 0, .int .i64 0, .string { data := #[] }, .string { data := #[] }, .string { data := #[] }, .string { data := #[] }, .int .i64 0, .int .i64 0, .slice none 0 0] 41) := ⟨_, rfl⟩
  have hP1 : Blk w1 p 41 #[.int .i64 0, .int .i64 0, .int .i64 0, .string { data := #[] }, .string { data := #[] }, .string { data := #[] }, .string { data := #[] }, .int .i64 0, .int .i64 0, .slice none 0 0] := by rw [hw1, hp]; exact Blk.new _ _ _
  have hk1 : Keeps Non w w1 := by rw [hw1]; exact (Keeps.refl _ _).alloc _
  have hB1 := hB.non hk1
  have c13 : w1.cell? ⟨q, 13, none⟩ = some (.int .i64 x.how) := hB1.cell 13
  have hb : (x.how != 0) = false := by rw [h0]; rfl
  have hlt1 := hB1.lt
  have hplt := hP1.lt
  have hpw : w.heap.size ≤ p := by omega
  have hka : ∀ o, Keeps Non w1 (w1.alloc o).drew := fun o => ((Keeps.refl Non w1).alloc o).drew
  have hBd := hB1.drew
  have hBz := hB1.non (hka (.cells #[.int .i64 0, .int .i64 0, .int .i64 0, .string { data := #[] }, .string { data := #[] }, .string { data := #[] }, .string { data := #[] }, .int .i64 0, .int .i64 0, .slice none 0 0] 41))
  have hBr := hB1.non (hka (.cells #[.int .i64 j.ses, .int .i64 x.id, .int .i64 0, .string j.to_, .string { data := #[] }, .string { data := #[] }, .string { data := #[] }, .int .i64 0, .int .i64 0, .slice none 0 0] 41))
  have FS1 : Hid (w1.drew.cell? ⟨q, 5, none⟩ = some (.int .i64 j.ses) ∧ w1.drew.cell? ⟨q, 9, none⟩ = some (.int .i64 x.id) ∧ w1.drew.cell? ⟨q, 4, none⟩ = some (.string j.to_)) := ⟨hBd.cell 5, hBd.cell 9, hBd.cell 4⟩
  have FS2 : Hid ((w1.alloc (.cells #[.int .i64 0, .int .i64 0, .int .i64 0, .string { data := #[] }, .string { data := #[] }, .string { data := #[] }, .string { data := #[] }, .int .i64 0, .int .i64 0, .slice none 0 0] 41)).drew.cell? ⟨q, 5, none⟩ = some (.int .i64 j.ses) ∧ (w1.alloc (.cells #[.int .i64 0, .int .i64 0, .int .i64 0, .string { data := #[] }, .string { data := #[] }, .string { data := #[] }, .string { data := #[] }, .int .i64 0, .int .i64 0, .slice none 0 0] 41)).drew.cell? ⟨q, 9, none⟩ = some (.int .i64 x.id) ∧ (w1.alloc (.cells #[.int .i64 0, .int .i64 0, .int .i64 0, .string { data := #[] }, .string { data := #[] }, .string { data := #[] }, .string { data := #[] }, .int .i64 0, .int .i64 0, .slice none 0 0] 41)).drew.cell? ⟨q, 4, none⟩ = some (.string j.to_)) := ⟨hBz.cell 5, hBz.cell 9, hBz.cell 4⟩
  have FS3 : Hid ((w1.alloc (.cells #[.int .i64 j.ses, .int .i64 x.id, .int .i64 0, .string j.to_, .string { data := #[] }, .string { data := #[] }, .string { data := #[] }, .int .i64 0, .int .i64 0, .slice none 0 0] 41)).drew.cell? ⟨q, 5, none⟩ = some (.int .i64 j.ses) ∧ (w1.alloc (.cells #[.int .i64 j.ses, .int .i64 x.id, .int .i64 0, .string j.to_, .string { data := #[] }, .string { data := #[] }, .string { data := #[] }, .int .i64 0, .int .i64 0, .slice none 0 0] 41)).drew.cell? ⟨q, 9, none⟩ = some (.int .i64 x.id) ∧ (w1.alloc (.cells #[.int .i64 j.ses, .int .i64 x.id, .int .i64 0, .string j.to_, .string { data := #[] }, .string { data := #[] }, .string { data := #[] }, .int .i64 0, .int .i64 0, .slice none 0 0] 41)).drew.cell? ⟨q, 4, none⟩ = some (.string j.to_)) := ⟨hBr.cell 5, hBr.cell 9, hBr.cell 4⟩
  obtain ⟨Ap, cp, rfl, hAp⟩ := id hpv
  have H0 := Lib.hid h0
  clear hB hBd hBz hAp h0
  go_enter Try.func8, Try.ntmps8
  go_upto_region 1 with fail
  rw [← hw1, ← hp]
  clear hw1 hp
  go_upto_region 3 with fail
  go_region_held3 (fun w' : World => w'.cell? ⟨q, 5, none⟩ = some (.int .i64 j.ses) ∧ w'.cell? ⟨q, 9, none⟩ = some (.int .i64 x.id) ∧ w'.cell? ⟨q, 4, none⟩ = some (.string j.to_)) (with_reducible (first | exact FS1.out | exact FS2.out | exact FS3.out)) (fail)
  obtain ⟨e, he⟩ : ∃ e, e = w1.heap.size := ⟨_, rfl⟩
  obtain ⟨w2, hw2⟩ : ∃ W, W = (w1.alloc (.cells #[.int .i64 j.ses, .int .i64 x.id, .int .i64 0, .string j.to_, .string { data := #[] }, .string { data := #[] }, .string { data := #[] }, .int .i64 0, .int .i64 0, .slice none 0 0] 41)).drew := ⟨_, rfl⟩
  have hE2 : Blk w2 e 41 #[.int .i64 j.ses, .int .i64 x.id, .int .i64 0, .string j.to_, .string { data := #[] }, .string { data := #[] }, .string { data := #[] }, .int .i64 0, .int .i64 0, .slice none 0 0] := by rw [hw2, he]; exact (Blk.new _ _ _).drew
  have hk12 : Keeps Non w1 w2 := by rw [hw2]; exact hka _
  have hB2 := hB1.non hk12
  have hP2 := hP1.non hk12
  have hpe : p ≠ e := by omega
  have hqe : ¬ q = e := by omega
  have hk2 := hk1.trans hk12
  have hew : w.heap.size ≤ e := by have := hk1.size; omega
  rw [← hw2, ← he]
  clear hw2 he FS1 FS2 FS3 hBr hka hB1 hP1 hk1 hk12
  have c0 : w2.cell? ⟨q, 0, none⟩ = some (.string j.name) := hB2.cell 0
  have c1 : w2.cell? ⟨q, 1, none⟩ = some (.string j.snap) := hB2.cell 1
  have c2 : w2.cell? ⟨q, 2, none⟩ = some (.string j.base) := hB2.cell 2
  have c3 : w2.cell? ⟨q, 3, none⟩ = some (.bool j.deep) := hB2.cell 3
  have c8 : w2.cell? ⟨q, 8, none⟩ = some (.int .i64 x.at_) := hB2.cell 8
  have c10 : w2.cell? ⟨q, 10, none⟩ = some (.int .i64 x.has) := hB2.cell 10
  have c12 : w2.cell? ⟨q, 12, none⟩ = some (.slice Ap x.piece.length cp) := hB2.cell 12
  have hnv : nextV j x = { askV j x with ses := j.ses, id := x.id } := by unfold nextV; rw [if_pos H0.out]
  match hx : x.at_, hk with
  | 0, _ =>
    rw [hx] at c8
    have HNW : Hid (whoK x.at_ = 1) := by show _ = _; rw [hx]; rfl
    have HNV : Hid (nextV j x = ⟨j.ses, x.id, 27, j.to_, ByteArray.empty, ByteArray.empty, ByteArray.empty, 0, 0, []⟩) := by show _ = _; rw [hnv]; unfold askV; rw [if_neg (by omega), if_neg (by omega), hx]; rfl
    clear hnv hx c0 c1 c2 c3 c10 c12
    have e2 : w2.cell? ⟨e, 2, none⟩ = some (.int .i64 0) := hE2.cell 2
    have fe2 := hE2.frozen 2
    obtain ⟨w3, hw3⟩ : ∃ W, W = (w2.setCell ⟨e, 2, none⟩ (.int .i64 27)) := ⟨_, rfl⟩
    have hE3 : Blk w3 e 41 #[.int .i64 j.ses, .int .i64 x.id, .int .i64 27, .string j.to_, .string { data := #[] }, .string { data := #[] }, .string { data := #[] }, .int .i64 0, .int .i64 0, .slice none 0 0] := by rw [hw3]; exact (hE2).set 2 (.int .i64 27)
    have hke : Keeps (Only e) w2 w3 := by rw [hw3]; exact (Keeps.refl (Only e) w2).set (p := ⟨e, 2, none⟩) rfl (.int .i64 27)
    have hP3 := hP2.one hke hpe
    have hk3 : Keeps Non w w3 := hk2.then hke fun i hi e' => by unfold Only at e'; omega
    clear hE2 hke hk2 hP2 hB2
    go_upto_region 25 with fail
    rw [← hw3]
    clear hw3 e2 fe2
    have y0 : w3.cell? ⟨e, 0, none⟩ = some (.int .i64 j.ses) := hE3.cell 0
    have y1 : w3.cell? ⟨e, 1, none⟩ = some (.int .i64 x.id) := hE3.cell 1
    have y2 : w3.cell? ⟨e, 2, none⟩ = some (.int .i64 27) := hE3.cell 2
    have y3 : w3.cell? ⟨e, 3, none⟩ = some (.string j.to_) := hE3.cell 3
    have y4 : w3.cell? ⟨e, 4, none⟩ = some (.string { data := #[] }) := hE3.cell 4
    have y5 : w3.cell? ⟨e, 5, none⟩ = some (.string { data := #[] }) := hE3.cell 5
    have y6 : w3.cell? ⟨e, 6, none⟩ = some (.string { data := #[] }) := hE3.cell 6
    have y7 : w3.cell? ⟨e, 7, none⟩ = some (.int .i64 0) := hE3.cell 7
    have y8 : w3.cell? ⟨e, 8, none⟩ = some (.int .i64 0) := hE3.cell 8
    have y9 : w3.cell? ⟨e, 9, none⟩ = some (.slice none 0 0) := hE3.cell 9
    obtain ⟨za0, Ta0⟩ : ∃ v, w3.cell? ⟨p, 0, none⟩ = some v := ⟨_, hP3.cell 0⟩; have Fa0 := hP3.frozen 0; obtain ⟨za1, Ta1⟩ : ∃ v, w3.cell? ⟨p, 1, none⟩ = some v := ⟨_, hP3.cell 1⟩; have Fa1 := hP3.frozen 1; obtain ⟨za2, Ta2⟩ : ∃ v, w3.cell? ⟨p, 2, none⟩ = some v := ⟨_, hP3.cell 2⟩; have Fa2 := hP3.frozen 2; obtain ⟨za3, Ta3⟩ : ∃ v, w3.cell? ⟨p, 3, none⟩ = some v := ⟨_, hP3.cell 3⟩; have Fa3 := hP3.frozen 3; obtain ⟨za4, Ta4⟩ : ∃ v, w3.cell? ⟨p, 4, none⟩ = some v := ⟨_, hP3.cell 4⟩; have Fa4 := hP3.frozen 4; obtain ⟨za5, Ta5⟩ : ∃ v, w3.cell? ⟨p, 5, none⟩ = some v := ⟨_, hP3.cell 5⟩; have Fa5 := hP3.frozen 5; obtain ⟨za6, Ta6⟩ : ∃ v, w3.cell? ⟨p, 6, none⟩ = some v := ⟨_, hP3.cell 6⟩; have Fa6 := hP3.frozen 6; obtain ⟨za7, Ta7⟩ : ∃ v, w3.cell? ⟨p, 7, none⟩ = some v := ⟨_, hP3.cell 7⟩; have Fa7 := hP3.frozen 7; obtain ⟨za8, Ta8⟩ : ∃ v, w3.cell? ⟨p, 8, none⟩ = some v := ⟨_, hP3.cell 8⟩; have Fa8 := hP3.frozen 8; obtain ⟨za9, Ta9⟩ : ∃ v, w3.cell? ⟨p, 9, none⟩ = some v := ⟨_, hP3.cell 9⟩; have Fa9 := hP3.frozen 9; obtain ⟨hTa, hKTa⟩ := store_ten hP3 (.int .i64 j.ses) (.int .i64 x.id) (.int .i64 27) (.string j.to_) (.string { data := #[] }) (.string { data := #[] }) (.string { data := #[] }) (.int .i64 0) (.int .i64 0) (.slice none 0 0)
    have FB := Lib.hid hTa
    have FK := Lib.hid (hk3.then hKTa fun i hi e' => by unfold Only at e'; omega)
    clear hTa hKTa hP3 hk3 hE3
    go_wp2_with fail
    refine bodyPost_ret (results_next rfl _ _ p _ rfl FB.out rfl) rfl ?_
    rw [HNV.out, HNW.out]
    exact ⟨_, rfl, ⟨none, 0, rfl, At.nil _ _⟩, FK.out⟩
  | 1, _ =>
    rw [hx] at c8
    have HNW : Hid (whoK x.at_ = 1) := by show _ = _; rw [hx]; rfl
    have HNV : Hid (nextV j x = ⟨j.ses, x.id, 24, j.to_, ByteArray.empty, ByteArray.empty, ByteArray.empty, 0, 0, []⟩) := by show _ = _; rw [hnv]; unfold askV; rw [if_neg (by omega), if_neg (by omega), hx]; rfl
    clear hnv hx c0 c1 c2 c3 c10 c12
    have e2 : w2.cell? ⟨e, 2, none⟩ = some (.int .i64 0) := hE2.cell 2
    have fe2 := hE2.frozen 2
    obtain ⟨w3, hw3⟩ : ∃ W, W = (w2.setCell ⟨e, 2, none⟩ (.int .i64 24)) := ⟨_, rfl⟩
    have hE3 : Blk w3 e 41 #[.int .i64 j.ses, .int .i64 x.id, .int .i64 24, .string j.to_, .string { data := #[] }, .string { data := #[] }, .string { data := #[] }, .int .i64 0, .int .i64 0, .slice none 0 0] := by rw [hw3]; exact (hE2).set 2 (.int .i64 24)
    have hke : Keeps (Only e) w2 w3 := by rw [hw3]; exact (Keeps.refl (Only e) w2).set (p := ⟨e, 2, none⟩) rfl (.int .i64 24)
    have hP3 := hP2.one hke hpe
    have hk3 : Keeps Non w w3 := hk2.then hke fun i hi e' => by unfold Only at e'; omega
    clear hE2 hke hk2 hP2 hB2
    go_upto_region 25 with fail
    rw [← hw3]
    clear hw3 e2 fe2
    have y0 : w3.cell? ⟨e, 0, none⟩ = some (.int .i64 j.ses) := hE3.cell 0
    have y1 : w3.cell? ⟨e, 1, none⟩ = some (.int .i64 x.id) := hE3.cell 1
    have y2 : w3.cell? ⟨e, 2, none⟩ = some (.int .i64 24) := hE3.cell 2
    have y3 : w3.cell? ⟨e, 3, none⟩ = some (.string j.to_) := hE3.cell 3
    have y4 : w3.cell? ⟨e, 4, none⟩ = some (.string { data := #[] }) := hE3.cell 4
    have y5 : w3.cell? ⟨e, 5, none⟩ = some (.string { data := #[] }) := hE3.cell 5
    have y6 : w3.cell? ⟨e, 6, none⟩ = some (.string { data := #[] }) := hE3.cell 6
    have y7 : w3.cell? ⟨e, 7, none⟩ = some (.int .i64 0) := hE3.cell 7
    have y8 : w3.cell? ⟨e, 8, none⟩ = some (.int .i64 0) := hE3.cell 8
    have y9 : w3.cell? ⟨e, 9, none⟩ = some (.slice none 0 0) := hE3.cell 9
    obtain ⟨za0, Ta0⟩ : ∃ v, w3.cell? ⟨p, 0, none⟩ = some v := ⟨_, hP3.cell 0⟩; have Fa0 := hP3.frozen 0; obtain ⟨za1, Ta1⟩ : ∃ v, w3.cell? ⟨p, 1, none⟩ = some v := ⟨_, hP3.cell 1⟩; have Fa1 := hP3.frozen 1; obtain ⟨za2, Ta2⟩ : ∃ v, w3.cell? ⟨p, 2, none⟩ = some v := ⟨_, hP3.cell 2⟩; have Fa2 := hP3.frozen 2; obtain ⟨za3, Ta3⟩ : ∃ v, w3.cell? ⟨p, 3, none⟩ = some v := ⟨_, hP3.cell 3⟩; have Fa3 := hP3.frozen 3; obtain ⟨za4, Ta4⟩ : ∃ v, w3.cell? ⟨p, 4, none⟩ = some v := ⟨_, hP3.cell 4⟩; have Fa4 := hP3.frozen 4; obtain ⟨za5, Ta5⟩ : ∃ v, w3.cell? ⟨p, 5, none⟩ = some v := ⟨_, hP3.cell 5⟩; have Fa5 := hP3.frozen 5; obtain ⟨za6, Ta6⟩ : ∃ v, w3.cell? ⟨p, 6, none⟩ = some v := ⟨_, hP3.cell 6⟩; have Fa6 := hP3.frozen 6; obtain ⟨za7, Ta7⟩ : ∃ v, w3.cell? ⟨p, 7, none⟩ = some v := ⟨_, hP3.cell 7⟩; have Fa7 := hP3.frozen 7; obtain ⟨za8, Ta8⟩ : ∃ v, w3.cell? ⟨p, 8, none⟩ = some v := ⟨_, hP3.cell 8⟩; have Fa8 := hP3.frozen 8; obtain ⟨za9, Ta9⟩ : ∃ v, w3.cell? ⟨p, 9, none⟩ = some v := ⟨_, hP3.cell 9⟩; have Fa9 := hP3.frozen 9; obtain ⟨hTa, hKTa⟩ := store_ten hP3 (.int .i64 j.ses) (.int .i64 x.id) (.int .i64 24) (.string j.to_) (.string { data := #[] }) (.string { data := #[] }) (.string { data := #[] }) (.int .i64 0) (.int .i64 0) (.slice none 0 0)
    have FB := Lib.hid hTa
    have FK := Lib.hid (hk3.then hKTa fun i hi e' => by unfold Only at e'; omega)
    clear hTa hKTa hP3 hk3 hE3
    go_wp2_with fail
    refine bodyPost_ret (results_next rfl _ _ p _ rfl FB.out rfl) rfl ?_
    rw [HNV.out, HNW.out]
    exact ⟨_, rfl, ⟨none, 0, rfl, At.nil _ _⟩, FK.out⟩
  | 2, _ =>
    rw [hx] at c8
    have HNW : Hid (whoK x.at_ = 1) := by show _ = _; rw [hx]; rfl
    have HNV : Hid (nextV j x = ⟨j.ses, x.id, 38, j.to_, ByteArray.empty, ByteArray.empty, ByteArray.empty, 0, 0, []⟩) := by show _ = _; rw [hnv]; unfold askV; rw [if_neg (by omega), if_neg (by omega), hx]; rfl
    clear hnv hx c0 c1 c2 c3 c10 c12
    have e2 : w2.cell? ⟨e, 2, none⟩ = some (.int .i64 0) := hE2.cell 2
    have fe2 := hE2.frozen 2
    obtain ⟨w3, hw3⟩ : ∃ W, W = (w2.setCell ⟨e, 2, none⟩ (.int .i64 38)) := ⟨_, rfl⟩
    have hE3 : Blk w3 e 41 #[.int .i64 j.ses, .int .i64 x.id, .int .i64 38, .string j.to_, .string { data := #[] }, .string { data := #[] }, .string { data := #[] }, .int .i64 0, .int .i64 0, .slice none 0 0] := by rw [hw3]; exact (hE2).set 2 (.int .i64 38)
    have hke : Keeps (Only e) w2 w3 := by rw [hw3]; exact (Keeps.refl (Only e) w2).set (p := ⟨e, 2, none⟩) rfl (.int .i64 38)
    have hP3 := hP2.one hke hpe
    have hk3 : Keeps Non w w3 := hk2.then hke fun i hi e' => by unfold Only at e'; omega
    clear hE2 hke hk2 hP2 hB2
    go_upto_region 25 with fail
    rw [← hw3]
    clear hw3 e2 fe2
    have y0 : w3.cell? ⟨e, 0, none⟩ = some (.int .i64 j.ses) := hE3.cell 0
    have y1 : w3.cell? ⟨e, 1, none⟩ = some (.int .i64 x.id) := hE3.cell 1
    have y2 : w3.cell? ⟨e, 2, none⟩ = some (.int .i64 38) := hE3.cell 2
    have y3 : w3.cell? ⟨e, 3, none⟩ = some (.string j.to_) := hE3.cell 3
    have y4 : w3.cell? ⟨e, 4, none⟩ = some (.string { data := #[] }) := hE3.cell 4
    have y5 : w3.cell? ⟨e, 5, none⟩ = some (.string { data := #[] }) := hE3.cell 5
    have y6 : w3.cell? ⟨e, 6, none⟩ = some (.string { data := #[] }) := hE3.cell 6
    have y7 : w3.cell? ⟨e, 7, none⟩ = some (.int .i64 0) := hE3.cell 7
    have y8 : w3.cell? ⟨e, 8, none⟩ = some (.int .i64 0) := hE3.cell 8
    have y9 : w3.cell? ⟨e, 9, none⟩ = some (.slice none 0 0) := hE3.cell 9
    obtain ⟨za0, Ta0⟩ : ∃ v, w3.cell? ⟨p, 0, none⟩ = some v := ⟨_, hP3.cell 0⟩; have Fa0 := hP3.frozen 0; obtain ⟨za1, Ta1⟩ : ∃ v, w3.cell? ⟨p, 1, none⟩ = some v := ⟨_, hP3.cell 1⟩; have Fa1 := hP3.frozen 1; obtain ⟨za2, Ta2⟩ : ∃ v, w3.cell? ⟨p, 2, none⟩ = some v := ⟨_, hP3.cell 2⟩; have Fa2 := hP3.frozen 2; obtain ⟨za3, Ta3⟩ : ∃ v, w3.cell? ⟨p, 3, none⟩ = some v := ⟨_, hP3.cell 3⟩; have Fa3 := hP3.frozen 3; obtain ⟨za4, Ta4⟩ : ∃ v, w3.cell? ⟨p, 4, none⟩ = some v := ⟨_, hP3.cell 4⟩; have Fa4 := hP3.frozen 4; obtain ⟨za5, Ta5⟩ : ∃ v, w3.cell? ⟨p, 5, none⟩ = some v := ⟨_, hP3.cell 5⟩; have Fa5 := hP3.frozen 5; obtain ⟨za6, Ta6⟩ : ∃ v, w3.cell? ⟨p, 6, none⟩ = some v := ⟨_, hP3.cell 6⟩; have Fa6 := hP3.frozen 6; obtain ⟨za7, Ta7⟩ : ∃ v, w3.cell? ⟨p, 7, none⟩ = some v := ⟨_, hP3.cell 7⟩; have Fa7 := hP3.frozen 7; obtain ⟨za8, Ta8⟩ : ∃ v, w3.cell? ⟨p, 8, none⟩ = some v := ⟨_, hP3.cell 8⟩; have Fa8 := hP3.frozen 8; obtain ⟨za9, Ta9⟩ : ∃ v, w3.cell? ⟨p, 9, none⟩ = some v := ⟨_, hP3.cell 9⟩; have Fa9 := hP3.frozen 9; obtain ⟨hTa, hKTa⟩ := store_ten hP3 (.int .i64 j.ses) (.int .i64 x.id) (.int .i64 38) (.string j.to_) (.string { data := #[] }) (.string { data := #[] }) (.string { data := #[] }) (.int .i64 0) (.int .i64 0) (.slice none 0 0)
    have FB := Lib.hid hTa
    have FK := Lib.hid (hk3.then hKTa fun i hi e' => by unfold Only at e'; omega)
    clear hTa hKTa hP3 hk3 hE3
    go_wp2_with fail
    refine bodyPost_ret (results_next rfl _ _ p _ rfl FB.out rfl) rfl ?_
    rw [HNV.out, HNW.out]
    exact ⟨_, rfl, ⟨none, 0, rfl, At.nil _ _⟩, FK.out⟩
  | 3, _ =>
    rw [hx] at c8
    have HNW : Hid (whoK x.at_ = 0) := by show _ = _; rw [hx]; rfl
    cases hd : j.deep with
    | true =>
      have HNV : Hid (nextV j x = ⟨j.ses, x.id, 37, j.name, j.snap, j.base, ByteArray.empty, x.has, 1, []⟩) := by show _ = _; rw [hnv]; unfold askV; rw [if_pos hx, hd]; rfl
      rw [hd] at c3
      clear hnv hx hd c12
      have e2 : w2.cell? ⟨e, 2, none⟩ = some (.int .i64 0) := hE2.cell 2
      have fe2 := hE2.frozen 2
      have e3 : w2.cell? ⟨e, 3, none⟩ = some (.string j.to_) := hE2.cell 3
      have fe3 := hE2.frozen 3
      have e4 : w2.cell? ⟨e, 4, none⟩ = some (.string { data := #[] }) := hE2.cell 4
      have fe4 := hE2.frozen 4
      have e5 : w2.cell? ⟨e, 5, none⟩ = some (.string { data := #[] }) := hE2.cell 5
      have fe5 := hE2.frozen 5
      have e7 : w2.cell? ⟨e, 7, none⟩ = some (.int .i64 0) := hE2.cell 7
      have fe7 := hE2.frozen 7
      have e8 : w2.cell? ⟨e, 8, none⟩ = some (.int .i64 0) := hE2.cell 8
      have fe8 := hE2.frozen 8
      obtain ⟨w3, hw3⟩ : ∃ W, W = ((((((w2.setCell ⟨e, 2, none⟩ (.int .i64 37)).setCell ⟨e, 3, none⟩ (.string j.name)).setCell ⟨e, 4, none⟩ (.string j.snap)).setCell ⟨e, 5, none⟩ (.string j.base)).setCell ⟨e, 7, none⟩ (.int .i64 x.has)).setCell ⟨e, 8, none⟩ (.int .i64 1)) := ⟨_, rfl⟩
      have hE3 : Blk w3 e 41 #[.int .i64 j.ses, .int .i64 x.id, .int .i64 37, .string j.name, .string j.snap, .string j.base, .string { data := #[] }, .int .i64 x.has, .int .i64 1, .slice none 0 0] := by rw [hw3]; exact ((((((hE2).set 2 (.int .i64 37)).set 3 (.string j.name)).set 4 (.string j.snap)).set 5 (.string j.base)).set 7 (.int .i64 x.has)).set 8 (.int .i64 1)
      have hke : Keeps (Only e) w2 w3 := by rw [hw3]; exact ((((((Keeps.refl (Only e) w2).set (p := ⟨e, 2, none⟩) rfl (.int .i64 37)).set (p := ⟨e, 3, none⟩) rfl (.string j.name)).set (p := ⟨e, 4, none⟩) rfl (.string j.snap)).set (p := ⟨e, 5, none⟩) rfl (.string j.base)).set (p := ⟨e, 7, none⟩) rfl (.int .i64 x.has)).set (p := ⟨e, 8, none⟩) rfl (.int .i64 1)
      have hP3 := hP2.one hke hpe
      have hk3 : Keeps Non w w3 := hk2.then hke fun i hi e' => by unfold Only at e'; omega
      clear hE2 hke hk2 hP2 hB2
      go_upto_region 24 with fail
      rw [← hw3]
      clear hw3 e2 fe2 e3 fe3 e4 fe4 e5 fe5 e7 fe7 e8 fe8
      have y0 : w3.cell? ⟨e, 0, none⟩ = some (.int .i64 j.ses) := hE3.cell 0
      have y1 : w3.cell? ⟨e, 1, none⟩ = some (.int .i64 x.id) := hE3.cell 1
      have y2 : w3.cell? ⟨e, 2, none⟩ = some (.int .i64 37) := hE3.cell 2
      have y3 : w3.cell? ⟨e, 3, none⟩ = some (.string j.name) := hE3.cell 3
      have y4 : w3.cell? ⟨e, 4, none⟩ = some (.string j.snap) := hE3.cell 4
      have y5 : w3.cell? ⟨e, 5, none⟩ = some (.string j.base) := hE3.cell 5
      have y6 : w3.cell? ⟨e, 6, none⟩ = some (.string { data := #[] }) := hE3.cell 6
      have y7 : w3.cell? ⟨e, 7, none⟩ = some (.int .i64 x.has) := hE3.cell 7
      have y8 : w3.cell? ⟨e, 8, none⟩ = some (.int .i64 1) := hE3.cell 8
      have y9 : w3.cell? ⟨e, 9, none⟩ = some (.slice none 0 0) := hE3.cell 9
      obtain ⟨za0, Ta0⟩ : ∃ v, w3.cell? ⟨p, 0, none⟩ = some v := ⟨_, hP3.cell 0⟩; have Fa0 := hP3.frozen 0; obtain ⟨za1, Ta1⟩ : ∃ v, w3.cell? ⟨p, 1, none⟩ = some v := ⟨_, hP3.cell 1⟩; have Fa1 := hP3.frozen 1; obtain ⟨za2, Ta2⟩ : ∃ v, w3.cell? ⟨p, 2, none⟩ = some v := ⟨_, hP3.cell 2⟩; have Fa2 := hP3.frozen 2; obtain ⟨za3, Ta3⟩ : ∃ v, w3.cell? ⟨p, 3, none⟩ = some v := ⟨_, hP3.cell 3⟩; have Fa3 := hP3.frozen 3; obtain ⟨za4, Ta4⟩ : ∃ v, w3.cell? ⟨p, 4, none⟩ = some v := ⟨_, hP3.cell 4⟩; have Fa4 := hP3.frozen 4; obtain ⟨za5, Ta5⟩ : ∃ v, w3.cell? ⟨p, 5, none⟩ = some v := ⟨_, hP3.cell 5⟩; have Fa5 := hP3.frozen 5; obtain ⟨za6, Ta6⟩ : ∃ v, w3.cell? ⟨p, 6, none⟩ = some v := ⟨_, hP3.cell 6⟩; have Fa6 := hP3.frozen 6; obtain ⟨za7, Ta7⟩ : ∃ v, w3.cell? ⟨p, 7, none⟩ = some v := ⟨_, hP3.cell 7⟩; have Fa7 := hP3.frozen 7; obtain ⟨za8, Ta8⟩ : ∃ v, w3.cell? ⟨p, 8, none⟩ = some v := ⟨_, hP3.cell 8⟩; have Fa8 := hP3.frozen 8; obtain ⟨za9, Ta9⟩ : ∃ v, w3.cell? ⟨p, 9, none⟩ = some v := ⟨_, hP3.cell 9⟩; have Fa9 := hP3.frozen 9; obtain ⟨hTa, hKTa⟩ := store_ten hP3 (.int .i64 j.ses) (.int .i64 x.id) (.int .i64 37) (.string j.name) (.string j.snap) (.string j.base) (.string { data := #[] }) (.int .i64 x.has) (.int .i64 1) (.slice none 0 0)
      have FB := Lib.hid hTa
      have FK := Lib.hid (hk3.then hKTa fun i hi e' => by unfold Only at e'; omega)
      clear hTa hKTa hP3 hk3 hE3
      go_wp2_with fail
      refine bodyPost_ret (results_next rfl _ _ p _ rfl FB.out rfl) rfl ?_
      rw [HNV.out, HNW.out]
      exact ⟨_, rfl, ⟨none, 0, rfl, At.nil _ _⟩, FK.out⟩
    | false =>
      have HNV : Hid (nextV j x = ⟨j.ses, x.id, 37, j.name, j.snap, j.base, ByteArray.empty, x.has, 0, []⟩) := by show _ = _; rw [hnv]; unfold askV; rw [if_pos hx, hd]; rfl
      rw [hd] at c3
      clear hnv hx hd c12
      have e2 : w2.cell? ⟨e, 2, none⟩ = some (.int .i64 0) := hE2.cell 2
      have fe2 := hE2.frozen 2
      have e3 : w2.cell? ⟨e, 3, none⟩ = some (.string j.to_) := hE2.cell 3
      have fe3 := hE2.frozen 3
      have e4 : w2.cell? ⟨e, 4, none⟩ = some (.string { data := #[] }) := hE2.cell 4
      have fe4 := hE2.frozen 4
      have e5 : w2.cell? ⟨e, 5, none⟩ = some (.string { data := #[] }) := hE2.cell 5
      have fe5 := hE2.frozen 5
      have e7 : w2.cell? ⟨e, 7, none⟩ = some (.int .i64 0) := hE2.cell 7
      have fe7 := hE2.frozen 7
      obtain ⟨w3, hw3⟩ : ∃ W, W = (((((w2.setCell ⟨e, 2, none⟩ (.int .i64 37)).setCell ⟨e, 3, none⟩ (.string j.name)).setCell ⟨e, 4, none⟩ (.string j.snap)).setCell ⟨e, 5, none⟩ (.string j.base)).setCell ⟨e, 7, none⟩ (.int .i64 x.has)) := ⟨_, rfl⟩
      have hE3 : Blk w3 e 41 #[.int .i64 j.ses, .int .i64 x.id, .int .i64 37, .string j.name, .string j.snap, .string j.base, .string { data := #[] }, .int .i64 x.has, .int .i64 0, .slice none 0 0] := by rw [hw3]; exact (((((hE2).set 2 (.int .i64 37)).set 3 (.string j.name)).set 4 (.string j.snap)).set 5 (.string j.base)).set 7 (.int .i64 x.has)
      have hke : Keeps (Only e) w2 w3 := by rw [hw3]; exact (((((Keeps.refl (Only e) w2).set (p := ⟨e, 2, none⟩) rfl (.int .i64 37)).set (p := ⟨e, 3, none⟩) rfl (.string j.name)).set (p := ⟨e, 4, none⟩) rfl (.string j.snap)).set (p := ⟨e, 5, none⟩) rfl (.string j.base)).set (p := ⟨e, 7, none⟩) rfl (.int .i64 x.has)
      have hP3 := hP2.one hke hpe
      have hk3 : Keeps Non w w3 := hk2.then hke fun i hi e' => by unfold Only at e'; omega
      clear hE2 hke hk2 hP2 hB2
      go_upto_region 24 with fail
      rw [← hw3]
      clear hw3 e2 fe2 e3 fe3 e4 fe4 e5 fe5 e7 fe7
      have y0 : w3.cell? ⟨e, 0, none⟩ = some (.int .i64 j.ses) := hE3.cell 0
      have y1 : w3.cell? ⟨e, 1, none⟩ = some (.int .i64 x.id) := hE3.cell 1
      have y2 : w3.cell? ⟨e, 2, none⟩ = some (.int .i64 37) := hE3.cell 2
      have y3 : w3.cell? ⟨e, 3, none⟩ = some (.string j.name) := hE3.cell 3
      have y4 : w3.cell? ⟨e, 4, none⟩ = some (.string j.snap) := hE3.cell 4
      have y5 : w3.cell? ⟨e, 5, none⟩ = some (.string j.base) := hE3.cell 5
      have y6 : w3.cell? ⟨e, 6, none⟩ = some (.string { data := #[] }) := hE3.cell 6
      have y7 : w3.cell? ⟨e, 7, none⟩ = some (.int .i64 x.has) := hE3.cell 7
      have y8 : w3.cell? ⟨e, 8, none⟩ = some (.int .i64 0) := hE3.cell 8
      have y9 : w3.cell? ⟨e, 9, none⟩ = some (.slice none 0 0) := hE3.cell 9
      obtain ⟨za0, Ta0⟩ : ∃ v, w3.cell? ⟨p, 0, none⟩ = some v := ⟨_, hP3.cell 0⟩; have Fa0 := hP3.frozen 0; obtain ⟨za1, Ta1⟩ : ∃ v, w3.cell? ⟨p, 1, none⟩ = some v := ⟨_, hP3.cell 1⟩; have Fa1 := hP3.frozen 1; obtain ⟨za2, Ta2⟩ : ∃ v, w3.cell? ⟨p, 2, none⟩ = some v := ⟨_, hP3.cell 2⟩; have Fa2 := hP3.frozen 2; obtain ⟨za3, Ta3⟩ : ∃ v, w3.cell? ⟨p, 3, none⟩ = some v := ⟨_, hP3.cell 3⟩; have Fa3 := hP3.frozen 3; obtain ⟨za4, Ta4⟩ : ∃ v, w3.cell? ⟨p, 4, none⟩ = some v := ⟨_, hP3.cell 4⟩; have Fa4 := hP3.frozen 4; obtain ⟨za5, Ta5⟩ : ∃ v, w3.cell? ⟨p, 5, none⟩ = some v := ⟨_, hP3.cell 5⟩; have Fa5 := hP3.frozen 5; obtain ⟨za6, Ta6⟩ : ∃ v, w3.cell? ⟨p, 6, none⟩ = some v := ⟨_, hP3.cell 6⟩; have Fa6 := hP3.frozen 6; obtain ⟨za7, Ta7⟩ : ∃ v, w3.cell? ⟨p, 7, none⟩ = some v := ⟨_, hP3.cell 7⟩; have Fa7 := hP3.frozen 7; obtain ⟨za8, Ta8⟩ : ∃ v, w3.cell? ⟨p, 8, none⟩ = some v := ⟨_, hP3.cell 8⟩; have Fa8 := hP3.frozen 8; obtain ⟨za9, Ta9⟩ : ∃ v, w3.cell? ⟨p, 9, none⟩ = some v := ⟨_, hP3.cell 9⟩; have Fa9 := hP3.frozen 9; obtain ⟨hTa, hKTa⟩ := store_ten hP3 (.int .i64 j.ses) (.int .i64 x.id) (.int .i64 37) (.string j.name) (.string j.snap) (.string j.base) (.string { data := #[] }) (.int .i64 x.has) (.int .i64 0) (.slice none 0 0)
      have FB := Lib.hid hTa
      have FK := Lib.hid (hk3.then hKTa fun i hi e' => by unfold Only at e'; omega)
      clear hTa hKTa hP3 hk3 hE3
      go_wp2_with fail
      refine bodyPost_ret (results_next rfl _ _ p _ rfl FB.out rfl) rfl ?_
      rw [HNV.out, HNW.out]
      exact ⟨_, rfl, ⟨none, 0, rfl, At.nil _ _⟩, FK.out⟩
  | 4, _ =>
    rw [hx] at c8
    have HNW : Hid (whoK x.at_ = 1) := by show _ = _; rw [hx]; rfl
    have HNV : Hid (nextV j x = ⟨j.ses, x.id, 25, j.to_, ByteArray.empty, ByteArray.empty, ByteArray.empty, 0, 0, x.piece⟩) := by show _ = _; rw [hnv]; unfold askV; rw [if_neg (by omega), if_pos hx]
    clear hnv hx c0 c1 c2 c3 c10
    have e2 : w2.cell? ⟨e, 2, none⟩ = some (.int .i64 0) := hE2.cell 2
    have fe2 := hE2.frozen 2
    have e9 : w2.cell? ⟨e, 9, none⟩ = some (.slice none 0 0) := hE2.cell 9
    have fe9 := hE2.frozen 9
    obtain ⟨w3, hw3⟩ : ∃ W, W = ((w2.setCell ⟨e, 2, none⟩ (.int .i64 25)).setCell ⟨e, 9, none⟩ (.slice Ap x.piece.length cp)) := ⟨_, rfl⟩
    have hE3 : Blk w3 e 41 #[.int .i64 j.ses, .int .i64 x.id, .int .i64 25, .string j.to_, .string { data := #[] }, .string { data := #[] }, .string { data := #[] }, .int .i64 0, .int .i64 0, .slice Ap x.piece.length cp] := by rw [hw3]; exact ((hE2).set 2 (.int .i64 25)).set 9 (.slice Ap x.piece.length cp)
    have hke : Keeps (Only e) w2 w3 := by rw [hw3]; exact ((Keeps.refl (Only e) w2).set (p := ⟨e, 2, none⟩) rfl (.int .i64 25)).set (p := ⟨e, 9, none⟩) rfl (.slice Ap x.piece.length cp)
    have hP3 := hP2.one hke hpe
    have hk3 : Keeps Non w w3 := hk2.then hke fun i hi e' => by unfold Only at e'; omega
    clear hE2 hke hk2 hP2 hB2
    go_upto_region 25 with fail
    rw [← hw3]
    clear hw3 e2 fe2 e9 fe9
    have y0 : w3.cell? ⟨e, 0, none⟩ = some (.int .i64 j.ses) := hE3.cell 0
    have y1 : w3.cell? ⟨e, 1, none⟩ = some (.int .i64 x.id) := hE3.cell 1
    have y2 : w3.cell? ⟨e, 2, none⟩ = some (.int .i64 25) := hE3.cell 2
    have y3 : w3.cell? ⟨e, 3, none⟩ = some (.string j.to_) := hE3.cell 3
    have y4 : w3.cell? ⟨e, 4, none⟩ = some (.string { data := #[] }) := hE3.cell 4
    have y5 : w3.cell? ⟨e, 5, none⟩ = some (.string { data := #[] }) := hE3.cell 5
    have y6 : w3.cell? ⟨e, 6, none⟩ = some (.string { data := #[] }) := hE3.cell 6
    have y7 : w3.cell? ⟨e, 7, none⟩ = some (.int .i64 0) := hE3.cell 7
    have y8 : w3.cell? ⟨e, 8, none⟩ = some (.int .i64 0) := hE3.cell 8
    have y9 : w3.cell? ⟨e, 9, none⟩ = some (.slice Ap x.piece.length cp) := hE3.cell 9
    obtain ⟨za0, Ta0⟩ : ∃ v, w3.cell? ⟨p, 0, none⟩ = some v := ⟨_, hP3.cell 0⟩; have Fa0 := hP3.frozen 0; obtain ⟨za1, Ta1⟩ : ∃ v, w3.cell? ⟨p, 1, none⟩ = some v := ⟨_, hP3.cell 1⟩; have Fa1 := hP3.frozen 1; obtain ⟨za2, Ta2⟩ : ∃ v, w3.cell? ⟨p, 2, none⟩ = some v := ⟨_, hP3.cell 2⟩; have Fa2 := hP3.frozen 2; obtain ⟨za3, Ta3⟩ : ∃ v, w3.cell? ⟨p, 3, none⟩ = some v := ⟨_, hP3.cell 3⟩; have Fa3 := hP3.frozen 3; obtain ⟨za4, Ta4⟩ : ∃ v, w3.cell? ⟨p, 4, none⟩ = some v := ⟨_, hP3.cell 4⟩; have Fa4 := hP3.frozen 4; obtain ⟨za5, Ta5⟩ : ∃ v, w3.cell? ⟨p, 5, none⟩ = some v := ⟨_, hP3.cell 5⟩; have Fa5 := hP3.frozen 5; obtain ⟨za6, Ta6⟩ : ∃ v, w3.cell? ⟨p, 6, none⟩ = some v := ⟨_, hP3.cell 6⟩; have Fa6 := hP3.frozen 6; obtain ⟨za7, Ta7⟩ : ∃ v, w3.cell? ⟨p, 7, none⟩ = some v := ⟨_, hP3.cell 7⟩; have Fa7 := hP3.frozen 7; obtain ⟨za8, Ta8⟩ : ∃ v, w3.cell? ⟨p, 8, none⟩ = some v := ⟨_, hP3.cell 8⟩; have Fa8 := hP3.frozen 8; obtain ⟨za9, Ta9⟩ : ∃ v, w3.cell? ⟨p, 9, none⟩ = some v := ⟨_, hP3.cell 9⟩; have Fa9 := hP3.frozen 9; obtain ⟨hTa, hKTa⟩ := store_ten hP3 (.int .i64 j.ses) (.int .i64 x.id) (.int .i64 25) (.string j.to_) (.string { data := #[] }) (.string { data := #[] }) (.string { data := #[] }) (.int .i64 0) (.int .i64 0) (.slice Ap x.piece.length cp)
    have FB := Lib.hid hTa
    have FK := Lib.hid (hk3.then hKTa fun i hi e' => by unfold Only at e'; omega)
    clear hTa hKTa hP3 hk3 hE3
    go_wp2_with fail
    refine bodyPost_ret (results_next rfl _ _ p _ rfl FB.out rfl) rfl ?_
    rw [HNV.out, HNW.out]
    exact ⟨_, rfl, hpv, FK.out⟩
  | 5, _ =>
    rw [hx] at c8
    have HNW : Hid (whoK x.at_ = 1) := by show _ = _; rw [hx]; rfl
    have HNV : Hid (nextV j x = ⟨j.ses, x.id, 26, j.to_, ByteArray.empty, ByteArray.empty, ByteArray.empty, 0, 0, []⟩) := by show _ = _; rw [hnv]; unfold askV; rw [if_neg (by omega), if_neg (by omega), hx]; rfl
    clear hnv hx c0 c1 c2 c3 c10 c12
    have e2 : w2.cell? ⟨e, 2, none⟩ = some (.int .i64 0) := hE2.cell 2
    have fe2 := hE2.frozen 2
    obtain ⟨w3, hw3⟩ : ∃ W, W = (w2.setCell ⟨e, 2, none⟩ (.int .i64 26)) := ⟨_, rfl⟩
    have hE3 : Blk w3 e 41 #[.int .i64 j.ses, .int .i64 x.id, .int .i64 26, .string j.to_, .string { data := #[] }, .string { data := #[] }, .string { data := #[] }, .int .i64 0, .int .i64 0, .slice none 0 0] := by rw [hw3]; exact (hE2).set 2 (.int .i64 26)
    have hke : Keeps (Only e) w2 w3 := by rw [hw3]; exact (Keeps.refl (Only e) w2).set (p := ⟨e, 2, none⟩) rfl (.int .i64 26)
    have hP3 := hP2.one hke hpe
    have hk3 : Keeps Non w w3 := hk2.then hke fun i hi e' => by unfold Only at e'; omega
    clear hE2 hke hk2 hP2 hB2
    go_upto_region 25 with fail
    rw [← hw3]
    clear hw3 e2 fe2
    have y0 : w3.cell? ⟨e, 0, none⟩ = some (.int .i64 j.ses) := hE3.cell 0
    have y1 : w3.cell? ⟨e, 1, none⟩ = some (.int .i64 x.id) := hE3.cell 1
    have y2 : w3.cell? ⟨e, 2, none⟩ = some (.int .i64 26) := hE3.cell 2
    have y3 : w3.cell? ⟨e, 3, none⟩ = some (.string j.to_) := hE3.cell 3
    have y4 : w3.cell? ⟨e, 4, none⟩ = some (.string { data := #[] }) := hE3.cell 4
    have y5 : w3.cell? ⟨e, 5, none⟩ = some (.string { data := #[] }) := hE3.cell 5
    have y6 : w3.cell? ⟨e, 6, none⟩ = some (.string { data := #[] }) := hE3.cell 6
    have y7 : w3.cell? ⟨e, 7, none⟩ = some (.int .i64 0) := hE3.cell 7
    have y8 : w3.cell? ⟨e, 8, none⟩ = some (.int .i64 0) := hE3.cell 8
    have y9 : w3.cell? ⟨e, 9, none⟩ = some (.slice none 0 0) := hE3.cell 9
    obtain ⟨za0, Ta0⟩ : ∃ v, w3.cell? ⟨p, 0, none⟩ = some v := ⟨_, hP3.cell 0⟩; have Fa0 := hP3.frozen 0; obtain ⟨za1, Ta1⟩ : ∃ v, w3.cell? ⟨p, 1, none⟩ = some v := ⟨_, hP3.cell 1⟩; have Fa1 := hP3.frozen 1; obtain ⟨za2, Ta2⟩ : ∃ v, w3.cell? ⟨p, 2, none⟩ = some v := ⟨_, hP3.cell 2⟩; have Fa2 := hP3.frozen 2; obtain ⟨za3, Ta3⟩ : ∃ v, w3.cell? ⟨p, 3, none⟩ = some v := ⟨_, hP3.cell 3⟩; have Fa3 := hP3.frozen 3; obtain ⟨za4, Ta4⟩ : ∃ v, w3.cell? ⟨p, 4, none⟩ = some v := ⟨_, hP3.cell 4⟩; have Fa4 := hP3.frozen 4; obtain ⟨za5, Ta5⟩ : ∃ v, w3.cell? ⟨p, 5, none⟩ = some v := ⟨_, hP3.cell 5⟩; have Fa5 := hP3.frozen 5; obtain ⟨za6, Ta6⟩ : ∃ v, w3.cell? ⟨p, 6, none⟩ = some v := ⟨_, hP3.cell 6⟩; have Fa6 := hP3.frozen 6; obtain ⟨za7, Ta7⟩ : ∃ v, w3.cell? ⟨p, 7, none⟩ = some v := ⟨_, hP3.cell 7⟩; have Fa7 := hP3.frozen 7; obtain ⟨za8, Ta8⟩ : ∃ v, w3.cell? ⟨p, 8, none⟩ = some v := ⟨_, hP3.cell 8⟩; have Fa8 := hP3.frozen 8; obtain ⟨za9, Ta9⟩ : ∃ v, w3.cell? ⟨p, 9, none⟩ = some v := ⟨_, hP3.cell 9⟩; have Fa9 := hP3.frozen 9; obtain ⟨hTa, hKTa⟩ := store_ten hP3 (.int .i64 j.ses) (.int .i64 x.id) (.int .i64 26) (.string j.to_) (.string { data := #[] }) (.string { data := #[] }) (.string { data := #[] }) (.int .i64 0) (.int .i64 0) (.slice none 0 0)
    have FB := Lib.hid hTa
    have FK := Lib.hid (hk3.then hKTa fun i hi e' => by unfold Only at e'; omega)
    clear hTa hKTa hP3 hk3 hE3
    go_wp2_with fail
    refine bodyPost_ret (results_next rfl _ _ p _ rfl FB.out rfl) rfl ?_
    rw [HNV.out, HNW.out]
    exact ⟨_, rfl, ⟨none, 0, rfl, At.nil _ _⟩, FK.out⟩
end
end Go.Proofs.Yteigjlkgbpgkjaa
