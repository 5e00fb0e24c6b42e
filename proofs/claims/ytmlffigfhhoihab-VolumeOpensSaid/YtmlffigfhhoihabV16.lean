/- A pair of volumes: a call upon both. -/
import Derived.Test.YtmlffigfhhoihabV15
namespace Go.Proofs.Ytmlffigfhhoihab
open Go.RowKit Go.Uc

/-- The pair: a volume of the program and one of the document, with one content; all of it in memory from B on. -/
structure PairB (w : World) (B gp gx gbx gy gby : Nat) (X : List UInt8) : Prop where
  pb : Blk w gp 47 #[.pointer (some ⟨gx, 0, none⟩), .pointer (some ⟨gy, 0, none⟩)]
  vx : VolB w gx gbx 55 X
  vy : VolB w gy gby 67 X
  ne : gbx ≠ gby
  low : B ≤ gp ∧ B ≤ gx ∧ B ≤ gbx ∧ B ≤ gy ∧ B ≤ gby
theorem PairB.dis {w : World} {B gp gx gbx gy gby : Nat} {X : List UInt8} (h : PairB w B gp gx gbx gy gby X) : gp ≠ gx ∧ gp ≠ gbx ∧ gp ≠ gy ∧ gp ≠ gby ∧ gx ≠ gbx ∧ gx ≠ gy ∧ gx ≠ gby ∧ gbx ≠ gy ∧ gbx ≠ gby ∧ gy ≠ gby :=
  ⟨h.pb.ne h.vx.1 (by decide), h.pb.ne h.vx.2.1 (by decide), h.pb.ne h.vy.1 (by decide), h.pb.ne h.vy.2.1 (by decide), h.vx.2.2, h.vx.1.ne h.vy.1 (by decide), h.vx.1.ne h.vy.2.1 (by decide), h.vx.2.1.ne h.vy.1 (by decide), h.ne, h.vy.2.2⟩
theorem PairB.keep {w w' : World} {S : Nat → Prop} {B gp gx gbx gy gby : Nat} {X : List UInt8} (h : PairB w B gp gx gbx gy gby X) (hk : Keeps S w w') (h1 : ¬ S gp) (h2 : ¬ S gx) (h3 : ¬ S gbx) (h4 : ¬ S gy) (h5 : ¬ S gby) : PairB w' B gp gx gbx gy gby X :=
  ⟨h.pb.keep hk h1, h.vx.keep hk h2 h3, h.vy.keep hk h4 h5, h.ne, h.low⟩
theorem PairB.non {w w' : World} {B gp gx gbx gy gby : Nat} {X : List UInt8} (h : PairB w B gp gx gbx gy gby X) (hk : Keeps Non w w') : PairB w' B gp gx gbx gy gby X := h.keep hk id id id id id
theorem PairB.lts {w : World} {B gp gx gbx gy gby : Nat} {X : List UInt8} (h : PairB w B gp gx gbx gy gby X) : gp < w.heap.size ∧ gx < w.heap.size ∧ gbx < w.heap.size ∧ gy < w.heap.size ∧ gby < w.heap.size ∧ B < w.heap.size :=
  ⟨h.pb.lt, h.vx.1.lt, h.vx.2.1.lt, h.vy.1.lt, h.vy.2.1.lt, by have := h.pb.lt; have := h.low.1; omega⟩
/-- What a call upon the pair leaves. -/
def DoneB (w : World) (B gp gy gby n : Nat) (e : Ending) (w' : World) : Prop := e = .returned (.bool true) ∧ (∃ gx gbx X, PairB w' B gp gx gbx gy gby X ∧ X.length = n) ∧ Keeps (Above B) w w'

set_option maxRecDepth 100000 in
set_option maxHeartbeats 8000000 in
theorem does_discard (B gp gx gbx gy gby co : Nat) (X : List UInt8) (o : Opr) (Ao : Option Addr) (w : World) (hP : PairB w B gp gx gbx gy gby X) (hs : szB (X.length : Int) = true) (hk0 : I64 o.kind) (hkd : pk o.kind 5 = 1) :
    Calls Try.prog 30 #[.pointer (some ⟨gp, 0, none⟩), .agg #[.int .i64 o.kind, .int .i64 o.at_, .int .i64 o.many, .slice Ao o.b.length co]] w (DoneB w B gp gy gby X.length) := by
  have HKD := Lib.hid hkd
  have hN := szB_of hs
  unfold I64 at hk0
  clear hkd hs
  go_enter Try.func30, Try.ntmps30
  go_wp2_with fail
  obtain ⟨w1, hw1⟩ : ∃ w1, w1 = w.alloc (.cells #[.int .i64 o.kind, .int .i64 o.at_, .int .i64 o.many, .slice Ao o.b.length co] 25) := ⟨_, rfl⟩
  have hk1 : Keeps Non w w1 := by rw [hw1]; exact (Keeps.refl _ _).alloc _
  have hB1 : Blk w1 w.heap.size 25 #[.int .i64 o.kind, .int .i64 o.at_, .int .i64 o.many, .slice Ao o.b.length co] := by rw [hw1]; exact Blk.new _ _ _
  rw [← hw1]
  obtain ⟨gO, hgO⟩ : ∃ q, q = w.heap.size := ⟨_, rfl⟩
  rw [← hgO] at hB1 ⊢
  have hl := hP.lts
  have hd := hP.dis
  have hlo := hP.low
  have hgo : gO ≠ gp ∧ gO ≠ gx ∧ gO ≠ gbx ∧ gO ≠ gy ∧ gO ≠ gby := by omega
  have hP1 := hP.non hk1
  obtain ⟨d1, d2, d3, d4, d5, d6, d7, d8, d9, d10⟩ := hd
  clear hw1 hgO hP
  refine (pick_pk o.kind 5 _ (by omega) (by omega) hk0.1 hk0.2).mono ?_
  rw [HKD.out]
  rintro e w2 ⟨rfl, rfl⟩
  have k1 : w1.cell? ⟨gO, 1, none⟩ = some (.int .i64 o.at_) := hB1.cell 1
  have k2 : w1.cell? ⟨gO, 2, none⟩ = some (.int .i64 o.many) := hB1.cell 2
  have c0 : w1.cell? ⟨gp, 0, none⟩ = some (.pointer (some ⟨gx, 0, none⟩)) := hP1.pb.cell 0
  go_wp2_with fail
  go_still_tail 8, (by kernel_rfl)
  have hka : Keeps Non w1 w1.drew := (Keeps.refl _ _).drew
  have hvx := hP1.vx.non hka
  clear k1 k2 c0
  go_wp2_with fail
  refine (discard_all gx gbx X o.at_ o.many _ hvx (by omega)).mono ?_
  rintro e w3 ⟨rfl, hx3, hK3⟩
  have hk3 := (hka.of_non (S := Only gbx)).trans hK3
  have hB3 := hB1.keep hk3 hgo.2.2.1
  have hp3 := hP1.pb.keep hk3 d2
  have hy3 := hP1.vy.keep hk3 (fun e => d8 e.symm) (fun e => d9 e.symm)
  have k1 : w3.cell? ⟨gO, 1, none⟩ = some (.int .i64 o.at_) := hB3.cell 1
  have k2 : w3.cell? ⟨gO, 2, none⟩ = some (.int .i64 o.many) := hB3.cell 2
  have c1 : w3.cell? ⟨gp, 1, none⟩ = some (.pointer (some ⟨gy, 0, none⟩)) := hp3.cell 1
  have hka3 : Keeps Non w w1 := hk1
  clear hK3 hka hvx
  go_wp2_with fail
  go_still_tail 8, (by kernel_rfl)
  have hkb : Keeps Non w3 w3.drew := (Keeps.refl _ _).drew
  have hvy := hy3.non hkb
  clear k1 k2 c1
  go_wp2_with fail
  refine (refDiscard_all gy gby X o.at_ o.many _ hvy (by omega)).mono ?_
  rintro e w4 ⟨rfl, hy4, hK4⟩
  have hk4 := (hkb.of_non (S := Only gby)).trans hK4
  have hx4 := hx3.keep hk4 d7 d9
  have hp4 := hp3.keep hk4 d4
  have hkk : Keeps (Above B) w w4 := ((hk1.of_non).trans (hk3.mono fun i e => by unfold Only at e; unfold Above; omega)).trans (hk4.mono fun i e => by unfold Only at e; unfold Above; omega)
  go_wp2_with fail
  go_ret
  exact ⟨rfl, ⟨gx, gbx, _, ⟨hp4, hx4, hy4, d9, hlo⟩, dsX_length _ _ _⟩, hkk⟩
end Go.Proofs.Ytmlffigfhhoihab
