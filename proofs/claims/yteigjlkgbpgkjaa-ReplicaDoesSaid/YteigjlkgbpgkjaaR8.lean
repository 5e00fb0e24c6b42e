/- What is asked. -/
import Derived.Test.YteigjlkgbpgkjaaR7
namespace Go.Proofs.Yteigjlkgbpgkjaa
open Go.RowKit Go.Uc

/-- Ten cells stored into a variable of its own. -/
theorem store_ten {w : World} {g : Nat} {t : TypeId} {z0 z1 z2 z3 z4 z5 z6 z7 z8 z9 : Value} (h : Blk w g t #[z0, z1, z2, z3, z4, z5, z6, z7, z8, z9]) (v0 v1 v2 v3 v4 v5 v6 v7 v8 v9 : Value) :
    Blk ((((((((((w.setCell ⟨g, 0, none⟩ v0).setCell ⟨g, 1, none⟩ v1).setCell ⟨g, 2, none⟩ v2).setCell ⟨g, 3, none⟩ v3).setCell ⟨g, 4, none⟩ v4).setCell ⟨g, 5, none⟩ v5).setCell ⟨g, 6, none⟩ v6).setCell ⟨g, 7, none⟩ v7).setCell ⟨g, 8, none⟩ v8).setCell ⟨g, 9, none⟩ v9) g t #[v0, v1, v2, v3, v4, v5, v6, v7, v8, v9] ∧ Keeps (Only g) w ((((((((((w.setCell ⟨g, 0, none⟩ v0).setCell ⟨g, 1, none⟩ v1).setCell ⟨g, 2, none⟩ v2).setCell ⟨g, 3, none⟩ v3).setCell ⟨g, 4, none⟩ v4).setCell ⟨g, 5, none⟩ v5).setCell ⟨g, 6, none⟩ v6).setCell ⟨g, 7, none⟩ v7).setCell ⟨g, 8, none⟩ v8).setCell ⟨g, 9, none⟩ v9) := by
  have hb := ((((((((((h).set 0 v0).set 1 v1).set 2 v2).set 3 v3).set 4 v4).set 5 v5).set 6 v6).set 7 v7).set 8 v8).set 9 v9
  simp at hb
  exact ⟨hb, ((((((((((Keeps.refl (Only g) w).set (p := ⟨g, 0, none⟩) rfl v0).set (p := ⟨g, 1, none⟩) rfl v1).set (p := ⟨g, 2, none⟩) rfl v2).set (p := ⟨g, 3, none⟩) rfl v3).set (p := ⟨g, 4, none⟩) rfl v4).set (p := ⟨g, 5, none⟩) rfl v5).set (p := ⟨g, 6, none⟩) rfl v6).set (p := ⟨g, 7, none⟩) rfl v7).set (p := ⟨g, 8, none⟩) rfl v8).set (p := ⟨g, 9, none⟩) rfl v9⟩
/-- A request, as plain data. -/
structure Rq where
  ses : Int
  id : Int
  verb : Int
  name : ByteArray
  item : ByteArray
  other : ByteArray
  path : ByteArray
  at_ : Int
  many : Int
  data : List UInt8
def Rq.none : Rq := ⟨0, 0, 0, ByteArray.empty, ByteArray.empty, ByteArray.empty, ByteArray.empty, 0, 0, []⟩
def rqC (r : Rq) (d : Value) : Array Value := #[.int .i64 r.ses, .int .i64 r.id, .int .i64 r.verb, .string r.name, .string r.item, .string r.other, .string r.path, .int .i64 r.at_, .int .i64 r.many, d]
def verbK (k : Nat) : Int := match k with
  | 0 => 27
  | 1 => 24
  | 2 => 38
  | 5 => 26
  | _ => 0
def askV (j : Job) (x : St) : Rq :=
  if x.at_ = 3 then ⟨0, 0, 37, j.name, j.snap, j.base, ByteArray.empty, x.has, if j.deep = true then 1 else 0, []⟩
  else if x.at_ = 4 then ⟨0, 0, 25, j.to_, ByteArray.empty, ByteArray.empty, ByteArray.empty, 0, 0, x.piece⟩
  else ⟨0, 0, verbK x.at_, j.to_, ByteArray.empty, ByteArray.empty, ByteArray.empty, 0, 0, []⟩

section
variable {g : Nat} {on : Option Nat} {j : Job} {x : St} {pv : Value}
set_option maxRecDepth 100000 in
set_option maxHeartbeats 4000000 in
theorem bare_any (w : World) (h : RepS w g on j x pv) (hk : x.at_ < 6) (h3 : x.at_ ≠ 3) (h4 : x.at_ ≠ 4) :
    Calls Try.prog 24 #[.pointer (some ⟨g, 0, none⟩)] w fun en w' => en = .returned (.agg (rqC (askV j x) (.slice none 0 0))) ∧ Keeps Non w w' := by
  obtain ⟨dd, steps, hB, -⟩ := h.blk
  have hv : ∃ v, v = verbK x.at_ := ⟨_, rfl⟩
  obtain ⟨v, hv⟩ := hv
  have HA : Hid (askV j x = ⟨0, 0, v, j.to_, ByteArray.empty, ByteArray.empty, ByteArray.empty, 0, 0, []⟩) := by show _ = _; unfold askV; rw [if_neg h3, if_neg h4, hv]
  have HV := Lib.hid hv
  clear hv
  have c12 : w.cell? ⟨g, 12, none⟩ = some (.int .i64 x.at_) := hB.cell 12
  have c4 : w.cell? ⟨g, 4, none⟩ = some (.string j.to_) := hB.cell 4
  have hi0 : (0 : Int) ≤ (x.at_ : Int) := by omega
  have hi6 : (x.at_ : Int) < 6 := by omega
  have hlt := hB.lt
  clear h hB
  go_enter Try.func24, Try.ntmps24
  go_upto_region 2 with fail
  have hvl : ∀ (hh : x.at_ < 6), (([.int .i64 27, .int .i64 24, .int .i64 38, .int .i64 0, .int .i64 0, .int .i64 26] : List Value)[x.at_]'hh) = .int .i64 v := fun hh => by
    have HV' := HV.out
    match hx : x.at_, hh with
    | 0, _ => rw [HV', hx]; rfl
    | 1, _ => rw [HV', hx]; rfl
    | 2, _ => rw [HV', hx]; rfl
    | 3, _ => exact absurd hx h3
    | 4, _ => exact absurd hx h4
    | 5, _ => rw [HV', hx]; rfl
  simp only [hvl]
  obtain ⟨p, hp⟩ : ∃ p, p = w.heap.size := ⟨_, rfl⟩
  obtain ⟨w2, hw2⟩ : ∃ W, W = (w.alloc (.cells #[.int .i64 0, .int .i64 0, .int .i64 0, .string { data := #[] }, .string { data := #[] }, .string { data := #[] }, .string { data := #[] }, .int .i64 0, .int .i64 0, .slice none 0 0] 41)).alloc (.cells #[.int .i64 27, .int .i64 24, .int .i64 38, .int .i64 0, .int .i64 0, .int .i64 26] 3) := ⟨_, rfl⟩
  have hP2 : Blk w2 p 41 #[.int .i64 0, .int .i64 0, .int .i64 0, .string { data := #[] }, .string { data := #[] }, .string { data := #[] }, .string { data := #[] }, .int .i64 0, .int .i64 0, .slice none 0 0] := by rw [hw2, hp]; exact (Blk.new _ _ _).alloc _
  have hk2 : Keeps Non w w2 := by rw [hw2]; exact ((Keeps.refl _ _).alloc _).alloc _
  have d4 : w2.cell? ⟨g, 4, none⟩ = some (.string j.to_) := hk2.cell c4 id
  rw [← hw2, ← hp]
  have hpw : w.heap.size ≤ p := by omega
  have hgp : ¬ g = p := by omega
  clear hw2 hp hvl c12 c4
  obtain ⟨za0, Ta0⟩ : ∃ v, w2.cell? ⟨p, 0, none⟩ = some v := ⟨_, hP2.cell 0⟩; have Fa0 := hP2.frozen 0; obtain ⟨za1, Ta1⟩ : ∃ v, w2.cell? ⟨p, 1, none⟩ = some v := ⟨_, hP2.cell 1⟩; have Fa1 := hP2.frozen 1; obtain ⟨za2, Ta2⟩ : ∃ v, w2.cell? ⟨p, 2, none⟩ = some v := ⟨_, hP2.cell 2⟩; have Fa2 := hP2.frozen 2; obtain ⟨za3, Ta3⟩ : ∃ v, w2.cell? ⟨p, 3, none⟩ = some v := ⟨_, hP2.cell 3⟩; have Fa3 := hP2.frozen 3; obtain ⟨za4, Ta4⟩ : ∃ v, w2.cell? ⟨p, 4, none⟩ = some v := ⟨_, hP2.cell 4⟩; have Fa4 := hP2.frozen 4; obtain ⟨za5, Ta5⟩ : ∃ v, w2.cell? ⟨p, 5, none⟩ = some v := ⟨_, hP2.cell 5⟩; have Fa5 := hP2.frozen 5; obtain ⟨za6, Ta6⟩ : ∃ v, w2.cell? ⟨p, 6, none⟩ = some v := ⟨_, hP2.cell 6⟩; have Fa6 := hP2.frozen 6; obtain ⟨za7, Ta7⟩ : ∃ v, w2.cell? ⟨p, 7, none⟩ = some v := ⟨_, hP2.cell 7⟩; have Fa7 := hP2.frozen 7; obtain ⟨za8, Ta8⟩ : ∃ v, w2.cell? ⟨p, 8, none⟩ = some v := ⟨_, hP2.cell 8⟩; have Fa8 := hP2.frozen 8; obtain ⟨za9, Ta9⟩ : ∃ v, w2.cell? ⟨p, 9, none⟩ = some v := ⟨_, hP2.cell 9⟩; have Fa9 := hP2.frozen 9; obtain ⟨hTa, hKTa⟩ := store_ten hP2 (.int .i64 0) (.int .i64 0) (.int .i64 v) (.string j.to_) (.string { data := #[] }) (.string { data := #[] }) (.string { data := #[] }) (.int .i64 0) (.int .i64 0) (.slice none 0 0)
  have FB := Lib.hid hTa
  have FK := Lib.hid (hk2.then hKTa fun i hi e => by unfold Only at e; omega)
  clear hTa hKTa hP2 hk2
  go_wp2_with fail
  refine bodyPost_ret (results_cell_row (ty := 41) rfl _ _ p 41 _ (0, 0) _ rfl FB.out Try.underlying41 rfl (by kernel_rfl)) rfl ?_
  rw [HA.out]
  exact ⟨rfl, FK.out⟩
end
end Go.Proofs.Yteigjlkgbpgkjaa
