/- An uberblock with a root of noughts: may it be?. An uberblock as bytes, ahead of its sum. A sum in words; loads and stores of whole blocks. A pointer of noughts taken up. Fletcher's sum: New, plus, Add. Value, Clone, Of, Check. -/
import Derived.Test.YtipbjiepfnjojaaGreatDoorG4
import Derived.Deep.RegionWith
import Derived.RegionTactic
import Derived.RegionCalls
import Derived.Deep.MidRow
namespace Go.Proofs.YtipbjiepfnjojaaGreatDoor
set_option maxRecDepth 100000
open Go.RowKit Go.Uc

set_option maxHeartbeats 2000000 in
theorem check107_zero (w : World) : Calls Tryz.prog 107 #[.agg #[.int .i64 0, .int .i64 0, .int .i64 0, .int .u64 0, .int .i64 0, .int .u64 0, .int .u64 0, .int .u64 0, .int .u64 0]] w fun e w' => e = .returned (.int .i64 0) ∧ Keeps Non w w' := by
  have hk := (Keeps.refl Non w).alloc (.cells #[.int .i64 0, .int .i64 0, .int .i64 0, .int .u64 0, .int .i64 0, .int .u64 0, .int .u64 0, .int .u64 0, .int .u64 0] 45)
  go_enter Tryz.func107, Tryz.ntmps107
  go_wp2_with fail
  go_ret
  exact ⟨rfl, hk⟩
set_option maxHeartbeats 2000000 in
theorem checkUber68_any (pool txg note : Nat) (h1 : 1 ≤ txg) (h2 : txg ≤ 281474976710656) (w : World) :
    Calls Tryz.prog 68 #[.agg #[.int .u64 (pool : Int), .int .u64 (txg : Int), .int .u64 (note : Int), .int .i64 0, .int .i64 0, .int .i64 0, .int .u64 0, .int .i64 0, .int .u64 0, .int .u64 0, .int .u64 0, .int .u64 0]] w fun e w' => e = .returned (.int .i64 0) ∧ Keeps Non w w' := by
  have hB := Blk.new w 47 #[.int .u64 (pool : Int), .int .u64 (txg : Int), .int .u64 (note : Int), .int .i64 0, .int .i64 0, .int .i64 0, .int .u64 0, .int .i64 0, .int .u64 0, .int .u64 0, .int .u64 0, .int .u64 0]
  have hk := (Keeps.refl Non w).alloc (.cells #[.int .u64 (pool : Int), .int .u64 (txg : Int), .int .u64 (note : Int), .int .i64 0, .int .i64 0, .int .i64 0, .int .u64 0, .int .i64 0, .int .u64 0, .int .u64 0, .int .u64 0, .int .u64 0] 47)
  have HC := Lib.hid (fun V => check107_zero V)
  go_enter Tryz.func68, Tryz.ntmps68
  go_upto_region 1 with fail
  obtain ⟨w1, hw1⟩ : ∃ V : World, V = w.alloc (.cells #[.int .u64 (pool : Int), .int .u64 (txg : Int), .int .u64 (note : Int), .int .i64 0, .int .i64 0, .int .i64 0, .int .u64 0, .int .i64 0, .int .u64 0, .int .u64 0, .int .u64 0, .int .u64 0] 47) := ⟨_, rfl⟩
  rw [← hw1] at hB hk ⊢
  clear hw1
  obtain ⟨pb, hpb⟩ : ∃ z, z = w.heap.size := ⟨_, rfl⟩
  rw [← hpb] at hB ⊢
  clear hpb
  have hX : ∀ (V : World), Keeps Non w1 V → ∀ i v, (#[.int .u64 (pool : Int), .int .u64 (txg : Int), .int .u64 (note : Int), .int .i64 0, .int .i64 0, .int .i64 0, .int .u64 0, .int .i64 0, .int .u64 0, .int .u64 0, .int .u64 0, .int .u64 0] : Array Value)[i]? = some v → V.cell? ⟨pb, i, none⟩ = some v := fun V hV i v hi => by rw [(hB.non hV).cell]; exact hi
  have HX := Lib.hid hX
  have x1 : w1.cell? ⟨pb, 1, none⟩ = some (.int .u64 (txg : Int)) := hX w1 (Keeps.refl _ _) 1 _ rfl
  have y0 : w1.cell? ⟨pb, 3, none⟩ = some (.int .i64 0) := hX w1 (Keeps.refl _ _) 3 _ rfl
  have y1 : w1.cell? ⟨pb, 4, none⟩ = some (.int .i64 0) := hX w1 (Keeps.refl _ _) 4 _ rfl
  have y2 : w1.cell? ⟨pb, 5, none⟩ = some (.int .i64 0) := hX w1 (Keeps.refl _ _) 5 _ rfl
  have y3 : w1.cell? ⟨pb, 6, none⟩ = some (.int .u64 0) := hX w1 (Keeps.refl _ _) 6 _ rfl
  have y4 : w1.cell? ⟨pb, 7, none⟩ = some (.int .i64 0) := hX w1 (Keeps.refl _ _) 7 _ rfl
  have y5 : w1.cell? ⟨pb, 8, none⟩ = some (.int .u64 0) := hX w1 (Keeps.refl _ _) 8 _ rfl
  have y6 : w1.cell? ⟨pb, 9, none⟩ = some (.int .u64 0) := hX w1 (Keeps.refl _ _) 9 _ rfl
  have y7 : w1.cell? ⟨pb, 10, none⟩ = some (.int .u64 0) := hX w1 (Keeps.refl _ _) 10 _ rfl
  have y8 : w1.cell? ⟨pb, 11, none⟩ = some (.int .u64 0) := hX w1 (Keeps.refl _ _) 11 _ rfl
  have a1 : ¬ (txg : Int) < 1 := by omega
  have a2 : ¬ (281474976710656 : Int) < (txg : Int) := by omega
  have a3 : ¬ (txg : Int) < 0 := by omega
  clear hX hB
  go_wp2_with ((go_at_call 107; go_must (refine (HC.out _).mono ?_); rintro e w2 ⟨rfl, hK2⟩; have z1 : w2.cell? ⟨pb, 1, none⟩ = some (.int .u64 (txg : Int)) := HX.out w2 hK2 1 _ rfl; have z6 : w2.cell? ⟨pb, 6, none⟩ = some (.int .u64 0) := HX.out w2 hK2 6 _ rfl))
  go_ret
  exact ⟨rfl, hk.non hK2⟩
end Go.Proofs.YtipbjiepfnjojaaGreatDoor
namespace Go.Proofs.YtipbjiepfnjojaaGreatDoor
set_option maxRecDepth 100000
open Go.RowKit Go.Uc

theorem uberH_len (pool txg note : Nat) : (uberH pool txg note).length = 76 := by simp [uberH, le_length, zeros_length]
/-- The bytes of an uberblock ahead of its sum. -/
def uber96 (pool txg note : Nat) : List UInt8 := uberH pool txg note ++ zeros 20
theorem uber96_len (pool txg note : Nat) : (uber96 pool txg note).length = 96 := by simp [uber96, uberH_len, zeros_length]
set_option maxHeartbeats 4000000 in
theorem laid67_any (pool txg note : Nat) (hp : pool < 18446744073709551616) (h1 : 1 ≤ txg) (h2 : txg ≤ 281474976710656) (hn : note < 18446744073709551616) (w : World) :
    Calls Tryz.prog 67 #[.agg #[.int .u64 (pool : Int), .int .u64 (txg : Int), .int .u64 (note : Int), .int .i64 0, .int .i64 0, .int .i64 0, .int .u64 0, .int .i64 0, .int .u64 0, .int .u64 0, .int .u64 0, .int .u64 0], .func (.func 68) #[] #[], .int .i64 96, .func (.func 69) #[] #[]] w fun e w' => ∃ b, e = .returned (.tuple #[.slice (some ⟨b, 0, none⟩) 96 96, .int .i64 0]) ∧ Blk w' b 5 (pc (uber96 pool txg note)) ∧ w.heap.size ≤ b ∧ Keeps Non w w' := by
  have hB := Blk.new w 47 #[.int .u64 (pool : Int), .int .u64 (txg : Int), .int .u64 (note : Int), .int .i64 0, .int .i64 0, .int .i64 0, .int .u64 0, .int .i64 0, .int .u64 0, .int .u64 0, .int .u64 0, .int .u64 0]
  have hk := (Keeps.refl Non w).alloc (.cells #[.int .u64 (pool : Int), .int .u64 (txg : Int), .int .u64 (note : Int), .int .i64 0, .int .i64 0, .int .i64 0, .int .u64 0, .int .i64 0, .int .u64 0, .int .u64 0, .int .u64 0, .int .u64 0] 47)
  have HCk := Lib.hid (fun V => checkUber68_any pool txg note h1 h2 V)
  have HNw := Lib.hid (fun V => newWriter_any 96 (by decide) V)
  have HLu : Hid (∀ (V0 V : World) (g : Nat), Wr V0 V g 96 [] → Calls Tryz.prog 69 #[.pointer (some ⟨g, 0, none⟩), .agg #[.int .u64 (pool : Int), .int .u64 (txg : Int), .int .u64 (note : Int), .int .i64 0, .int .i64 0, .int .i64 0, .int .u64 0, .int .i64 0, .int .u64 0, .int .u64 0, .int .u64 0, .int .u64 0]] V fun e w' => e = .returned (.tuple #[]) ∧ Wr V0 w' g 96 (uberH pool txg note) ∧ Oth V w') := Lib.hid (fun V0 V g hV => layUber_any hV pool txg note hp (by omega) hn (by decide) (by decide))
  have HPd : Hid (∀ (V0 V : World) (g : Nat), Wr V0 V g 96 (uberH pool txg note) → Calls Tryz.prog 106 #[.pointer (some ⟨g, 0, none⟩), .int .i64 96] V fun e w' => e = .returned (.tuple #[]) ∧ Wr V0 w' g 96 (uber96 pool txg note) ∧ Oth V w') := Lib.hid (fun V0 V g hV => by
    have := pad106_any hV 96 (by rw [uberH_len]; decide) (by decide) (by decide)
    rw [uberH_len] at this
    exact this)
  have HDn : Hid (∀ (V0 V : World) (g : Nat), Wr V0 V g 96 (uber96 pool txg note) → Calls Tryz.prog 44 #[.pointer (some ⟨g, 0, none⟩)] V fun e w' => ∃ b, e = .returned (.tuple #[.slice (some ⟨b, 0, none⟩) 96 96, .int .i64 0]) ∧ Blk w' b 5 (pc (uber96 pool txg note)) ∧ V.heap.size ≤ b ∧ Keeps Non V w') := Lib.hid (fun V0 V g hV => by
    have := done44_any hV (by rw [uber96_len]; decide)
    rw [uber96_len] at this
    exact this)
  go_enter Tryz.func67, Tryz.ntmps67
  go_upto_region 1 with fail
  obtain ⟨w1, hw1⟩ : ∃ V : World, V = w.alloc (.cells #[.int .u64 (pool : Int), .int .u64 (txg : Int), .int .u64 (note : Int), .int .i64 0, .int .i64 0, .int .i64 0, .int .u64 0, .int .i64 0, .int .u64 0, .int .u64 0, .int .u64 0, .int .u64 0] 47) := ⟨_, rfl⟩
  rw [← hw1] at hB hk ⊢
  clear hw1
  obtain ⟨pb, hpb⟩ : ∃ z, z = w.heap.size := ⟨_, rfl⟩
  rw [← hpb] at hB ⊢
  clear hpb
  have HX : Hid (∀ (V : World), Keeps Non w1 V → ∀ i v, (#[.int .u64 (pool : Int), .int .u64 (txg : Int), .int .u64 (note : Int), .int .i64 0, .int .i64 0, .int .i64 0, .int .u64 0, .int .i64 0, .int .u64 0, .int .u64 0, .int .u64 0, .int .u64 0] : Array Value)[i]? = some v → V.cell? ⟨pb, i, none⟩ = some v) := Lib.hid (fun V hV i v hi => by rw [(hB.non hV).cell]; exact hi)
  clear hB
  have x0 : w1.cell? ⟨pb, 0, none⟩ = some (.int .u64 (pool : Int)) := HX.out w1 (Keeps.refl _ _) 0 _ rfl
  have x1 : w1.cell? ⟨pb, 1, none⟩ = some (.int .u64 (txg : Int)) := HX.out w1 (Keeps.refl _ _) 1 _ rfl
  have x2 : w1.cell? ⟨pb, 2, none⟩ = some (.int .u64 (note : Int)) := HX.out w1 (Keeps.refl _ _) 2 _ rfl
  have x3 : w1.cell? ⟨pb, 3, none⟩ = some (.int .i64 0) := HX.out w1 (Keeps.refl _ _) 3 _ rfl
  have x4 : w1.cell? ⟨pb, 4, none⟩ = some (.int .i64 0) := HX.out w1 (Keeps.refl _ _) 4 _ rfl
  have x5 : w1.cell? ⟨pb, 5, none⟩ = some (.int .i64 0) := HX.out w1 (Keeps.refl _ _) 5 _ rfl
  have x6 : w1.cell? ⟨pb, 6, none⟩ = some (.int .u64 0) := HX.out w1 (Keeps.refl _ _) 6 _ rfl
  have x7 : w1.cell? ⟨pb, 7, none⟩ = some (.int .i64 0) := HX.out w1 (Keeps.refl _ _) 7 _ rfl
  have x8 : w1.cell? ⟨pb, 8, none⟩ = some (.int .u64 0) := HX.out w1 (Keeps.refl _ _) 8 _ rfl
  have x9 : w1.cell? ⟨pb, 9, none⟩ = some (.int .u64 0) := HX.out w1 (Keeps.refl _ _) 9 _ rfl
  have x10 : w1.cell? ⟨pb, 10, none⟩ = some (.int .u64 0) := HX.out w1 (Keeps.refl _ _) 10 _ rfl
  have x11 : w1.cell? ⟨pb, 11, none⟩ = some (.int .u64 0) := HX.out w1 (Keeps.refl _ _) 11 _ rfl
  go_upto_region 2 with ((go_at_call 68; go_must (refine (HCk.out _).mono ?_); rintro e w2 ⟨rfl, hK2⟩))
  clear x0 x1 x2 x3 x4 x5 x6 x7 x8 x9 x10 x11
  go_upto_region 5 with ((go_at_call 41; go_must (refine (HNw.out _).mono ?_); rintro e w3 ⟨g, rfl, hW3⟩))
  have hK3 := hK2.non hW3.keep
  have x0 : w3.cell? ⟨pb, 0, none⟩ = some (.int .u64 (pool : Int)) := HX.out w3 hK3 0 _ rfl
  have x1 : w3.cell? ⟨pb, 1, none⟩ = some (.int .u64 (txg : Int)) := HX.out w3 hK3 1 _ rfl
  have x2 : w3.cell? ⟨pb, 2, none⟩ = some (.int .u64 (note : Int)) := HX.out w3 hK3 2 _ rfl
  have x3 : w3.cell? ⟨pb, 3, none⟩ = some (.int .i64 0) := HX.out w3 hK3 3 _ rfl
  have x4 : w3.cell? ⟨pb, 4, none⟩ = some (.int .i64 0) := HX.out w3 hK3 4 _ rfl
  have x5 : w3.cell? ⟨pb, 5, none⟩ = some (.int .i64 0) := HX.out w3 hK3 5 _ rfl
  have x6 : w3.cell? ⟨pb, 6, none⟩ = some (.int .u64 0) := HX.out w3 hK3 6 _ rfl
  have x7 : w3.cell? ⟨pb, 7, none⟩ = some (.int .i64 0) := HX.out w3 hK3 7 _ rfl
  have x8 : w3.cell? ⟨pb, 8, none⟩ = some (.int .u64 0) := HX.out w3 hK3 8 _ rfl
  have x9 : w3.cell? ⟨pb, 9, none⟩ = some (.int .u64 0) := HX.out w3 hK3 9 _ rfl
  have x10 : w3.cell? ⟨pb, 10, none⟩ = some (.int .u64 0) := HX.out w3 hK3 10 _ rfl
  have x11 : w3.cell? ⟨pb, 11, none⟩ = some (.int .u64 0) := HX.out w3 hK3 11 _ rfl
  have HL3 := Lib.hid (HLu.out _ _ _ hW3)
  go_upto_region 6 with ((go_at_call 69; go_must (refine HL3.out.mono ?_); rintro e w4 ⟨rfl, hW4, -⟩))
  clear x0 x1 x2 x3 x4 x5 x6 x7 x8 x9 x10 x11
  have HP4 := Lib.hid (HPd.out _ _ _ hW4)
  go_upto_region 7 with ((go_at_call 106; go_must (refine HP4.out.mono ?_); rintro e w5 ⟨rfl, hW5, -⟩))
  have HD5 := Lib.hid (HDn.out _ _ _ hW5)
  go_wp2_with ((go_at_call 44; go_must (refine HD5.out.mono ?_); rintro e w6 ⟨b, rfl, hB6, hb6, hK6⟩))
  go_ret2
  have hK5 := (hk.non hK2).non hW5.keep
  exact ⟨b, rfl, hB6, Nat.le_trans hK5.size hb6, hK5.non hK6⟩
end Go.Proofs.YtipbjiepfnjojaaGreatDoor
namespace Go.Proofs.YtipbjiepfnjojaaGreatDoor
open Go.RowKit Go.Uc

def sv (a b c d : BitVec 64) : Value := .agg #[.int .u64 (v64 a), .int .u64 (v64 b), .int .u64 (v64 c), .int .u64 (v64 d)]
structure Sum4 where
  a : BitVec 64
  b : BitVec 64
  c : BitVec 64
  d : BitVec 64
def Sum4.v (s : Sum4) : Value := sv s.a s.b s.c s.d
theorem step_load_blk {P : Program} {ops : Array Oper} {o : Oper} {a : Act} {w : World} {K : Act → World → Prop} {Q : Exit → Act → World → Prop} {E : Prop} (hgd : o.guard = none) (ty : TypeId) (x : Operand) (ho : o.op = .load ty x)
    (g : Nat) (hx : a.eval x = .pointer (Option.some ⟨g, 0, none⟩)) (t : TypeId) (cs : Array Value) (d : TypeDesc) (hg : Blk w g t cs)
    (hu : P.underlying ty = Option.some d) (hd : (match d with | .struct _ | .array _ _ => true | _ => false) = true) (hi : (P.info? ty).map (·.size) = Option.some cs.size)
    (h : K (a.put o.dst (.agg cs)) w) :
    if Region.wanted o (yielded ops a.tmps) = true then Oper.wp P o a w K Q else E := by
  have hw : Region.wanted o (yielded ops a.tmps) = true := by simp [Region.wanted, hgd]
  rw [if_pos hw]
  exact wp_load_row ty x ho g hx t cs (0, 0) d hg hu hd hi h
theorem step_store_blk {P : Program} {ops : Array Oper} {o : Oper} {a : Act} {w : World} {K : Act → World → Prop} {Q : Exit → Act → World → Prop} {E : Prop} (hgd : o.guard = none) (ty : TypeId) (x y : Operand) (ho : o.op = .store ty x y)
    (g : Nat) (cells : Array Value) (hx : a.eval x = .pointer (Option.some ⟨g, 0, none⟩)) (hy : a.eval y = .agg cells)
    (t : TypeId) (old : Array Value) (hg : Blk w g t old) (hi : (P.info? ty).map (·.size) = Option.some cells.size)
    (hold : old.size = cells.size) (h1 : cells.all (·.oneCell') = true)
    (h : ∀ w', Blk w' g t cells → Keeps (Only g) w w' → K (a.put o.dst undef) w') :
    if Region.wanted o (yielded ops a.tmps) = true then Oper.wp P o a w K Q else E := by
  have hw : Region.wanted o (yielded ops a.tmps) = true := by simp [Region.wanted, hgd]
  rw [if_pos hw]
  exact wp_store_row ty x y ho g cells hx hy t old hg hi hold h1 (h _ (hg.row _) (Keeps.row _ _ _))
def Hi (B k : Nat) : Prop := B ≤ k
theorem zero43 (w : World) : (zeroValue 43).run Tryz.prog w = .ok (sv 0 0 0 0) w := by kernel_rfl
end Go.Proofs.YtipbjiepfnjojaaGreatDoor
namespace Go.Proofs.YtipbjiepfnjojaaGreatDoor
set_option maxRecDepth 100000
open Go.RowKit Go.Uc

theorem Blk.there {w : World} {g t : Nat} {cs : Array Value} (h : Blk w g t cs) (o n : Nat) (hn : o + n ≤ cs.size) : w.there g o n := fun j hj => by
  refine ⟨?_, h.frozen _⟩
  rw [h.cell, Array.getElem?_eq_getElem (by omega)]; rfl
theorem Keeps.cellsAt {S : Nat → Prop} {w : World} {g : Nat} (hg : S g) : ∀ (vs : List Value) (o : Nat) (w1 : World), Keeps S w w1 → Keeps S w (w1.setCells g o vs)
  | [], _, _, h => h
  | v :: vs, o, w1, h => by
    rw [World.setCells]
    exact Keeps.cellsAt hg vs (o + 1) _ (h.set (p := ⟨g, o, none⟩) hg v)
theorem Blk.cellsAt {g t : Nat} : ∀ (vs : List Value) (o : Nat) (w : World) (cs : Array Value), Blk w g t cs → ∃ cs' : Array Value, Blk (w.setCells g o vs) g t cs' ∧ cs'.size = cs.size ∧ ∀ i, cs'[i]? = if o ≤ i ∧ i < o + vs.length ∧ i < cs.size then vs[i - o]? else cs[i]?
  | [], o, w, cs, h => ⟨cs, h, rfl, fun i => by rw [if_neg]; rintro ⟨a, b, -⟩; simp at b; omega⟩
  | v :: vs, o, w, cs, h => by
    obtain ⟨cs', h1, h2, h3⟩ := Blk.cellsAt vs (o + 1) _ _ (h.set o v)
    refine ⟨cs', h1, by rw [h2]; simp, fun i => ?_⟩
    rw [h3 i]
    simp only [Array.size_setIfInBounds, List.length_cons, Array.getElem?_setIfInBounds]
    by_cases h4 : o + 1 ≤ i ∧ i < o + 1 + vs.length ∧ i < cs.size
    · rw [if_pos h4, if_pos (by omega)]
      rw [show i - o = (i - (o + 1)) + 1 by omega, List.getElem?_cons_succ]
    · rw [if_neg h4]
      by_cases h5 : o = i
      · subst h5
        by_cases h6 : o < cs.size
        · rw [if_pos rfl, if_pos h6, if_pos (by omega)]; simp
        · rw [if_pos rfl, if_neg h6, if_neg (by omega)]; rw [Array.getElem?_eq_none (by omega)]
      · rw [if_neg h5, if_neg (by omega)]
theorem leVal_zeros (k : Nat) : leVal (zeros k) = 0 := by
  induction k with
  | zero => rfl
  | succ k ih => rw [zeros, List.replicate_succ, leVal]; unfold zeros at ih; rw [ih]; rfl
def ptr0 : Array Value := #[.int .i64 0, .int .i64 0, .int .i64 0, .int .u64 0, .int .i64 0, .int .u64 0, .int .u64 0, .int .u64 0, .int .u64 0]
set_option maxHeartbeats 4000000 in
theorem takePtr113_zero {w0 w : World} {g at_ : Nat} {bs : List UInt8} (h : Rg w0 w g bs at_) (hf : at_ + 48 ≤ bs.length) (hz : (bs.drop at_).take 48 = zeros 48) :
    Calls Tryz.prog 113 #[.pointer (some ⟨g, 0, none⟩)] w fun e w' => e = .returned (.agg ptr0) ∧ Rg w0 w' g bs (at_ + 48) ∧ Keeps (Only g) w w' := by
  have hzz : ∀ k m, k + m ≤ 48 → leVal ((bs.drop (at_ + k)).take m) = 0 := fun k m hk => by
    have : (bs.drop (at_ + k)).take m = zeros m := by
      have e := congrArg (fun l => (l.drop k).take m) hz
      simp only [List.drop_take, List.drop_drop, List.take_take] at e
      rw [Nat.min_eq_left (by omega)] at e
      rw [e, zeros_drop]
      simp [zeros]
      omega
    rw [this, leVal_zeros]
  have HN : Hid (∀ (V : World) (k m : Nat), Rg w0 V g bs (at_ + k) → 1 ≤ m → m ≤ 8 → k + m ≤ 48 → Calls Tryz.prog 49 #[.pointer (some ⟨g, 0, none⟩), .int .i64 (m : Int)] V fun e w' => e = .returned (.int .u64 0) ∧ Rg w0 w' g bs (at_ + (k + m)) ∧ Keeps (Only g) V w') := Lib.hid (fun V k m hV h1 h8 hm => by
    have := rnum49_any hV m h1 h8 (by omega)
    rw [hzz k m hm, Nat.add_assoc] at this
    exact this)
  have HS : Hid (∀ (V : World), Rg w0 V g bs (at_ + 16) → Calls Tryz.prog 110 #[.pointer (some ⟨g, 0, none⟩)] V fun e w' => e = .returned (.agg #[.int .u64 0, .int .u64 0, .int .u64 0, .int .u64 0]) ∧ Rg w0 w' g bs (at_ + 48) ∧ Keeps (Only g) V w') := Lib.hid (fun V hV => by
    have := takeSum110_any hV (by omega)
    unfold sumAt S4.cs n8 at this
    rw [hzz 16 8 (by decide), Nat.add_assoc at_ 16 8, hzz 24 8 (by decide), Nat.add_assoc at_ 16 16, hzz 32 8 (by decide), Nat.add_assoc at_ 16 24, hzz 40 8 (by decide), Nat.add_assoc at_ 16 32] at this
    exact this)
  clear hzz hz
  have hgl : g < w.heap.size := by obtain ⟨b, i1, -⟩ := h; exact i1.lt
  have hB := Blk.new w 45 ptr0
  have hk := (Keeps.refl Non w).alloc (.cells ptr0 45)
  unfold ptr0 at hB hk ⊢
  go_enter Tryz.func113, Tryz.ntmps113
  go_upto_region 1 with fail
  obtain ⟨w1, hw1⟩ : ∃ V : World, V = w.alloc (.cells #[.int .i64 0, .int .i64 0, .int .i64 0, .int .u64 0, .int .i64 0, .int .u64 0, .int .u64 0, .int .u64 0, .int .u64 0] 45) := ⟨_, rfl⟩
  rw [← hw1] at hB hk ⊢
  clear hw1
  obtain ⟨pb, hpb⟩ : ∃ z, z = w.heap.size := ⟨_, rfl⟩
  rw [← hpb] at hB hgl ⊢
  have hpg : pb ≠ g := by omega
  have hpw : w.heap.size ≤ pb := by omega
  clear hpb
  go_wp2_with fail
  refine (HN.out w1 0 1 (h.non hk) (by decide) (by decide) (by decide)).mono ?_
  rintro e w2 ⟨rfl, hR2, hK2⟩
  go_wp2_with fail
  refine (HN.out w2 1 1 hR2 (by decide) (by decide) (by decide)).mono ?_
  rintro e w3 ⟨rfl, hR3, hK3⟩
  go_wp2_with fail
  refine (HN.out w3 2 2 hR3 (by decide) (by decide) (by decide)).mono ?_
  rintro e w4 ⟨rfl, hR4, hK4⟩
  go_wp2_with fail
  refine (HN.out w4 4 4 hR4 (by decide) (by decide) (by decide)).mono ?_
  rintro e w5 ⟨rfl, hR5, hK5⟩
  go_wp2_with fail
  refine (HN.out w5 8 8 hR5 (by decide) (by decide) (by decide)).mono ?_
  rintro e w6 ⟨rfl, hR6, hK6⟩
  have hKx : Keeps (Only g) w1 w6 := (((hK2.trans hK3).trans hK4).trans hK5).trans hK6
  have hB6 := hB.one hKx hpg
  have hKy : Keeps (Only g) w w6 := (hk.of_non (S := Only g)).trans hKx
  clear hR2 hR3 hR4 hR5 hK2 hK3 hK4 hK5 hK6 hKx
  go_upto_region 2 with fail
  have hQ := Blk.new w6 45 #[.int .i64 0, .int .i64 0, .int .i64 0, .int .u64 0, .int .i64 0, .int .u64 0, .int .u64 0, .int .u64 0, .int .u64 0]
  have hkq := (Keeps.refl Non w6).alloc (.cells #[.int .i64 0, .int .i64 0, .int .i64 0, .int .u64 0, .int .i64 0, .int .u64 0, .int .u64 0, .int .u64 0, .int .u64 0] 45)
  obtain ⟨w7, hw7⟩ : ∃ V : World, V = w6.alloc (.cells #[.int .i64 0, .int .i64 0, .int .i64 0, .int .u64 0, .int .i64 0, .int .u64 0, .int .u64 0, .int .u64 0, .int .u64 0] 45) := ⟨_, rfl⟩
  rw [← hw7] at hQ hkq ⊢
  clear hw7
  obtain ⟨pq, hpq⟩ : ∃ z, z = w6.heap.size := ⟨_, rfl⟩
  rw [← hpq] at hQ ⊢
  have hqg : pq ≠ g := by obtain ⟨b, i1, -⟩ := hR6; have := i1.lt; omega
  have hqp : pb ≠ pq := by have := hB6.lt; omega
  have hqw : w.heap.size ≤ pq := by have := hKy.size; omega
  clear hpq
  have hR7 : Rg w0 w7 g bs (at_ + 16) := hR6.non hkq
  have HS7 := Lib.hid (HS.out w7 hR7)
  go_wp2_with fail
  refine HS7.out.mono ?_
  rintro e w8 ⟨rfl, hR8, hK8⟩
  have hQ8 := hQ.one hK8 hqg
  have hth : w8.there pq 5 4 := Blk.there hQ8 5 4 (by decide)
  have hB8 := (hB6.non hkq).one hK8 hpg
  have hK78 := (hKy.non hkq).trans hK8
  have hK9 : Keeps (Only pq) w8 (w8.setCells pq 5 [.int .u64 0, .int .u64 0, .int .u64 0, .int .u64 0]) := Keeps.cellsAt (S := Only pq) rfl _ 5 _ (Keeps.refl _ _)
  have hQ9 : Blk (w8.setCells pq 5 [.int .u64 0, .int .u64 0, .int .u64 0, .int .u64 0]) pq 45 #[.int .i64 0, .int .i64 0, .int .i64 0, .int .u64 0, .int .i64 0, .int .u64 0, .int .u64 0, .int .u64 0, .int .u64 0] := (((hQ8.set 5 (.int .u64 0)).set 6 (.int .u64 0)).set 7 (.int .u64 0)).set 8 (.int .u64 0)
  go_upto_region 3 with ((with_reducible show wpList _ _ _ ({ dst := none, op := Op.store 43 _ _, type := _, pos := _, after := _, guard := _ } :: _) _ _); go_must (refine wpList_store_mid rfl 43 (.tmp 21) (.tmp 20) rfl pq 5 #[.int .u64 0, .int .u64 0, .int .u64 0, .int .u64 0] rfl rfl hth (by kernel_rfl) (by kernel_rfl) ?_); obtain ⟨w9, hw9⟩ : ∃ V : World, V = w8.setCells pq 5 [.int .u64 0, .int .u64 0, .int .u64 0, .int .u64 0] := ⟨_, rfl⟩; rw [show w8.setCells pq 5 #[.int .u64 0, .int .u64 0, .int .u64 0, .int .u64 0].toList = w9 from hw9.symm]; rw [← hw9] at hQ9 hK9; clear hw9; have x0 : w9.cell? ⟨pq, 0, none⟩ = some (.int .i64 0) := hQ9.cell 0; have x1 : w9.cell? ⟨pq, 1, none⟩ = some (.int .i64 0) := hQ9.cell 1; have x2 : w9.cell? ⟨pq, 2, none⟩ = some (.int .i64 0) := hQ9.cell 2; have x3 : w9.cell? ⟨pq, 3, none⟩ = some (.int .u64 0) := hQ9.cell 3; have x4 : w9.cell? ⟨pq, 4, none⟩ = some (.int .i64 0) := hQ9.cell 4; have x5 : w9.cell? ⟨pq, 5, none⟩ = some (.int .u64 0) := hQ9.cell 5; have x6 : w9.cell? ⟨pq, 6, none⟩ = some (.int .u64 0) := hQ9.cell 6; have x7 : w9.cell? ⟨pq, 7, none⟩ = some (.int .u64 0) := hQ9.cell 7; have x8 : w9.cell? ⟨pq, 8, none⟩ = some (.int .u64 0) := hQ9.cell 8; have hB9 := hB8.one hK9 hqp)
  go_wp2_with ((with_reducible show wpList _ _ _ ({ dst := none, op := Op.store 45 _ _, type := _, pos := _, after := _, guard := _ } :: _) _ _); go_must (refine wpList_store_blk rfl 45 (.tmp 2) (.tmp 22) rfl pb #[.int .i64 0, .int .i64 0, .int .i64 0, .int .u64 0, .int .i64 0, .int .u64 0, .int .u64 0, .int .u64 0, .int .u64 0] rfl rfl 45 _ hB9 (by kernel_rfl) rfl (by kernel_rfl) ?_); intro w10 hB10 hK10)
  refine bodyPost_ret (results_cell_blk (ty := 45) rfl _ pb 45 _ _ rfl hB10 Tryz.underlying45 rfl (by kernel_rfl)) rfl ⟨rfl, ?_, ?_⟩
  · have hsz : w0.heap.size ≤ w.heap.size := by obtain ⟨b, i1, i2, i3, i4, i5, i6, i7⟩ := h; exact i7.size
    exact (hR8.one hQ8 (by decide) (by decide) (by omega) hK9).one hB9 (by decide) (by decide) (by omega) hK10
  · exact (hK78.then hK9 fun i hi e => by unfold Only at e; omega).then hK10 fun i hi e => by unfold Only at e; omega
end Go.Proofs.YtipbjiepfnjojaaGreatDoor
namespace Go.Proofs.YtipbjiepfnjojaaGreatDoor
open Go.RowKit Go.Uc

/-- A byte as a word of 64 bits. -/
def b64 (x : UInt8) : BitVec 64 := BitVec.ofNat 64 x.toNat
theorem bv_b64 (x : UInt8) : bv x = .int .u8 (v64 (b64 x)) := by
  unfold bv v64 b64; have := x.toNat_lt; rw [BitVec.toNat_ofNat, Nat.mod_eq_of_lt (by omega)]
theorem b64_le (x : UInt8) : v64 (b64 x) ≤ 255 := by
  unfold v64 b64; have := x.toNat_lt; rw [BitVec.toNat_ofNat, Nat.mod_eq_of_lt (by omega)]; omega
/-- Four bytes as a word. -/
def word4 (p q r s : UInt8) : BitVec 64 := b64 p ||| b64 q <<< 8 ||| b64 r <<< 16 ||| b64 s <<< 24
/-- A word more. -/
def Sum4.plus (s : Sum4) (x : BitVec 64) : Sum4 := ⟨s.a + x, s.b + (s.a + x), s.c + (s.b + (s.a + x)), s.d + (s.c + (s.b + (s.a + x)))⟩
def sum0 : Sum4 := ⟨0, 0, 0, 0⟩
def plusC (A B C D x : BitVec 64) : Array Value := #[.int .u64 (v64 (A + x)), .int .u64 (v64 (B + (A + x))), .int .u64 (v64 (C + (B + (A + x)))), .int .u64 (v64 (D + (C + (B + (A + x)))))]

set_option maxRecDepth 100000 in
set_option maxHeartbeats 1000000 in
theorem plus_any (s : Sum4) (p q r t : UInt8) (w : World) :
    Calls Tryz.prog 116 #[s.v, .agg #[bv p, bv q, bv r, bv t]] w fun e w' => e = .returned (s.plus (word4 p q r t)).v ∧ Keeps Non w w' := by
  obtain ⟨A, B, C, D⟩ := s
  unfold Sum4.v sv
  rw [bv_b64, bv_b64, bv_b64, bv_b64]
  have ho := or64
  have s8 : ∀ x : BitVec 64, IntKind.u64.wrap (v64 x * 256) = v64 (x <<< 8) := fun x => shl64 x 8
  have s16 : ∀ x : BitVec 64, IntKind.u64.wrap (v64 x * 65536) = v64 (x <<< 16) := fun x => shl64 x 16
  have s24 : ∀ x : BitVec 64, IntKind.u64.wrap (v64 x * 16777216) = v64 (x <<< 24) := fun x => shl64 x 24
  have hw : ∀ x : BitVec 64, IntKind.u64.wrap (v64 x) = v64 x := fun x => by rw [IntKind.wrap_u64]; have := v64_nonneg x; have := v64_le x; omega
  have ha := add64
  have l0 := v64_nonneg
  have l1 := b64_le
  go_enter Tryz.func116, Tryz.ntmps116
  go_wp2_with fail
  refine bodyPost_ret (results_cell_blk (ty := 43) rfl _ (w.heap.size + 1 + 1) 43 _ _ rfl (by have := Blk.new ((w.alloc (.cells (plusC A B C D (b64 p ||| b64 q <<< 8 ||| b64 r <<< 16 ||| b64 t <<< 24)) 43)).alloc (.cells #[.int .u8 (v64 (b64 p)), .int .u8 (v64 (b64 q)), .int .u8 (v64 (b64 r)), .int .u8 (v64 (b64 t))] 189)) 43 (plusC A B C D (b64 p ||| b64 q <<< 8 ||| b64 r <<< 16 ||| b64 t <<< 24)); simpa [plusC] using this) Tryz.underlying43 rfl (by kernel_rfl)) rfl ?_
  exact ⟨rfl, (((Keeps.refl _ _).alloc _).alloc _).alloc _⟩

/-- The state of a running sum. -/
structure Rn where
  s : Sum4
  p : UInt8
  q : UInt8
  r : UInt8
  t : UInt8
  k : Nat
def rn0 : Rn := ⟨sum0, 0, 0, 0, 0, 0⟩
def Rn.cells (x : Rn) : Array Value := #[.int .u64 (v64 x.s.a), .int .u64 (v64 x.s.b), .int .u64 (v64 x.s.c), .int .u64 (v64 x.s.d), bv x.p, bv x.q, bv x.r, bv x.t, .int .i64 (x.k : Int)]
def RnB (w : World) (g : Nat) (x : Rn) : Prop := Blk w g 191 x.cells
/-- A byte more. -/
def Rn.step (x : Rn) (c : UInt8) : Rn :=
  match x.k with
  | 0 => ⟨x.s, c, x.q, x.r, x.t, 1⟩
  | 1 => ⟨x.s, x.p, c, x.r, x.t, 2⟩
  | 2 => ⟨x.s, x.p, x.q, c, x.t, 3⟩
  | _ => ⟨x.s.plus (word4 x.p x.q x.r c), 0, 0, 0, 0, 0⟩
theorem Rn.step_lt (x : Rn) (c : UInt8) : (x.step c).k < 4 := by unfold Rn.step; split <;> simp
def Rn.add (x : Rn) (bs : List UInt8) : Rn := bs.foldl Rn.step x
def Rn.value (x : Rn) : Sum4 := if x.k = 0 then x.s else x.s.plus (word4 x.p x.q x.r x.t)
theorem Rn.add_lt (bs : List UInt8) : ∀ (x : Rn), x.k < 4 → (x.add bs).k < 4 := by
  induction bs with
  | nil => exact fun _ h => h
  | cons c bs ih => exact fun x _ => ih _ (x.step_lt c)

theorem new_any (w : World) : Calls Tryz.prog 87 #[] w fun e w' => e = .returned (.pointer (some ⟨w.heap.size, 0, none⟩)) ∧ RnB w' w.heap.size rn0 ∧ Keeps Non w w' := by
  go_enter Tryz.func87, Tryz.ntmps87
  go_wp2_with fail
  go_ret
  exact ⟨rfl, Blk.new w 191 rn0.cells, (Keeps.refl _ _).alloc _⟩

set_option maxRecDepth 100000 in
set_option maxHeartbeats 1000000 in
theorem add_any (g : Nat) (x : Rn) (hx : x.k < 4) (A : Option Addr) (c : Nat) (bs : List UInt8) (w : World) (hB : RnB w g x) (hA : At w A bs) (_hc : bs.length ≤ c) (hn : bs.length ≤ 140737488351240) (hne : 0 < bs.length → ∀ ad, A = some ad → ad.block ≠ g) :
    Calls Tryz.prog 88 #[.pointer (some ⟨g, 0, none⟩), .slice A bs.length c] w fun e w' => e = .returned (.tuple #[]) ∧ RnB w' g (x.add bs) ∧ Keeps (Only g) w w' := by
  go_enter Tryz.func88, Tryz.ntmps88
  go_wp2_with fail
  go_loopw [8] (fun i wr => ∃ j : Nat, j ≤ bs.length ∧ i = .int .i64 j ∧ RnB wr g (x.add (bs.take j)) ∧ Keeps (Only g) w wr) (fun i _ => bs.length - (intOf i).toNat)
  case atStart => exact ⟨0, Nat.zero_le _, rfl, by simpa [Rn.add] using hB, Keeps.refl _ _⟩
  case round =>
    obtain ⟨j, hj, rfl, hR, hK⟩ := hrel
    by_cases hlt : j < bs.length
    · obtain ⟨bb, off, rfl, hcx⟩ := (hA.keep hK (fun ad e h => hne (by omega) ad e h)).at_ hlt
      have hlt4 := Rn.add_lt (bs.take j) x hx
      obtain ⟨y, hy⟩ : ∃ y, y = bs[j] := ⟨_, rfl⟩
      rw [← hy] at hcx
      replace hcx : wr.cell? ⟨bb, off + j, none⟩ = some (.int .u8 (y.toNat : Int)) := hcx
      have hty : (x.add (bs.take j)).step y = x.add (bs.take (j + 1)) := by
        unfold Rn.add; rw [List.take_succ_eq_append_getElem hlt, List.foldl_append, hy]; rfl
      obtain ⟨z, hz⟩ : ∃ z, z = x.add (bs.take j) := ⟨_, rfl⟩
      rw [← hz] at hR hlt4 hty
      have HZ := Lib.hid hty
      clear hz hy hty
      have j0 : (0 : Int) ≤ (j : Int) := by omega
      have j1 : (j : Int) < (bs.length : Int) := by omega
      have j2 : ((j : Int)).toNat = j := by omega
      obtain ⟨⟨SA, SB, SC, SD⟩, zp, zq, zr, zt, k⟩ := z
      obtain ⟨wx, rfl⟩ : ∃ W : World, W = wr := ⟨_, rfl⟩
      have c0 : wx.cell? ⟨g, 0, none⟩ = some (.int .u64 (v64 SA)) := Blk.cell hR 0
      have c1 : wx.cell? ⟨g, 1, none⟩ = some (.int .u64 (v64 SB)) := Blk.cell hR 1
      have c2 : wx.cell? ⟨g, 2, none⟩ = some (.int .u64 (v64 SC)) := Blk.cell hR 2
      have c3 : wx.cell? ⟨g, 3, none⟩ = some (.int .u64 (v64 SD)) := Blk.cell hR 3
      have c4 : wx.cell? ⟨g, 4, none⟩ = some (.int .u8 (zp.toNat : Int)) := Blk.cell hR 4
      have c5 : wx.cell? ⟨g, 5, none⟩ = some (.int .u8 (zq.toNat : Int)) := Blk.cell hR 5
      have c6 : wx.cell? ⟨g, 6, none⟩ = some (.int .u8 (zr.toNat : Int)) := Blk.cell hR 6
      have c7 : wx.cell? ⟨g, 7, none⟩ = some (.int .u8 (zt.toNat : Int)) := Blk.cell hR 7
      have f0 := fun i => Blk.frozen hR i
      have c8 : wx.cell? ⟨g, 8, none⟩ = some (.int .i64 (k : Int)) := Blk.cell hR 8
      match k, hlt4 with
      | 0, _ =>
        rw [show ((0 : Nat) : Int) = 0 from rfl] at c8
        go_wp2_with fail
        go_region
        all_goals
          go_wp2_with fail
          go_roundw
        case rel =>
          refine ⟨j + 1, by omega, by go_num, ?_, ?_⟩
          · rw [← HZ.out]
            exact ((Blk.set hR 4 (bv y)).drew.set 8 (.int .i64 1))
          · exact ((hK.set (p := ⟨g, 4, none⟩) rfl _).drew.set (p := ⟨g, 8, none⟩) rfl _)
        case measure => simp [intOf]; omega
      | 1, _ =>
        rw [show ((1 : Nat) : Int) = 1 from rfl] at c8
        go_wp2_with fail
        go_region
        all_goals
          go_wp2_with fail
          go_roundw
        case rel =>
          refine ⟨j + 1, by omega, by go_num, ?_, ?_⟩
          · rw [← HZ.out]
            exact ((Blk.set hR 5 (bv y)).drew.set 8 (.int .i64 2))
          · exact ((hK.set (p := ⟨g, 5, none⟩) rfl _).drew.set (p := ⟨g, 8, none⟩) rfl _)
        case measure => simp [intOf]; omega
      | 2, _ =>
        rw [show ((2 : Nat) : Int) = 2 from rfl] at c8
        go_wp2_with fail
        go_region
        all_goals
          go_wp2_with fail
          go_roundw
        case rel =>
          refine ⟨j + 1, by omega, by go_num, ?_, ?_⟩
          · rw [← HZ.out]
            exact ((Blk.set hR 6 (bv y)).drew.set 8 (.int .i64 3))
          · exact ((hK.set (p := ⟨g, 6, none⟩) rfl _).drew.set (p := ⟨g, 8, none⟩) rfl _)
        case measure => simp [intOf]; omega
      | 3, _ =>
        rw [show ((3 : Nat) : Int) = 3 from rfl] at c8
        go_wp2_with fail
        go_region
        go_wp2_with fail
        obtain ⟨wy, hwy⟩ : ∃ W : World, W = ((wx.setCell ⟨g, 7, none⟩ (.int .u8 (y.toNat : Int))).setCell ⟨g, 8, none⟩ (.int .i64 4)).drew := ⟨_, rfl⟩
        have hR2 : Blk wy g 191 #[.int .u64 (v64 SA), .int .u64 (v64 SB), .int .u64 (v64 SC), .int .u64 (v64 SD), .int .u8 (zp.toNat : Int), .int .u8 (zq.toNat : Int), .int .u8 (zr.toNat : Int), .int .u8 (y.toNat : Int), .int .i64 4] := by
          rw [hwy]; exact ((Blk.set hR 7 (bv y)).set 8 (.int .i64 4)).drew
        have hK2 : Keeps (Only g) w wy := by
          rw [hwy]; exact ((hK.set (p := ⟨g, 7, none⟩) rfl _).set (p := ⟨g, 8, none⟩) rfl _).drew
        rw [← hwy]
        clear c0 c1 c2 c3 c4 c5 c6 c7 c8 f0 hK hR hcx hwy
        clear wx
        obtain ⟨wx, rfl⟩ : ∃ W : World, W = wy := ⟨_, rfl⟩
        have c0 : wx.cell? ⟨g, 0, none⟩ = some (.int .u64 (v64 SA)) := hR2.cell 0
        have c1 : wx.cell? ⟨g, 1, none⟩ = some (.int .u64 (v64 SB)) := hR2.cell 1
        have c2 : wx.cell? ⟨g, 2, none⟩ = some (.int .u64 (v64 SC)) := hR2.cell 2
        have c3 : wx.cell? ⟨g, 3, none⟩ = some (.int .u64 (v64 SD)) := hR2.cell 3
        have c4 : wx.cell? ⟨g, 4, none⟩ = some (.int .u8 (zp.toNat : Int)) := hR2.cell 4
        have c5 : wx.cell? ⟨g, 5, none⟩ = some (.int .u8 (zq.toNat : Int)) := hR2.cell 5
        have c6 : wx.cell? ⟨g, 6, none⟩ = some (.int .u8 (zr.toNat : Int)) := hR2.cell 6
        have c7 : wx.cell? ⟨g, 7, none⟩ = some (.int .u8 (y.toNat : Int)) := hR2.cell 7
        obtain ⟨T, hT⟩ : ∃ T, T = (⟨SA, SB, SC, SD⟩ : Sum4).plus (word4 zp zq zr y) := ⟨_, rfl⟩
        have HP := Lib.hid (fun W => plus_any ⟨SA, SB, SC, SD⟩ zp zq zr y W)
        rw [← hT] at HP
        have HT := Lib.hid hT
        clear hT
        obtain ⟨TA, TB, TC, TD⟩ := T
        go_region_with (go_at_call 116; refine (HP.out _).mono ?_; rintro e w2 ⟨rfl, hKp⟩; have hR3 := (hR2.drew).non hKp; have hK3 := (hK2.drew).non hKp; have d0 := hR3.cell 0; have d1 := hR3.cell 1; have d2 := hR3.cell 2; have d3 := hR3.cell 3; have f0 := hR3.frozen 0; have f1 := hR3.frozen 1; have f2 := hR3.frozen 2; have f3 := hR3.frozen 3; simp only [Sum4.v, sv])
        all_goals
          obtain ⟨wz, hwz⟩ : ∃ W : World, W = ((((w2.setCell ⟨g, 0, none⟩ (.int .u64 (v64 TA))).setCell ⟨g, 1, none⟩ (.int .u64 (v64 TB))).setCell ⟨g, 2, none⟩ (.int .u64 (v64 TC))).setCell ⟨g, 3, none⟩ (.int .u64 (v64 TD))) := ⟨_, rfl⟩
          have hR4 : Blk wz g 191 #[.int .u64 (v64 TA), .int .u64 (v64 TB), .int .u64 (v64 TC), .int .u64 (v64 TD), .int .u8 (zp.toNat : Int), .int .u8 (zq.toNat : Int), .int .u8 (zr.toNat : Int), .int .u8 (y.toNat : Int), .int .i64 4] := by
            rw [hwz]; exact (((hR3.set 0 (.int .u64 (v64 TA))).set 1 (.int .u64 (v64 TB))).set 2 (.int .u64 (v64 TC))).set 3 (.int .u64 (v64 TD))
          have hK4 : Keeps (Only g) w wz := by
            rw [hwz]; exact (((hK3.set (p := ⟨g, 0, none⟩) rfl _).set (p := ⟨g, 1, none⟩) rfl _).set (p := ⟨g, 2, none⟩) rfl _).set (p := ⟨g, 3, none⟩) rfl _
          rw [← hwz]
          clear hwz hR3 hK3 hKp hR2 hK2 d0 d1 d2 d3 f0 f1 f2 f3 c0 c1 c2 c3 c4 c5 c6 c7
          have e4 := hR4.cell 4
          have e5 := hR4.cell 5
          have e6 := hR4.cell 6
          have e7 := hR4.cell 7
          have e8 := hR4.cell 8
          have f0 := fun i => hR4.frozen i
          go_wp2_with fail
          go_roundw
          case rel =>
            refine ⟨j + 1, by omega, by go_num, ?_, ?_⟩
            · rw [← HZ.out]
              have h5 := ((((hR4.set 4 (bv 0)).set 5 (bv 0)).set 6 (bv 0)).set 7 (bv 0)).set 8 (.int .i64 0)
              have h6 : (⟨⟨SA, SB, SC, SD⟩, zp, zq, zr, zt, 3⟩ : Rn).step y = ⟨⟨TA, TB, TC, TD⟩, 0, 0, 0, 0, 0⟩ := by rw [HT.out]; rfl
              rw [h6]
              exact h5
            · exact ((((hK4.set (p := ⟨g, 4, none⟩) rfl _).set (p := ⟨g, 5, none⟩) rfl _).set (p := ⟨g, 6, none⟩) rfl _).set (p := ⟨g, 7, none⟩) rfl _).set (p := ⟨g, 8, none⟩) rfl _
          case measure => simp [intOf]; omega
    · obtain rfl : j = bs.length := by omega
      rw [List.take_of_length_le (Nat.le_refl _)] at hR
      go_wp2_with fail
      go_end0
      exact ⟨rfl, hR, hK⟩
end Go.Proofs.YtipbjiepfnjojaaGreatDoor
namespace Go.Proofs.YtipbjiepfnjojaaGreatDoor
open Go.RowKit Go.Uc

set_option maxRecDepth 100000 in
set_option maxHeartbeats 1000000 in
theorem rnValue_any (g : Nat) (x : Rn) (hx : x.k < 4) (w : World) (hB : RnB w g x) :
    Calls Tryz.prog 89 #[.pointer (some ⟨g, 0, none⟩)] w fun e w' => e = .returned x.value.v ∧ Keeps Non w w' := by
  obtain ⟨⟨SA, SB, SC, SD⟩, p, q, r, t, k⟩ := x
  have hg := Blk.lt hB
  have hne : g ≠ w.heap.size := by omega
  have c0 : w.cell? ⟨g, 0, none⟩ = some (.int .u64 (v64 SA)) := Blk.cell hB 0
  have c1 : w.cell? ⟨g, 1, none⟩ = some (.int .u64 (v64 SB)) := Blk.cell hB 1
  have c2 : w.cell? ⟨g, 2, none⟩ = some (.int .u64 (v64 SC)) := Blk.cell hB 2
  have c3 : w.cell? ⟨g, 3, none⟩ = some (.int .u64 (v64 SD)) := Blk.cell hB 3
  have c4 : w.cell? ⟨g, 4, none⟩ = some (.int .u8 (p.toNat : Int)) := Blk.cell hB 4
  have c5 : w.cell? ⟨g, 5, none⟩ = some (.int .u8 (q.toNat : Int)) := Blk.cell hB 5
  have c6 : w.cell? ⟨g, 6, none⟩ = some (.int .u8 (r.toNat : Int)) := Blk.cell hB 6
  have c7 : w.cell? ⟨g, 7, none⟩ = some (.int .u8 (t.toNat : Int)) := Blk.cell hB 7
  have c8 : w.cell? ⟨g, 8, none⟩ = some (.int .i64 (k : Int)) := Blk.cell hB 8
  by_cases hk : k = 0
  · subst hk
    rw [show ((0 : Nat) : Int) = 0 from rfl] at c8
    go_enter Tryz.func89, Tryz.ntmps89
    go_wp2_with fail
    exact bodyPost_ret (v := (⟨SA, SB, SC, SD⟩ : Sum4).v) (results_cell_blk (ty := 43) rfl _ w.heap.size 43 _ _ rfl (Blk.new w 43 #[.int .u64 (v64 SA), .int .u64 (v64 SB), .int .u64 (v64 SC), .int .u64 (v64 SD)]) Tryz.underlying43 rfl (by kernel_rfl)) rfl ⟨rfl, (Keeps.refl _ _).alloc _⟩
  · have hk0 : ¬ (k : Int) = 0 := by omega
    obtain ⟨T, hT⟩ : ∃ T, T = (⟨SA, SB, SC, SD⟩ : Sum4).plus (word4 p q r t) := ⟨_, rfl⟩
    have HP := Lib.hid (fun W => plus_any ⟨SA, SB, SC, SD⟩ p q r t W)
    rw [← hT] at HP
    have HT : Hid ((⟨⟨SA, SB, SC, SD⟩, p, q, r, t, k⟩ : Rn).value = T) := by
      show _ = _
      rw [hT]; unfold Rn.value; rw [if_neg hk]
    clear hT
    obtain ⟨TA, TB, TC, TD⟩ := T
    go_enter Tryz.func89, Tryz.ntmps89
    go_wp2_with fail
    obtain ⟨wx, hwx⟩ : ∃ W : World, W = w.alloc (.cells #[.int .u64 0, .int .u64 0, .int .u64 0, .int .u64 0] 43) := ⟨_, rfl⟩
    have hR : Blk wx w.heap.size 43 #[.int .u64 0, .int .u64 0, .int .u64 0, .int .u64 0] := by rw [hwx]; exact Blk.new _ _ _
    have hK : Keeps Non w wx := by rw [hwx]; exact (Keeps.refl _ _).alloc _
    rw [← hwx]
    obtain ⟨b, hb⟩ : ∃ b, b = w.heap.size := ⟨_, rfl⟩
    rw [← hb] at hR hne ⊢
    have hbL : w.heap.size ≤ b := by omega
    have hB1 := Blk.non hB hK
    clear hwx hb c0 c1 c2 c3 c4 c5 c6 c7 c8 hB hg
    have c0 : wx.cell? ⟨g, 0, none⟩ = some (.int .u64 (v64 SA)) := Blk.cell hB1 0
    have c1 : wx.cell? ⟨g, 1, none⟩ = some (.int .u64 (v64 SB)) := Blk.cell hB1 1
    have c2 : wx.cell? ⟨g, 2, none⟩ = some (.int .u64 (v64 SC)) := Blk.cell hB1 2
    have c3 : wx.cell? ⟨g, 3, none⟩ = some (.int .u64 (v64 SD)) := Blk.cell hB1 3
    have c4 : wx.cell? ⟨g, 4, none⟩ = some (.int .u8 (p.toNat : Int)) := Blk.cell hB1 4
    have c5 : wx.cell? ⟨g, 5, none⟩ = some (.int .u8 (q.toNat : Int)) := Blk.cell hB1 5
    have c6 : wx.cell? ⟨g, 6, none⟩ = some (.int .u8 (r.toNat : Int)) := Blk.cell hB1 6
    have c7 : wx.cell? ⟨g, 7, none⟩ = some (.int .u8 (t.toNat : Int)) := Blk.cell hB1 7
    have c8 : wx.cell? ⟨g, 8, none⟩ = some (.int .i64 (k : Int)) := Blk.cell hB1 8
    go_region_with (go_at_call 116; refine (HP.out _).mono ?_; rintro e w2 ⟨rfl, hKp⟩; have hR3 := (hR.drew).non hKp; have hK3 := (hK.drew).non hKp; have d0 := hR3.cell 0; have d1 := hR3.cell 1; have d2 := hR3.cell 2; have d3 := hR3.cell 3; have f0 := hR3.frozen 0; have f1 := hR3.frozen 1; have f2 := hR3.frozen 2; have f3 := hR3.frozen 3; simp only [Sum4.v, sv])
    all_goals
      obtain ⟨wz, hwz⟩ : ∃ W : World, W = ((((w2.setCell ⟨b, 0, none⟩ (.int .u64 (v64 TA))).setCell ⟨b, 1, none⟩ (.int .u64 (v64 TB))).setCell ⟨b, 2, none⟩ (.int .u64 (v64 TC))).setCell ⟨b, 3, none⟩ (.int .u64 (v64 TD))) := ⟨_, rfl⟩
      have hR4 : Blk wz b 43 #[.int .u64 (v64 TA), .int .u64 (v64 TB), .int .u64 (v64 TC), .int .u64 (v64 TD)] := by
        rw [hwz]; exact (((hR3.set 0 (.int .u64 (v64 TA))).set 1 (.int .u64 (v64 TB))).set 2 (.int .u64 (v64 TC))).set 3 (.int .u64 (v64 TD))
      have hK4 : Keeps Non w wz := by
        rw [hwz]; exact (((hK3.setNew (p := ⟨b, 0, none⟩) hbL _).setNew (p := ⟨b, 1, none⟩) hbL _).setNew (p := ⟨b, 2, none⟩) hbL _).setNew (p := ⟨b, 3, none⟩) hbL _
      rw [← hwz]
      clear hwz hR3 hK3 hKp hR hK d0 d1 d2 d3 f0 f1 f2 f3 c0 c1 c2 c3 c4 c5 c6 c7
      go_wp2_with fail
      exact bodyPost_ret (v := (⟨TA, TB, TC, TD⟩ : Sum4).v) (results_cell_blk (ty := 43) rfl _ b 43 _ _ rfl hR4 Tryz.underlying43 rfl (by kernel_rfl)) rfl ⟨by rw [HT.out], hK4⟩

end Go.Proofs.YtipbjiepfnjojaaGreatDoor
