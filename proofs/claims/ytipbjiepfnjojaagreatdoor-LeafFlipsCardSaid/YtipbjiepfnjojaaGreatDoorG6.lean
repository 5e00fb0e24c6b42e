/- Of, of the kind that is Fletcher's. Bytes with their sum; an uberblock as a sector. An uberblock as a sector. An uberblock taken up, with its pointer of noughts. The bytes ahead of a sum that is right. -/
import Derived.Test.YtipbjiepfnjojaaGreatDoorG5
namespace Go.Proofs.YtipbjiepfnjojaaGreatDoor
open Go.RowKit Go.Uc

theorem results_cell_tmp {P : Program} {w : World} {fn : Func} {p q : Tmp} {ty : TypeId} (h : fn.results = #[.cell p ty, .tmp q]) (tmps : Array Value) (g : Nat) (t : TypeId) (cs : Array Value) (d : TypeDesc)
    (hp : tmps.getD p undef = .pointer (Option.some ⟨g, 0, none⟩)) (hg : Blk w g t cs)
    (hu : P.underlying ty = Option.some d) (hd : (match d with | .struct _ | .array _ _ => true | _ => false) = true) (hi : (P.info? ty).map (·.size) = Option.some cs.size) :
    (results fn tmps).run P w = .ok (.tuple #[.agg cs, tmps.getD q undef]) w := by
  have hp' : tmps[p]?.getD undef = .pointer (some ⟨g, 0, none⟩) := by simpa using hp
  simp [results, h, hp', asAddr, run_loadVar_row w g t ty cs (0, 0) d hg hu hd hi]
def Sum4.eqv (s t : Sum4) : Bool := decide (v64 s.a = v64 t.a) && (decide (v64 s.b = v64 t.b) && (decide (v64 s.c = v64 t.c) && decide (v64 s.d = v64 t.d)))
theorem v64_inj {x y : BitVec 64} : v64 x = v64 y ↔ x = y := by
  unfold v64
  constructor
  · intro h; exact BitVec.eq_of_toNat_eq (by omega)
  · rintro rfl; rfl
theorem Sum4.eqv_iff (s t : Sum4) : s.eqv t = true ↔ s = t := by
  obtain ⟨a, b, c, d⟩ := s
  obtain ⟨a', b', c', d'⟩ := t
  simp [Sum4.eqv, v64_inj]
def Sum4.cells (s : Sum4) : Array Value := #[.int .u64 (v64 s.a), .int .u64 (v64 s.b), .int .u64 (v64 s.c), .int .u64 (v64 s.d)]
set_option maxRecDepth 100000 in
set_option maxHeartbeats 1000000 in
theorem of1_any (A : Option Addr) (c : Nat) (bs : List UInt8) (w : World) (hA : At w A bs) (hc : bs.length ≤ c) (hn : bs.length ≤ 140737488351240) :
    Calls Tryz.prog 45 #[.int .i64 1, .slice A bs.length c] w fun e w' => e = .returned (.tuple #[((rn0.add bs).value).v, .int .i64 0]) ∧ Keeps Non w w' := by
  go_enter Tryz.func45, Tryz.ntmps45
  go_wp2_with fail
  obtain ⟨wx, hwx⟩ : ∃ W : World, W = w.alloc (.cells #[.int .u64 0, .int .u64 0, .int .u64 0, .int .u64 0] 43) := ⟨_, rfl⟩
  have hR : Blk wx w.heap.size 43 sum0.cells := by rw [hwx]; exact Blk.new _ _ _
  have hK : Keeps Non w wx := by rw [hwx]; exact (Keeps.refl _ _).alloc _
  rw [← hwx]
  have hA1 := hA.non hK
  have hblt := hR.lt
  obtain ⟨b, hb⟩ : ∃ b, b = w.heap.size := ⟨_, rfl⟩
  rw [← hb] at hR hblt ⊢
  have hbL : w.heap.size ≤ b := by omega
  have hAb : ∀ ad, A = some ad → bs ≠ [] → ad.block < b := fun ad e h => by
    obtain ⟨ad', e', h'⟩ := hA.lt (List.length_pos_iff.2 h)
    rw [e] at e'; injection e' with e'; subst e'; omega
  clear hwx hb hA
  refine (new_any wx).mono ?_
  rintro e w2 ⟨rfl, hB2, hK2⟩
  have hg2 := hK2.size
  obtain ⟨g, hg⟩ : ∃ g, g = wx.heap.size := ⟨_, rfl⟩
  rw [← hg] at hB2 ⊢
  have hgb : b < g := by omega
  have hgx : wx.heap.size ≤ g := by omega
  clear hg
  have hA2 := hA1.non hK2
  have hR2 := hR.non hK2
  have hKa := hK.non hK2
  go_wp2_with fail
  refine (add_any g rn0 (by decide) A c bs w2 hB2 hA2 hc hn (fun hp ad e h => by have := hAb ad e (List.length_pos_iff.1 hp); omega)).mono ?_
  rintro e w3 ⟨rfl, hB3, hK3⟩
  have hR3 := hR2.one hK3 (by omega)
  have hKb : Keeps Non w w3 := hKa.then hK3 (fun i hi e => absurd e (by show ¬ i = g; omega))
  go_wp2_with fail
  refine (rnValue_any g _ (Rn.add_lt bs rn0 (by decide)) w3 hB3).mono ?_
  rintro e w4 ⟨rfl, hK4⟩
  have hRz := hR3.non hK4
  have hKz := hKb.non hK4
  clear hR hR2 hR3 hK hK2 hK3 hK4 hKa hKb hA1 hA2 hB2 hB3 hAb
  obtain ⟨S, hS⟩ : ∃ S, S = (rn0.add bs).value := ⟨_, rfl⟩
  have HF := Lib.hid hS
  rw [← hS]
  clear hS
  go_wp2_with ((with_reducible show wpList _ _ _ ({ dst := none, op := Op.store 43 _ _, type := _, pos := _, after := _, guard := _ } :: _) _ _); go_must (refine wpList_store_blk rfl 43 (.tmp 4) (.tmp 15) rfl b S.cells rfl rfl 43 _ hRz (by kernel_rfl) rfl (by kernel_rfl) ?_); intro w7 hR8 hK8; have hK9 : Keeps Non w w7 := hKz.then hK8 (fun i hi e => absurd e (by show ¬ i = b; omega)); clear hRz hKz hK8)
  refine bodyPost_ret (results_cell_tmp (ty := 43) rfl _ b 43 _ _ rfl hR8 Tryz.underlying43 rfl (by kernel_rfl)) rfl ⟨?_, hK9⟩
  rw [HF.out]
  rfl
set_option maxRecDepth 100000 in
set_option maxHeartbeats 1000000 in
theorem check1_any (s : Sum4) (A : Option Addr) (c : Nat) (bs : List UInt8) (w : World) (hA : At w A bs) (hc : bs.length ≤ c) (hn : bs.length ≤ 140737488351240) :
    Calls Tryz.prog 51 #[.int .i64 1, s.v, .slice A bs.length c] w fun e w' => e = .returned (.bool (s.eqv ((rn0.add bs).value))) ∧ Keeps Non w w' := by
  obtain ⟨o, ho⟩ : ∃ o, o = (rn0.add bs).value := ⟨_, rfl⟩
  have HC := fun W h1 => of1_any A c bs W h1 hc hn
  rw [← ho] at HC ⊢
  have HCh := Lib.hid HC
  clear HC ho
  obtain ⟨SA, SB, SC, SD⟩ := s
  obtain ⟨TA, TB, TC, TD⟩ := o
  rw [show (⟨SA, SB, SC, SD⟩ : Sum4).v = .agg #[.int .u64 (v64 SA), .int .u64 (v64 SB), .int .u64 (v64 SC), .int .u64 (v64 SD)] from rfl]
  go_enter Tryz.func51, Tryz.ntmps51
  go_wp2_with fail
  obtain ⟨wx, hwx⟩ : ∃ W : World, W = w.alloc (.cells #[.int .u64 (v64 SA), .int .u64 (v64 SB), .int .u64 (v64 SC), .int .u64 (v64 SD)] 43) := ⟨_, rfl⟩
  have hR : Blk wx w.heap.size 43 #[.int .u64 (v64 SA), .int .u64 (v64 SB), .int .u64 (v64 SC), .int .u64 (v64 SD)] := by rw [hwx]; exact Blk.new _ _ _
  have hK : Keeps Non w wx := by rw [hwx]; exact (Keeps.refl _ _).alloc _
  rw [← hwx]
  have hA1 := hA.non hK
  obtain ⟨b, hb⟩ : ∃ b, b = w.heap.size := ⟨_, rfl⟩
  rw [← hb] at hR ⊢
  clear hwx hb hA
  refine (HCh.out wx hA1).mono ?_
  rintro e w2 ⟨rfl, hK2⟩
  have hR2 := hR.non hK2
  have hK3 := hK.non hK2
  have hb2 := hR2.lt
  clear hR hK hK2 hA1
  have d0 := hR2.cell 0
  have d1 := hR2.cell 1
  have d2 := hR2.cell 2
  have d3 := hR2.cell 3
  simp only [Sum4.v, sv]
  go_wp2_with fail
  all_goals
    go_ret
    refine ⟨?_, hK3.alloc _⟩
    congr 2
    simp [Sum4.eqv, *]
end Go.Proofs.YtipbjiepfnjojaaGreatDoor
namespace Go.Proofs.YtipbjiepfnjojaaGreatDoor
set_option maxRecDepth 100000
open Go.RowKit Go.Uc

/-- Fletcher's sum of bytes, as four numbers, as bytes. -/
def fl (xs : List UInt8) : S4 := ⟨(rn0.add xs).value.a.toNat, (rn0.add xs).value.b.toNat, (rn0.add xs).value.c.toNat, (rn0.add xs).value.d.toNat⟩
theorem fl_ok (xs : List UInt8) : (fl xs).ok := ⟨BitVec.isLt _, BitVec.isLt _, BitVec.isLt _, BitVec.isLt _⟩
theorem S4.bytes_len (s : S4) : s.bytes.length = 32 := by simp [S4.bytes, le_length]
def withSum (xs : List UInt8) : List UInt8 := xs ++ (fl xs).bytes
set_option maxHeartbeats 4000000 in
theorem whole66_any {w : World} {b : Nat} {xs : List UInt8} (hb : Blk w b 5 (pc xs)) (hl : xs.length = 96) :
    Calls Tryz.prog 66 #[.slice (some ⟨b, 0, none⟩) 96 96, .int .i64 0] w fun e w' => ∃ b', e = .returned (.tuple #[.slice (some ⟨b', 0, none⟩) 128 128, .int .i64 0]) ∧ Blk w' b' 5 (pc (withSum xs)) ∧ w.heap.size ≤ b' ∧ Keeps Non w w' := by
  have HO : Hid (Calls Tryz.prog 45 #[.int .i64 1, .slice (some ⟨b, 0, none⟩) 96 96] w fun e w' => e = .returned (.tuple #[.agg (fl xs).cs, .int .i64 0]) ∧ Keeps Non w w') := Lib.hid (by
    have := of1_any (some ⟨b, 0, none⟩) 96 xs w (At.blk hb) (by omega) (by omega)
    rw [hl] at this
    exact this)
  have HNw := Lib.hid (fun V => newWriter_any 128 (by decide) V)
  have HB : Hid (∀ (V0 V : World) (g : Nat), Wr V0 V g 128 [] → Blk V b 5 (pc xs) → Calls Tryz.prog 43 #[.pointer (some ⟨g, 0, none⟩), .slice (some ⟨b, 0, none⟩) 96 96] V fun e w' => e = .returned (.tuple #[]) ∧ Wr V0 w' g 128 xs ∧ Oth V w') := Lib.hid (fun V0 V g hV hB => by
    have := bytes43_any hV (some ⟨b, 0, none⟩) 96 xs (At.blk hB) (by rw [hl]; decide) (by decide)
    rw [hl] at this
    exact this)
  have HS : Hid (∀ (V0 V : World) (g : Nat), Wr V0 V g 128 xs → Calls Tryz.prog 105 #[.pointer (some ⟨g, 0, none⟩), .agg (fl xs).cs] V fun e w' => e = .returned (.tuple #[]) ∧ Wr V0 w' g 128 (withSum xs) ∧ Oth V w') := Lib.hid (fun V0 V g hV => laySum_any hV (fl xs) (fl_ok xs) (by rw [hl]; decide) (by decide))
  have hwl : (withSum xs).length = 128 := by unfold withSum; rw [List.length_append, S4.bytes_len, hl]
  have HDn : Hid (∀ (V0 V : World) (g : Nat), Wr V0 V g 128 (withSum xs) → Calls Tryz.prog 44 #[.pointer (some ⟨g, 0, none⟩)] V fun e w' => ∃ b, e = .returned (.tuple #[.slice (some ⟨b, 0, none⟩) 128 128, .int .i64 0]) ∧ Blk w' b 5 (pc (withSum xs)) ∧ V.heap.size ≤ b ∧ Keeps Non V w') := Lib.hid (fun V0 V g hV => by
    have := done44_any hV (by rw [hwl]; decide)
    rw [hwl] at this
    exact this)
  generalize fl xs = F at HO HS
  obtain ⟨sa, sb, sc, sd⟩ := F
  unfold S4.cs at HO HS
  simp only at HO HS
  go_enter Tryz.func66, Tryz.ntmps66
  go_upto_region 4 with ((go_at_call 45; go_must (refine HO.out.mono ?_); rintro e w2 ⟨rfl, hK2⟩))
  have hBx := Blk.new w2 43 #[.int .u64 (sa : Int), .int .u64 (sb : Int), .int .u64 (sc : Int), .int .u64 (sd : Int)]
  have hka := (Keeps.refl Non w2).alloc (.cells #[.int .u64 (sa : Int), .int .u64 (sb : Int), .int .u64 (sc : Int), .int .u64 (sd : Int)] 43)
  obtain ⟨w3, hw3⟩ : ∃ V : World, V = w2.alloc (.cells #[.int .u64 (sa : Int), .int .u64 (sb : Int), .int .u64 (sc : Int), .int .u64 (sd : Int)] 43) := ⟨_, rfl⟩
  rw [← hw3] at hBx hka ⊢
  clear hw3
  obtain ⟨pb, hpb⟩ : ∃ z, z = w2.heap.size := ⟨_, rfl⟩
  rw [← hpb] at hBx ⊢
  clear hpb
  have hK3 := hK2.non hka
  have hb3 := hb.non hK3
  go_upto_region 7 with ((go_at_call 41; go_must (refine (HNw.out _).mono ?_); rintro e w4 ⟨g, rfl, hW4⟩))
  have HB4 := Lib.hid (HB.out _ _ _ hW4 (hb3.non hW4.keep))
  have hX4 := hBx.non hW4.keep
  go_upto_region 8 with ((go_at_call 43; go_must (refine HB4.out.mono ?_); rintro e w5 ⟨rfl, hW5, hY5⟩))
  have hX5 := hY5 _ _ _ hX4 (by decide) (by decide)
  have x0 : w5.cell? ⟨pb, 0, none⟩ = some (.int .u64 (sa : Int)) := hX5.cell 0
  have x1 : w5.cell? ⟨pb, 1, none⟩ = some (.int .u64 (sb : Int)) := hX5.cell 1
  have x2 : w5.cell? ⟨pb, 2, none⟩ = some (.int .u64 (sc : Int)) := hX5.cell 2
  have x3 : w5.cell? ⟨pb, 3, none⟩ = some (.int .u64 (sd : Int)) := hX5.cell 3
  have HS5 := Lib.hid (HS.out _ _ _ hW5)
  go_upto_region 9 with ((go_at_call 105; go_must (refine HS5.out.mono ?_); rintro e w6 ⟨rfl, hW6, -⟩))
  have HD6 := Lib.hid (HDn.out _ _ _ hW6)
  have hK6 := hK3.non hW6.keep
  go_wp2_with ((go_at_call 44; go_must (refine HD6.out.mono ?_); rintro e w7 ⟨b', rfl, hB7, hb7, hK7⟩))
  go_ret2
  exact ⟨b', rfl, hB7, Nat.le_trans hK6.size hb7, hK6.non hK7⟩
end Go.Proofs.YtipbjiepfnjojaaGreatDoor
namespace Go.Proofs.YtipbjiepfnjojaaGreatDoor
set_option maxRecDepth 100000
open Go.RowKit Go.Uc

/-- The sector of an uberblock whose root is all noughts. -/
def uberB (pool txg note : Nat) : List UInt8 := withSum (uber96 pool txg note)
set_option maxHeartbeats 4000000 in
theorem encodeUber28_any (pool txg note : Nat) (hp : pool < 18446744073709551616) (h1 : 1 ≤ txg) (h2 : txg ≤ 281474976710656) (hn : note < 18446744073709551616) (w : World) :
    Calls Tryz.prog 28 #[.agg #[.int .u64 (pool : Int), .int .u64 (txg : Int), .int .u64 (note : Int), .int .i64 0, .int .i64 0, .int .i64 0, .int .u64 0, .int .i64 0, .int .u64 0, .int .u64 0, .int .u64 0, .int .u64 0]] w fun e w' => ∃ b, e = .returned (.tuple #[.slice (some ⟨b, 0, none⟩) 128 128, .int .i64 0]) ∧ Blk w' b 5 (pc (uberB pool txg note)) ∧ w.heap.size ≤ b ∧ Keeps Non w w' := by
  have hB := Blk.new w 47 #[.int .u64 (pool : Int), .int .u64 (txg : Int), .int .u64 (note : Int), .int .i64 0, .int .i64 0, .int .i64 0, .int .u64 0, .int .i64 0, .int .u64 0, .int .u64 0, .int .u64 0, .int .u64 0]
  have hk := (Keeps.refl Non w).alloc (.cells #[.int .u64 (pool : Int), .int .u64 (txg : Int), .int .u64 (note : Int), .int .i64 0, .int .i64 0, .int .i64 0, .int .u64 0, .int .i64 0, .int .u64 0, .int .u64 0, .int .u64 0, .int .u64 0] 47)
  have HL := Lib.hid (fun V => laid67_any pool txg note hp h1 h2 hn V)
  have HW := Lib.hid (fun (V : World) (b : Nat) (hb : Blk V b 5 (pc (uber96 pool txg note))) => whole66_any hb (uber96_len pool txg note))
  go_enter Tryz.func28, Tryz.ntmps28
  go_upto_region 1 with fail
  obtain ⟨w1, hw1⟩ : ∃ V : World, V = w.alloc (.cells #[.int .u64 (pool : Int), .int .u64 (txg : Int), .int .u64 (note : Int), .int .i64 0, .int .i64 0, .int .i64 0, .int .u64 0, .int .i64 0, .int .u64 0, .int .u64 0, .int .u64 0, .int .u64 0] 47) := ⟨_, rfl⟩
  rw [← hw1] at hB hk ⊢
  clear hw1
  obtain ⟨pb, hpb⟩ : ∃ z, z = w.heap.size := ⟨_, rfl⟩
  rw [← hpb] at hB ⊢
  clear hpb
  have x0 : w1.cell? ⟨pb, 0, none⟩ = some (.int .u64 (pool : Int)) := hB.cell 0
  have x1 : w1.cell? ⟨pb, 1, none⟩ = some (.int .u64 (txg : Int)) := hB.cell 1
  have x2 : w1.cell? ⟨pb, 2, none⟩ = some (.int .u64 (note : Int)) := hB.cell 2
  have x3 : w1.cell? ⟨pb, 3, none⟩ = some (.int .i64 0) := hB.cell 3
  have x4 : w1.cell? ⟨pb, 4, none⟩ = some (.int .i64 0) := hB.cell 4
  have x5 : w1.cell? ⟨pb, 5, none⟩ = some (.int .i64 0) := hB.cell 5
  have x6 : w1.cell? ⟨pb, 6, none⟩ = some (.int .u64 0) := hB.cell 6
  have x7 : w1.cell? ⟨pb, 7, none⟩ = some (.int .i64 0) := hB.cell 7
  have x8 : w1.cell? ⟨pb, 8, none⟩ = some (.int .u64 0) := hB.cell 8
  have x9 : w1.cell? ⟨pb, 9, none⟩ = some (.int .u64 0) := hB.cell 9
  have x10 : w1.cell? ⟨pb, 10, none⟩ = some (.int .u64 0) := hB.cell 10
  have x11 : w1.cell? ⟨pb, 11, none⟩ = some (.int .u64 0) := hB.cell 11
  go_wp2_with (first
    | (go_at_call 67; go_must (refine (HL.out _).mono ?_); rintro e w2 ⟨b, rfl, hB2, hb2, hK2⟩; have HW2 := Lib.hid (HW.out w2 b hB2))
    | (go_at_call 66; go_must (refine HW2.out.mono ?_); rintro e w3 ⟨b', rfl, hB3, hb3, hK3⟩))
  go_ret2
  have hK12 := hk.non hK2
  exact ⟨b', rfl, hB3, Nat.le_trans hK12.size hb3, hK12.non hK3⟩
end Go.Proofs.YtipbjiepfnjojaaGreatDoor
namespace Go.Proofs.YtipbjiepfnjojaaGreatDoor
set_option maxRecDepth 100000
open Go.RowKit Go.Uc

theorem mid_eq (L a b c : List UInt8) (h : L = a ++ (b ++ c)) (n m : Nat) (hn : a.length = n) (hm : b.length = m) : (L.drop n).take m = b := by
  subst h hn hm
  simp
theorem uber_pool (pool txg note : Nat) : ((uber96 pool txg note).drop 4).take 8 = le 8 pool :=
  mid_eq _ [85, 67, 85, 66] _ (le 8 txg ++ le 8 note ++ zeros 48 ++ zeros 20) (by simp [uber96, uberH]) _ _ rfl (le_length _ _)
theorem uber_txg (pool txg note : Nat) : ((uber96 pool txg note).drop 12).take 8 = le 8 txg :=
  mid_eq _ ([85, 67, 85, 66] ++ le 8 pool) _ (le 8 note ++ zeros 48 ++ zeros 20) (by simp [uber96, uberH]) _ _ (by simp [le_length]) (le_length _ _)
theorem uber_note (pool txg note : Nat) : ((uber96 pool txg note).drop 20).take 8 = le 8 note :=
  mid_eq _ ([85, 67, 85, 66] ++ le 8 pool ++ le 8 txg) _ (zeros 48 ++ zeros 20) (by simp [uber96, uberH]) _ _ (by simp [le_length]) (le_length _ _)
theorem uber_root (pool txg note : Nat) : ((uber96 pool txg note).drop 28).take 48 = zeros 48 :=
  mid_eq _ ([85, 67, 85, 66] ++ le 8 pool ++ le 8 txg ++ le 8 note) _ (zeros 20) (by simp [uber96, uberH]) _ _ (by simp [le_length]) (zeros_length _)
theorem uber_pad (pool txg note : Nat) : (uber96 pool txg note).drop 76 = zeros ((uber96 pool txg note).length - 76) := by
  rw [uber96_len]
  unfold uber96
  rw [← uberH_len pool txg note, List.drop_left, uberH_len]
set_option maxHeartbeats 4000000 in
theorem takeUber76_any {w0 w : World} {g : Nat} (pool txg note : Nat) (hp : pool < 18446744073709551616) (ht : txg < 18446744073709551616) (hn : note < 18446744073709551616) (h : Rg w0 w g (uber96 pool txg note) 0) :
    Calls Tryz.prog 76 #[.pointer (some ⟨g, 0, none⟩)] w fun e w' => e = .returned (.agg #[.int .u64 (pool : Int), .int .u64 (txg : Int), .int .u64 (note : Int), .int .i64 0, .int .i64 0, .int .i64 0, .int .u64 0, .int .i64 0, .int .u64 0, .int .u64 0, .int .u64 0, .int .u64 0]) ∧ Rg w0 w' g (uber96 pool txg note) 76 ∧ Keeps (Only g) w w' := by
  have hl := uber96_len pool txg note
  have v1 : leVal (((uber96 pool txg note).drop 4).take 8) = pool := by rw [uber_pool, leVal_le, Nat.mod_eq_of_lt hp]
  have v2 : leVal (((uber96 pool txg note).drop 12).take 8) = txg := by rw [uber_txg, leVal_le, Nat.mod_eq_of_lt ht]
  have v3 : leVal (((uber96 pool txg note).drop 20).take 8) = note := by rw [uber_note, leVal_le, Nat.mod_eq_of_lt hn]
  have v4 := uber_root pool txg note
  generalize uber96 pool txg note = bs at h hl v1 v2 v3 v4 ⊢
  have H0 := Lib.hid (fun (V : World) (hV : Rg w0 V g bs 0) => rbytes50_any hV 4 (by decide) (by omega))
  have HN : Hid (∀ (V : World) (k n : Nat), Rg w0 V g bs k → leVal ((bs.drop k).take 8) = n → k + 8 ≤ bs.length → Calls Tryz.prog 49 #[.pointer (some ⟨g, 0, none⟩), .int .i64 8] V fun e w' => e = .returned (.int .u64 (n : Int)) ∧ Rg w0 w' g bs (k + 8) ∧ Keeps (Only g) V w') := Lib.hid (fun V k n hV hn hk => by
    have := rnum49_any hV 8 (by decide) (by decide) hk
    rw [hn] at this
    exact this)
  have HP := Lib.hid (fun (V : World) (hV : Rg w0 V g bs 28) => takePtr113_zero hV (by omega) v4)
  unfold ptr0 at HP
  have V1 := Lib.hid v1
  have V2 := Lib.hid v2
  have V3 := Lib.hid v3
  clear v1 v2 v3 v4 hp ht hn
  have hB := Blk.new w 47 #[.int .u64 0, .int .u64 0, .int .u64 0, .int .i64 0, .int .i64 0, .int .i64 0, .int .u64 0, .int .i64 0, .int .u64 0, .int .u64 0, .int .u64 0, .int .u64 0]
  have hk := (Keeps.refl Non w).alloc (.cells #[.int .u64 0, .int .u64 0, .int .u64 0, .int .i64 0, .int .i64 0, .int .i64 0, .int .u64 0, .int .i64 0, .int .u64 0, .int .u64 0, .int .u64 0, .int .u64 0] 47)
  have hgl : g < w.heap.size := by obtain ⟨b, i1, -⟩ := h; exact i1.lt
  go_enter Tryz.func76, Tryz.ntmps76
  go_upto_region 1 with fail
  obtain ⟨w1, hw1⟩ : ∃ V : World, V = w.alloc (.cells #[.int .u64 0, .int .u64 0, .int .u64 0, .int .i64 0, .int .i64 0, .int .i64 0, .int .u64 0, .int .i64 0, .int .u64 0, .int .u64 0, .int .u64 0, .int .u64 0] 47) := ⟨_, rfl⟩
  rw [← hw1] at hB hk ⊢
  clear hw1
  obtain ⟨pb, hpb⟩ : ∃ z, z = w.heap.size := ⟨_, rfl⟩
  rw [← hpb] at hB hgl ⊢
  have hpg : pb ≠ g := by omega
  have hpw : w.heap.size ≤ pb := by omega
  clear hpb
  go_wp2_with fail
  refine (H0.out w1 (h.non hk)).mono ?_
  rintro e w2 ⟨nb, rfl, hR2, hN2, hn2, hK2⟩
  go_wp2_with fail
  refine (HN.out w2 4 pool hR2 V1.out (by omega)).mono ?_
  rintro e w3 ⟨rfl, hR3, hK3⟩
  go_wp2_with fail
  refine (HN.out w3 12 txg hR3 V2.out (by omega)).mono ?_
  rintro e w4 ⟨rfl, hR4, hK4⟩
  go_wp2_with fail
  refine (HN.out w4 20 note hR4 V3.out (by omega)).mono ?_
  rintro e w5 ⟨rfl, hR5, hK5⟩
  go_wp2_with fail
  refine (HP.out w5 hR5).mono ?_
  rintro e w6 ⟨rfl, hR6, hK6⟩
  have hKx : Keeps (Only g) w1 w6 := (((hK2.trans hK3).trans hK4).trans hK5).trans hK6
  have hB6 := hB.one hKx hpg
  have hKy : Keeps (Only g) w w6 := (hk.of_non (S := Only g)).trans hKx
  clear hK2 hK3 hK4 hK5 hK6 hKx hR2 hR3 hR4 hR5 hN2
  go_wp2_with ((with_reducible show wpList _ _ _ ({ dst := none, op := Op.store 47 _ _, type := _, pos := _, after := _, guard := _ } :: _) _ _); go_must (refine wpList_store_blk rfl 47 (.tmp 2) (.tmp 13) rfl pb #[.int .u64 (pool : Int), .int .u64 (txg : Int), .int .u64 (note : Int), .int .i64 0, .int .i64 0, .int .i64 0, .int .u64 0, .int .i64 0, .int .u64 0, .int .u64 0, .int .u64 0, .int .u64 0] rfl rfl 47 _ hB6 (by kernel_rfl) rfl (by kernel_rfl) ?_); intro w7 hB7 hK7)
  refine bodyPost_ret (results_cell_blk (ty := 47) rfl _ pb 47 _ _ rfl hB7 Tryz.underlying47 rfl (by kernel_rfl)) rfl ⟨rfl, ?_, ?_⟩
  · exact hR6.one hB6 (by decide) (by decide) (by obtain ⟨b', i1, i2, i3, i4, i5, i6, i7⟩ := h; have := i7.size; omega) hK7
  · exact hKy.then hK7 fun i hi e => by unfold Only at e; omega
end Go.Proofs.YtipbjiepfnjojaaGreatDoor
namespace Go.Proofs.YtipbjiepfnjojaaGreatDoor
set_option maxRecDepth 100000
open Go.RowKit Go.Uc

theorem str_toList (L : List UInt8) : (str L).toList = L := by rw [Lib.toList_data]; rfl
def toS4 (s : Sum4) : S4 := ⟨s.a.toNat, s.b.toNat, s.c.toNat, s.d.toNat⟩
def S4.to4 (s : S4) : Sum4 := ⟨BitVec.ofNat 64 s.a, BitVec.ofNat 64 s.b, BitVec.ofNat 64 s.c, BitVec.ofNat 64 s.d⟩
theorem fl_to (xs : List UInt8) : fl xs = toS4 (rn0.add xs).value := rfl
theorem v64_ofNat (n : Nat) (h : n < 18446744073709551616) : v64 (BitVec.ofNat 64 n) = (n : Int) := by
  unfold v64
  rw [BitVec.toNat_ofNat, Nat.mod_eq_of_lt (by simpa using h)]
theorem S4.to4_v (s : S4) (h : s.ok) : s.to4.v = .agg s.cs := by
  obtain ⟨h1, h2, h3, h4⟩ := h
  simp [S4.to4, Sum4.v, sv, S4.cs, v64_ofNat, h1, h2, h3, h4]
theorem S4.eq_to (s : S4) (h : s.ok) (t : Sum4) : s.to4 = t ↔ s = toS4 t := by
  obtain ⟨h1, h2, h3, h4⟩ := h
  obtain ⟨a, b, c, d⟩ := s
  simp only at h1 h2 h3 h4
  constructor
  · rintro rfl
    simp [toS4, S4.to4, Nat.mod_eq_of_lt, h1, h2, h3, h4]
  · intro e
    rw [e]
    simp [toS4, S4.to4]
theorem n8_lt (bs : List UInt8) (k : Nat) : n8 bs k < 18446744073709551616 := by
  have h1 := leVal_lt ((bs.drop k).take 8)
  have h2 : ((bs.drop k).take 8).length ≤ 8 := by rw [List.length_take]; omega
  have h3 := Nat.pow_le_pow_right (show 0 < 256 by decide) h2
  unfold n8
  have : (256 : Nat) ^ 8 = 18446744073709551616 := by decide
  omega
theorem sumAt_ok (bs : List UInt8) (k : Nat) : (sumAt bs k).ok := ⟨n8_lt _ _, n8_lt _ _, n8_lt _ _, n8_lt _ _⟩
theorem sumAt_drop (bs : List UInt8) (k : Nat) : sumAt (bs.drop k) 0 = sumAt bs k := by
  simp [sumAt, n8, List.drop_drop]
/-- Is the sum at a place that of the bytes? -/
theorem checkS (s : S4) (hs : s.ok) (A : Option Addr) (c : Nat) (xs : List UInt8) (w : World) (hA : At w A xs) (hc : xs.length ≤ c) (hn : xs.length ≤ 140737488351240) (r : Bool) (hr : r = true ↔ s = fl xs) :
    Calls Tryz.prog 51 #[.int .i64 1, .agg s.cs, .slice A xs.length c] w fun e w' => e = .returned (.bool r) ∧ Keeps Non w w' := by
  have h := check1_any s.to4 A c xs w hA hc hn
  rw [S4.to4_v s hs] at h
  have e : s.to4.eqv (rn0.add xs).value = r := by
    rw [Bool.eq_iff_iff, Sum4.eqv_iff, S4.eq_to s hs, hr, fl_to]
  rw [e] at h
  exact h
/-- Do bytes begin with such letters, and end with the sum of those ahead of it? -/
def Opens (L bs : List UInt8) : Prop := bs.take 4 = L ∧ sumAt bs 96 = fl (bs.take 96)
set_option maxHeartbeats 4000000 in
theorem opened74_any (L bs : List UInt8) (hL : L.length = 4) (hl : bs.length = 128) (b : Nat) (w : World) (hb : Blk w b 5 (pc bs)) :
    Calls Tryz.prog 74 #[.slice (some ⟨b, 0, none⟩) 128 128, .string (str L)] w fun e w' => ((Opens L bs ∧ e = .returned (.tuple #[.slice (some ⟨b, 0, none⟩) 96 128, .bool true])) ∨ (¬ Opens L bs ∧ e = .returned (.tuple #[.slice none 0 0, .bool false]))) ∧ Keeps Non w w' := by
  have hcv : (convert 55 9 (.slice (some ⟨b, 0, none⟩) 4 128)).run Tryz.prog w = .ok (.string (str (bs.take 4))) w := run_convert_at 55 9 5 Tryz.underlying55 Tryz.underlying5 Tryz.underlying9 (some ⟨b, 0, none⟩) (bs.take 4) ((At.blk hb).take 4) 4 128 (by rw [List.length_take]; omega)
  have hsz : (str L).size = 4 := by show L.toArray.size = 4; simpa using hL
  have HR : Hid (∀ V, Keeps Non w V → Calls Tryz.prog 48 #[.slice (some ⟨b, 96, none⟩) 32 32] V fun e w' => ∃ g, e = .returned (.pointer (some ⟨g, 0, none⟩)) ∧ Rg V w' g (bs.drop 96) 0) := Lib.hid (fun V hV => by
    have := newReader_any (some ⟨b, 0 + 96, none⟩) 32 (bs.drop 96) V ((At.blk (hb.non hV)).drop 96) (by rw [List.length_drop]; omega)
    rw [List.length_drop, hl] at this
    exact this)
  have HS : Hid (∀ (V0 V : World) (g : Nat), Rg V0 V g (bs.drop 96) 0 → Calls Tryz.prog 110 #[.pointer (some ⟨g, 0, none⟩)] V fun e w' => e = .returned (.agg (sumAt bs 96).cs) ∧ Keeps Non V0 w') := Lib.hid (fun V0 V g hV => by
    have := takeSum110_any hV (by rw [List.length_drop]; omega)
    rw [sumAt_drop] at this
    refine this.mono ?_
    rintro e w' ⟨rfl, hR, hK⟩
    exact ⟨rfl, by obtain ⟨b', i1, i2, i3, i4, i5, i6, i7⟩ := hR; exact i7⟩)
  have HC : Hid (∀ (V : World) (r : Bool), Keeps Non w V → (r = true ↔ sumAt bs 96 = fl (bs.take 96)) → Calls Tryz.prog 51 #[.int .i64 1, .agg (sumAt bs 96).cs, .slice (some ⟨b, 0, none⟩) 96 128] V fun e w' => e = .returned (.bool r) ∧ Keeps Non V w') := Lib.hid (fun V r hV hr => by
    have := checkS (sumAt bs 96) (sumAt_ok _ _) (some ⟨b, 0, none⟩) 128 (bs.take 96) V ((At.blk (hb.non hV)).take 96) (by rw [List.length_take]; omega) (by rw [List.length_take]; omega) r hr
    rw [List.length_take, hl] at this
    exact this)
  by_cases hq : bs.take 4 = L
  · have hstr : ((str (bs.take 4)).toList == (str L).toList) = true := by rw [hq]; simp
    have hO : Hid (Opens L bs ↔ sumAt bs 96 = fl (bs.take 96)) := Lib.hid ⟨fun h => h.2, fun h => ⟨hq, h⟩⟩
    obtain ⟨r, hr⟩ : ∃ r : Bool, (r = true ↔ sumAt bs 96 = fl (bs.take 96)) := by
      by_cases h : sumAt bs 96 = fl (bs.take 96)
      · exact ⟨true, by simp [h]⟩
      · exact ⟨false, by simp [h]⟩
    have HC2 := Lib.hid (fun V hV => HC.out V r hV hr)
    have hO2 : Hid (Opens L bs ↔ r = true) := Lib.hid (by rw [hO.out, hr])
    clear HC hO hr hq
    generalize Opens L bs = O at hO2 ⊢
    generalize (sumAt bs 96).cs = S at HS HC2
    go_enter Tryz.func74, Tryz.ntmps74
    go_upto_region 3 with fail
    have kd : Keeps Non w w.drew := (Keeps.refl Non w).drew
    have HR1 := Lib.hid (HR.out _ kd)
    go_region_law (first
      | (go_simp; go_at_call 48; refine HR1.out.mono ?_; rintro e w2 ⟨g, rfl, hR2⟩; go_must (have HS2 := Lib.hid (HS.out _ _ _ hR2)))
      | (go_simp; go_at_call 110; refine HS2.out.mono ?_; rintro e w3 ⟨rfl, hK3⟩; go_must (have hK3' := kd.non hK3; have HC3 := Lib.hid (HC2.out _ hK3')))
      | (go_simp; go_at_call 51; refine HC3.out.mono ?_; rintro e w4 ⟨rfl, hK4⟩; go_must (have hK4' := hK3'.non hK4)))
    all_goals
      clear HR HS HC2
      cases r
      · go_wp2_with fail
        go_ret2
        exact ⟨.inr ⟨fun h => (by simpa using hO2.out.1 h), rfl⟩, hK4'⟩
      · go_wp2_with fail
        go_ret2
        exact ⟨.inl ⟨by have := hO2.out; simpa using this, rfl⟩, hK4'⟩
  · have hstr : ((str (bs.take 4)).toList == (str L).toList) = false := by
      rw [str_toList, str_toList]
      simpa using hq
    have hO : Hid (¬ Opens L bs) := Lib.hid (fun h => hq h.1)
    generalize Opens L bs = O at hO ⊢
    clear HR HS HC hq hL
    go_enter Tryz.func74, Tryz.ntmps74
    go_wp2_with fail
    go_ret2
    exact ⟨.inr ⟨hO.out, rfl⟩, Keeps.refl _ _⟩
end Go.Proofs.YtipbjiepfnjojaaGreatDoor
