/- Fletcher's sum: New, plus, Add. -/
import Derived.Test.YtbkhfemoogcpkaaDoorU6
import Derived.Deep.RegionWith
import Derived.RegionTactic
import Derived.RegionCalls
namespace Go.Proofs.YtbkhfemoogcpkaaDoor
set_option maxRecDepth 100000
open Go.RowKit Go.Uc

/-- A byte as a word of 64 bits. -/
def b64 (x : UInt8) : BitVec 64 := BitVec.ofNat 64 x.toNat
theorem bv_b64 (x : UInt8) : bv x = .int .u8 (v64 (b64 x)) := by
  unfold bv v64 b64; have := x.toNat_lt; rw [BitVec.toNat_ofNat, Nat.mod_eq_of_lt (by omega)]
theorem b64_le (x : UInt8) : v64 (b64 x) ≤ 255 := by
  unfold v64 b64; have := x.toNat_lt; rw [BitVec.toNat_ofNat, Nat.mod_eq_of_lt (by omega)]; omega
/-- Four bytes as a word. -/
def word4 (p q r s : UInt8) : BitVec 64 := b64 p ||| b64 q <<< 8 ||| b64 r <<< 16 ||| b64 s <<< 24
/-- A word more. -/
def Sum4.plus (s : Sum4) (x : BitVec 64) : Sum4 := ⟨s.a + x, s.b + (s.a + x), s.c + (s.b + (s.a + x)), s.d + (s.c + (s.b + (s.a + x)))⟩
def sum0 : Sum4 := ⟨0, 0, 0, 0⟩
def plusC (A B C D x : BitVec 64) : Array Value := #[.int .u64 (v64 (A + x)), .int .u64 (v64 (B + (A + x))), .int .u64 (v64 (C + (B + (A + x)))), .int .u64 (v64 (D + (C + (B + (A + x)))))]

set_option maxRecDepth 100000 in
set_option maxHeartbeats 1000000 in
theorem plus_any (s : Sum4) (p q r t : UInt8) (w : World) :
    Calls Tryd.prog 29 #[s.v, .agg #[bv p, bv q, bv r, bv t]] w fun e w' => e = .returned (s.plus (word4 p q r t)).v ∧ Keeps Non w w' := by
  obtain ⟨A, B, C, D⟩ := s
  unfold Sum4.v sv
  rw [bv_b64, bv_b64, bv_b64, bv_b64]
  have ho := or64
  have s8 : ∀ x : BitVec 64, IntKind.u64.wrap (v64 x * 256) = v64 (x <<< 8) := fun x => shl64 x 8
  have s16 : ∀ x : BitVec 64, IntKind.u64.wrap (v64 x * 65536) = v64 (x <<< 16) := fun x => shl64 x 16
  have s24 : ∀ x : BitVec 64, IntKind.u64.wrap (v64 x * 16777216) = v64 (x <<< 24) := fun x => shl64 x 24
  have hw : ∀ x : BitVec 64, IntKind.u64.wrap (v64 x) = v64 x := fun x => by rw [IntKind.wrap_u64]; have := v64_nonneg x; have := v64_le x; omega
  have ha := add64
  have l0 := v64_nonneg
  have l1 := b64_le
  go_enter Tryd.func29, Tryd.ntmps29
  go_wp2_with fail
  refine bodyPost_ret (results_cell_blk (ty := 24) rfl _ (w.heap.size + 1 + 1) 24 _ _ rfl (by have := Blk.new ((w.alloc (.cells (plusC A B C D (b64 p ||| b64 q <<< 8 ||| b64 r <<< 16 ||| b64 t <<< 24)) 24)).alloc (.cells #[.int .u8 (v64 (b64 p)), .int .u8 (v64 (b64 q)), .int .u8 (v64 (b64 r)), .int .u8 (v64 (b64 t))] 63)) 24 (plusC A B C D (b64 p ||| b64 q <<< 8 ||| b64 r <<< 16 ||| b64 t <<< 24)); simpa [plusC] using this) Tryd.underlying24 rfl (by kernel_rfl)) rfl ?_
  exact ⟨rfl, (((Keeps.refl _ _).alloc _).alloc _).alloc _⟩

/-- The state of a running sum. -/
structure Rn where
  s : Sum4
  p : UInt8
  q : UInt8
  r : UInt8
  t : UInt8
  k : Nat
def rn0 : Rn := ⟨sum0, 0, 0, 0, 0, 0⟩
def Rn.cells (x : Rn) : Array Value := #[.int .u64 (v64 x.s.a), .int .u64 (v64 x.s.b), .int .u64 (v64 x.s.c), .int .u64 (v64 x.s.d), bv x.p, bv x.q, bv x.r, bv x.t, .int .i64 (x.k : Int)]
def RnB (w : World) (g : Nat) (x : Rn) : Prop := Blk w g 65 x.cells
/-- A byte more. -/
def Rn.step (x : Rn) (c : UInt8) : Rn :=
  match x.k with
  | 0 => ⟨x.s, c, x.q, x.r, x.t, 1⟩
  | 1 => ⟨x.s, x.p, c, x.r, x.t, 2⟩
  | 2 => ⟨x.s, x.p, x.q, c, x.t, 3⟩
  | _ => ⟨x.s.plus (word4 x.p x.q x.r c), 0, 0, 0, 0, 0⟩
theorem Rn.step_lt (x : Rn) (c : UInt8) : (x.step c).k < 4 := by unfold Rn.step; split <;> simp
def Rn.add (x : Rn) (bs : List UInt8) : Rn := bs.foldl Rn.step x
def Rn.value (x : Rn) : Sum4 := if x.k = 0 then x.s else x.s.plus (word4 x.p x.q x.r x.t)
theorem Rn.add_lt (bs : List UInt8) : ∀ (x : Rn), x.k < 4 → (x.add bs).k < 4 := by
  induction bs with
  | nil => exact fun _ h => h
  | cons c bs ih => exact fun x _ => ih _ (x.step_lt c)

theorem new_any (w : World) : Calls Tryd.prog 16 #[] w fun e w' => e = .returned (.pointer (some ⟨w.heap.size, 0, none⟩)) ∧ RnB w' w.heap.size rn0 ∧ Keeps Non w w' := by
  go_enter Tryd.func16, Tryd.ntmps16
  go_wp2_with fail
  go_ret
  exact ⟨rfl, Blk.new w 65 rn0.cells, (Keeps.refl _ _).alloc _⟩

set_option maxRecDepth 100000 in
set_option maxHeartbeats 1000000 in
theorem add_any (g : Nat) (x : Rn) (hx : x.k < 4) (A : Option Addr) (c : Nat) (bs : List UInt8) (w : World) (hB : RnB w g x) (hA : At w A bs) (_hc : bs.length ≤ c) (hn : bs.length ≤ 140737488351240) (hne : 0 < bs.length → ∀ ad, A = some ad → ad.block ≠ g) :
    Calls Tryd.prog 17 #[.pointer (some ⟨g, 0, none⟩), .slice A bs.length c] w fun e w' => e = .returned (.tuple #[]) ∧ RnB w' g (x.add bs) ∧ Keeps (Only g) w w' := by
  go_enter Tryd.func17, Tryd.ntmps17
  go_wp2_with fail
  go_loopw [8] (fun i wr => ∃ j : Nat, j ≤ bs.length ∧ i = .int .i64 j ∧ RnB wr g (x.add (bs.take j)) ∧ Keeps (Only g) w wr) (fun i _ => bs.length - (intOf i).toNat)
  case atStart => exact ⟨0, Nat.zero_le _, rfl, by simpa [Rn.add] using hB, Keeps.refl _ _⟩
  case round =>
    obtain ⟨j, hj, rfl, hR, hK⟩ := hrel
    by_cases hlt : j < bs.length
    · obtain ⟨bb, off, rfl, hcx⟩ := (hA.keep hK (fun ad e h => hne (by omega) ad e h)).at_ hlt
      have hlt4 := Rn.add_lt (bs.take j) x hx
      obtain ⟨y, hy⟩ : ∃ y, y = bs[j] := ⟨_, rfl⟩
      rw [← hy] at hcx
      replace hcx : wr.cell? ⟨bb, off + j, none⟩ = some (.int .u8 (y.toNat : Int)) := hcx
      have hty : (x.add (bs.take j)).step y = x.add (bs.take (j + 1)) := by
        unfold Rn.add; rw [List.take_succ_eq_append_getElem hlt, List.foldl_append, hy]; rfl
      obtain ⟨z, hz⟩ : ∃ z, z = x.add (bs.take j) := ⟨_, rfl⟩
      rw [← hz] at hR hlt4 hty
      have HZ := Lib.hid hty
      clear hz hy hty
      have j0 : (0 : Int) ≤ (j : Int) := by omega
      have j1 : (j : Int) < (bs.length : Int) := by omega
      have j2 : ((j : Int)).toNat = j := by omega
      obtain ⟨⟨SA, SB, SC, SD⟩, zp, zq, zr, zt, k⟩ := z
      obtain ⟨wx, rfl⟩ : ∃ W : World, W = wr := ⟨_, rfl⟩
      have c0 : wx.cell? ⟨g, 0, none⟩ = some (.int .u64 (v64 SA)) := Blk.cell hR 0
      have c1 : wx.cell? ⟨g, 1, none⟩ = some (.int .u64 (v64 SB)) := Blk.cell hR 1
      have c2 : wx.cell? ⟨g, 2, none⟩ = some (.int .u64 (v64 SC)) := Blk.cell hR 2
      have c3 : wx.cell? ⟨g, 3, none⟩ = some (.int .u64 (v64 SD)) := Blk.cell hR 3
      have c4 : wx.cell? ⟨g, 4, none⟩ = some (.int .u8 (zp.toNat : Int)) := Blk.cell hR 4
      have c5 : wx.cell? ⟨g, 5, none⟩ = some (.int .u8 (zq.toNat : Int)) := Blk.cell hR 5
      have c6 : wx.cell? ⟨g, 6, none⟩ = some (.int .u8 (zr.toNat : Int)) := Blk.cell hR 6
      have c7 : wx.cell? ⟨g, 7, none⟩ = some (.int .u8 (zt.toNat : Int)) := Blk.cell hR 7
      have f0 := fun i => Blk.frozen hR i
      have c8 : wx.cell? ⟨g, 8, none⟩ = some (.int .i64 (k : Int)) := Blk.cell hR 8
      match k, hlt4 with
      | 0, _ =>
        rw [show ((0 : Nat) : Int) = 0 from rfl] at c8
        go_wp2_with fail
        go_region
        all_goals
          go_wp2_with fail
          go_roundw
        case rel =>
          refine ⟨j + 1, by omega, by go_num, ?_, ?_⟩
          · rw [← HZ.out]
            exact ((Blk.set hR 4 (bv y)).drew.set 8 (.int .i64 1))
          · exact ((hK.set (p := ⟨g, 4, none⟩) rfl _).drew.set (p := ⟨g, 8, none⟩) rfl _)
        case measure => simp [intOf]; omega
      | 1, _ =>
        rw [show ((1 : Nat) : Int) = 1 from rfl] at c8
        go_wp2_with fail
        go_region
        all_goals
          go_wp2_with fail
          go_roundw
        case rel =>
          refine ⟨j + 1, by omega, by go_num, ?_, ?_⟩
          · rw [← HZ.out]
            exact ((Blk.set hR 5 (bv y)).drew.set 8 (.int .i64 2))
          · exact ((hK.set (p := ⟨g, 5, none⟩) rfl _).drew.set (p := ⟨g, 8, none⟩) rfl _)
        case measure => simp [intOf]; omega
      | 2, _ =>
        rw [show ((2 : Nat) : Int) = 2 from rfl] at c8
        go_wp2_with fail
        go_region
        all_goals
          go_wp2_with fail
          go_roundw
        case rel =>
          refine ⟨j + 1, by omega, by go_num, ?_, ?_⟩
          · rw [← HZ.out]
            exact ((Blk.set hR 6 (bv y)).drew.set 8 (.int .i64 3))
          · exact ((hK.set (p := ⟨g, 6, none⟩) rfl _).drew.set (p := ⟨g, 8, none⟩) rfl _)
        case measure => simp [intOf]; omega
      | 3, _ =>
        rw [show ((3 : Nat) : Int) = 3 from rfl] at c8
        go_wp2_with fail
        go_region
        go_wp2_with fail
        obtain ⟨wy, hwy⟩ : ∃ W : World, W = ((wx.setCell ⟨g, 7, none⟩ (.int .u8 (y.toNat : Int))).setCell ⟨g, 8, none⟩ (.int .i64 4)).drew := ⟨_, rfl⟩
        have hR2 : Blk wy g 65 #[.int .u64 (v64 SA), .int .u64 (v64 SB), .int .u64 (v64 SC), .int .u64 (v64 SD), .int .u8 (zp.toNat : Int), .int .u8 (zq.toNat : Int), .int .u8 (zr.toNat : Int), .int .u8 (y.toNat : Int), .int .i64 4] := by
          rw [hwy]; exact ((Blk.set hR 7 (bv y)).set 8 (.int .i64 4)).drew
        have hK2 : Keeps (Only g) w wy := by
          rw [hwy]; exact ((hK.set (p := ⟨g, 7, none⟩) rfl _).set (p := ⟨g, 8, none⟩) rfl _).drew
        rw [← hwy]
        clear c0 c1 c2 c3 c4 c5 c6 c7 c8 f0 hK hR hcx hwy
        clear wx
        obtain ⟨wx, rfl⟩ : ∃ W : World, W = wy := ⟨_, rfl⟩
        have c0 : wx.cell? ⟨g, 0, none⟩ = some (.int .u64 (v64 SA)) := hR2.cell 0
        have c1 : wx.cell? ⟨g, 1, none⟩ = some (.int .u64 (v64 SB)) := hR2.cell 1
        have c2 : wx.cell? ⟨g, 2, none⟩ = some (.int .u64 (v64 SC)) := hR2.cell 2
        have c3 : wx.cell? ⟨g, 3, none⟩ = some (.int .u64 (v64 SD)) := hR2.cell 3
        have c4 : wx.cell? ⟨g, 4, none⟩ = some (.int .u8 (zp.toNat : Int)) := hR2.cell 4
        have c5 : wx.cell? ⟨g, 5, none⟩ = some (.int .u8 (zq.toNat : Int)) := hR2.cell 5
        have c6 : wx.cell? ⟨g, 6, none⟩ = some (.int .u8 (zr.toNat : Int)) := hR2.cell 6
        have c7 : wx.cell? ⟨g, 7, none⟩ = some (.int .u8 (y.toNat : Int)) := hR2.cell 7
        obtain ⟨T, hT⟩ : ∃ T, T = (⟨SA, SB, SC, SD⟩ : Sum4).plus (word4 zp zq zr y) := ⟨_, rfl⟩
        have HP := Lib.hid (fun W => plus_any ⟨SA, SB, SC, SD⟩ zp zq zr y W)
        rw [← hT] at HP
        have HT := Lib.hid hT
        clear hT
        obtain ⟨TA, TB, TC, TD⟩ := T
        go_region_with (go_at_call 29; refine (HP.out _).mono ?_; rintro e w2 ⟨rfl, hKp⟩; have hR3 := (hR2.drew).non hKp; have hK3 := (hK2.drew).non hKp; have d0 := hR3.cell 0; have d1 := hR3.cell 1; have d2 := hR3.cell 2; have d3 := hR3.cell 3; have f0 := hR3.frozen 0; have f1 := hR3.frozen 1; have f2 := hR3.frozen 2; have f3 := hR3.frozen 3; simp only [Sum4.v, sv])
        all_goals
          obtain ⟨wz, hwz⟩ : ∃ W : World, W = ((((w2.setCell ⟨g, 0, none⟩ (.int .u64 (v64 TA))).setCell ⟨g, 1, none⟩ (.int .u64 (v64 TB))).setCell ⟨g, 2, none⟩ (.int .u64 (v64 TC))).setCell ⟨g, 3, none⟩ (.int .u64 (v64 TD))) := ⟨_, rfl⟩
          have hR4 : Blk wz g 65 #[.int .u64 (v64 TA), .int .u64 (v64 TB), .int .u64 (v64 TC), .int .u64 (v64 TD), .int .u8 (zp.toNat : Int), .int .u8 (zq.toNat : Int), .int .u8 (zr.toNat : Int), .int .u8 (y.toNat : Int), .int .i64 4] := by
            rw [hwz]; exact (((hR3.set 0 (.int .u64 (v64 TA))).set 1 (.int .u64 (v64 TB))).set 2 (.int .u64 (v64 TC))).set 3 (.int .u64 (v64 TD))
          have hK4 : Keeps (Only g) w wz := by
            rw [hwz]; exact (((hK3.set (p := ⟨g, 0, none⟩) rfl _).set (p := ⟨g, 1, none⟩) rfl _).set (p := ⟨g, 2, none⟩) rfl _).set (p := ⟨g, 3, none⟩) rfl _
          rw [← hwz]
          clear hwz hR3 hK3 hKp hR2 hK2 d0 d1 d2 d3 f0 f1 f2 f3 c0 c1 c2 c3 c4 c5 c6 c7
          have e4 := hR4.cell 4
          have e5 := hR4.cell 5
          have e6 := hR4.cell 6
          have e7 := hR4.cell 7
          have e8 := hR4.cell 8
          have f0 := fun i => hR4.frozen i
          go_wp2_with fail
          go_roundw
          case rel =>
            refine ⟨j + 1, by omega, by go_num, ?_, ?_⟩
            · rw [← HZ.out]
              have h5 := ((((hR4.set 4 (bv 0)).set 5 (bv 0)).set 6 (bv 0)).set 7 (bv 0)).set 8 (.int .i64 0)
              have h6 : (⟨⟨SA, SB, SC, SD⟩, zp, zq, zr, zt, 3⟩ : Rn).step y = ⟨⟨TA, TB, TC, TD⟩, 0, 0, 0, 0, 0⟩ := by rw [HT.out]; rfl
              rw [h6]
              exact h5
            · exact ((((hK4.set (p := ⟨g, 4, none⟩) rfl _).set (p := ⟨g, 5, none⟩) rfl _).set (p := ⟨g, 6, none⟩) rfl _).set (p := ⟨g, 7, none⟩) rfl _).set (p := ⟨g, 8, none⟩) rfl _
          case measure => simp [intOf]; omega
    · obtain rfl : j = bs.length := by omega
      rw [List.take_of_length_le (Nat.le_refl _)] at hR
      go_wp2_with fail
      go_end0
      exact ⟨rfl, hR, hK⟩
end Go.Proofs.YtbkhfemoogcpkaaDoor
