/- SHA-256 (sum.sha). -/
import Derived.Test.YtbkhfemoogcpkaaDoorU5
import Derived.Test.YtbkhfemoogcpkaaDoorU3
import Derived.Deep.RegionHeld3
namespace Go.Proofs.YtbkhfemoogcpkaaDoor
set_option maxRecDepth 100000
open Go.RowKit Go.Uc

/-- The state behind n blocks. -/
def chain (K : List (BitVec 32)) (s : Oct) (bs : List UInt8) : Nat → Oct
  | 0 => s
  | n + 1 => (chain K s bs n).plus (rounds K (sched ((bs.drop (64 * n)).take 64)) 64 (chain K s bs n))
/-- Two words as one. -/
def pair (x y : BitVec 32) : BitVec 64 := x.setWidth 64 <<< 32 ||| y.setWidth 64
/-- A sum as a value. -/
def sv (a b c d : BitVec 64) : Value := .agg #[.int .u64 (v64 a), .int .u64 (v64 b), .int .u64 (v64 c), .int .u64 (v64 d)]
structure Sum4 where
  a : BitVec 64
  b : BitVec 64
  c : BitVec 64
  d : BitVec 64
def Sum4.v (s : Sum4) : Value := sv s.a s.b s.c s.d
def Oct.sum (s : Oct) : Sum4 := ⟨pair s.a s.b, pair s.c s.d, pair s.e s.f, pair s.g s.h⟩
def oct0 : Oct := ⟨1779033703#32, 3144134277#32, 1013904242#32, 2773480762#32, 1359893119#32, 2600822924#32, 528734635#32, 1541459225#32⟩
def shaP (K : List (BitVec 32)) (bs : List UInt8) : Sum4 := (chain K oct0 (padP bs) ((padP bs).length / 64)).sum

theorem step_load_blk {P : Program} {ops : Array Oper} {o : Oper} {a : Act} {w : World} {K : Act → World → Prop} {Q : Exit → Act → World → Prop} {E : Prop} (hgd : o.guard = none) (ty : TypeId) (x : Operand) (ho : o.op = .load ty x)
    (g : Nat) (hx : a.eval x = .pointer (Option.some ⟨g, 0, none⟩)) (t : TypeId) (cs : Array Value) (d : TypeDesc) (hg : Blk w g t cs)
    (hu : P.underlying ty = Option.some d) (hd : (match d with | .struct _ | .array _ _ => true | _ => false) = true) (hi : (P.info? ty).map (·.size) = Option.some cs.size)
    (h : K (a.put o.dst (.agg cs)) w) :
    if Region.wanted o (yielded ops a.tmps) = true then Oper.wp P o a w K Q else E := by
  have hw : Region.wanted o (yielded ops a.tmps) = true := by simp [Region.wanted, hgd]
  rw [if_pos hw]
  exact wp_load_row ty x ho g hx t cs (0, 0) d hg hu hd hi h
theorem step_store_blk {P : Program} {ops : Array Oper} {o : Oper} {a : Act} {w : World} {K : Act → World → Prop} {Q : Exit → Act → World → Prop} {E : Prop} (hgd : o.guard = none) (ty : TypeId) (x y : Operand) (ho : o.op = .store ty x y)
    (g : Nat) (cells : Array Value) (hx : a.eval x = .pointer (Option.some ⟨g, 0, none⟩)) (hy : a.eval y = .agg cells)
    (t : TypeId) (old : Array Value) (hg : Blk w g t old) (hi : (P.info? ty).map (·.size) = Option.some cells.size)
    (hold : old.size = cells.size) (h1 : cells.all (·.oneCell') = true)
    (h : ∀ w', Blk w' g t cells → Keeps (Only g) w w' → K (a.put o.dst undef) w') :
    if Region.wanted o (yielded ops a.tmps) = true then Oper.wp P o a w K Q else E := by
  have hw : Region.wanted o (yielded ops a.tmps) = true := by simp [Region.wanted, hgd]
  rw [if_pos hw]
  exact wp_store_row ty x y ho g cells hx hy t old hg hi hold h1 (h _ (hg.row _) (Keeps.row _ _ _))
theorem Lies.range {w : World} {g : Nat} {P : List UInt8} (h : Lies w g 0 P) (o : Nat) (ho : o + 64 ≤ P.length) : w.rangeAt g o (((P.drop o).take 64).map bv) := by
  intro j v hj
  simp only [List.getElem?_map, Option.map_eq_some_iff, List.getElem?_take, List.getElem?_drop] at hj
  obtain ⟨x, hx, rfl⟩ := hj
  split at hx
  · rename_i hj64
    have := h (o + j) (by omega)
    rw [Nat.zero_add] at this
    rw [this, List.getD_eq_getElem?_getD, hx]; rfl
  · cases hx

theorem shl_pair (x : BitVec 32) : IntKind.u64.wrap (v32 x * 4294967296) = v64 (x.setWidth 64 <<< 32) := by
  have h : v32 x = v64 (x.setWidth 64) := by
    unfold v32 v64; rw [BitVec.toNat_setWidth]; have := x.isLt; omega
  rw [h]; exact shl64 (x.setWidth 64) 32
theorem or_pair (x : BitVec 64) (y : BitVec 32) : bits .or .u64 (v64 x) (v32 y) = v64 (x ||| y.setWidth 64) := by
  have h : v32 y = v64 (y.setWidth 64) := by
    unfold v32 v64; rw [BitVec.toNat_setWidth]; have := y.isLt; omega
  rw [h]; exact or64 _ _
theorem pair0 (x y : BitVec 32) (b : Nat) (w : World) (hx : w.cell? ⟨b, 0, none⟩ = some (.int .u32 (v32 x))) (hy : w.cell? ⟨b, 1, none⟩ = some (.int .u32 (v32 y))) :
    Calls Tryd.prog 32 #[.int .i64 0, .pointer (some ⟨b, 0, none⟩)] w fun e w' => e = .returned (.int .u64 (v64 (pair x y))) ∧ w' = w.drew := by
  have hs := shl_pair
  have ho := or_pair
  have l0 := v32_nonneg
  have l1 := v32_le
  have hw : ∀ x : BitVec 32, IntKind.u64.wrap (v32 x) = v32 x := fun x => by rw [IntKind.wrap_u64]; have := v32_nonneg x; have := v32_le x; omega
  have hn : IntKind.i64.wrap 1 = 1 := by kernel_rfl
  go_enter Tryd.func32, Tryd.ntmps32
  go_wp2_with fail
  refine wp_region_still_lit (by kernel_rfl) (by kernel_rfl) ?_
  repeat still_step
  refine wpStill_nil ?_
  go_wp2_with fail
  go_ret
  exact ⟨rfl, rfl⟩
theorem pair2 (x y : BitVec 32) (b : Nat) (w : World) (hx : w.cell? ⟨b, 2, none⟩ = some (.int .u32 (v32 x))) (hy : w.cell? ⟨b, 3, none⟩ = some (.int .u32 (v32 y))) :
    Calls Tryd.prog 32 #[.int .i64 2, .pointer (some ⟨b, 0, none⟩)] w fun e w' => e = .returned (.int .u64 (v64 (pair x y))) ∧ w' = w.drew := by
  have hs := shl_pair
  have ho := or_pair
  have l0 := v32_nonneg
  have l1 := v32_le
  have hw : ∀ x : BitVec 32, IntKind.u64.wrap (v32 x) = v32 x := fun x => by rw [IntKind.wrap_u64]; have := v32_nonneg x; have := v32_le x; omega
  have hn : IntKind.i64.wrap 3 = 3 := by kernel_rfl
  go_enter Tryd.func32, Tryd.ntmps32
  go_wp2_with fail
  refine wp_region_still_lit (by kernel_rfl) (by kernel_rfl) ?_
  repeat still_step
  refine wpStill_nil ?_
  go_wp2_with fail
  go_ret
  exact ⟨rfl, rfl⟩
theorem pair4 (x y : BitVec 32) (b : Nat) (w : World) (hx : w.cell? ⟨b, 4, none⟩ = some (.int .u32 (v32 x))) (hy : w.cell? ⟨b, 5, none⟩ = some (.int .u32 (v32 y))) :
    Calls Tryd.prog 32 #[.int .i64 4, .pointer (some ⟨b, 0, none⟩)] w fun e w' => e = .returned (.int .u64 (v64 (pair x y))) ∧ w' = w.drew := by
  have hs := shl_pair
  have ho := or_pair
  have l0 := v32_nonneg
  have l1 := v32_le
  have hw : ∀ x : BitVec 32, IntKind.u64.wrap (v32 x) = v32 x := fun x => by rw [IntKind.wrap_u64]; have := v32_nonneg x; have := v32_le x; omega
  have hn : IntKind.i64.wrap 5 = 5 := by kernel_rfl
  go_enter Tryd.func32, Tryd.ntmps32
  go_wp2_with fail
  refine wp_region_still_lit (by kernel_rfl) (by kernel_rfl) ?_
  repeat still_step
  refine wpStill_nil ?_
  go_wp2_with fail
  go_ret
  exact ⟨rfl, rfl⟩
theorem pair6 (x y : BitVec 32) (b : Nat) (w : World) (hx : w.cell? ⟨b, 6, none⟩ = some (.int .u32 (v32 x))) (hy : w.cell? ⟨b, 7, none⟩ = some (.int .u32 (v32 y))) :
    Calls Tryd.prog 32 #[.int .i64 6, .pointer (some ⟨b, 0, none⟩)] w fun e w' => e = .returned (.int .u64 (v64 (pair x y))) ∧ w' = w.drew := by
  have hs := shl_pair
  have ho := or_pair
  have l0 := v32_nonneg
  have l1 := v32_le
  have hw : ∀ x : BitVec 32, IntKind.u64.wrap (v32 x) = v32 x := fun x => by rw [IntKind.wrap_u64]; have := v32_nonneg x; have := v32_le x; omega
  have hn : IntKind.i64.wrap 7 = 7 := by kernel_rfl
  go_enter Tryd.func32, Tryd.ntmps32
  go_wp2_with fail
  refine wp_region_still_lit (by kernel_rfl) (by kernel_rfl) ?_
  repeat still_step
  refine wpStill_nil ?_
  go_wp2_with fail
  go_ret
  exact ⟨rfl, rfl⟩
theorem arrayAt72 (A : Option Addr) (c : Nat) (w : World) : (Instr.arrayAt 72 (.slice A 64 c)).run Tryd.prog w = .ok (.pointer A) w := by
  unfold Instr.arrayAt
  simp [run_underlying Tryd.underlying72, go_sem]

/-- Blocks from B on. -/
def Hi (B k : Nat) : Prop := B ≤ k
theorem zero24 (w : World) : (zeroValue 24).run Tryd.prog w = .ok (sv 0 0 0 0) w := by kernel_rfl

set_option maxRecDepth 100000 in
set_option maxHeartbeats 1000000 in
theorem sha_any (K : List (BitVec 32)) (hKl : K.length = 64) (A : Option Addr) (c : Nat) (bs : List UInt8) (w : World) (hA : At w A bs) (hn : bs.length ≤ 140737488351240) (hT : Tab w 0 K) :
    Calls Tryd.prog 19 #[.slice A bs.length c] w fun e w' => e = .returned (shaP K bs).v ∧ Keeps Non w w' := by
  have h2 : 0 < w.heap.size := World.block_lt_of_cell? w _ (hT 0 (by omega))
  have hAlt := fun hp => hA.lt hp
  go_enter Tryd.func19, Tryd.ntmps19
  go_wp2_with (first
    | (at_builtin; refine wpList_append_bytes rfl (.const (.slice none 0 0)) (.tmp 8) 32 rfl (w.heap.size + 2) 5 Tryd.underlying32 info5 (.slice none 0 0) [] rfl (OwnB.nil _ _ _) A bs.length c bs rfl rfl ((hA.non ((Keeps.refl Non w).alloc _)).non ((Keeps.refl Non _).alloc _)) (by simp; omega) (by simp) ?_; intro v1 w1 hO1 hK1 hat1; rw [List.nil_append] at hO1;
        have hS := (Blk.new (w.alloc (.cells #[.int .u64 0, .int .u64 0, .int .u64 0, .int .u64 0] 24)) 68 (cw oct0.words)).keep hK1 (by simp [Owned, Value.ownBlock]);
        have hR := ((Blk.new w 24 #[.int .u64 0, .int .u64 0, .int .u64 0, .int .u64 0]).alloc (.cells (cw oct0.words) 68)).keep hK1 (by simp [Owned, Value.ownBlock]);
        have hKn : Keeps Non w w1 := (((Keeps.refl Non w).alloc _).alloc _).then hK1 (fun k _ e => by simp [Owned, Value.ownBlock] at e);
        have hB1 : w.heap.size + 2 ≤ w1.heap.size := (by have := hK1.size; simp at this; omega);
        rw [show (w.alloc (.cells #[.int .u64 0, .int .u64 0, .int .u64 0, .int .u64 0] 24)).heap.size = w.heap.size + 1 by simp] at hS;
        clear hK1 hat1)
    | (at_builtin; go_must (refine wpList_append_bytes rfl (.tmp 9) (.tmp 10) 32 rfl (w.heap.size + 2) 5 Tryd.underlying32 info5 v1 bs rfl (hO1.non ((Keeps.refl Non _).alloc _)) (some ⟨w1.heap.size, 0, none⟩) 1 1 [128] rfl rfl (At.one _ _ _ _ rfl) (by simp; omega) (by simp; omega) ?_); intro v2 w2 hO2 hK2 hat2; have hK3 : Keeps (Hi (w.heap.size + 2)) w1 w2 := ((Keeps.refl _ w1).alloc _).then hK2 (fun i hi e => hO1.new i e); clear hO1 hK2 hat2))
  obtain ⟨b, hbE⟩ : ∃ b, b = w.heap.size := ⟨_, rfl⟩
  rw [← hbE] at hS hR hB1 hO2 hK3 h2 ⊢
  have hbL : w.heap.size ≤ b := by omega
  clear hbE hAlt hA
  have hT1 := hT.keep hKn id
  clear hT
  go_loopw [4] (fun v wr => ∃ j, j ≤ gaps bs.length ∧ OwnB wr (b + 2) 5 v ((bs ++ [128]) ++ zeros j) ∧ Keeps (Hi (b + 2)) w1 wr) (fun v _ => bs.length + 1 + gaps bs.length - lenV v)
  case atStart => exact ⟨0, Nat.zero_le _, by simpa [zeros] using hO2, hK3⟩
  case round =>
    obtain ⟨j, hj, hO, hK⟩ := hrel
    have hg := gaps_lt bs.length
    obtain ⟨L, hL⟩ : ∃ L, L = ((bs ++ [128]) ++ zeros j).length := ⟨_, rfl⟩
    have hL2 : L = bs.length + 1 + j := by rw [hL]; simp [zeros_length]; omega
    obtain ⟨A1, c1, rfl, hc1, hA1, hb1⟩ := id hO.open
    rw [← hL] at hc1 hb1 hO ⊢
    have HL := Lib.hid (And.intro hL hL2)
    have hLn : L ≤ 140737488351304 := by omega
    clear hL hL2
    obtain ⟨wx, rfl⟩ : ∃ W : World, W = wr := ⟨_, rfl⟩
    by_cases hlt : j = gaps bs.length
    · have hm2 : (L : Int) % 64 = 56 := by have := (gaps_mod bs.length j hj).2 hlt; have := HL.out.2; omega
      have hm1 : ((L : Int) % 64 != 56) = false := by rw [hm2]; rfl
      rw [hlt] at hO
      clear hA1 hb1 hc1 hO2 hK3 hm2
      go_wp2_with fail
      obtain ⟨N, hN⟩ : ∃ N : Nat, N = 8 * bs.length := ⟨_, rfl⟩
      have hN8 : (bs.length : Int) * 8 = (N : Int) := by omega
      have hNl : (N : Int) ≤ 9223372036854775807 := by omega
      have HN := Lib.hid hN
      have hO0 : OwnB wx (b + 2) 5 (.slice A1 L c1) (((bs ++ [128]) ++ zeros (gaps bs.length)) ++ beU N 0) := by simpa [beU] using hO
      clear hO hN
      obtain ⟨wa, rfl⟩ : ∃ W : World, W = wx := ⟨_, rfl⟩
      go_loopw [4, 5] (fun v i wr => ∃ k : Nat, k ≤ 8 ∧ i = .int .i64 (56 - 8 * (k : Int)) ∧ OwnB wr (b + 2) 5 v (((bs ++ [128]) ++ zeros (gaps bs.length)) ++ beU N k) ∧ Keeps (Hi (b + 2)) w1 wr) (fun _ i _ => (intOf i + 8).toNat)
      case atStart => exact ⟨0, by omega, rfl, hO0, hK⟩
      case round =>
        obtain ⟨k, hk, rfl, hO, hK⟩ := hrel
        by_cases hlt : k < 8
        · obtain ⟨m, hm⟩ : ∃ m : Nat, m + k = 7 := ⟨7 - k, by omega⟩
          rw [show (56 - 8 * (k : Int)) = 8 * (m : Int) by omega]
          have m3 : (8 * (m : Int)).toNat = 8 * m := by omega
          have m4 : (0 : Int) ≤ 8 * (m : Int) := by omega
          have m5 : 8 * (m : Int) ≤ 64 := by omega
          have m6 : (0 : Int) ≤ (m : Int) := by omega
          have hsz : (((bs ++ [128]) ++ zeros (gaps bs.length)) ++ beU N k).length ≤ 140737488351320 := by simp [zeros_length, beU_length]; omega
          obtain ⟨wx, rfl⟩ : ∃ W : World, W = wr := ⟨_, rfl⟩
          go_wp2_with (at_builtin; go_must (refine wpList_append_bytes rfl (.tmp 23) (.tmp 31) 32 rfl (b + 2) 5 Tryd.underlying32 info5 _ (((bs ++ [128]) ++ zeros (gaps bs.length)) ++ beU N k) rfl (hO.non ((Keeps.refl Non wx).alloc _)) (some ⟨wx.heap.size, 0, none⟩) 1 1 [UInt8.ofNat (N / 256 ^ m % 256)] rfl rfl (At.one _ _ _ _ (shr_byte N m)) (by simp only [List.length_cons, List.length_nil]; omega) (by have := hK.size; simp; omega) ?_); intro v3 w3 hO3 hK3 hat3; have hK4 : Keeps (Hi (b + 2)) w1 w3 := (hK.alloc _).then hK3 (fun i hi e => hO.new i e); clear hO hK hK3 hat3)
          go_roundw
          case rel =>
            rw [List.append_assoc _ (beU N k), show m = 7 - k by omega, ← beU_succ] at hO3
            exact ⟨k + 1, by omega, by go_num, hO3, hK4⟩
          case measure => simp [intOf]; omega
        · obtain rfl : k = 8 := by omega
          have hP : (((bs ++ [128]) ++ zeros (gaps bs.length)) ++ beU N 8) = padP bs := by rw [HN.out]; rfl
          rw [hP] at hO
          clear hP
          obtain ⟨P, hPd⟩ : ∃ P, P = padP bs := ⟨_, rfl⟩
          rw [← hPd] at hO
          have hP64 : P.length % 64 = 0 := by rw [hPd]; exact padP_mod bs
          have hP0 : 0 < P.length := by rw [hPd, padP_length]; omega
          have hPm : P.length ≤ 140737488351320 := by rw [hPd, padP_length]; have := gaps_lt bs.length; omega
          obtain ⟨g, cap, cur, rfl, hgb, hBg, hcap, hcm, hcs, hcur⟩ := (hO.form).resolve_left (fun h => by rw [h.2] at hP0; exact absurd hP0 (by simp))
          have hLi : Lies wr g 0 P := fun i hi => by
            rw [Nat.zero_add, hBg.cell]
            have e1 : (cur.toList.take P.length)[i]? = some (bv P[i]) := by rw [hcur]; simp [hi]
            rw [List.getElem?_take, if_pos hi] at e1
            rw [List.getD_eq_getElem?_getD, List.getElem?_eq_getElem hi]
            simpa [bv] using e1
          have hSr := hS.keep hK (by show ¬ b + 2 ≤ b + 1; omega)
          have hRr := hR.keep hK (by show ¬ b + 2 ≤ b; omega)
          have hTr := hT1.keep hK (by show ¬ b + 2 ≤ 0; omega)
          have hKr : Keeps Non w wr := hKn.then hK (fun i hi e => absurd e (by show ¬ b + 2 ≤ i; omega))
          have hgr := hBg.lt
          have HPd := Lib.hid hPd
          clear hPd hO hBg hcur hcs hcm hS hR hT1 hKn hK hB1 hO0 HN hN8 hNl hj hg
          obtain ⟨D, hD⟩ : ∃ D, D = P.length := ⟨_, rfl⟩
          rw [← hD] at hP64 hP0 hPm hcap ⊢
          have HD := Lib.hid hD
          clear hD
          obtain ⟨wa, rfl⟩ : ∃ W : World, W = wr := ⟨_, rfl⟩
          rw [show (56 - 8 * ((8 : Nat) : Int)) = -8 from rfl]
          go_wp2_with fail
          go_loopw [4] (fun v wr => ∃ n, 64 * n ≤ D ∧ (∃ Av cv, v = .slice Av (D - 64 * n) cv ∧ (64 * n < D → Av = some ⟨g, 64 * n, none⟩ ∧ D - 64 * n ≤ cv)) ∧ Blk wr (b + 1) 68 (cw (chain K oct0 P n).words) ∧ Keeps (Only (b + 1)) wa wr) (fun v _ => lenV v)
          case atStart => exact ⟨0, by omega, ⟨_, _, rfl, fun _ => ⟨rfl, hcap⟩⟩, hSr, Keeps.refl _ _⟩
          case round =>
            obtain ⟨n, hn64, ⟨Av, cv, rfl, hAv⟩, hSn, hKw⟩ := hrel
            by_cases hlt : 64 * n < D
            · obtain ⟨rfl, hcv⟩ := hAv hlt
              obtain ⟨o, ho⟩ : ∃ o, o = 64 * n := ⟨_, rfl⟩
              rw [← ho] at hcv hlt
              obtain ⟨m, hm⟩ : ∃ m, m = D - o := ⟨_, rfl⟩
              rw [← ho, ← hm]
              rw [← hm] at hcv
              have hm64 : 64 ≤ m := by omega
              have hc64 : 64 ≤ cv := by omega
              have hoD : o + m = D := by omega
              have Ho := Lib.hid ho
              have Hm := Lib.hid hm
              clear ho hm
              have i1 : (64 : Int) ≤ (m : Int) := by omega
              have i2 : (64 : Int) ≤ (cv : Int) := by omega
              have i3 : (m : Int) ≤ (cv : Int) := by omega
              have i4 : (0 : Int) < (m : Int) := by omega
              have hbl : ((P.drop o).take 64).length = 64 := by have := HD.out; simp; omega
              have hra : wr.rangeAt g o (((P.drop o).take 64).map bv) := (hLi.keep hKw (by show ¬ g = b + 1; omega)).range o (by have := HD.out; omega)
              obtain ⟨bk, hbk⟩ : ∃ bk, bk = (P.drop o).take 64 := ⟨_, rfl⟩
              obtain ⟨s, hs⟩ : ∃ s, s = chain K oct0 P n := ⟨_, rfl⟩
              rw [← hbk] at hbl hra
              rw [← hs] at hSn
              have Hbs := Lib.hid (And.intro hbk hs)
              clear hbk hs
              obtain ⟨wx, rfl⟩ : ∃ W : World, W = wr := ⟨_, rfl⟩
              have hTw := hTr.keep hKw (by show ¬ 0 = b + 1; omega)
              have hglt : g < wx.heap.size := by have := hKw.size; omega
              go_wp2_with fail
              have hSd := hSn.drew
              have hu59 := Tryd.underlying72
              have har := arrayAt72
              have hi59 : (Tryd.prog.info? 72).map (·.size) = some (bk.map bv).length := by rw [List.length_map, hbl]; kernel_rfl
              obtain ⟨s', hs'⟩ : ∃ s', s' = s.plus (rounds K (sched bk) 64 s) := ⟨_, rfl⟩
              have HM := fun W => mixed_any K (sched bk) hKl (sched_length bk) s W
              rw [← hs'] at HM
              have HMh := Lib.hid HM
              have Hs' := Lib.hid hs'
              clear HM hs'
              refine wp_region_held_drew (S := fun w' : World => w'.rangeAt g o (bk.map bv)) (by kernel_rfl) hra (fun hH0 => ?_)
              refine wpAnyH_take (i := 1) (oi := ⟨some 39, _, _, _, _, _⟩) (v := .slice (some ⟨g, o, none⟩) m cv) rfl (by kernel_rfl) (by kernel_rfl) (by kernel_rfl) (fun _ _ _ h => h) (Or.inl ⟨by rfl, by intro w' hw'; go_simp⟩) (by assumption) ?_
              simp only [Act.put, List.setIfInBounds_toArray, List.set_cons_zero, List.set_cons_succ]
              refine wpAnyH_take (i := 2) (oi := ⟨some 40, _, _, _, _, _⟩) (v := .slice (some ⟨g, o, none⟩) 64 cv) rfl (by kernel_rfl) (by kernel_rfl) (by kernel_rfl) (fun _ _ _ h => h) (Or.inl ⟨by rfl, by intro w' hw'; go_simp⟩) (by assumption) ?_
              simp only [Act.put, List.setIfInBounds_toArray, List.set_cons_zero, List.set_cons_succ]
              refine wpAnyH_take (i := 3) (oi := ⟨some 41, _, _, _, _, _⟩) (v := .pointer (some ⟨g, o, none⟩)) rfl (by kernel_rfl) (by kernel_rfl) (by kernel_rfl) (fun _ _ _ h => h) (Or.inl ⟨by rfl, by intro w' hw'; go_simp⟩) (by assumption) ?_
              simp only [Act.put, List.setIfInBounds_toArray, List.set_cons_zero, List.set_cons_succ]
              refine wpAnyH_take (i := 4) (oi := ⟨some 42, _, _, _, _, _⟩) (v := .agg (pc bk)) rfl (by kernel_rfl) (by kernel_rfl) (by kernel_rfl) (fun _ _ _ h => h) (yieldsIf_load_mid (by rfl) 72 (.tmp 41) rfl g o rfl (bk.map bv) (.array 64 5) (fun _ h => h) Tryd.underlying72 rfl hi59) (by assumption) ?_
              simp only [Act.put, List.setIfInBounds_toArray, List.set_cons_zero, List.set_cons_succ]
              refine wpAnyH_ready (rs := [0, 5]) (by kernel_rfl) (by simp) ?_
              refine AllReadyH.cons (o := ⟨some 38, _, _, _, _, _⟩) rfl (fun K' hK' => ?_) (AllReadyH.cons (o := ⟨some 43, _, _, _, _, _⟩) rfl (fun K' hK' => ?_) AllReadyH.nil)
              case' refine_1 =>
                refine step_load_blk rfl 68 (.tmp 3) rfl (b + 1) rfl 68 (cw s.words) (.array 8 67) hSd Tryd.underlying68 rfl (by kernel_rfl) ?_
                refine hK'.out _ _ hra (fun hH => ?_)
                clear hK'
                clear K'
                try simp only [Act.put, List.setIfInBounds_toArray, List.set_cons_zero, List.set_cons_succ]
                refine wpAnyH_ready (rs := [5]) (by kernel_rfl) (by simp) ?_
                refine AllReadyH.cons (o := ⟨some 43, _, _, _, _, _⟩) rfl (fun K' hK' => ?_) AllReadyH.nil
                go_simp
                refine (schedule_any bk hbl _).mono ?_
                rintro e w2 ⟨rfl, hK2⟩
                have hS2 := hSd.non hK2
                have hT2 := (hTw.keep (Keeps.refl Non wx).drew id).keep hK2 id
                have hKa := (hKw.drew).non hK2
                have hr2 : w2.rangeAt g o (bk.map bv) := (fun jj v hj => hK2.cell (hra jj v hj) id)
                refine hK'.out _ _ hr2 (fun hH => ?_)
                clear hK'
                clear K'
                try simp only [Act.put, List.setIfInBounds_toArray, List.set_cons_zero, List.set_cons_succ]
                refine wpAnyH_ready (rs := [6]) (by kernel_rfl) (by simp) ?_
                refine AllReadyH.cons (o := ⟨some 44, _, _, _, _, _⟩) rfl (fun K' hK' => ?_) AllReadyH.nil
                go_simp
                refine (HMh.out _ hT2).mono ?_
                rintro e w3 ⟨rfl, hK3⟩
                have hS3 := hS2.non hK3
                have hKb := hKa.non hK3
                have hr3 : w3.rangeAt g o (bk.map bv) := (fun jj v hj => hK3.cell (hr2 jj v hj) id)
                refine hK'.out _ _ hr3 (fun hH => ?_)
                clear hK'
                clear K'
                try simp only [Act.put, List.setIfInBounds_toArray, List.set_cons_zero, List.set_cons_succ]
                refine wpAnyH_ready (rs := [7]) (by kernel_rfl) (by simp) ?_
                refine AllReadyH.cons (o := ⟨none, _, _, _, _, _⟩) rfl (fun K' hK' => ?_) AllReadyH.nil
                refine step_store_blk rfl 68 (.tmp 3) (.tmp 44) rfl (b + 1) (cw s'.words) rfl rfl 68 (cw s.words) hS3 (by kernel_rfl) rfl (cw_all _) ?_
                intro w4 hS4 hK4
                have hr4 : w4.rangeAt g o (bk.map bv) := (fun jj v hj => hK4.cell (hr3 jj v hj) (by show ¬ g = b + 1; omega))
                refine hK'.out _ _ hr4 (fun hH => ?_)
                clear hK'
                clear K'
                try simp only [Act.put]
                refine wpAnyH_done (by kernel_rfl) ?_ _
                have FR := Lib.hid (And.intro hS4 (hKb.trans hK4))
                clear hS3 hKb hS2 hKa hT2 hr2 hr3 hr4 hK2 hK3 hK4 hS4 hH
              case' refine_2 =>
                go_simp
                refine (schedule_any bk hbl _).mono ?_
                rintro e w2 ⟨rfl, hK2⟩
                have hS2 := hSd.non hK2
                have hT2 := (hTw.keep (Keeps.refl Non wx).drew id).keep hK2 id
                have hKa := (hKw.drew).non hK2
                have hr2 : w2.rangeAt g o (bk.map bv) := (fun jj v hj => hK2.cell (hra jj v hj) id)
                refine hK'.out _ _ hr2 (fun hH => ?_)
                clear hK'
                clear K'
                try simp only [Act.put, List.setIfInBounds_toArray, List.set_cons_zero, List.set_cons_succ]
                refine wpAnyH_ready (rs := [0]) (by kernel_rfl) (by simp) ?_
                refine AllReadyH.cons (o := ⟨some 38, _, _, _, _, _⟩) rfl (fun K' hK' => ?_) AllReadyH.nil
                refine step_load_blk rfl 68 (.tmp 3) rfl (b + 1) rfl 68 (cw s.words) (.array 8 67) hS2 Tryd.underlying68 rfl (by kernel_rfl) ?_
                refine hK'.out _ _ hr2 (fun hH => ?_)
                clear hK'
                clear K'
                try simp only [Act.put, List.setIfInBounds_toArray, List.set_cons_zero, List.set_cons_succ]
                refine wpAnyH_ready (rs := [6]) (by kernel_rfl) (by simp) ?_
                refine AllReadyH.cons (o := ⟨some 44, _, _, _, _, _⟩) rfl (fun K' hK' => ?_) AllReadyH.nil
                go_simp
                refine (HMh.out _ hT2).mono ?_
                rintro e w3 ⟨rfl, hK3⟩
                have hS3 := hS2.non hK3
                have hKb := hKa.non hK3
                have hr3 : w3.rangeAt g o (bk.map bv) := (fun jj v hj => hK3.cell (hr2 jj v hj) id)
                refine hK'.out _ _ hr3 (fun hH => ?_)
                clear hK'
                clear K'
                try simp only [Act.put, List.setIfInBounds_toArray, List.set_cons_zero, List.set_cons_succ]
                refine wpAnyH_ready (rs := [7]) (by kernel_rfl) (by simp) ?_
                refine AllReadyH.cons (o := ⟨none, _, _, _, _, _⟩) rfl (fun K' hK' => ?_) AllReadyH.nil
                refine step_store_blk rfl 68 (.tmp 3) (.tmp 44) rfl (b + 1) (cw s'.words) rfl rfl 68 (cw s.words) hS3 (by kernel_rfl) rfl (cw_all _) ?_
                intro w4 hS4 hK4
                have hr4 : w4.rangeAt g o (bk.map bv) := (fun jj v hj => hK4.cell (hr3 jj v hj) (by show ¬ g = b + 1; omega))
                refine hK'.out _ _ hr4 (fun hH => ?_)
                clear hK'
                clear K'
                try simp only [Act.put]
                refine wpAnyH_done (by kernel_rfl) ?_ _
                have FR := Lib.hid (And.intro hS4 (hKb.trans hK4))
                clear hS3 hKb hS2 hKa hT2 hr2 hr3 hr4 hK2 hK3 hK4 hS4 hH
              all_goals
                go_wp2_with fail
                go_roundw
                case rel =>
                  have ho := Ho.out
                  have hm := Hm.out
                  obtain ⟨hbk, hs⟩ := Hbs.out
                  have hch : chain K oct0 P (n + 1) = s' := by rw [Hs'.out, hs, hbk, ho]; rfl
                  refine ⟨n + 1, by omega, ⟨_, _, by rw [show m - 64 = D - 64 * (n + 1) by omega], fun h => ⟨by rw [if_neg (by omega), show o + 64 = 64 * (n + 1) by omega], by omega⟩⟩, by rw [hch]; exact FR.out.1, FR.out.2⟩
                case measure =>
                  show m - 64 < m
                  omega
            · have hnD : 64 * n = D := by omega
              rw [show D - 64 * n = 0 by omega]
              obtain ⟨s, hs⟩ : ∃ s, s = chain K oct0 P n := ⟨_, rfl⟩
              have hfin : shaP K bs = s.sum := by
                unfold shaP
                rw [← HPd.out, hs, show P.length / 64 = n by have := HD.out; omega]
              rw [← hs] at hSn
              clear hs
              have c0 : wr.cell? ⟨b + 1, 0, none⟩ = some (.int .u32 (v32 s.a)) := hSn.cell 0
              have c1 : wr.cell? ⟨b + 1, 1, none⟩ = some (.int .u32 (v32 s.b)) := hSn.cell 1
              have c2 : wr.cell? ⟨b + 1, 2, none⟩ = some (.int .u32 (v32 s.c)) := hSn.cell 2
              have c3 : wr.cell? ⟨b + 1, 3, none⟩ = some (.int .u32 (v32 s.d)) := hSn.cell 3
              have c4 : wr.cell? ⟨b + 1, 4, none⟩ = some (.int .u32 (v32 s.e)) := hSn.cell 4
              have c5 : wr.cell? ⟨b + 1, 5, none⟩ = some (.int .u32 (v32 s.f)) := hSn.cell 5
              have c6 : wr.cell? ⟨b + 1, 6, none⟩ = some (.int .u32 (v32 s.g)) := hSn.cell 6
              have c7 : wr.cell? ⟨b + 1, 7, none⟩ = some (.int .u32 (v32 s.h)) := hSn.cell 7
              have hRw := hRr.keep hKw (by show ¬ b = b + 1; omega)
              have hKz : Keeps Non w wr := hKr.then hKw (fun i hi e => absurd e (by show ¬ i = b + 1; omega))
              have HF := Lib.hid hfin
              clear hSn hRr hKr hKw hTr hSr hLi hAv hfin hn64 hnD hlt
              go_wp2_with fail
              refine (pair0 s.a s.b (b + 1) wr c0 c1).mono ?_
              rintro e w' ⟨rfl, rfl⟩
              go_wp2_with fail
              refine (pair2 s.c s.d (b + 1) wr.drew c2 c3).mono ?_
              rintro e w' ⟨rfl, rfl⟩
              go_wp2_with fail
              refine (pair4 s.e s.f (b + 1) wr.drew.drew c4 c5).mono ?_
              rintro e w' ⟨rfl, rfl⟩
              go_wp2_with fail
              refine (pair6 s.g s.h (b + 1) wr.drew.drew.drew c6 c7).mono ?_
              rintro e w' ⟨rfl, rfl⟩
              go_wp2_with (first
                | ((with_reducible show wpList _ _ _ ({ dst := none, op := Op.store 24 _ _, type := _, pos := _, after := _, guard := _ } :: _) _ _); go_must (refine wpList_store_blk rfl 24 (.tmp 2) (.tmp 54) rfl b #[.int .u64 (v64 (pair s.a s.b)), .int .u64 (v64 (pair s.c s.d)), .int .u64 (v64 (pair s.e s.f)), .int .u64 (v64 (pair s.g s.h))] rfl rfl 24 _ (hRw.drewN 4) (by kernel_rfl) rfl (by kernel_rfl) ?_); intro w7 hR8 hK8; have hK9 : Keeps Non w w7 := (hKz.drewN 4).then hK8 (fun i hi e => absurd e (by show ¬ i = b; omega)); clear hRw hKz hK8))
              exact bodyPost_ret (v := s.sum.v) (results_cell_blk rfl _ b 24 _ _ rfl hR8 Tryd.underlying24 rfl (by kernel_rfl)) rfl ⟨by rw [HF.out], hK9⟩
    · have hm2 : ¬ (L : Int) % 64 = 56 := by have h3 : ¬ (bs.length + 1 + j) % 64 = 56 := fun h => hlt ((gaps_mod bs.length j hj).1 h); have := HL.out.2; omega
      have hm1 : ((L : Int) % 64 != 56) = true := by simpa using hm2
      go_wp2_with (at_builtin; go_must (refine wpList_append_bytes rfl (.tmp 16) (.tmp 17) 32 rfl (b + 2) 5 Tryd.underlying32 info5 (.slice A1 L c1) ((bs ++ [128]) ++ zeros j) rfl (hO.non ((Keeps.refl Non wx).alloc (.cells #[.int .u8 0] 5))) (some ⟨wx.heap.size, 0, none⟩) 1 1 [0] rfl rfl (At.one _ _ _ _ rfl) (by have := HL.out.1; simp only [List.length_cons, List.length_nil]; omega) (by have := hK.size; simp; omega) ?_); intro v3 w3 hO3 hK3 hat3; have hK4 : Keeps (Hi (b + 2)) w1 w3 := (hK.alloc _).then hK3 (fun i hi e => hO.new i e); clear hO hK hK3 hat3)
      go_roundw
      case rel =>
        rw [List.append_assoc (bs ++ [128]), zeros_snoc] at hO3
        exact ⟨j + 1, by omega, hO3, hK4⟩
      case measure =>
        obtain ⟨A3, c3, rfl, -⟩ := id hO3.open
        have := HL.out.1
        have := HL.out.2
        simp [lenV, zeros_length]
        omega
end Go.Proofs.YtbkhfemoogcpkaaDoor
