/- Parse. -/
import Derived.Test.YtbkhfemoogcpkaaDoorW4
namespace Go.Proofs.YtbkhfemoogcpkaaDoor
set_option maxRecDepth 100000
open Go.RowKit Go.Uc

def uv (x : BitVec 64) : Value := .int .u64 (v64 x)
def pt (s : List UInt8) (k : Nat) : List UInt8 := (s.drop (16 * k)).take 16
/-- So many parts read. -/
def Got (s : List UInt8) (k : Nat) (V : List (BitVec 64)) : Prop := V.length = 4 ∧ ∀ i, i < k → hexN (pt s i) = some (V.getD i 0).toNat
def vz (V : List (BitVec 64)) : Array Value := (V.map uv).toArray
theorem vz_set (V : List (BitVec 64)) (k : Nat) (x : BitVec 64) : (vz V).setIfInBounds k (uv x) = vz (V.set k x) := by simp [vz, List.map_set]
def ParsR (o : Option (BitVec 64 × BitVec 64 × BitVec 64 × BitVec 64)) (w : World) (e : Ending) (w' : World) : Prop :=
  (match o with | some x => e = .returned (.tuple #[.agg (vz [x.1, x.2.1, x.2.2.1, x.2.2.2]), .int .i64 0]) | none => e = .returned (.tuple #[.agg (vz [0, 0, 0, 0]), .int .i64 21])) ∧ Keeps Non w w'
/-- The whole. -/
def parseO (s : List UInt8) : Option (BitVec 64 × BitVec 64 × BitVec 64 × BitVec 64) := if s.length = 64 then parseP s else none
theorem parseO_none_part {s : List UInt8} (k : Nat) (hk : k < 4) (h : hexN (pt s k) = none) : parseO s = none := by
  unfold parseO parseP parts
  split
  · simp only [List.map_cons, List.map_nil]
    split
    · rename_i e
      injection e with e0 e
      injection e with e1 e
      injection e with e2 e
      injection e with e3 e
      match k, hk with
      | 0, _ => rw [show s.take 16 = pt s 0 from rfl, h] at e0; cases e0
      | 1, _ => rw [show (s.drop 16).take 16 = pt s 1 from rfl, h] at e1; cases e1
      | 2, _ => rw [show (s.drop 32).take 16 = pt s 2 from rfl, h] at e2; cases e2
      | 3, _ => rw [show (s.drop 48).take 16 = pt s 3 from rfl, h] at e3; cases e3
    · rfl
  · rfl
theorem parseO_all {s : List UInt8} (hl : s.length = 64) {a b c d : BitVec 64} (h : Got s 4 [a, b, c, d]) : parseO s = if text4 a b c d = s then some (a, b, c, d) else none := by
  have h0 := h.2 0 (by decide); have h1 := h.2 1 (by decide); have h2 := h.2 2 (by decide); have h3 := h.2 3 (by decide)
  unfold parseO parseP parts
  rw [if_pos hl]
  simp only [List.map_cons, List.map_nil]
  rw [show s.take 16 = pt s 0 from rfl, show (s.drop 16).take 16 = pt s 1 from rfl, show (s.drop 32).take 16 = pt s 2 from rfl, show (s.drop 48).take 16 = pt s 3 from rfl, h0, h1, h2, h3]
  simp
theorem four {α : Type} (V : List α) (h : V.length = 4) : ∃ a b c d, V = [a, b, c, d] := by
  match V, h with
  | [a, b, c, d], _ => exact ⟨a, b, c, d, rfl⟩

set_option maxHeartbeats 1000000 in
theorem parse_short (s : List UInt8) (hl : s.length ≠ 64) (hn : s.length ≤ 9223372036854775807) (w : World) : Calls Tryd.prog 6 #[.string (str s)] w (ParsR (parseO s) w) := by
  have hsz : ((str s).size : Int) ≠ 64 := by rw [str_size]; omega
  have HP : Hid (∀ w', Keeps Non w w' → ParsR (parseO s) w (.returned (.tuple #[.agg (vz [0, 0, 0, 0]), .int .i64 21])) w') := Lib.hid fun w' hk => by
    unfold parseO; rw [if_neg hl]; exact ⟨rfl, hk⟩
  clear hl
  go_enter Tryd.func6, Tryd.ntmps6
  go_wp2_with fail
  have hR := (Blk.new w 24 #[.int .u64 0, .int .u64 0, .int .u64 0, .int .u64 0]).alloc (.cells #[.int .u64 0, .int .u64 0, .int .u64 0, .int .u64 0] 24)
  refine bodyPost_ret (results_cell_tmp (ty := 24) rfl _ w.heap.size 24 _ _ rfl hR Tryd.underlying24 rfl (by kernel_rfl)) rfl ?_
  exact HP.out _ (((Keeps.refl _ _).alloc _).alloc _)

set_option maxHeartbeats 2000000 in
theorem parse_long (s : List UInt8) (hl : s.length = 64) (w : World) (hE : ErrW w) (h6 : w.cell? ⟨6, 15, none⟩ = some (.int .u8 4)) : Calls Tryd.prog 6 #[.string (str s)] w (ParsR (parseO s) w) := by
  have hsz : ((str s).size : Int) = 64 := by rw [str_size]; omega
  have HF : Hid (∀ k, k < 4 → hexN (pt s k) = none → ∀ w', Keeps Non w w' → ParsR (parseO s) w (.returned (.tuple #[.agg (vz [0, 0, 0, 0]), .int .i64 21])) w') := Lib.hid fun k hk h w' hkk => by
    rw [parseO_none_part k hk h]; exact ⟨rfl, hkk⟩
  have HA : Hid (∀ a b c d, Got s 4 [a, b, c, d] → parseO s = if text4 a b c d = s then some (a, b, c, d) else none) := Lib.hid fun a b c d h => parseO_all hl h
  have HS : Hid (∀ k, k < 4 → (str s).extract (16 * k) (16 * (k + 1)) = str (pt s k) ∧ (pt s k).length = 16) := Lib.hid fun k hk => by
    refine ⟨?_, by unfold pt; simp; omega⟩
    apply ByteArray.ext
    apply Array.ext'
    rw [Lib.extract_data]
    unfold pt
    rw [show 16 * (k + 1) - 16 * k = 16 by omega]
    rfl
  have HL := Lib.hid hl
  clear hl
  go_enter Tryd.func6, Tryd.ntmps6
  go_wp2_with fail
  have hR := (Blk.new w 24 (vz [0, 0, 0, 0])).alloc (.cells (vz [0, 0, 0, 0]) 24)
  have hO := Blk.new (w.alloc (.cells (vz [0, 0, 0, 0]) 24)) 24 (vz [0, 0, 0, 0])
  have hK := ((Keeps.refl Non w).alloc (.cells (vz [0, 0, 0, 0]) 24)).alloc (.cells (vz [0, 0, 0, 0]) 24)
  obtain ⟨wx, hwx⟩ : ∃ W : World, W = (w.alloc (.cells (vz [0, 0, 0, 0]) 24)).alloc (.cells (vz [0, 0, 0, 0]) 24) := ⟨_, rfl⟩
  have hrn : w.heap.size ≠ (w.alloc (.cells (vz [0, 0, 0, 0]) 24)).heap.size := by simp
  rw [← hwx] at hR hO hK
  rw [show (w.alloc (.cells #[.int .u64 0, .int .u64 0, .int .u64 0, .int .u64 0] 24)).alloc (.cells #[.int .u64 0, .int .u64 0, .int .u64 0, .int .u64 0] 24) = wx from hwx.symm]
  rw [show (w.alloc (.cells (vz [0, 0, 0, 0]) 24)).heap.size = w.heap.size + 1 by simp] at hO hrn
  obtain ⟨r, hr⟩ : ∃ r, r = w.heap.size := ⟨_, rfl⟩
  have hrl : w.heap.size ≤ r := by omega
  rw [← hr] at hR hO hrn ⊢
  clear hwx
  obtain ⟨b, hb⟩ : ∃ b, b = r + 1 := ⟨_, rfl⟩
  have hbl : w.heap.size ≤ b := by omega
  rw [← hb] at hO hrn ⊢
  clear hb hr
  go_loopw [18] (fun i wr => ∃ (k : Nat) (V : List (BitVec 64)), k ≤ 4 ∧ i = .int .i64 k ∧ Blk wr b 24 (vz V) ∧ Blk wr r 24 (vz [0, 0, 0, 0]) ∧ Keeps Non w wr ∧ Hid (Got s k V)) (fun i _ => 4 - (intOf i).toNat)
  case atStart => exact ⟨0, [0, 0, 0, 0], by omega, rfl, hO, hR, hK, rfl, fun i h => absurd h (by omega)⟩
  case round =>
    obtain ⟨k, V, hk, rfl, hO1, hR1, hK1, hG⟩ := hrel
    obtain ⟨x0, x1, x2, x3, rfl⟩ := four V hG.out.1
    by_cases hlt : k < 4
    · have hin : ∀ w : World, (Instr.index 38 (.agg #[.pointer (some ⟨b, 0, none⟩), .pointer (some ⟨b, 1, none⟩), .pointer (some ⟨b, 2, none⟩), .pointer (some ⟨b, 3, none⟩)]) (.int .i64 (k : Int))).run Tryd.prog w = .ok (.pointer (some ⟨b, k, none⟩)) w := by
        intro w
        match k, hlt with
        | 0, _ => rfl
        | 1, _ => rfl
        | 2, _ => rfl
        | 3, _ => rfl
      obtain ⟨wy, rfl⟩ : ∃ W : World, W = wr := ⟨_, rfl⟩
      have hE1 := hE.non hK1
      have k0 : (k : Int) < 4 := by omega
      have k1 : IntKind.i64.wrap (16 * (k : Int)) = ((16 * k : Nat) : Int) := by rw [IntKind.wrap_i64]; omega
      have k2 : IntKind.i64.wrap (16 * ((k : Int) + 1)) = ((16 * (k + 1) : Nat) : Int) := by rw [IntKind.wrap_i64]; omega
      have k3 : ((16 * k : Nat) : Int) ≤ ((16 * (k + 1) : Nat) : Int) := by omega
      have k4 : ((16 * (k + 1) : Nat) : Int) ≤ 64 := by omega
      obtain ⟨hex, hpl⟩ := HS.out k hlt
      have HX := Lib.hid hex
      clear hex
      cases hh : hexN (pt s k) with
      | none =>
        have HN := Lib.hid (HF.out k hlt hh)
        have HH := Lib.hid hh
        clear hh
        go_wp2_with fail
        refine (pub_none _ (pt s k) ?hbs (by omega) (by omega) HH.out _ hE1).mono ?_
        case hbs => exact HX.out
        rintro e w2 ⟨v, p, rfl, hK2⟩
        have hO2 := hO1.non hK2
        have hR2 := hR1.non hK2
        have hK3 := hK1.non hK2
        clear hO1 hR1 hK1 hK2 hE1
        go_wp2_with ((with_reducible show wpList _ _ _ ({ dst := none, op := Op.store 24 _ _, type := _, pos := _, after := _, guard := _ } :: _) _ _); go_must (refine wpList_store_blk rfl 24 (.tmp 2) (.tmp 35) rfl r #[.int .u64 0, .int .u64 0, .int .u64 0, .int .u64 0] rfl rfl 24 _ hR2 (by kernel_rfl) rfl (by kernel_rfl) ?_); intro w7 hR8 hK8; have hK9 : Keeps Non w w7 := hK3.then hK8 (fun i hi e => absurd e (by show ¬ i = r; omega)); clear hR2 hK3 hK8)
        refine bodyPost_ret (results_cell_tmp (ty := 24) rfl _ r 24 _ _ rfl hR8 Tryd.underlying24 rfl (by kernel_rfl)) rfl ?_
        exact HN.out _ hK9
      | some n =>
        have HH := Lib.hid hh
        clear hh
        go_wp2_with fail
        refine (pub_some _ (pt s k) ?hbs (by omega) (by omega) n HH.out _).mono ?_
        case hbs => exact HX.out
        rintro e w2 ⟨rfl, hK2⟩
        have hO2 := hO1.non hK2
        have hR2 := hR1.non hK2
        have hK3 := hK1.non hK2
        clear hO1 hR1 hK1 hK2 hE1
        have hc : ∃ u, w2.cell? ⟨b, k, none⟩ = some u := by
          rw [hO2.cell]
          refine ⟨uv ([x0, x1, x2, x3].getD k 0), ?_⟩
          match k, hlt with
          | 0, _ => rfl
          | 1, _ => rfl
          | 2, _ => rfl
          | 3, _ => rfl
        obtain ⟨u, hc⟩ := hc
        have hf := hO2.frozen k
        go_wp2_with fail
        go_roundw
        case rel =>
          have hn64 : (n : Int) = v64 (BitVec.ofNat 64 n) := by
            have := hexN_bound (pt s k) n HH.out
            rw [hpl] at this
            unfold v64; rw [BitVec.toNat_ofNat, Nat.mod_eq_of_lt (by omega)]
          have hB := hO2.set k (uv (BitVec.ofNat 64 n))
          rw [vz_set] at hB
          refine ⟨k + 1, [x0, x1, x2, x3].set k (BitVec.ofNat 64 n), by omega, by go_num, ?_, ?_, ?_, ?_⟩
          · rw [hn64]; exact hB
          · exact hR2.far (p := ⟨b, k, none⟩) hrn _
          · exact hK3.setNew (p := ⟨b, k, none⟩) hbl _
          · refine ⟨by simp, fun i hi => ?_⟩
            by_cases hik : i = k
            · subst hik
              rw [HH.out, List.getD_eq_getElem?_getD, List.getElem?_set_self (by simpa using hlt)]
              have := hexN_bound (pt s i) n HH.out
              rw [hpl] at this
              simp only [Option.getD_some, BitVec.toNat_ofNat]
              rw [Nat.mod_eq_of_lt (by omega)]
            · rw [List.getD_eq_getElem?_getD, List.getElem?_set_ne (by omega), ← List.getD_eq_getElem?_getD]
              exact hG.out.2 i (by omega)
        case measure => simp [intOf]; omega
    · obtain rfl : k = 4 := by omega
      have HQ := Lib.hid (HA.out _ _ _ _ hG.out)
      have h6r := hK1.cell h6 id
      obtain ⟨wy, rfl⟩ : ∃ W : World, W = wr := ⟨_, rfl⟩
      have c0 : wy.cell? ⟨b, 0, none⟩ = some (.int .u64 (v64 x0)) := hO1.cell 0
      have c1 : wy.cell? ⟨b, 1, none⟩ = some (.int .u64 (v64 x1)) := hO1.cell 1
      have c2 : wy.cell? ⟨b, 2, none⟩ = some (.int .u64 (v64 x2)) := hO1.cell 2
      have c3 : wy.cell? ⟨b, 3, none⟩ = some (.int .u64 (v64 x3)) := hO1.cell 3
      go_wp2_with fail
      refine (print_all ⟨x0, x1, x2, x3⟩ wy h6r).mono ?_
      rintro e w2 ⟨rfl, hK2⟩
      clear c0 c1 c2 c3
      have hO2 := hO1.non hK2
      have hR2 := hR1.non hK2
      have hK3 := hK1.non hK2
      have c0 : w2.cell? ⟨b, 0, none⟩ = some (.int .u64 (v64 x0)) := hO2.cell 0
      have c1 : w2.cell? ⟨b, 1, none⟩ = some (.int .u64 (v64 x1)) := hO2.cell 1
      have c2 : w2.cell? ⟨b, 2, none⟩ = some (.int .u64 (v64 x2)) := hO2.cell 2
      have c3 : w2.cell? ⟨b, 3, none⟩ = some (.int .u64 (v64 x3)) := hO2.cell 3
      by_cases hq : text4 x0 x1 x2 x3 = s
      · rw [if_pos hq] at HQ
        have hstr : ((str (text4 x0 x1 x2 x3)).toList == (str s).toList) = true := by rw [hq]; simp
        clear hO1 hR1 hK1 hK2 hq
        go_wp2_with ((with_reducible show wpList _ _ _ ({ dst := none, op := Op.store 24 _ _, type := _, pos := _, after := _, guard := _ } :: _) _ _); go_must (refine wpList_store_blk rfl 24 (.tmp 2) (.tmp 45) rfl r #[.int .u64 (v64 x0), .int .u64 (v64 x1), .int .u64 (v64 x2), .int .u64 (v64 x3)] rfl rfl 24 _ hR2 (by kernel_rfl) rfl (by kernel_rfl) ?_); intro w7 hR8 hK8; have hK9 : Keeps Non w w7 := hK3.then hK8 (fun i hi e => absurd e (by show ¬ i = r; omega)); clear hR2 hK3 hK8)
        refine bodyPost_ret (results_cell_tmp (ty := 24) rfl _ r 24 _ _ rfl hR8 Tryd.underlying24 rfl (by kernel_rfl)) rfl ?_
        rw [HQ.out]
        exact ⟨rfl, hK9⟩
      · rw [if_neg hq] at HQ
        have hstr : ((str (text4 x0 x1 x2 x3)).toList == (str s).toList) = false := by
          rw [Lib.toList_data, Lib.toList_data]
          simpa [str] using hq
        clear hO1 hR1 hK1 hK2 hq
        go_wp2_with ((with_reducible show wpList _ _ _ ({ dst := none, op := Op.store 24 _ _, type := _, pos := _, after := _, guard := _ } :: _) _ _); go_must (refine wpList_store_blk rfl 24 (.tmp 2) (.tmp 44) rfl r #[.int .u64 0, .int .u64 0, .int .u64 0, .int .u64 0] rfl rfl 24 _ hR2 (by kernel_rfl) rfl (by kernel_rfl) ?_); intro w7 hR8 hK8; have hK9 : Keeps Non w w7 := hK3.then hK8 (fun i hi e => absurd e (by show ¬ i = r; omega)); clear hR2 hK3 hK8)
        refine bodyPost_ret (results_cell_tmp (ty := 24) rfl _ r 24 _ _ rfl hR8 Tryd.underlying24 rfl (by kernel_rfl)) rfl ?_
        rw [HQ.out]
        exact ⟨rfl, hK9⟩
end Go.Proofs.YtbkhfemoogcpkaaDoor
