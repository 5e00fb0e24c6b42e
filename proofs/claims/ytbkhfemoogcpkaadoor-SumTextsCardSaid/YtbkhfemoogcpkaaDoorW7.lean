/- The document's Parse. -/
import Derived.Test.YtbkhfemoogcpkaaDoorW6
namespace Go.Proofs.YtbkhfemoogcpkaaDoor
set_option maxRecDepth 100000
open Go.RowKit Go.Uc

theorem mul16 (n : BitVec 64) : IntKind.u64.wrap (16 * v64 n) = v64 (16 * n) := by
  rw [IntKind.wrap_u64]; unfold v64; rw [BitVec.toNat_mul]; simp
theorem sub64c (c k : Nat) (hc : c < 256) (hk : k < 256) : IntKind.u64.wrap ((c : Int) - k) = v64 (BitVec.ofNat 64 c - BitVec.ofNat 64 k) := by
  rw [IntKind.wrap_u64]; unfold v64; rw [BitVec.toNat_sub, BitVec.toNat_ofNat, BitVec.toNat_ofNat]
  simp only [show (2 : Nat) ^ 64 = 18446744073709551616 from rfl]
  omega
set_option maxHeartbeats 1000000 in
theorem number_any (t : ByteArray) (bs : List UInt8) (ht : t = str bs) (hn : bs.length ≤ 64) (w : World) : Calls Tryd.prog 14 #[.string t] w fun e w' => e = .returned (.int .u64 (v64 (numS bs))) ∧ w' = w := by
  have hsz : t.size = bs.length := by rw [ht, str_size]
  have hin : ∀ (k : Nat) (hk : k < bs.length) (w : World), (Instr.index 9 (.string t) (.int .i64 (k : Int))).run Tryd.prog w = .ok (.int .u8 (bs[k].toNat : Int)) w := by
    intro k hk w
    have h1 : 0 ≤ (k : Int) ∧ (k : Int) < (t.size : Int) := by rw [hsz]; omega
    rw [run_index_string w 9 t .i64 k Tryd.underlying9, dif_pos h1]
    have h2 : k < t.size := by omega
    have h3 : t[k]'h2 = bs[k] := by subst ht; rfl
    simp only [Int.toNat_natCast]
    rw [h3]
  have HI := Lib.hid hin
  have hadd := add64
  have hm16 := mul16
  have HS : Hid ((t.size : Int) = (bs.length : Int)) := by show _ = _; rw [hsz]
  clear hsz ht hin
  go_enter Tryd.func14, Tryd.ntmps14
  go_wp2_with fail
  go_loop [3, 4] (fun v i => ∃ k : Nat, k ≤ bs.length ∧ i = .int .i64 k ∧ v = .int .u64 (v64 (numS (bs.take k)))) (fun _ i => bs.length - (intOf i).toNat)
  case atStart => exact ⟨0, by omega, rfl, rfl⟩
  case round =>
    obtain ⟨k, hk, rfl, rfl⟩ := hrel
    by_cases hlt : k < bs.length
    · have hi := HI.out k hlt
      have hlt' : (k : Int) < (t.size : Int) := by rw [HS.out]; omega
      have hsn : numS (bs.take (k + 1)) = 16 * numS (bs.take k) + dS bs[k] := by rw [List.take_succ_eq_append_getElem hlt, numS_snoc]
      generalize bs[k] = c at hi hsn
      have HN := Lib.hid hsn
      have hc := c.toNat_lt
      generalize numS (bs.take k) = n at HN ⊢
      have h48 : IntKind.u64.wrap ((c.toNat : Int) - 48) = v64 (BitVec.ofNat 64 c.toNat - 48) := sub64c c.toNat 48 hc (by omega)
      have h97 : IntKind.u64.wrap ((c.toNat : Int) - 97) = v64 (BitVec.ofNat 64 c.toNat - 97) := sub64c c.toNat 97 hc (by omega)
      have h10 : IntKind.u64.wrap (v64 (BitVec.ofNat 64 c.toNat - 97) + 10) = v64 (BitVec.ofNat 64 c.toNat - 97 + 10) := add64 _ 10
      have hdS : dS c = if 97 ≤ c.toNat then BitVec.ofNat 64 c.toNat - 97 + 10 else BitVec.ofNat 64 c.toNat - 48 := rfl
      generalize BitVec.ofNat 64 c.toNat - 97 + 10 = y2 at h10 hdS
      generalize BitVec.ofNat 64 c.toNat - 97 = y1 at h97 h10
      generalize BitVec.ofNat 64 c.toNat - 48 = y0 at h48 hdS
      have HdS := Lib.hid hdS
      clear hdS
      by_cases h : 97 ≤ c.toNat
      · have hI : (97 : Int) ≤ (c.toNat : Int) := by omega
        have HD : Hid (numS (bs.take (k + 1)) = 16 * n + y2) := by show _ = _; rw [HN.out, HdS.out, if_pos h]
        go_wp2_with fail
        go_round
        case rel => exact ⟨k + 1, by omega, by go_num, by rw [HD.out]; rfl⟩
        case measure => simp [intOf]; omega
      · have hI : ¬ (97 : Int) ≤ (c.toNat : Int) := by omega
        have HD : Hid (numS (bs.take (k + 1)) = 16 * n + y0) := by show _ = _; rw [HN.out, HdS.out, if_neg h]
        go_wp2_with fail
        go_round
        case rel => exact ⟨k + 1, by omega, by go_num, by rw [HD.out]; rfl⟩
        case measure => simp [intOf]; omega
    · obtain rfl : k = bs.length := by omega
      have hge : ¬ ((bs.length : Int) < (t.size : Int)) := by rw [HS.out]; omega
      rw [List.take_of_length_le (Nat.le_refl _)]
      go_wp2_with fail
      go_ret
      exact ⟨rfl, rfl⟩
/-- The document's whole. -/
def refO (s : List UInt8) : Option (BitVec 64 × BitVec 64 × BitVec 64 × BitVec 64) := if s.length = 64 then refP s else none
theorem parseO_ref (s : List UInt8) : parseO s = refO s := by unfold parseO refO; rw [parse_ref]

set_option maxHeartbeats 1000000 in
theorem refparse_short (s : List UInt8) (hl : s.length ≠ 64) (hn : s.length ≤ 9223372036854775807) (w : World) : Calls Tryd.prog 7 #[.string (str s)] w (ParsR (refO s) w) := by
  have hsz : ((str s).size : Int) ≠ 64 := by rw [str_size]; omega
  have HP : Hid (∀ w', Keeps Non w w' → ParsR (refO s) w (.returned (.tuple #[.agg (vz [0, 0, 0, 0]), .int .i64 21])) w') := Lib.hid fun w' hk => by
    unfold refO; rw [if_neg hl]; exact ⟨rfl, hk⟩
  clear hl
  go_enter Tryd.func7, Tryd.ntmps7
  go_wp2_with fail
  have hR := Blk.new w 24 #[.int .u64 0, .int .u64 0, .int .u64 0, .int .u64 0]
  refine bodyPost_ret (results_cell_tmp (ty := 24) rfl _ w.heap.size 24 _ _ rfl hR Tryd.underlying24 rfl (by kernel_rfl)) rfl ?_
  exact HP.out _ ((Keeps.refl _ _).alloc _)

/-- A part's number. -/
def numX (s : List UInt8) (a b : Nat) : BitVec 64 := numS ((str s).extract a b).data.toList
set_option maxHeartbeats 2000000 in
theorem refparse_long (s : List UInt8) (hl : s.length = 64) (w : World) : Calls Tryd.prog 7 #[.string (str s)] w (ParsR (refO s) w) := by
  have hsz : ((str s).size : Int) = 64 := by rw [str_size]; omega
  have hszn : (str s).size = 64 := by rw [str_size]; omega
  obtain ⟨x0, hx0⟩ : ∃ x, x = numS (pt s 0) := ⟨_, rfl⟩
  obtain ⟨x1, hx1⟩ : ∃ x, x = numS (pt s 1) := ⟨_, rfl⟩
  obtain ⟨x2, hx2⟩ : ∃ x, x = numS (pt s 2) := ⟨_, rfl⟩
  obtain ⟨x3, hx3⟩ : ∃ x, x = numS (pt s 3) := ⟨_, rfl⟩
  have hex : ∀ k, k < 4 → (str s).extract (16 * k) (16 * (k + 1)) = str (pt s k) := fun k hk => by
    apply ByteArray.ext
    apply Array.ext'
    rw [Lib.extract_data]
    unfold pt
    rw [show 16 * (k + 1) - 16 * k = 16 by omega]
    rfl
  have hpl : ∀ k, k < 4 → (pt s k).length = 16 := fun k hk => by unfold pt; simp; omega
  have HN : Hid (∀ (a b : Nat) (W : World), Calls Tryd.prog 14 #[.string ((str s).extract a b)] W fun e w' => e = .returned (.int .u64 (v64 (numX s a b))) ∧ w' = W) := fun a b W => by
    refine number_any _ (((str s).extract a b).data.toList) rfl ?_ W
    rw [Lib.extract_data]
    simp [str]
    omega
  have hx : numX s 0 16 = x0 ∧ numX s 16 32 = x1 ∧ numX s 32 48 = x2 ∧ numX s 48 64 = x3 := by
    unfold numX
    rw [hx0, hx1, hx2, hx3, show (str s).extract 0 16 = _ from hex 0 (by decide), show (str s).extract 16 32 = _ from hex 1 (by decide), show (str s).extract 32 48 = _ from hex 2 (by decide), show (str s).extract 48 64 = _ from hex 3 (by decide)]
    exact ⟨rfl, rfl, rfl, rfl⟩
  have HX := Lib.hid hx
  have HQ : Hid (refO s = if text4 x0 x1 x2 x3 = s then some (x0, x1, x2, x3) else none) := by
    show _ = _
    unfold refO refP parts
    rw [if_pos hl, hx0, hx1, hx2, hx3]
    rfl
  clear hx hx0 hx1 hx2 hx3 hex hpl hl
  go_enter Tryd.func7, Tryd.ntmps7
  go_upto_region 3 with fail
  have hR := Blk.new w 24 #[.int .u64 0, .int .u64 0, .int .u64 0, .int .u64 0]
  have hK := (Keeps.refl Non w).alloc (.cells #[.int .u64 0, .int .u64 0, .int .u64 0, .int .u64 0] 24)
  obtain ⟨wx, hwx⟩ : ∃ W : World, W = w.alloc (.cells #[.int .u64 0, .int .u64 0, .int .u64 0, .int .u64 0] 24) := ⟨_, rfl⟩
  rw [← hwx] at hR hK ⊢
  obtain ⟨r, hr⟩ : ∃ r, r = w.heap.size := ⟨_, rfl⟩
  have hrl : w.heap.size ≤ r := by omega
  rw [← hr] at hR ⊢
  clear hwx hr
  go_region_held3 (fun w' : World => True) (exact trivial)
    (first | (go_at_call 14; refine (HN.out _ _ _).mono ?_; rintro e w2 ⟨rfl, rfl⟩))
  all_goals
    rw [HX.out.1, HX.out.2.1, HX.out.2.2.1, HX.out.2.2.2]
    obtain ⟨wy, hwy⟩ : ∃ W : World, W = (wx.alloc (.cells #[.int .u64 (v64 x0), .int .u64 (v64 x1), .int .u64 (v64 x2), .int .u64 (v64 x3)] 24)).drew := ⟨_, rfl⟩
    have hO : Blk wy wx.heap.size 24 #[.int .u64 (v64 x0), .int .u64 (v64 x1), .int .u64 (v64 x2), .int .u64 (v64 x3)] := by rw [hwy]; exact (Blk.new _ _ _).drew
    have hR1 : Blk wy r 24 #[.int .u64 0, .int .u64 0, .int .u64 0, .int .u64 0] := by rw [hwy]; exact (hR.alloc _).drew
    have hK1 : Keeps Non w wy := by rw [hwy]; exact (hK.alloc _).drew
    rw [← hwy]
    obtain ⟨b, hb⟩ : ∃ b, b = wx.heap.size := ⟨_, rfl⟩
    rw [← hb] at hO ⊢
    clear hwy hb hR hK
    have c0 : wy.cell? ⟨b, 0, none⟩ = some (.int .u64 (v64 x0)) := hO.cell 0
    have c1 : wy.cell? ⟨b, 1, none⟩ = some (.int .u64 (v64 x1)) := hO.cell 1
    have c2 : wy.cell? ⟨b, 2, none⟩ = some (.int .u64 (v64 x2)) := hO.cell 2
    have c3 : wy.cell? ⟨b, 3, none⟩ = some (.int .u64 (v64 x3)) := hO.cell 3
    go_wp2_with fail
    refine (refprint_any ⟨x0, x1, x2, x3⟩ wy).mono ?_
    rintro e w2 ⟨rfl, hK2⟩
    clear c0 c1 c2 c3
    have hO2 := hO.non hK2
    have hR2 := hR1.non hK2
    have hK3 := hK1.non hK2
    have c0 : w2.cell? ⟨b, 0, none⟩ = some (.int .u64 (v64 x0)) := hO2.cell 0
    have c1 : w2.cell? ⟨b, 1, none⟩ = some (.int .u64 (v64 x1)) := hO2.cell 1
    have c2 : w2.cell? ⟨b, 2, none⟩ = some (.int .u64 (v64 x2)) := hO2.cell 2
    have c3 : w2.cell? ⟨b, 3, none⟩ = some (.int .u64 (v64 x3)) := hO2.cell 3
    by_cases hq : text4 x0 x1 x2 x3 = s
    · have HQ2 : Hid (refO s = some (x0, x1, x2, x3)) := by show _ = _; rw [HQ.out, if_pos hq]
      have hstr : ((str (text4 x0 x1 x2 x3)).toList == (str s).toList) = true := by rw [hq]; simp
      clear hO hR1 hK1 hK2 hq
      go_wp2_with ((with_reducible show wpList _ _ _ ({ dst := none, op := Op.store 24 _ _, type := _, pos := _, after := _, guard := _ } :: _) _ _); go_must (refine wpList_store_blk rfl 24 (.tmp 2) (.tmp 29) rfl r #[.int .u64 (v64 x0), .int .u64 (v64 x1), .int .u64 (v64 x2), .int .u64 (v64 x3)] rfl rfl 24 _ hR2 (by kernel_rfl) rfl (by kernel_rfl) ?_); intro w7 hR8 hK8; have hK9 : Keeps Non w w7 := hK3.then hK8 (fun i hi e => absurd e (by show ¬ i = r; omega)); clear hR2 hK3 hK8)
      refine bodyPost_ret (results_cell_tmp (ty := 24) rfl _ r 24 _ _ rfl hR8 Tryd.underlying24 rfl (by kernel_rfl)) rfl ?_
      rw [HQ2.out]
      exact ⟨rfl, hK9⟩
    · have HQ2 : Hid (refO s = none) := by show _ = _; rw [HQ.out, if_neg hq]
      have hstr : ((str (text4 x0 x1 x2 x3)).toList == (str s).toList) = false := by
        rw [Lib.toList_data, Lib.toList_data]
        simpa [str] using hq
      clear hO hR1 hK1 hK2 hq
      go_wp2_with ((with_reducible show wpList _ _ _ ({ dst := none, op := Op.store 24 _ _, type := _, pos := _, after := _, guard := _ } :: _) _ _); go_must (refine wpList_store_blk rfl 24 (.tmp 2) (.tmp 28) rfl r #[.int .u64 0, .int .u64 0, .int .u64 0, .int .u64 0] rfl rfl 24 _ hR2 (by kernel_rfl) rfl (by kernel_rfl) ?_); intro w7 hR8 hK8; have hK9 : Keeps Non w w7 := hK3.then hK8 (fun i hi e => absurd e (by show ¬ i = r; omega)); clear hR2 hK3 hK8)
      refine bodyPost_ret (results_cell_tmp (ty := 24) rfl _ r 24 _ _ rfl hR8 Tryd.underlying24 rfl (by kernel_rfl)) rfl ?_
      rw [HQ2.out]
      exact ⟨rfl, hK9⟩
end Go.Proofs.YtbkhfemoogcpkaaDoor
