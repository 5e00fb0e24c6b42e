import Derived.Test.YtmlffigfhhoihabProg
import Derived.Test.YtmlffigfhhoihabBaseb
import Derived.Test.YtmlffigfhhoihabBasec
import Derived.Lib.AppendZeros
namespace Go.Proofs.Ytmlffigfhhoihab
open Go.RowKit Go.Uc

theorem info5 : (Try.prog.info? 5).map (fun i => (i.zero, i.size, i.bytes)) = some (some (.int .u8 0), 1, 1) := by kernel_rfl

/-- A volume of the program behind a pointer (type 55): its struct, and its bytes' block. -/
def VolB (w : World) (g gb : Nat) (t : TypeId) (xs : List UInt8) : Prop := Blk w g t #[.slice (some ⟨gb, 0, none⟩) xs.length xs.length] ∧ Blk w gb 5 (pc xs) ∧ g ≠ gb
def wB (n : Nat) (at_ many : Int) : Bool := decide (0 ≤ at_) && decide (0 ≤ many) && decide (many ≤ n) && decide (at_ ≤ (n : Int) - many)

theorem pick_any (c n : Int) (w : World) (h1 : 0 < n) (h2 : n ≤ 1000000) (h3 : -9223372036854775808 ≤ c) (h4 : c ≤ 9223372036854775807) :
    Calls Try.prog 8 #[.int .i64 c, .int .i64 n] w fun e w' => e = .returned (.int .i64 (if c < 0 then (-(c + 1)).tmod n else c % n)) ∧ w = w' := by
  by_cases hc : c < 0
  · go_enter Try.func8, Try.ntmps8
    go_wp2
    go_ret
    exact ⟨ret_int (by simp [Int.neg_tmod]), rfl⟩
  · go_enter Try.func8, Try.ntmps8
    go_wp2
    go_ret
    exact ⟨ret_int (by first | rfl | simp), rfl⟩

def szB (n : Int) : Bool := decide (256 ≤ n) && decide (n ≤ 16384) && decide (n % 256 = 0)
theorem isSize_any (n : Int) (w : World) : Calls Try.prog 21 #[.int .i64 n] w fun e w' => e = .returned (.bool (szB n)) ∧ w = w' := by
  by_cases h1 : 256 ≤ n
  · by_cases h2 : n ≤ 16384
    · go_enter Try.func21, Try.ntmps21
      go_wp2
      go_ret
      refine ⟨ret_bool (bool_iff ?_), rfl⟩
      simp [szB]; omega
    · have d2 : decide (n ≤ 16384) = false := by simpa using h2
      go_enter Try.func21, Try.ntmps21
      go_wp2
      go_ret
      refine ⟨ret_bool (bool_iff ?_), rfl⟩
      simp [szB]; omega
  · have d1 : decide (256 ≤ n) = false := by simpa using h1
    go_enter Try.func21, Try.ntmps21
    go_wp2
    go_ret
    refine ⟨ret_bool (bool_iff ?_), rfl⟩
    simp [szB]; omega

theorem new_no (n : Int) (w : World) (h : szB n = false) : Calls Try.prog 9 #[.int .i64 n] w fun e w' => e = .returned (.tuple #[.pointer none, .int .i64 1]) ∧ w = w' := by
  go_enter Try.func9, Try.ntmps9
  go_wp2_with (go_at_call 21; refine (isSize_any _ _).mono ?_; rintro e w' ⟨rfl, rfl⟩)
  go_ret2
  exact ⟨rfl, rfl⟩
theorem new_ok (n : Nat) (w : World) (h : szB n = true) : Calls Try.prog 9 #[.int .i64 n] w fun e w' => ∃ g gb, e = .returned (.tuple #[.pointer (some ⟨g, 0, none⟩), .int .i64 0]) ∧
    VolB w' g gb 55 (zeros n) ∧ w.heap.size ≤ gb ∧ w.heap.size ≤ g ∧ Keeps Non w w' := by
  have hn : n ≤ 16384 := by simp [szB] at h; omega
  go_enter Try.func9, Try.ntmps9
  go_wp2_with (first
    | (go_at_call 21; refine (isSize_any _ _).mono ?_; rintro e w' ⟨rfl, rfl⟩)
    | (at_make; refine wpList_make_bytes rfl _ _ 23 rfl 5 Try.underlying23 info5 .i64 .i64 _ _ n rfl rfl (by omega) (by omega) (by omega) ?_; intro w1 hB1 hK1))
  go_ret2
  have hlt := hB1.lt
  have hsz := hK1.size
  refine ⟨w1.heap.size, w.heap.size, rfl, ⟨?_, hB1.alloc _, by omega⟩, Nat.le_refl _, hsz, hK1.alloc _⟩
  rw [zeros_length]
  exact Blk.new _ _ _

theorem within_any (g gb : Nat) (xs : List UInt8) (at_ many : Int) (w : World) (hv : VolB w g gb 55 xs) (hl : xs.length ≤ 16384) :
    Calls Try.prog 23 #[.pointer (some ⟨g, 0, none⟩), .int .i64 at_, .int .i64 many] w fun e w' => e = .returned (.bool (wB xs.length at_ many)) ∧ w = w' := by
  have c0 : w.cell? ⟨g, 0, none⟩ = some (.slice (some ⟨gb, 0, none⟩) xs.length xs.length) := hv.1.cell 0
  by_cases h1 : 0 ≤ at_
  · by_cases h2 : 0 ≤ many
    · by_cases h3 : many ≤ (xs.length : Int)
      · go_enter Try.func23, Try.ntmps23
        go_wp2
        go_ret
        refine ⟨ret_bool (bool_iff ?_), rfl⟩
        simp [wB]; omega
      · have d : decide (many ≤ (xs.length : Int)) = false := by simpa using h3
        go_enter Try.func23, Try.ntmps23
        go_wp2
        go_ret
        refine ⟨ret_bool (bool_iff ?_), rfl⟩
        simp [wB]; omega
    · have d : decide (0 ≤ many) = false := by simpa using h2
      go_enter Try.func23, Try.ntmps23
      go_wp2
      go_ret
      refine ⟨ret_bool (bool_iff ?_), rfl⟩
      simp [wB]; omega
  · have d : decide (0 ≤ at_) = false := by simpa using h1
    go_enter Try.func23, Try.ntmps23
    go_wp2
    go_ret
    refine ⟨ret_bool (bool_iff ?_), rfl⟩
    simp [wB]; omega

/-- slices.Grow of nil: an empty row of the call's own. -/
theorem grow_any (n : Nat) (w : World) (h : n ≤ 140737488355328) : Calls Try.prog 40 #[.slice none 0 0, .int .i64 n] w fun e w' => ∃ v, e = .returned v ∧ OwnB w' w.heap.size 5 v [] ∧ Keeps Non w w' := by
  by_cases h0 : 0 < n
  · obtain ⟨i, hi0, hz0, hz1, hz2⟩ := info_parts info5
    have hr := Lib.run_append_nil_zeros (P := Try.prog) w 23 3 23 5 i (.int .u8 0) .i64 .i64 Try.underlying23 Try.underlying3 hi0 hz0 n h0 (by omega) (by omega) (by rw [hz2]; omega)
    have hcap := grownCap_ge w n 0 5
    have hcm := grownCap_le_maxLen w n 0 5 (by unfold maxLen; omega)
    obtain ⟨C, hC⟩ : ∃ C, C = grownCap w n 0 5 := ⟨_, rfl⟩
    rw [← hC] at hr hcap hcm
    clear hC
    have HR := Lib.hid hr
    clear hr
    go_enter Try.func40, Try.ntmps40
    go_wp2_with (at_builtin; refine Lib.wpList_append_run _ rfl _ _ _ _ rfl _ _ rfl rfl _ _ HR.out ?_)
    go_ret
    refine ⟨_, rfl, ⟨rfl, .inr ⟨w.heap.size, C, _, rfl, Nat.le_refl _, heap_alloc_new w.drew _, Nat.zero_le _, hcm, ?_, rfl⟩⟩, ((Keeps.refl _ _).drew).alloc _⟩
    simp [size_zeroCells, Value.cells]; omega
  · obtain rfl : n = 0 := by omega
    go_enter Try.func40, Try.ntmps40
    go_wp2
    go_ret
    exact ⟨_, rfl, OwnB.nil _ _ _, Keeps.refl _ _⟩

/-- What slices of bytes hold together. -/
def flat (rs : List (List UInt8)) : List UInt8 := rs.flatten
theorem flat_take (rs : List (List UInt8)) (k : Nat) (h : k < rs.length) : flat (rs.take (k + 1)) = flat (rs.take k) ++ rs[k] := by
  unfold flat
  rw [← List.take_append_getElem h, List.flatten_append]
  simp
theorem flat_take_le (rs : List (List UInt8)) (k : Nat) : (flat (rs.take k)).length ≤ (flat rs).length := by
  unfold flat
  conv => rhs; rw [← List.take_append_drop k rs, List.flatten_append, List.length_append]
  omega
theorem flat_all (rs : List (List UInt8)) : flat (rs.take rs.length) = flat rs := by rw [List.take_length]

theorem recs_non {w w' : World} {A : Option Addr} {rs : List (List UInt8)} (h : Recs w A rs) (hk : Keeps Non w w') : Recs w' A rs := fun i hi => by
  obtain ⟨b, off, Ai, ci, h1, h2, h3, h4, h5⟩ := h i hi
  exact ⟨b, off, Ai, ci, h1, hk.cell h2 id, h3.non hk, h4, h5⟩

set_option maxHeartbeats 1000000 in
/-- slices.Concat. -/
theorem concat_any (A : Option Addr) (c : Nat) (rs : List (List UInt8)) (w : World) (hR : Recs w A rs) (hn : rs.length ≤ 140737488351232) (hf : (flat rs).length ≤ 140737488355328) :
    Calls Try.prog 34 #[.slice A rs.length c] w fun e w' => ∃ v, e = .returned v ∧ OwnB w' w.heap.size 5 v (flat rs) ∧ Keeps Non w w' := by
  have HR := Lib.hid hR
  clear hR
  go_enter Try.func34, Try.ntmps34
  go_wp2
  go_loopw [3, 11] (fun s i wr => ∃ k : Nat, k ≤ rs.length ∧ i = .int .i64 k ∧ s = .int .i64 (flat (rs.take k)).length ∧ wr = w) (fun _ i _ => rs.length - (intOf i).toNat)
  case atStart => exact ⟨0, Nat.zero_le _, rfl, rfl, rfl⟩
  case round =>
    obtain ⟨k, hk, rfl, rfl, rfl⟩ := hrel
    have hle := flat_take_le rs k
    by_cases hlt : k < rs.length
    · obtain ⟨b, off, Ai, ci, rfl, hc0, hAt, hci, h64⟩ := HR.out k hlt
      have hle2 := flat_take_le rs (k + 1)
      have hft := flat_take rs k hlt
      have hl2 : (flat (rs.take (k + 1))).length = (flat (rs.take k)).length + rs[k].length := by rw [hft, List.length_append]
      obtain ⟨m, hm⟩ : ∃ m, m = (flat (rs.take k)).length := ⟨_, rfl⟩
      obtain ⟨q, hq⟩ : ∃ q, q = rs[k].length := ⟨_, rfl⟩
      rw [← hm, ← hq] at hl2
      rw [← hm] at hle ⊢
      rw [← hq] at hc0 hci h64
      have H2 := Lib.hid hl2
      have b1 : m + q ≤ 140737488355328 := by omega
      clear hm hq hft hl2 hAt hle2
      go_wp2
      go_roundw
      case rel => exact ⟨k + 1, by omega, by go_num, by rw [H2.out]; go_num, by first | rfl | trivial⟩
      case measure => simp [intOf]; omega
    · obtain rfl : k = rs.length := by omega
      rw [flat_all] at *
      go_wp2_with (go_at_call 40; refine (grow_any (flat rs).length _ hf).mono ?_; rintro e w1 ⟨v, rfl, hO1, hK1⟩)
      obtain ⟨wo, rfl⟩ : ∃ wo : World, wo = wr := ⟨_, rfl⟩
      go_loopw [6, 27] (fun v i wi => ∃ k : Nat, k ≤ rs.length ∧ i = .int .i64 k ∧ OwnB wi wo.heap.size 5 v (flat (rs.take k)) ∧ Keeps Non wo wi) (fun _ i _ => rs.length - (intOf i).toNat)
      case atStart => exact ⟨0, Nat.zero_le _, rfl, hO1, hK1⟩
      case round =>
        obtain ⟨k, hk, rfl, hO, hK⟩ := hrel
        have hle := flat_take_le rs (k + 1)
        have hsz := hK.size
        by_cases hlt : k < rs.length
        · obtain ⟨b, off, Ai, ci, rfl, hc0, hAt, hci, h64⟩ := HR.out k hlt
          have hft := flat_take rs k hlt
          have hcell := hK.cell hc0 id
          have hAt2 := hAt.non hK
          rw [hft] at hle
          rw [List.length_append] at hle
          have HF := Lib.hid hft
          clear hc0 hft hAt
          go_wp2_with (at_builtin; refine wpList_append_bytes rfl (.tmp 31) (.tmp 32) 23 rfl wo.heap.size 5 Try.underlying23 info5 _ (flat (rs.take k)) rfl hO Ai rs[k].length ci rs[k] rfl rfl hAt2 (by omega) hsz ?_; intro v2 w2 hO2 hK2 hat; have hk2 := hK.then hK2 (fun i hi e => by have := hO.new i e; omega); clear hO hK hK2 hat)
          go_roundw
          case rel => exact ⟨k + 1, by omega, by go_num, by rw [HF.out]; exact hO2, hk2⟩
          case measure => simp [intOf]; omega
        · obtain rfl : k = rs.length := by omega
          rw [flat_all] at hO
          go_wp2
          go_ret
          exact ⟨_, rfl, hO, hK⟩
end Go.Proofs.Ytmlffigfhhoihab
