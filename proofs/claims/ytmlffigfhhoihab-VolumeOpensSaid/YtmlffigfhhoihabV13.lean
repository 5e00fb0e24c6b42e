/- The document's New, within, Write, Discard, Read; Size. -/
import Derived.Test.YtmlffigfhhoihabV12
namespace Go.Proofs.Ytmlffigfhhoihab
open Go.RowKit Go.Uc

theorem At.keep2 {w w' : World} {A : Option Addr} {xs : List UInt8} {S : Nat → Prop} (h : At w A xs) (hk : Keeps S w w') (hb : ∀ ad, A = some ad → 0 < xs.length → ¬ S ad.block) : At w' A xs := fun i hi => by
  obtain ⟨ad, e, hc⟩ := h i hi
  exact ⟨ad, e, hk.cell hc (by rw [Addr.add_block]; exact hb ad e (by omega))⟩
theorem size_any (g gb : Nat) (xs : List UInt8) (w : World) (hv : VolB w g gb 55 xs) : Calls Try.prog 39 #[.pointer (some ⟨g, 0, none⟩)] w fun e w' => e = .returned (.int .i64 xs.length) ∧ w = w' := by
  have c0 : w.cell? ⟨g, 0, none⟩ = some (.slice (some ⟨gb, 0, none⟩) xs.length xs.length) := hv.1.cell 0
  go_enter Try.func39, Try.ntmps39
  go_wp2
  go_ret
  exact ⟨rfl, rfl⟩

theorem refNew_no (n : Int) (w : World) (h : szB n = false) : Calls Try.prog 16 #[.int .i64 n] w fun e w' => e = .returned (.tuple #[.pointer none, .int .i64 1]) ∧ w = w' := by
  by_cases h1 : n < 256
  · go_enter Try.func16, Try.ntmps16
    go_wp2
    go_ret2
    exact ⟨rfl, rfl⟩
  · by_cases h2 : 16384 < n
    · go_enter Try.func16, Try.ntmps16
      go_wp2
      go_ret2
      exact ⟨rfl, rfl⟩
    · have h3 : (n % 256 != 0) = true := by rw [bne_iff_ne]; simp [szB] at h; omega
      go_enter Try.func16, Try.ntmps16
      go_wp2
      go_ret2
      exact ⟨rfl, rfl⟩
theorem refNew_ok (n : Nat) (w : World) (h : szB n = true) : Calls Try.prog 16 #[.int .i64 n] w fun e w' => ∃ g gb, e = .returned (.tuple #[.pointer (some ⟨g, 0, none⟩), .int .i64 0]) ∧
    VolB w' g gb 67 (zeros n) ∧ w.heap.size ≤ gb ∧ w.heap.size ≤ g ∧ Keeps Non w w' := by
  have hn := szB_of h
  have h3 : ((n : Int) % 256 != 0) = false := by rw [bne_eq_false_iff_eq]; omega
  go_enter Try.func16, Try.ntmps16
  go_wp2_with (at_make; go_must (refine wpList_make_bytes rfl _ _ 23 rfl 5 Try.underlying23 info5 .i64 .i64 _ _ n rfl rfl (by omega) (by omega) (by omega) ?_); intro w1 hB1 hK1)
  go_ret2
  have hlt := hB1.lt
  have hsz := hK1.size
  refine ⟨w1.heap.size, w.heap.size, rfl, ⟨?_, hB1.alloc _, by omega⟩, Nat.le_refl _, hsz, hK1.alloc _⟩
  rw [zeros_length]
  exact Blk.new _ _ _

theorem refWithin_any (g gb : Nat) (xs : List UInt8) (at_ many : Int) (w : World) (hv : VolB w g gb 67 xs) (hl : xs.length ≤ 16384) :
    Calls Try.prog 41 #[.pointer (some ⟨g, 0, none⟩), .int .i64 at_, .int .i64 many] w fun e w' => e = .returned (.bool (wB xs.length at_ many)) ∧ w = w' := by
  have c0 : w.cell? ⟨g, 0, none⟩ = some (.slice (some ⟨gb, 0, none⟩) xs.length xs.length) := hv.1.cell 0
  by_cases h1 : 0 ≤ at_
  · by_cases h2 : 0 ≤ many
    · by_cases h3 : at_ ≤ (xs.length : Int)
      · go_enter Try.func41, Try.ntmps41
        go_wp2
        go_ret
        refine ⟨ret_bool (bool_iff ?_), rfl⟩
        simp [wB]; omega
      · have d : decide (at_ ≤ (xs.length : Int)) = false := by simpa using h3
        go_enter Try.func41, Try.ntmps41
        go_wp2
        go_ret
        refine ⟨ret_bool (bool_iff ?_), rfl⟩
        simp [wB]; omega
    · have d : decide (0 ≤ many) = false := by simpa using h2
      go_enter Try.func41, Try.ntmps41
      go_wp2
      go_ret
      refine ⟨ret_bool (bool_iff ?_), rfl⟩
      simp [wB]; omega
  · have d : decide (0 ≤ at_) = false := by simpa using h1
    go_enter Try.func41, Try.ntmps41
    go_wp2
    go_ret
    refine ⟨ret_bool (bool_iff ?_), rfl⟩
    simp [wB]; omega

set_option maxRecDepth 100000 in
set_option maxHeartbeats 2000000 in
theorem refWrite_all (g gb c : Nat) (xs bs : List UInt8) (at_ : Int) (A : Option Addr) (w : World) (hv : VolB w g gb 67 xs) (hl : xs.length ≤ 16384) (hA : At w A bs) (h64 : bs.length ≤ 140737488351232) (hne : ∀ ad, A = some ad → 0 < bs.length → ad.block ≠ gb) :
    Calls Try.prog 36 #[.pointer (some ⟨g, 0, none⟩), .int .i64 at_, .slice A bs.length c] w fun e w' => e = .returned (.int .i64 (errV xs.length at_ bs.length)) ∧ VolB w' g gb 67 (wrX xs at_ bs) ∧ Keeps (Only gb) w w' := by
  cases hw : wB xs.length at_ bs.length with
  | false =>
    have e1 : errV xs.length at_ bs.length = 186 := by unfold errV; rw [if_neg (by rw [hw]; simp)]
    have e2 : wrX xs at_ bs = xs := by unfold wrX; rw [if_neg (by rw [hw]; simp)]
    rw [e1, e2]
    have HW := Lib.hid hw
    clear hw e1 e2
    go_enter Try.func36, Try.ntmps36
    go_wp2_with (go_at_call 41; go_must (refine (refWithin_any g gb xs _ _ _ hv hl).mono ?_; rw [HW.out]); rintro e w2 ⟨rfl, rfl⟩)
    go_ret
    exact ⟨rfl, hv, Keeps.refl _ _⟩
  | true =>
    obtain ⟨h1, h2, h3⟩ := wB_at hw
    obtain ⟨t, rfl⟩ := Int.eq_ofNat_of_zero_le h1
    have htM : t + bs.length ≤ xs.length := by simpa using h3
    have e1 : errV xs.length t bs.length = 0 := by unfold errV; rw [if_pos hw]
    have e2 : wrX xs t bs = lay xs t bs := by unfold wrX; rw [if_pos hw, Int.toNat_natCast]
    rw [e1, e2]
    have HW := Lib.hid hw
    have HA := Lib.hid hA
    have HNE := Lib.hid hne
    have hl2 : (lay xs t bs).length = xs.length := lay_length _ _ _ htM
    have HL2 := Lib.hid hl2
    obtain ⟨N, hN⟩ : ∃ N, N = xs.length := ⟨_, rfl⟩
    have HN := Lib.hid hN
    have hv1 : Blk w g 67 #[.slice (some ⟨gb, 0, none⟩) N N] := by rw [hN]; exact hv.1
    have hv2 := hv.2.1
    have hggb := hv.2.2
    have htN : t + bs.length ≤ N := by omega
    have hNl : N ≤ 16384 := by omega
    clear hw hA hne hl2 e1 e2 h1 h2 h3 hN
    go_enter Try.func36, Try.ntmps36
    go_wp2_with (go_at_call 41; go_must (refine (refWithin_any g gb xs _ _ _ hv hl).mono ?_; rw [HW.out]); rintro e w2 ⟨rfl, rfl⟩)
    go_loopw [8] (fun i wr => ∃ k : Nat, k ≤ bs.length ∧ i = .int .i64 k ∧ Blk wr gb 5 (pc (lay xs t (bs.take k))) ∧ Keeps (Only gb) w wr) (fun i _ => bs.length - (intOf i).toNat)
    case atStart => exact ⟨0, Nat.zero_le _, rfl, by rw [List.take_zero, lay_nil]; exact hv2, Keeps.refl _ _⟩
    case round =>
      obtain ⟨k, hk, rfl, hB, hK⟩ := hrel
      by_cases hlt : k < bs.length
      · obtain ⟨b, off, rfl, hc0⟩ := HA.out.at_ (k := k) hlt
        have hnb : b ≠ gb := HNE.out _ rfl (by omega)
        have hc1 : wr.cell? ⟨b, off + k, none⟩ = some (.int .u8 (bs[k]).toNat) := hK.cell hc0 hnb
        have hBg := hv1.one hK hggb
        have c0 : wr.cell? ⟨g, 0, none⟩ = some (.slice (some ⟨gb, 0, none⟩) N N) := hBg.cell 0
        have hlj : (lay xs t (bs.take k)).length = xs.length := lay_length _ _ _ (by simp; omega)
        obtain ⟨v7, hv7⟩ : ∃ v7, wr.cell? ⟨gb, t + k, none⟩ = some v7 := ⟨_, hB.byte (i := t + k) (by omega)⟩
        have hf := hB.frozen (t + k)
        have hset : ∀ w', Keeps Non wr w' → Blk (w'.setCell ⟨gb, t + k, none⟩ (.int .u8 (bs[k]).toNat)) gb 5 (pc (lay xs t (bs.take (k + 1)))) ∧ Keeps (Only gb) w (w'.setCell ⟨gb, t + k, none⟩ (.int .u8 (bs[k]).toNat)) := fun w' hk' => by
          have := (hB.non hk').set (t + k) (bv bs[k])
          rw [set_pc, lay_step xs t k bs hlt htM] at this
          exact ⟨this, (hK.trans hk'.of_non).set (p := ⟨gb, t + k, none⟩) rfl _⟩
        have HS := Lib.hid hset
        clear hc0 hlj hset hB hK hBg
        have W1 : IntKind.i64.wrap ((t : Int) + k) = (t : Int) + k := IntWalk.i64_in _ (by omega)
        have W2 : ((t : Int) + k).toNat = t + k := by omega
        have W3 : 0 ≤ (t : Int) + k := by omega
        have W4 : (t : Int) + k < N := by omega
        go_wp2_with fail
        go_still_tail 12, (by kernel_rfl)
        have hv7' : wr.drew.cell? ⟨gb, t + k, none⟩ = some v7 := hv7
        have hf' : wr.drew.frozen? ⟨gb, t + k, none⟩ = false := hf
        clear W1 W2 W3 W4
        go_wp2_with fail
        go_roundw
        case rel => exact ⟨k + 1, by omega, by go_num, (HS.out _ ((Keeps.refl _ _).drew)).1, (HS.out _ ((Keeps.refl _ _).drew)).2⟩
        case measure => simp [intOf]; omega
      · obtain rfl : k = bs.length := by omega
        rw [List.take_length] at hB
        have hBg := hv1.one hK hggb
        rw [HN.out, ← HL2.out] at hBg
        go_wp2_with fail
        go_ret
        exact ⟨rfl, ⟨hBg, hB, hggb⟩, hK⟩

set_option maxRecDepth 100000 in
set_option maxHeartbeats 2000000 in
theorem refDiscard_all (g gb : Nat) (xs : List UInt8) (at_ many : Int) (w : World) (hv : VolB w g gb 67 xs) (hl : xs.length ≤ 16384) :
    Calls Try.prog 37 #[.pointer (some ⟨g, 0, none⟩), .int .i64 at_, .int .i64 many] w fun e w' => e = .returned (.int .i64 (errV xs.length at_ many)) ∧ VolB w' g gb 67 (dsX xs at_ many) ∧ Keeps (Only gb) w w' := by
  cases hw : wB xs.length at_ many with
  | false =>
    have e1 : errV xs.length at_ many = 186 := by unfold errV; rw [if_neg (by rw [hw]; simp)]
    have e2 : dsX xs at_ many = xs := by unfold dsX; rw [if_neg (by rw [hw]; simp)]
    rw [e1, e2]
    have HW := Lib.hid hw
    clear hw e1 e2
    go_enter Try.func37, Try.ntmps37
    go_wp2_with (go_at_call 41; go_must (refine (refWithin_any g gb xs _ _ _ hv hl).mono ?_; rw [HW.out]); rintro e w2 ⟨rfl, rfl⟩)
    go_ret
    exact ⟨rfl, hv, Keeps.refl _ _⟩
  | true =>
    obtain ⟨h1, h2, h3⟩ := wB_at hw
    obtain ⟨t, rfl⟩ := Int.eq_ofNat_of_zero_le h1
    obtain ⟨m, rfl⟩ := Int.eq_ofNat_of_zero_le h2
    have htM : t + m ≤ xs.length := by simpa using h3
    have e1 : errV xs.length t m = 0 := by unfold errV; rw [if_pos hw]
    have e2 : dsX xs t m = lay xs t (zeros m) := by unfold dsX; rw [if_pos hw, Int.toNat_natCast, Int.toNat_natCast]
    rw [e1, e2]
    have HW := Lib.hid hw
    have hl2 : (lay xs t (zeros m)).length = xs.length := lay_length _ _ _ (by rw [zeros_length]; exact htM)
    have HL2 := Lib.hid hl2
    have HZ := Lib.hid (zeros_length m)
    obtain ⟨N, hN⟩ : ∃ N, N = xs.length := ⟨_, rfl⟩
    have HN := Lib.hid hN
    have hv1 : Blk w g 67 #[.slice (some ⟨gb, 0, none⟩) N N] := by rw [hN]; exact hv.1
    have hv2 := hv.2.1
    have hggb := hv.2.2
    have htN : t + m ≤ N := by omega
    have hNl : N ≤ 16384 := by omega
    clear hw hl2 e1 e2 h1 h2 h3 hN
    go_enter Try.func37, Try.ntmps37
    go_wp2_with (go_at_call 41; go_must (refine (refWithin_any g gb xs _ _ _ hv hl).mono ?_; rw [HW.out]); rintro e w2 ⟨rfl, rfl⟩)
    go_loopw [8] (fun i wr => ∃ k : Nat, k ≤ m ∧ i = .int .i64 ((t : Int) + k) ∧ Blk wr gb 5 (pc (lay xs t ((zeros m).take k))) ∧ Keeps (Only gb) w wr) (fun i _ => t + m - (intOf i).toNat)
    case atStart => exact ⟨0, Nat.zero_le _, by simp, by rw [List.take_zero, lay_nil]; exact hv2, Keeps.refl _ _⟩
    case round =>
      obtain ⟨k, hk, rfl, hB, hK⟩ := hrel
      by_cases hlt : k < m
      · have hBg := hv1.one hK hggb
        have c0 : wr.cell? ⟨g, 0, none⟩ = some (.slice (some ⟨gb, 0, none⟩) N N) := hBg.cell 0
        have hlj : (lay xs t ((zeros m).take k)).length = xs.length := lay_length _ _ _ (by have := HZ.out; simp; omega)
        obtain ⟨v7, hv7⟩ : ∃ v7, wr.cell? ⟨gb, t + k, none⟩ = some v7 := ⟨_, hB.byte (i := t + k) (by omega)⟩
        have hf := hB.frozen (t + k)
        have hz0 : (zeros m)[k]'(by have := HZ.out; omega) = 0 := by simp [zeros]
        have hset : Blk (wr.setCell ⟨gb, t + k, none⟩ (.int .u8 0)) gb 5 (pc (lay xs t ((zeros m).take (k + 1)))) := by
          have := hB.set (t + k) (bv 0)
          rw [set_pc, ← hz0, lay_step xs t k (zeros m) (by have := HZ.out; omega) (by have := HZ.out; omega)] at this
          rw [hz0] at this
          exact this
        have HS := Lib.hid hset
        have HKS := Lib.hid (hK.set (p := ⟨gb, t + k, none⟩) rfl (.int .u8 0))
        clear hlj hset hB hK hBg hz0
        go_wp2_with fail
        go_roundw
        case rel => exact ⟨k + 1, by omega, by go_num, HS.out, HKS.out⟩
        case measure => simp [intOf]; omega
      · obtain rfl : k = m := by omega
        rw [List.take_of_length_le (by have := HZ.out; omega)] at hB
        have hBg := hv1.one hK hggb
        rw [HN.out, ← HL2.out] at hBg
        go_wp2_with fail
        go_ret
        exact ⟨rfl, ⟨hBg, hB, hggb⟩, hK⟩

set_option maxRecDepth 100000 in
set_option maxHeartbeats 2000000 in
theorem refRead_all (g gb : Nat) (xs : List UInt8) (at_ many : Int) (w : World) (hv : VolB w g gb 67 xs) (hl : xs.length ≤ 16384) :
    Calls Try.prog 38 #[.pointer (some ⟨g, 0, none⟩), .int .i64 at_, .int .i64 many] w fun e w' => ∃ v, e = .returned (.tuple #[v, .int .i64 (errV xs.length at_ many)]) ∧ OwnB w' w.heap.size 5 v (rdX xs at_ many) ∧ Keeps Non w w' := by
  cases hw : wB xs.length at_ many with
  | false =>
    have e1 : errV xs.length at_ many = 186 := by unfold errV; rw [if_neg (by rw [hw]; simp)]
    have e2 : rdX xs at_ many = [] := by unfold rdX; rw [if_neg (by rw [hw]; simp)]
    rw [e1, e2]
    have HW := Lib.hid hw
    clear hw e1 e2
    go_enter Try.func38, Try.ntmps38
    go_wp2_with (go_at_call 41; go_must (refine (refWithin_any g gb xs _ _ _ hv hl).mono ?_; rw [HW.out]); rintro e w2 ⟨rfl, rfl⟩)
    go_ret2
    exact ⟨_, rfl, OwnB.nil _ _ _, Keeps.refl _ _⟩
  | true =>
    obtain ⟨h1, h2, h3⟩ := wB_at hw
    obtain ⟨t, rfl⟩ := Int.eq_ofNat_of_zero_le h1
    obtain ⟨m, rfl⟩ := Int.eq_ofNat_of_zero_le h2
    have htM : t + m ≤ xs.length := by simpa using h3
    have e1 : errV xs.length t m = 0 := by unfold errV; rw [if_pos hw]
    have e2 : rdX xs t m = (xs.drop t).take m := by unfold rdX; rw [if_pos hw, Int.toNat_natCast, Int.toNat_natCast]
    rw [e1, e2]
    have HW := Lib.hid hw
    obtain ⟨N, hN⟩ : ∃ N, N = xs.length := ⟨_, rfl⟩
    have HN := Lib.hid hN
    have hv1 : Blk w g 67 #[.slice (some ⟨gb, 0, none⟩) N N] := by rw [hN]; exact hv.1
    have hv2 := hv.2.1
    have htN : t + m ≤ N := by omega
    have hNl : N ≤ 16384 := by omega
    clear hw e1 e2 h1 h2 h3 hN
    go_enter Try.func38, Try.ntmps38
    go_wp2_with (go_at_call 41; go_must (refine (refWithin_any g gb xs _ _ _ hv hl).mono ?_; rw [HW.out]); rintro e w2 ⟨rfl, rfl⟩)
    go_loopw [9, 10] (fun v i wr => ∃ k : Nat, k ≤ m ∧ i = .int .i64 ((t : Int) + k) ∧ OwnB wr w.heap.size 5 v ((xs.drop t).take k) ∧ Keeps Non w wr) (fun _ i _ => t + m - (intOf i).toNat)
    case atStart => exact ⟨0, Nat.zero_le _, by simp, OwnB.nil _ _ _, Keeps.refl _ _⟩
    case round =>
      obtain ⟨k, hk, rfl, hO, hK⟩ := hrel
      have hsz := hK.size
      by_cases hlt : k < m
      · have hBg := hv1.non hK
        have c0 : wr.cell? ⟨g, 0, none⟩ = some (.slice (some ⟨gb, 0, none⟩) N N) := hBg.cell 0
        have hc : wr.cell? ⟨gb, t + k, none⟩ = some (.int .u8 (xs[t + k]'(by omega)).toNat) := (hv2.non hK).byteD (by omega)
        have hts : (xs.drop t).take (k + 1) = (xs.drop t).take k ++ [xs[t + k]'(by omega)] := by
          rw [List.take_succ_eq_append_getElem (by simp; omega)]
          simp
        have HTS := Lib.hid hts
        have hlb : ((xs.drop t).take k).length ≤ 16384 := by simp; omega
        obtain ⟨x, hx⟩ : ∃ x, x = xs[t + k]'(by omega) := ⟨_, rfl⟩
        rw [← hx] at hc HTS
        clear hBg hts hx
        go_wp2_with (at_builtin; go_must (refine wpList_append_bytes rfl (.tmp 25) (.tmp 33) 23 rfl w.heap.size 5 Try.underlying23 info5 _ ((xs.drop t).take k) rfl (hO.non ((Keeps.refl Non _).alloc _)) (some ⟨wr.heap.size, 0, none⟩) 1 1 [x] rfl rfl (At.one _ _ _ _ rfl) (by simp; omega) (by simp; omega) ?_); intro v2 w3 hO2 hK2 hat; have hk2 := (hK.alloc _).then hK2 (fun i hi e => by have := hO.new i e; omega); clear hO hK hK2 hat)
        go_roundw
        case rel => exact ⟨k + 1, by omega, by go_num, by rw [HTS.out]; exact hO2, hk2⟩
        case measure => simp [intOf]; omega
      · obtain rfl : k = m := by omega
        go_wp2_with fail
        go_ret2
        exact ⟨_, rfl, hO, hK⟩
end Go.Proofs.Ytmlffigfhhoihab
