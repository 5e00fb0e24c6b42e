/- Scripts upon a pair of volumes; the walk of VolumeDoes. -/
import Derived.Test.YtmlffigfhhoihabV18
namespace Go.Proofs.Ytmlffigfhhoihab
open Go.RowKit Go.Uc

/-- A script in memory ahead of B. -/
def OprsLow (w : World) (B : Nat) (A : Option Addr) (os : List Opr) : Prop := ∀ i (h : i < os.length), ∃ b off Ai ci, A = some ⟨b, off, none⟩ ∧ b < B ∧ (∀ ad, Ai = some ad → 0 < os[i].b.length → ad.block < B) ∧ w.cell? ⟨b, off + i * 4, none⟩ = some (.int .i64 os[i].kind) ∧ w.cell? ⟨b, off + i * 4 + 1, none⟩ = some (.int .i64 os[i].at_) ∧
  w.cell? ⟨b, off + i * 4 + 2, none⟩ = some (.int .i64 os[i].many) ∧ w.cell? ⟨b, off + i * 4 + 3, none⟩ = some (.slice Ai os[i].b.length ci) ∧ At w Ai os[i].b ∧ os[i].b.length ≤ ci ∧ os[i].b.length ≤ 140737488351232 ∧ I64 os[i].kind

set_option maxRecDepth 100000 in
set_option maxHeartbeats 4000000 in
theorem plays_any (B gp gx gbx gy gby c : Nat) (X : List UInt8) (A : Option Addr) (os : List Opr) (w : World) (hP : PairB w B gp gx gbx gy gby X) (hs : szB (X.length : Int) = true) (hO : OprsLow w B A os) (hn : os.length ≤ 140737488351232) :
    Calls Try.prog 17 #[.pointer (some ⟨gp, 0, none⟩), .slice A os.length c] w fun e w' => e = .returned (.bool true) ∧ Keeps (Above B) w w' := by
  have HO := Lib.hid hO
  obtain ⟨N, hN⟩ : ∃ N, N = X.length := ⟨_, rfl⟩
  rw [← hN] at hs
  have HS := Lib.hid hs
  have HP0 : Hid (X.length = N) := hN.symm
  clear hO hs hN
  go_enter Try.func17, Try.ntmps17
  go_wp2
  go_loopw [5, 6] (fun i _ wr => ∃ (k gx gbx : Nat) (X : List UInt8), k ≤ os.length ∧ i = .int .i64 k ∧ PairB wr B gp gx gbx gy gby X ∧ Hid (X.length = N) ∧ Keeps (Above B) w wr) (fun i _ _ => os.length - (intOf i).toNat)
  case atStart => exact ⟨0, gx, gbx, X, Nat.zero_le _, rfl, hP, HP0, Keeps.refl _ _⟩
  case round =>
    clear hP HP0
    obtain ⟨k, gx, gbx, X, hk, rfl, hP, HXl, hK⟩ := hrel
    by_cases hlt : k < os.length
    · obtain ⟨b, off, Ai, ci, rfl, hb, hAi, q1, q2, q3, q4, q5, q6, q7, i1⟩ := HO.out k hlt
      obtain ⟨o, ho⟩ : ∃ o, o = os[k] := ⟨_, rfl⟩
      rw [← ho] at q1 q2 q3 q4 q5 q6 q7 i1 hAi
      clear ho
      have p1 := hK.cell q1 (fun e => by unfold Above at e; simp only at e; omega)
      have p2 := hK.cell q2 (fun e => by unfold Above at e; simp only at e; omega)
      have p3 := hK.cell q3 (fun e => by unfold Above at e; simp only at e; omega)
      have p4 := hK.cell q4 (fun e => by unfold Above at e; simp only at e; omega)
      have hA := At.keep2 q5 hK (fun ad e hp e' => by have := hAi ad e hp; unfold Above at e'; omega)
      have HD := Lib.hid (does_any B gp gx gbx gy gby ci X o Ai wr hP (by rw [HXl.out]; exact HS.out) i1 hA hAi q6 q7)
      clear q1 q2 q3 q4 q5 hA hAi hP
      go_wp2_with fail
      refine HD.out.mono ?_
      rintro e w2 ⟨rfl, ⟨gx2, gbx2, X2, hP2, hl2⟩, hK2⟩
      have hk2 := hK.trans hK2
      have HL2 : Hid (X2.length = N) := hl2.trans HXl.out
      clear hK2 hK HD hl2
      go_wp2_with fail
      go_roundw
      case rel => exact ⟨k + 1, gx2, gbx2, X2, by omega, by go_num, hP2, HL2, hk2⟩
      case measure => simp [intOf]; omega
    · obtain rfl : k = os.length := by omega
      have HD := Lib.hid (does_any B gp gx gbx gy gby 0 X ⟨3, 0, 0, []⟩ none wr hP (by rw [HXl.out]; exact HS.out) ⟨by simp, by simp⟩ (At.nil _ _) (fun ad e _ => by cases e) (by simp) (by simp))
      clear hP
      go_wp2_with fail
      refine HD.out.mono ?_
      rintro e w2 ⟨rfl, -, hK2⟩
      go_wp2_with fail
      go_ret
      exact ⟨rfl, hK.trans hK2⟩

set_option maxRecDepth 100000 in
set_option maxHeartbeats 4000000 in
theorem volumeDoes_any (size : Int) (A : Option Addr) (c : Nat) (os : List Opr) (w : World) (hO : OprsLow w w.heap.size A os) (hn : os.length ≤ 140737488351232) :
    Calls Try.prog 5 #[.int .i64 size, .slice A os.length c] w fun e w' => e = .returned (.bool true) ∧ Keeps Non w w' := by
  have HO := Lib.hid hO
  clear hO
  cases hs : szB size with
  | false =>
    have HS := Lib.hid hs
    clear hs
    go_enter Try.func5, Try.ntmps5
    go_wp2_with (first
      | (go_at_call 7; go_must (refine (awake_any _).mono ?_); rintro e w1 ⟨rfl, hK1⟩)
      | (go_at_call 9; go_must (refine (new_no size _ HS.out).mono ?_); rintro e w2 ⟨rfl, rfl⟩)
      | (go_at_call 16; go_must (refine (refNew_no size _ HS.out).mono ?_); rintro e w3 ⟨rfl, rfl⟩))
    go_ret
    exact ⟨rfl, hK1⟩
  | true =>
    obtain ⟨N, rfl⟩ := Int.eq_ofNat_of_zero_le (show 0 ≤ size by simp [szB] at hs; omega)
    have HS := Lib.hid hs
    clear hs
    go_enter Try.func5, Try.ntmps5
    go_wp2_with (first
      | (go_at_call 7; go_must (refine (awake_any _).mono ?_); rintro e w1 ⟨rfl, hK1⟩)
      | (go_at_call 9; go_must (refine (new_ok N _ HS.out).mono ?_); rintro e w2 ⟨gx, gbx, rfl, hx2, hb1, hb2, hK2⟩)
      | (go_at_call 16; go_must (refine (refNew_ok N _ HS.out).mono ?_); rintro e w3 ⟨gy, gby, rfl, hy3, hb3, hb4, hK3⟩))
    have hx3 := hx2.non hK3
    have hl1 := hx2.2.1.lt
    have hka : Keeps Non w3 (w3.alloc (.cells #[.pointer (some ⟨gx, 0, none⟩), .pointer (some ⟨gy, 0, none⟩)] 47)) := (Keeps.refl _ _).alloc _
    have hkw : Keeps Non w (w3.alloc (.cells #[.pointer (some ⟨gx, 0, none⟩), .pointer (some ⟨gy, 0, none⟩)] 47)) := (((hK1.trans hK2).trans hK3)).trans hka
    have hsz := hkw.size
    have hs1 := hK1.size
    have hs2 := hK2.size
    have hs3 := hK3.size
    have hPr : PairB (w3.alloc (.cells #[.pointer (some ⟨gx, 0, none⟩), .pointer (some ⟨gy, 0, none⟩)] 47)) w.heap.size w3.heap.size gx gbx gy gby (zeros N) := ⟨Blk.new _ _ _, hx3.non hka, hy3.non hka, by omega, by omega⟩
    have hO2 : OprsLow (w3.alloc (.cells #[.pointer (some ⟨gx, 0, none⟩), .pointer (some ⟨gy, 0, none⟩)] 47)) w.heap.size A os := fun i hi => by
      obtain ⟨b, off, Ai, ci, h1, h2, h3, h4, h5, h6, h7, h8, h9⟩ := HO.out i hi
      exact ⟨b, off, Ai, ci, h1, h2, h3, hkw.cell h4 id, hkw.cell h5 id, hkw.cell h6 id, hkw.cell h7 id, h8.non hkw, h9⟩
    have HPl := Lib.hid (plays_any w.heap.size w3.heap.size gx gbx gy gby c (zeros N) A os _ hPr (by rw [zeros_length]; exact HS.out) hO2 hn)
    clear hPr hO2 hx3 hy3 hx2
    go_wp2_with fail
    refine HPl.out.mono ?_
    rintro e w5 ⟨rfl, hK5⟩
    go_wp2_with fail
    go_ret
    exact ⟨rfl, hkw.then hK5 fun i hi e => by unfold Above at e; omega⟩
end Go.Proofs.Ytmlffigfhhoihab
