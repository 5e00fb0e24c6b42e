/- room, fit, fits; find. -/
import Derived.Test.YtiieglfpmmhfiaaD1
import Derived.Test.YtiieglfpmmhfiaaShelf
namespace Go.Proofs.Ytiieglfpmmhfiaa
set_option maxRecDepth 100000
open Go.RowKit Go.Uc

/-- A row of entries. -/
abbrev RowE (w : World) (v : Value) (l : List Ent) : Prop := RowP w 56 2 encE v l
/-- What is read of entry i. -/
theorem rowE_at {w : World} {v : Value} {l : List Ent} (h : RowE w v l) {i : Nat} (hi : i < l.length) : ∃ g cap, v = .slice (some ⟨g, 0, none⟩) l.length cap ∧ l.length ≤ cap ∧ w.cell? ⟨g, i * 2, none⟩ = some (.string (str l[i].name)) ∧ w.cell? ⟨g, i * 2 + 1, none⟩ = some (.int .i64 l[i].val) ∧ (∀ j, w.frozen? ⟨g, j, none⟩ = false) ∧ g < w.heap.size := by
  obtain ⟨g, cap, e, h1, _, h2, h3, h4⟩ := h.at_ encE_len hi
  exact ⟨g, cap, e, h1, by have := h2 0 (by decide); rw [Nat.add_zero] at this; exact this, h2 1 (by decide), h3, h4⟩
theorem roomE_take (l : List Ent) (k : Nat) (hk : k < l.length) : roomE (l.take (k + 1)) = roomE (l.take k) + (5 + l[k].name.length) := by
  rw [List.take_succ_eq_append_getElem hk, roomE_app]; simp [roomE]
theorem roomE_le (l : List Ent) (k : Nat) : roomE (l.take k) ≤ roomE l := by
  conv => rhs; rw [← List.take_append_drop k l]
  rw [roomE_app]; omega

set_option maxHeartbeats 1000000 in
theorem room_any (v : Value) (l : List Ent) (hb : roomE l ≤ 1000000000000000) (w : World) (h : RowE w v l) : Calls Try.prog 57 #[v] w fun e w' => e = .returned (.int .i64 (roomE l : Int)) ∧ Keeps Non w w' := by
  obtain ⟨A, c, rfl, hc, hm⟩ := h.val
  have hst : ∀ a : List UInt8, (str a).size = a.length := str_size
  unfold maxLen at hm
  go_enter Try.func57, Try.ntmps57
  go_wp2_with fail
  go_loopw [3, 8] (fun s i wr => ∃ k r : Nat, k ≤ l.length ∧ i = .int .i64 k ∧ s = .int .i64 r ∧ Hid (r = roomE (l.take k)) ∧ Keeps Non w wr) (fun _ i _ => l.length - (intOf i).toNat)
  case atStart => exact ⟨0, 0, by omega, rfl, rfl, rfl, Keeps.refl _ _⟩
  case round =>
    obtain ⟨k, r, hk, rfl, rfl, hr, hK⟩ := hrel
    by_cases hlt : k < l.length
    · obtain ⟨g, cap, e1, _, c0, c1, _, hg⟩ := rowE_at (h.non hK) hlt
      injection e1 with e1 _ e2
      subst e1 e2
      have HR := Lib.hid (roomE_take l k hlt)
      have hle := roomE_le l (k + 1)
      generalize l[k] = x at c0 c1 HR
      have hb1 : r + (5 + x.name.length) ≤ 1000000000000000 := by rw [hr.out, ← HR.out]; omega
      clear hle
      obtain ⟨wy, rfl⟩ : ∃ W : World, W = wr := ⟨_, rfl⟩
      go_wp2_with fail
      go_roundw
      case rel => exact ⟨k + 1, r + (5 + x.name.length), by omega, by go_num, by go_num, by show _ = _; rw [HR.out, hr.out], hK.alloc _⟩
      case measure => simp [intOf]; omega
    · obtain rfl : k = l.length := by omega
      go_wp2_with fail
      go_ret
      exact ⟨by rw [hr.out, List.take_of_length_le (Nat.le_refl _)]; rfl, hK⟩
theorem fit_any (v : Value) (l : List Ent) (hb : roomE l ≤ 1000000000000000) (w : World) (h : RowE w v l) : Calls Try.prog 32 #[v] w fun e w' => e = .returned (.bool (fitE l)) ∧ Keeps Non w w' := by
  have HH := Lib.hid (room_any v l hb w h)
  clear h
  obtain ⟨f, hf⟩ : ∃ f, f = fitE l := ⟨_, rfl⟩
  have HF : Hid (f = decide (3 + roomE l ≤ 256)) := hf
  rw [← hf]
  clear hf
  generalize roomE l = r at HH hb HF
  go_enter Try.func32, Try.ntmps32
  go_wp2_with fail
  refine HH.out.mono ?_
  rintro e w' ⟨rfl, hK⟩
  go_wp2_with fail
  go_ret
  refine ⟨?_, hK⟩
  rw [HF.out]
  show Ending.returned (.bool (decide (3 + (r : Int) ≤ 256))) = _
  congr 2
  rw [Bool.eq_iff_iff]
  simp
  omega
set_option maxHeartbeats 1000000 in
theorem fits_any (v : Value) (l : List Ent) (hb : roomE l ≤ 1000000000000000) (w : World) (h : RowE w v l) : Calls Try.prog 64 #[v] w fun e w' => e = .returned (.bool (fitE l)) ∧ w' = w := by
  obtain ⟨A, c, rfl, hc, hm⟩ := h.val
  have hst : ∀ a : List UInt8, (str a).size = a.length := str_size
  unfold maxLen at hm
  obtain ⟨f, hf⟩ : ∃ f, f = fitE l := ⟨_, rfl⟩
  have HF : Hid (f = decide (3 + roomE l ≤ 256)) := hf
  rw [← hf]
  clear hf
  go_enter Try.func64, Try.ntmps64
  go_wp2_with fail
  go_loop [3, 4] (fun s i => ∃ k r : Nat, k ≤ l.length ∧ i = .int .i64 k ∧ s = .int .i64 r ∧ Hid (r = 3 + roomE (l.take k))) (fun _ i => l.length - (intOf i).toNat)
  case atStart => exact ⟨0, 3, by omega, rfl, rfl, rfl⟩
  case round =>
    obtain ⟨k, r, hk, rfl, rfl, hr⟩ := hrel
    by_cases hlt : k < l.length
    · obtain ⟨g, cap, e1, _, c0, c1, _, hg⟩ := rowE_at h hlt
      injection e1 with e1 _ e2
      subst e1 e2
      have HR := Lib.hid (roomE_take l k hlt)
      have hle := roomE_le l (k + 1)
      generalize l[k] = x at c0 c1 HR
      have hb1 : r + (5 + x.name.length) ≤ 1000000000000003 := by rw [hr.out]; have := HR.out; omega
      clear hle
      go_wp2_with fail
      go_round
      case rel => exact ⟨k + 1, r + (5 + x.name.length), by omega, by go_num, by go_num, by show _ = _; rw [HR.out, hr.out]; omega⟩
      case measure => simp [intOf]; omega
    · obtain rfl : k = l.length := by omega
      have hr2 := hr.out
      rw [List.take_of_length_le (Nat.le_refl _)] at hr2
      replace HF : Hid (f = decide (r ≤ 256)) := by show _ = _; rw [HF.out, hr2]
      clear hr2
      go_wp2_with fail
      go_ret
      refine ⟨?_, rfl⟩
      rw [HF.out]
      show Ending.returned (.bool (decide ((r : Int) ≤ 256))) = _
      congr 2
      rw [Bool.eq_iff_iff]
      simp
      omega

/-- The comparison that find hands over. -/
theorem cmp_any (x : Ent) (n : List UInt8) (w : World) : Calls Try.prog 53 #[.agg #[.string (str x.name), .int .i64 x.val], .string (str n)] w fun e w' => e = .returned (.int .i64 (Lib.compareBytes x.name n)) ∧ Keeps Non w w' := by
  have H : Hid (∀ W, Calls Try.prog 37 #[.string (str x.name), .string (str n)] W fun e w' => e = .returned (.int .i64 (Lib.compareBytes x.name n)) ∧ w' = W) := fun W => Try.strings_Compare (str x.name) (str n) W
  go_enter Try.func53, Try.ntmps53
  go_wp2_with fail
  refine (H.out _).mono ?_
  rintro e w' ⟨rfl, rfl⟩
  go_wp2_with fail
  go_ret
  exact ⟨rfl, (Keeps.refl _ _).alloc _⟩

set_option maxHeartbeats 2000000 in
theorem search_any (v : Value) (l : List Ent) (n : List UInt8) (hn : l.length ≤ 1000000000000) (hs : Srt l) (w : World) (h : RowE w v l) :
    Calls Try.prog 52 #[v, .string (str n), .func (.func 53) #[] #[]] w fun e w' => e = .returned (.tuple #[.int .i64 (lb l n : Int), .bool (has l n)]) ∧ Keeps Non w w' := by
  obtain ⟨A, c, rfl, hc, hm⟩ := h.val
  unfold maxLen at hm
  have hlb := lb_le l n
  have HL : Hid (∀ k (hk : k < l.length), lt l[k].name n = true ↔ k < lb l n) := fun k hk => lb_lt hs n hk
  have HH : Hid (has l n = true ↔ ∃ h : lb l n < l.length, l[lb l n].name = n) := has_lb hs n
  have HC : Hid (∀ (x : Ent) W, Calls Try.prog 53 #[.agg #[.string (str x.name), .int .i64 x.val], .string (str n)] W fun e w' => e = .returned (.int .i64 (Lib.compareBytes x.name n)) ∧ Keeps Non W w') := fun x W => cmp_any x n W
  clear hs
  generalize lb l n = b at hlb HL HH ⊢
  generalize has l n = hb at HH ⊢
  go_enter Try.func52, Try.ntmps52
  go_wp2_with fail
  go_loopw [9, 10] (fun s t wr => ∃ i j : Nat, i ≤ b ∧ b ≤ j ∧ j ≤ l.length ∧ s = .int .i64 i ∧ t = .int .i64 j ∧ Keeps Non w wr) (fun s t _ => (intOf t).toNat - (intOf s).toNat)
  case atStart => exact ⟨0, l.length, by omega, hlb, Nat.le_refl _, rfl, rfl, Keeps.refl _ _⟩
  case round =>
    obtain ⟨i, j, hi, hj, hjl, rfl, rfl, hK⟩ := hrel
    obtain ⟨wy, rfl⟩ : ∃ W : World, W = wr := ⟨_, rfl⟩
    by_cases hlt : i < j
    · obtain ⟨m, hmd⟩ : ∃ m, m = (i + j) / 2 := ⟨_, rfl⟩
      have hmi : i ≤ m := by omega
      have hmj : m < j := by omega
      have hm2 : ((i : Int) + (j : Int)) / 2 = (m : Int) := by omega
      have hml : m < l.length := by omega
      obtain ⟨g, cap, e1, _, c0, c1, _, hg⟩ := rowE_at (h.non hK) hml
      injection e1 with e1 _ e2
      subst e1 e2
      have HLm := Lib.hid (HL.out m hml)
      generalize l[m] = x at c0 c1 HLm
      have HCx := Lib.hid (HC.out x)
      have HN := Lib.hid (cmp_neg x.name n)
      obtain ⟨r, hr⟩ : ∃ r, r = Lib.compareBytes x.name n := ⟨_, rfl⟩
      rw [← hr] at HCx HN
      clear hr hmd
      by_cases hr0 : r < 0
      · have hmb : m < b := HLm.out.1 (HN.out.1 hr0)
        go_wp2_with (go_at_call 53; refine (HCx.out _).mono ?_; rintro e w2 ⟨rfl, hK2⟩)
        go_roundw
        case rel => exact ⟨m + 1, j, by omega, hj, hjl, by go_num, rfl, hK.non hK2⟩
        case measure => simp [intOf]; omega
      · have hmb : b ≤ m := by
          rcases Nat.lt_or_ge m b with h1 | h1
          · exact absurd (HN.out.2 (HLm.out.2 h1)) hr0
          · exact h1
        go_wp2_with (go_at_call 53; refine (HCx.out _).mono ?_; rintro e w2 ⟨rfl, hK2⟩)
        go_roundw
        case rel => exact ⟨i, m, hi, hmb, by omega, rfl, rfl, hK.non hK2⟩
        case measure => simp [intOf]; omega
    · obtain rfl : i = b := by omega
      by_cases hil : i < l.length
      · obtain ⟨g, cap, e1, _, c0, c1, _, hg⟩ := rowE_at (h.non hK) hil
        injection e1 with e1 _ e2
        subst e1 e2
        have HHi : Hid (hb = true ↔ l[i].name = n) := ⟨fun h => (HH.out.1 h).2, fun h => HH.out.2 ⟨hil, h⟩⟩
        generalize l[i] = x at c0 c1 HHi
        have HCx := Lib.hid (HC.out x)
        have HN := Lib.hid (cmp_zero x.name n)
        obtain ⟨r, hr⟩ : ∃ r, r = Lib.compareBytes x.name n := ⟨_, rfl⟩
        rw [← hr] at HCx HN
        clear hr
        by_cases hr0 : r = 0
        · obtain rfl : hb = true := HHi.out.2 (HN.out.1 hr0)
          have hr1 : (r == 0) = true := by simpa using hr0
          clear hr0
          go_wp2_with (go_at_call 53; refine (HCx.out _).mono ?_; rintro e w2 ⟨rfl, hK2⟩)
          go_ret2
          exact ⟨rfl, hK.non hK2⟩
        · obtain rfl : hb = false := by
            cases hb with
            | false => rfl
            | true => exact absurd (HN.out.2 (HHi.out.1 rfl)) hr0
          have hr1 : (r == 0) = false := by simpa using hr0
          clear hr0
          go_wp2_with (go_at_call 53; refine (HCx.out _).mono ?_; rintro e w2 ⟨rfl, hK2⟩)
          go_ret2
          exact ⟨rfl, hK.non hK2⟩
      · obtain rfl : hb = false := by
          cases hb with
          | false => rfl
          | true => obtain ⟨h1, _⟩ := HH.out.1 rfl; exact absurd h1 hil
        go_wp2_with fail
        go_ret2
        exact ⟨rfl, hK⟩
theorem find_any (v : Value) (l : List Ent) (n : List UInt8) (hn : l.length ≤ 1000000000000) (hs : Srt l) (w : World) (h : RowE w v l) :
    Calls Try.prog 28 #[v, .string (str n)] w fun e w' => e = .returned (.tuple #[.int .i64 (lb l n : Int), .bool (has l n)]) ∧ Keeps Non w w' := by
  have H := Lib.hid (search_any v l n hn hs w h)
  clear h hs hn
  generalize lb l n = b at H ⊢
  generalize has l n = t at H ⊢
  go_enter Try.func28, Try.ntmps28
  go_wp2_with fail
  refine H.out.mono ?_
  rintro e w' ⟨rfl, hK⟩
  go_wp2_with fail
  go_ret2
  exact ⟨rfl, hK⟩
end Go.Proofs.Ytiieglfpmmhfiaa
