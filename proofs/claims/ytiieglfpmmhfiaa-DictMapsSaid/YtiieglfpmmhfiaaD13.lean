/- SameEntries, New, pick, Get. -/
import Derived.Test.YtiieglfpmmhfiaaD12
import Derived.Test.YtiieglfpmmhfiaaD9
import Derived.RegionTactic
namespace Go.Proofs.Ytiieglfpmmhfiaa
set_option maxRecDepth 100000
open Go.RowKit Go.Uc

instance : DecidableEq Ent := fun a b => decidable_of_iff (a.name = b.name ∧ a.val = b.val) ⟨fun h => Ent.ext' h.1 h.2, fun h => by rw [h]; exact ⟨rfl, rfl⟩⟩
theorem take_eq_succ {a b : List Ent} {k : Nat} (hk : k < a.length) (hb : k < b.length) (h : a.take k = b.take k) : a.take (k + 1) = b.take (k + 1) ↔ a[k] = b[k] := by
  rw [List.take_succ_eq_append_getElem hk, List.take_succ_eq_append_getElem hb, h]
  constructor
  · intro e
    have := List.append_cancel_left e
    injection this
  · intro e; rw [e]
set_option maxHeartbeats 2000000 in
theorem sameE_any {w : World} {sa sb : Sl} {a b : List Ent} (ha : RowE w sa.v a) (hb : RowE w sb.v b) :
    Calls Try.prog 11 #[sa.v, sb.v] w fun e w' => e = .returned (.bool (decide (a = b))) ∧ ∃ q, w' = w.drewN q := by
  obtain ⟨aA, ac, hae, hle1, hle2⟩ := ha.val
  have hmx : a.length ≤ 9223372036854775807 := by unfold maxLen at hle2; omega
  clear hle1 hle2
  obtain ⟨bA, bc, hbe, -, -⟩ := hb.val
  rw [hae, hbe]
  rw [hae] at ha
  rw [hbe] at hb
  clear hae hbe
  by_cases hl : a.length = b.length
  · have hlb : ((a.length : Int) != (b.length : Int)) = false := by simp [hl]
    have HL := Lib.hid hl
    clear hl
    go_enter Try.func11, Try.ntmps11
    go_upto_region 4 with fail
    go_loopw [5] (fun i wr => ∃ k, k ≤ a.length ∧ i = .int .i64 (k : Int) ∧ Hid (a.take k = b.take k) ∧ ∃ q, wr = w.drewN q) (fun i _ => a.length - (intOf i).toNat)
    case atStart => exact ⟨0, Nat.zero_le _, rfl, rfl, 0, rfl⟩
    case round =>
      obtain ⟨k, hk, rfl, hE, q, hq⟩ := hrel
      obtain ⟨wx, rfl⟩ : ∃ W : World, W = wr := ⟨_, rfl⟩
      have hK : Keeps Non w wx := by rw [hq]; exact (Keeps.refl _ _).drewN q
      have HQ := Lib.hid hq
      clear hq
      by_cases hlt : k < a.length
      · have hltb : k < b.length := by have := HL.out; omega
        obtain ⟨ga, ca, ea, -, x0, x1, -, -⟩ := rowE_at ((ha.non hK).non (Keeps.refl Non wx).drew) hlt
        obtain ⟨gb, cb, eb, -, y0, y1, -, -⟩ := rowE_at ((hb.non hK).non (Keeps.refl Non wx).drew) hltb
        injection ea with ea1 ea2 ea3
        injection eb with eb1 eb2 eb3
        clear ea2 eb2
        subst ea1 ea3 eb1 eb3
        have HTK := Lib.hid (take_eq_succ hlt hltb hE.out)
        have HAB : Hid (a.take (k + 1) ≠ b.take (k + 1) → a ≠ b) := Lib.hid (fun h e => h (by rw [e]))
        have hi1 : (k : Int) < (a.length : Int) := by omega
        have hi2 : (k : Int) < (b.length : Int) := by omega
        generalize a[k] = ea at x0 x1 HTK
        generalize b[k] = eb at y0 y1 HTK
        by_cases hn : (str ea.name).toList = (str eb.name).toList
        · by_cases hv : ea.val = eb.val
          · have HEE : Hid (ea = eb) := Lib.hid (Ent.ext' (by rw [str_toList, str_toList] at hn; exact hn) hv)
            go_upto_region 6 with fail
            go_region
            go_wp2_with fail
            go_roundw
            case rel => exact ⟨k + 1, by omega, by go_num, Lib.hid (HTK.out.2 HEE.out), q + 1, by rw [HQ.out]; rfl⟩
            case measure => simp [intOf]; omega
          · have HD : Hid (decide (a = b) = false) := Lib.hid (decide_eq_false (HAB.out fun e => hv (by rw [HTK.out.1 e])))
            go_upto_region 6 with fail
            go_region
            go_wp2_with fail
            go_ret
            exact ⟨by rw [HD.out]; rfl, q + 1, by rw [HQ.out]; rfl⟩
        · have HD : Hid (decide (a = b) = false) := Lib.hid (decide_eq_false (HAB.out fun e => hn (by rw [HTK.out.1 e])))
          go_upto_region 6 with fail
          go_region
          go_wp2_with fail
          go_ret
          exact ⟨by rw [HD.out]; rfl, q + 1, by rw [HQ.out]; rfl⟩
      · obtain rfl : k = a.length := by omega
        have hab : a = b := by
          have := hE.out
          rw [List.take_of_length_le (Nat.le_refl _), List.take_of_length_le (by have := HL.out; omega)] at this
          exact this
        have HD : Hid (decide (a = b) = true) := Lib.hid (decide_eq_true hab)
        go_wp2_with fail
        go_ret
        exact ⟨by rw [HD.out]; rfl, q, HQ.out⟩
  · have hlb : ((a.length : Int) != (b.length : Int)) = true := by simp; omega
    have HD : Hid (decide (a = b) = false) := Lib.hid (decide_eq_false fun e => hl (by rw [e]))
    clear hl
    go_enter Try.func11, Try.ntmps11
    go_wp2_with fail
    go_ret
    exact ⟨by rw [HD.out]; rfl, 0, rfl⟩
def emptyD : Dic := ⟨true, 0, [0], [⟨0, []⟩]⟩
theorem empty_inv : Inv emptyD := by
  refine ⟨⟨⟨?_, ?_, ?_, ?_, ?_, ?_, ?_⟩, ?_, ?_, ?_, ?_⟩, ?_⟩
  · decide
  · decide
  · intro x hx; simp [emptyD] at hx ⊢; exact hx
  · decide
  · intro x hx; simp [emptyD] at hx; subst hx; exact List.Pairwise.nil
  · intro x hx; simp [emptyD] at hx; subst hx; decide
  · intro x hx; simp [emptyD] at hx; subst hx; decide
  · intro k hk
    simp [emptyD] at hk
    subst hk
    refine ⟨0, by decide, fun i hi => ?_⟩
    simp [emptyD] at hi
    subst hi
    decide
  · intro k hk e he; simp [emptyD] at hk; subst hk; simp [emptyD, leafAt] at he
  · intro k hk e he; simp [emptyD] at hk; subst hk; simp [emptyD, leafAt] at he
  · intro _; decide
  · exact ⟨0, by decide, by decide⟩
theorem val_empty (n : List UInt8) : val emptyD n = none := by
  unfold val kOf plc
  have : hash n % 2 ^ emptyD.depth = 0 := Nat.mod_one _
  rw [this]
  rfl
set_option maxHeartbeats 1000000 in
theorem new_any (w : World) : Calls Try.prog 8 #[] w fun e w' => ∃ g t l ps, e = .returned (.pointer (some ⟨g, 0, none⟩)) ∧ DictM 69 66 w' g emptyD t l ps ∧ (∀ q ∈ foot g t l ps, w.heap.size ≤ q) ∧ Keeps Non w w' := by
  have k1 := (Keeps.refl Non w).alloc (.cells #[.int .i64 0] 3)
  have b1 := Blk.new w 3 #[.int .i64 0]
  obtain ⟨w1, hw1⟩ : ∃ W : World, W = w.alloc (.cells #[.int .i64 0] 3) := ⟨_, rfl⟩
  rw [← hw1] at k1 b1
  have k2 := (Keeps.refl Non w1).alloc (.cells #[.int .i64 0, .slice none 0 0] 66)
  have b2 := Blk.new w1 66 #[.int .i64 0, .slice none 0 0]
  obtain ⟨w2, hw2⟩ : ∃ W : World, W = w1.alloc (.cells #[.int .i64 0, .slice none 0 0] 66) := ⟨_, rfl⟩
  rw [← hw2] at k2 b2
  have k3 := (Keeps.refl Non w2).alloc (.cells #[.bool true, .int .i64 0, .slice (some ⟨w.heap.size, 0, none⟩) 1 1, .slice (some ⟨w1.heap.size, 0, none⟩) 1 1] 69)
  have b3 := Blk.new w2 69 #[.bool true, .int .i64 0, .slice (some ⟨w.heap.size, 0, none⟩) 1 1, .slice (some ⟨w1.heap.size, 0, none⟩) 1 1]
  have z1 : w1.heap.size = w.heap.size + 1 := by rw [hw1]; simp
  have z2 : w2.heap.size = w1.heap.size + 1 := by rw [hw2]; simp
  have HM : Hid (DictM 69 66 (w2.alloc (.cells #[.bool true, .int .i64 0, .slice (some ⟨w.heap.size, 0, none⟩) 1 1, .slice (some ⟨w1.heap.size, 0, none⟩) 1 1] 69)) w2.heap.size emptyD ⟨some ⟨w.heap.size, 0, none⟩, 1, 1⟩ ⟨some ⟨w1.heap.size, 0, none⟩, 1, 1⟩ [(0, ⟨none, 0, 0⟩)]) := by
    refine Lib.hid ⟨b3, ?_, ?_, rfl, fun i hi hi' => ?_, fun i hi hi' => ?_, ?_⟩
    · have := RowP.mk (xs := [0]) encN_len (b1.non k2 |>.non k3) (cap := 1) (by simp) (by decide) rfl rfl
      exact this
    · have := RowP.mk (xs := [((0 : Nat), (⟨none, 0, 0⟩ : Sl))]) encP_len (b2.non k3) (cap := 1) (by simp) (by decide) rfl rfl
      exact this
    · simp at hi; subst hi; rfl
    · simp at hi; subst hi; exact RowP.nil _ _ _ _
    · show ([w2.heap.size, w.heap.size, w1.heap.size] : List Nat).Nodup
      simp; omega
  have HK : Hid (Keeps Non w (w2.alloc (.cells #[.bool true, .int .i64 0, .slice (some ⟨w.heap.size, 0, none⟩) 1 1, .slice (some ⟨w1.heap.size, 0, none⟩) 1 1] 69))) := Lib.hid ((k1.non k2).non k3)
  have HN : Hid (∀ q ∈ foot w2.heap.size ⟨some ⟨w.heap.size, 0, none⟩, 1, 1⟩ ⟨some ⟨w1.heap.size, 0, none⟩, 1, 1⟩ [(0, ⟨none, 0, 0⟩)], w.heap.size ≤ q) := Lib.hid (fun q hq => by
    have hq' : q ∈ ([w2.heap.size, w.heap.size, w1.heap.size] : List Nat) := hq
    simp at hq'
    omega)
  rw [z2, z1] at HM HN
  rw [z1] at HK
  subst hw2
  subst hw1
  clear k1 b1 k2 b2 k3 b3 z1 z2
  go_enter Try.func8, Try.ntmps8
  go_wp2_with fail
  go_ret
  exact ⟨_, _, _, _, rfl, HM.out, HN.out, HK.out⟩
def pickN (c : Int) (n : Nat) : Nat := ((if c < 0 then -(c + 1) else c) % (n : Int)).toNat
set_option maxHeartbeats 1000000 in
theorem pick_any (c : Int) (n : Nat) (hn : 0 < n) (hn2 : n ≤ 9223372036854775807) (h1 : -9223372036854775808 ≤ c) (h2 : c ≤ 9223372036854775807) (w : World) : Calls Try.prog 10 #[.int .i64 c, .int .i64 (n : Int)] w fun e w' => e = .returned (.int .i64 (pickN c n : Int)) ∧ w' = w := by
  have hn0 : ¬ ((n : Int) = 0) := by omega
  have hnb : ((n : Int) == 0) = false := by simp; omega
  have hm : ¬ ((n : Int) = -1) := by omega
  have hmb : ((n : Int) == -1) = false := by simp
  have hP : (pickN c n : Int) = (if c < 0 then -(c + 1) else c) % (n : Int) := by
    unfold pickN
    have := Int.emod_nonneg (if c < 0 then -(c + 1) else c) (show (n : Int) ≠ 0 by omega)
    omega
  have HP := Lib.hid hP
  clear hP
  by_cases hc : c < 0
  · have hpos : 0 ≤ -(c + 1) := by omega
    have HT : Hid (-(Int.tmod (c + 1) (n : Int)) = (pickN c n : Int)) := Lib.hid (by rw [HP.out, if_pos hc, ← Int.neg_tmod, Int.tmod_eq_emod_of_nonneg hpos])
    go_enter Try.func10, Try.ntmps10
    go_wp2_with fail
    go_ret
    exact ⟨by rw [← HT.out]; rfl, rfl⟩
  · have hpos : 0 ≤ c := by omega
    have HT : Hid (c % (n : Int) = (pickN c n : Int)) := Lib.hid (by rw [HP.out, if_neg hc])
    go_enter Try.func10, Try.ntmps10
    go_wp2_with fail
    go_ret
    exact ⟨by rw [← HT.out]; rfl, rfl⟩
def getR (o : Option Int) : Int × Bool :=
  match o with
  | some v => (v, true)
  | none => (0, false)
theorem getE_lb {l : List Ent} (hs : Srt l) (n : List UInt8) : getE l n = if h : lb l n < l.length then (if l[lb l n].name = n then some l[lb l n].val else none) else none := by
  have hh := has_lb hs n
  rw [has_getE] at hh
  cases hg : getE l n with
  | none =>
    rw [hg] at hh
    split
    · rename_i h1
      split
      · rename_i h2; have := hh.2 ⟨h1, h2⟩; cases this
      · rfl
    · rfl
  | some v =>
    rw [hg] at hh
    obtain ⟨h1, h2⟩ := hh.1 rfl
    rw [dif_pos h1, if_pos h2]
    unfold getE at hg
    obtain ⟨e, he, hv⟩ := Option.map_eq_some_iff.1 hg
    have hm := List.mem_of_find?_eq_some he
    have hn : e.name = n := by have := List.find?_some he; simpa using this
    have hpw : l.Pairwise fun a b => a.name ≠ b.name := hs.imp fun h => lt_ne h
    obtain ⟨i, hi, rfl⟩ := List.getElem_of_mem hm
    have hil : i = lb l n := by
      rcases Nat.lt_trichotomy i (lb l n) with h | h | h
      · exact absurd (hn.trans h2.symm) ((List.pairwise_iff_getElem.1 hpw) i _ hi h1 h)
      · exact h
      · exact absurd (h2.trans hn.symm) ((List.pairwise_iff_getElem.1 hpw) _ i h1 hi h)
    rw [← hv]
    subst hil
    rfl
end Go.Proofs.Ytiieglfpmmhfiaa
