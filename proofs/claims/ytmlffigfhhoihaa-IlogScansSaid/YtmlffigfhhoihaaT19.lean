/- The walk of IlogScans. -/
import Derived.Test.YtmlffigfhhoihaaT18
namespace Go.Proofs.Ytmlffigfhhoihaa
open Go.RowKit Go.Uc

theorem scan_bad (base : Int) (A : Option Addr) (n c : Nat) (w : World) (h : base < 0 ∨ 281474976710656 < base) :
    Calls Try.prog 17 #[.int .i64 base, .slice A n c] w fun e w' => e = .returned (.tuple #[.pointer none, .slice none 0 0, .int .i64 1]) ∧ w = w' := by
  have H := Lib.hid h
  clear h
  go_enter Try.func17, Try.ntmps17
  go_wp2_with (go_at_call 8; go_must (refine (new_no base _ H.out).mono ?_); rintro e w1 ⟨rfl, rfl⟩)
  go_ret3
  exact ⟨rfl, rfl⟩
theorem refScan_bad (base : Int) (A : Option Addr) (n c : Nat) (w : World) (h : base < 0 ∨ 281474976710656 < base) :
    Calls Try.prog 21 #[.int .i64 base, .slice A n c] w fun e w' => e = .returned (.tuple #[.pointer none, .slice none 0 0, .int .i64 1]) ∧ w = w' := by
  have H := Lib.hid h
  clear h
  go_enter Try.func21, Try.ntmps21
  go_wp2_with (go_at_call 9; go_must (refine (refNew_no base _ H.out).mono ?_); rintro e w1 ⟨rfl, rfl⟩)
  go_ret3
  exact ⟨rfl, rfl⟩
theorem scan_len (base : Nat) (A : Option Addr) (n c : Nat) (w : World) (hbase : base ≤ 281474976710656) (hn : n ≠ 22528) :
    Calls Try.prog 17 #[.int .i64 base, .slice A n c] w fun e w' => e = .returned (.tuple #[.pointer none, .slice none 0 0, .int .i64 160]) ∧ Keeps Non w w' := by
  have h1 : ((n : Int) != 22528) = true := by rw [bne_iff_ne]; omega
  go_enter Try.func17, Try.ntmps17
  go_wp2_with (go_at_call 8; go_must (refine (new_ok base _ hbase).mono ?_); rintro e w1 ⟨rfl, hx, hK1⟩)
  go_ret3
  exact ⟨rfl, hK1⟩
theorem refScan_len (base : Nat) (A : Option Addr) (n c : Nat) (w : World) (hbase : base ≤ 281474976710656) (hn : n ≠ 22528) :
    Calls Try.prog 21 #[.int .i64 base, .slice A n c] w fun e w' => e = .returned (.tuple #[.pointer none, .slice none 0 0, .int .i64 160]) ∧ Keeps Non w w' := by
  have h1 : ((n : Int) != 22528) = true := by rw [bne_iff_ne]; omega
  go_enter Try.func21, Try.ntmps21
  go_wp2_with (go_at_call 9; go_must (refine (refNew_ok base _ hbase).mono ?_); rintro e w1 ⟨rfl, hx, hK1⟩)
  go_ret3
  exact ⟨rfl, hK1⟩

/-- A region of noughts that begins with bytes. -/
def regB (bs : List UInt8) : List UInt8 := bs.take 22528 ++ zeros (22528 - bs.length)
theorem regB_length (bs : List UInt8) : (regB bs).length = 22528 := by simp [regB, zeros_length]; omega

set_option maxRecDepth 100000 in
set_option maxHeartbeats 1000000 in
theorem region_any (A : Option Addr) (c : Nat) (bs : List UInt8) (w : World) (hA : At w A bs) (h64 : bs.length ≤ 140737488351232) :
    Calls Try.prog 22 #[.int .i64 0, .slice A bs.length c] w fun e w' => e = .returned (.slice (some ⟨w.heap.size, 0, none⟩) 22528 22528) ∧ Blk w' w.heap.size 5 (pc (regB bs)) ∧ Keeps Non w w' := by
  have HA := Lib.hid hA
  have hlow : ∀ ad, A = some ad → 0 < bs.length → ad.block < w.heap.size := fun ad e hp => by
    obtain ⟨ad', e', h⟩ := hA.lt hp
    rw [e] at e'
    injection e' with e'
    rw [e']; exact h
  have HLow := Lib.hid hlow
  clear hA hlow
  go_enter Try.func22, Try.ntmps22
  go_wp2_with (at_make; go_must (refine wpList_make_bytes rfl _ _ 31 rfl 5 Try.underlying31 info5 .i64 .i64 _ _ 22528 rfl rfl (by omega) (by omega) (by omega) ?_); intro w1 hB1 hK1)
  obtain ⟨g, hg⟩ : ∃ g, g = w.heap.size := ⟨_, rfl⟩
  rw [← hg] at hB1 ⊢
  have hgl := hB1.lt
  have hgw : w.heap.size ≤ g := by omega
  have HG := Lib.hid hg
  clear hg
  go_loopw [6] (fun i wr => ∃ k : Nat, k ≤ bs.length ∧ k ≤ 22528 ∧ i = .int .i64 k ∧ Blk wr g 5 (pc (bs.take k ++ zeros (22528 - k))) ∧ Keeps (Only g) w1 wr) (fun i _ => bs.length - (intOf i).toNat)
  case atStart => exact ⟨0, Nat.zero_le _, Nat.zero_le _, rfl, by simpa using hB1, Keeps.refl _ _⟩
  case round =>
    obtain ⟨k, hk, hk2, rfl, hB, hK⟩ := hrel
    by_cases hlt : k < bs.length
    · by_cases hl2 : k < 22528
      · obtain ⟨b, off, rfl, hc0⟩ := HA.out.at_ (k := k) hlt
        have hne : b ≠ g := by have := HLow.out _ rfl (by omega); simp at this; omega
        have hc1 : wr.cell? ⟨b, off + k, none⟩ = some (.int .u8 (bs[k]).toNat) := hK.cell (hK1.cell hc0 id) hne
        have hlen : (bs.take k ++ zeros (22528 - k)).length = 22528 := by simp [zeros_length]; omega
        obtain ⟨v7, hv7⟩ : ∃ v7, wr.cell? ⟨g, k, none⟩ = some v7 := ⟨_, hB.byte (i := k) (by omega)⟩
        have hf := hB.frozen k
        have hnew := hB.set k (bv bs[k])
        have e1 := set_zeros (bs.take k) k 22528 bs[k] hl2
        rw [show (bs.take k).length = k by simp; omega] at e1
        rw [set_pc, e1, take_snoc _ _ hlt] at hnew
        have HN := Lib.hid hnew
        have HKN := Lib.hid (hK.set (p := ⟨g, k, none⟩) rfl (bv bs[k]))
        clear hc0 hlen e1 hnew hB hK
        go_wp2
        go_roundw
        case rel => exact ⟨k + 1, by omega, by omega, by go_num, HN.out, HKN.out⟩
        case measure => simp [intOf]; omega
      · obtain rfl : k = 22528 := by omega
        have e1 : bs.take 22528 ++ zeros (22528 - 22528) = regB bs := by
          unfold regB
          congr 2
          omega
        rw [e1] at hB
        have hK' := hK1.then hK (T := Only g) fun i hi e => by unfold Only at e; omega
        clear e1
        go_wp2
        go_ret
        rw [← HG.out]
        exact ⟨rfl, hB, hK'⟩
    · obtain rfl : k = bs.length := by omega
      have e1 : bs.take bs.length ++ zeros (22528 - bs.length) = regB bs := by
        unfold regB
        rw [List.take_length, List.take_of_length_le hk2]
      rw [e1] at hB
      have hK' := hK1.then hK (T := Only g) fun i hi e => by unfold Only at e; omega
      clear e1
      go_wp2
      go_ret
      rw [← HG.out]
      exact ⟨rfl, hB, hK'⟩

theorem scanF_facts {reg : List UInt8} (hl : reg.length = 22528) (base : Nat) : ∀ f at_ next, at_ ≤ 22528 → (∀ b ∈ (scanF reg base f at_ next).1, b.length ≤ 4096) ∧ (scanF reg base f at_ next).1.length ≤ f ∧ (scanF reg base f at_ next).2.1 ≤ 22528 ∧ (scanF reg base f at_ next).2.2 ≤ next + f
  | 0, at_, next, h => by simp [scanF]; exact h
  | f + 1, at_, next, h => by
    cases hr : recOf reg base at_ next with
    | none => rw [scanF_stop hr]; simp; omega
    | some b =>
      obtain ⟨h1, h2, h3⟩ := recOf_some hl hr
      obtain ⟨g1, g2, g3, g4⟩ := scanF_facts hl base f (at_ + 88 * pieces b.length) (next + 1) h2
      rw [scanF, hr]
      refine ⟨fun x hx => ?_, by simp; omega, g3, by simp; omega⟩
      rcases List.mem_cons.1 hx with rfl | hx
      · exact h1
      · exact g1 x hx
theorem RowD.own_recs {w : World} {B : Nat} {v : Value} {ls : List (List UInt8)} (h : RowD w B v ls) (hl : ∀ b ∈ ls, b.length ≤ 4096) : ∃ A c, v = .slice A ls.length c ∧ Recs w A ls ∧ ls.length ≤ c := by
  obtain ⟨vs, h1, h2, h3, _⟩ := h
  refine RowB.recs ⟨vs, h1, h2, fun i a b => OwnB.slb (h3 i a b) ?_⟩
  have := hl _ (List.getElem_mem a)
  omega
theorem RowB.own_recs' {w : World} {B : Nat} {v : Value} {ls : List (List UInt8)} (h : RowB w B (OwnB w B 5) v ls) (hl : ∀ b ∈ ls, b.length ≤ 4096) : ∃ A c, v = .slice A ls.length c ∧ Recs w A ls ∧ ls.length ≤ c := by
  obtain ⟨vs, h1, h2, h3⟩ := h
  refine RowB.recs ⟨vs, h1, h2, fun i a b => OwnB.slb (h3 i a b) ?_⟩
  have := hl _ (List.getElem_mem a)
  omega
theorem Blk.apart {w : World} {B size g n : Nat} {e t : TypeId} {u : Value} {vs : List Value} {cs : Array Value} (h : Blk w g t cs) (r : w.ownsRow B e size u n vs) (hne : t ≠ e) : ¬ Owned u g := by
  intro hu
  rcases r.2 with ⟨rfl, _⟩ | ⟨g1, c1, cu1, rfl, _, hh1, _⟩
  · cases hu
  · simp [Owned, Value.ownBlock] at hu
    subst hu
    unfold Blk at h
    rw [h] at hh1
    injection hh1 with hh1
    injection hh1 with _ hh1
    exact hne hh1
theorem row_at {w : World} {B n c : Nat} {e : TypeId} {A : Option Addr} {vs : List Value} (r : w.ownsRow B e 1 (.slice A n c) n vs) {i : Nat} (hi : i < n) (hv : i < vs.length) : ∃ g, A = some ⟨g, 0, none⟩ ∧ w.cell? ⟨g, i, none⟩ = some vs[i] := by
  obtain ⟨g, cap, cur, e1, h2, h3, h4, h5, h6, h7⟩ := row_form r (by omega)
  injection e1 with e1
  refine ⟨g, e1, ?_⟩
  rw [h3.cell]
  have e2 : (cur.toList.take (n * 1))[i]? = some vs[i] := by rw [h7]; simp [hv]
  rw [List.getElem?_take, if_pos (by omega)] at e2
  simpa using e2
end Go.Proofs.Ytmlffigfhhoihaa
