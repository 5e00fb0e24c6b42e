import Derived.Test.YtmlffigfhhoihaaT1
import Derived.Test.YtmlffigfhhoihaaT2
import Derived.Deep.RegionLaw
namespace Go.Proofs.Ytmlffigfhhoihaa
open Go.RowKit Go.Uc

def chunk (bs : List UInt8) (k : Nat) : List UInt8 := (bs.drop (68 * k)).take 68
def headB (base next k m : Nat) : List UInt8 := le 8 base ++ le 4 next ++ le 2 k ++ le 2 (pieces m) ++ le 4 m
/-- A piece as it is laid down. -/
def pieceB (base next k : Nat) (bs : List UInt8) : List UInt8 := headB base next k bs.length ++ (chunk bs k ++ zeros (68 - (chunk bs k).length))
theorem chunk_le (bs : List UInt8) (k : Nat) : (chunk bs k).length ≤ 68 := by simp [chunk]; omega
theorem chunk_length (bs : List UInt8) (k : Nat) : (chunk bs k).length = Nat.min (bs.length - 68 * k) 68 := by simp [chunk, Nat.min_comm]
theorem headB_length (base next k m : Nat) : (headB base next k m).length = 20 := by simp [headB, le_length]
theorem pieceB_length (base next k : Nat) (bs : List UInt8) : (pieceB base next k bs).length = 88 := by
  have := chunk_le bs k
  simp [pieceB, headB_length, zeros_length]; omega

theorem put_app (a : List UInt8) (size n z : Nat) (_h : size ≤ z) : put (a ++ zeros z) a.length size n = (a ++ le size n) ++ zeros (z - size) := by
  simp [put, List.drop_append, zeros]
theorem puts (base next k m : Nat) : put (put (put (put (put (zeros 88) 0 8 base) 8 4 next) 12 2 k) 14 2 (pieces m)) 16 4 m = headB base next k m ++ zeros 68 := by
  have e1 : put (zeros 88) 0 8 base = le 8 base ++ zeros 80 := put_app [] 8 base 88 (by omega)
  have e2 : put (le 8 base ++ zeros 80) 8 4 next = (le 8 base ++ le 4 next) ++ zeros 76 := by
    have := put_app (le 8 base) 4 next 80 (by omega); rwa [le_length] at this
  have e3 : put ((le 8 base ++ le 4 next) ++ zeros 76) 12 2 k = (le 8 base ++ le 4 next ++ le 2 k) ++ zeros 74 := by
    have := put_app (le 8 base ++ le 4 next) 2 k 76 (by omega); rwa [List.length_append, le_length, le_length] at this
  have e4 : put ((le 8 base ++ le 4 next ++ le 2 k) ++ zeros 74) 14 2 (pieces m) = (le 8 base ++ le 4 next ++ le 2 k ++ le 2 (pieces m)) ++ zeros 72 := by
    have := put_app (le 8 base ++ le 4 next ++ le 2 k) 2 (pieces m) 74 (by omega); rwa [List.length_append, List.length_append, le_length, le_length, le_length] at this
  have e5 : put ((le 8 base ++ le 4 next ++ le 2 k ++ le 2 (pieces m)) ++ zeros 72) 16 4 m = headB base next k m ++ zeros 68 := by
    have := put_app (le 8 base ++ le 4 next ++ le 2 k ++ le 2 (pieces m)) 4 m 72 (by omega); rwa [List.length_append, List.length_append, List.length_append, le_length, le_length, le_length, le_length] at this
  rw [e1, e2, e3, e4, e5]

theorem zero59 (w : World) : (zeroValue 59).run Try.prog w = .ok (.agg (pc (zeros 88))) w := by kernel_rfl

theorem laid_keep {w w6 w7 : World} (h : Keeps Non w w6) (k : Keeps (Only w.heap.size) w6 w7) : Keeps Non w w7 := h.then k fun i hi e => by unfold Only at e; omega
set_option maxRecDepth 10000 in
set_option maxHeartbeats 1000000 in
theorem laid_any (g base at_ next k c : Nat) (bs : List UInt8) (A : Option Addr) (w : World) (hb : LogB w g 53 base at_ next) (hn : bs.length ≤ 4096) (hk : k ≤ 60) (hc : bs.length ≤ c) (hA : At w A bs)
    (hbase : base < 9223372036854775808) (hnext : next < 9223372036854775808) :
    Calls Try.prog 26 #[.pointer (some ⟨g, 0, none⟩), .slice A bs.length c, .int .i64 k] w fun e w' => e = .returned (.agg (pc (pieceB base next k bs))) ∧ Keeps Non w w' := by
  have c0 : w.cell? ⟨g, 0, none⟩ = some (.int .i64 base) := hb.cell 0
  have c1 : w.cell? ⟨g, 1, none⟩ = some (.int .i64 at_) := hb.cell 1
  have c2 : w.cell? ⟨g, 2, none⟩ = some (.int .i64 next) := hb.cell 2
  have hlt := Blk.lt hb
  have hz := zero59
  go_enter Try.func26, Try.ntmps26
  go_wp2_with fail
  have hB0 : Blk ((w.alloc (.cells (pc (zeros 88)) 59)).alloc (.cells (pc (zeros 88)) 59)) (w.heap.size + 1) 59 (pc (zeros 88)) := by
    have := Blk.new (w.alloc (.cells (pc (zeros 88)) 59)) 59 (pc (zeros 88)); simpa using this
  have hR : Blk ((w.alloc (.cells (pc (zeros 88)) 59)).alloc (.cells (pc (zeros 88)) 59)) w.heap.size 59 (pc (zeros 88)) := (Blk.new w 59 (pc (zeros 88))).alloc _
  have hK : Keeps Non w ((w.alloc (.cells (pc (zeros 88)) 59)).alloc (.cells (pc (zeros 88)) 59)) := ((Keeps.refl _ _).alloc _).alloc _
  generalize ((w.alloc (.cells (pc (zeros 88)) 59)).alloc (.cells (pc (zeros 88)) 59)) = W0 at *
  have nR : w.heap.size ≠ w.heap.size + 1 := by omega
  have nG : g ≠ w.heap.size + 1 := by omega
  have hb0 : LogB W0 g 53 base at_ next := Blk.non hb hK
  clear c0 c1 c2 hz
  refine (put_any _ 59 _ 0 8 base _ hB0 (by simp [zeros_length]) (by omega) (by omega) (by omega)).mono ?_
  rintro e w1 ⟨rfl, hB1, hK1⟩
  have hb1 := Blk.one hb0 hK1 nG
  have c2 : w1.cell? ⟨g, 2, none⟩ = some (.int .i64 next) := hb1.cell 2
  have hR1 := hR.one hK1 nR
  clear hb0 hB0 hR
  go_wp2_with fail
  have L1 := put88 0 8 base (zeros_length 88) (by omega)
  have L2 := put88 8 4 next L1 (by omega)
  have L3 := put88 12 2 k L2 (by omega)
  have L4 := put88 14 2 (pieces bs.length) L3 (by omega)
  refine (put_any _ 59 _ 8 4 next _ hB1 L1 (by omega) (by omega) (by omega)).mono ?_
  rintro e w2 ⟨rfl, hB2, hK2⟩
  have hR2 := hR1.one hK2 nR
  have hK12 := hK1.trans hK2
  clear hb1 hB1 hR1 c2 hK1 hK2
  go_wp2_with fail
  refine (put_any _ 59 _ 12 2 k _ hB2 L2 (by omega) (by omega) (by omega)).mono ?_
  rintro e w3 ⟨rfl, hB3, hK3⟩
  have hR3 := hR2.one hK3 nR
  have hK13 := hK12.trans hK3
  clear hB2 hR2 hK12 hK3
  have hp := pieces_le bs.length hn
  go_wp2_with (go_at_call 25; refine (pieces_any _ _ (by omega)).mono ?_; rintro e w' ⟨rfl, rfl⟩)
  refine (put_any _ 59 _ 14 2 (pieces bs.length) _ hB3 L3 (by omega) (by omega) (by omega)).mono ?_
  rintro e w4 ⟨rfl, hB4, hK4⟩
  have hR4 := hR3.one hK4 nR
  have hK14 := hK13.trans hK4
  clear hB3 hR3 hK13 hK4
  go_wp2_with fail
  refine (put_any _ 59 _ 16 4 bs.length _ hB4 L4 (by omega) (by omega) (by omega)).mono ?_
  rintro e w5 ⟨rfl, hB5, hK5⟩
  have hR5 := hR4.one hK5 nR
  have hK15 := hK14.trans hK5
  clear hB4 hR4 hK14 hK5
  rw [puts] at hB5
  clear L1 L2 L3 L4
  go_wp2_with fail
  obtain ⟨s, hs⟩ : ∃ s : Nat, s = 68 * k := ⟨_, rfl⟩
  have W1 : IntKind.i64.wrap ((k : Int) * 68) = (s : Int) := by rw [IntWalk.i64_in _ (by omega)]; omega
  have HC : Hid ((chunk bs k).length = Nat.min (bs.length - s) 68) := by rw [hs]; exact chunk_length bs k
  have HF : Hid (20 + (chunk bs k).length ≤ (headB base next k bs.length ++ zeros 68).length) := by
    have := chunk_le bs k
    show _ ≤ _
    simp [headB_length, zeros_length]; omega
  have hAs : At w5.drew (A.map (·.add s)) (chunk bs k) := by
    have h5 : At w5 A bs := hA.non (hK.then hK15 fun i hi e => by unfold Only at e; omega)
    rw [hs]
    exact (h5.drop (68 * k)).take 68
  have HE : Hid (bs.length ≤ s → chunk bs k = []) := fun h => List.eq_nil_of_length_eq_zero (by rw [chunk_length]; show min _ _ = 0; omega)
  clear hs
  have HA := Lib.hid hAs
  clear hA hAs
  have fin : ∀ w6, Blk w6 (w.heap.size + 1) 59 (pc ((headB base next k bs.length ++ zeros 68).take 20 ++ (chunk bs k ++ (headB base next k bs.length ++ zeros 68).drop (20 + (chunk bs k).length)))) → Keeps (Only (w.heap.size + 1)) w5.drew w6 →
      Blk w6 (w.heap.size + 1) 59 (pc (pieceB base next k bs)) ∧ Blk w6 w.heap.size 59 (pc (zeros 88)) ∧ Keeps Non w w6 := by
    intro w6 h6 k6
    refine ⟨?_, hR5.drew.one k6 nR, hK.then ((hK15.drew).trans k6) fun i hi e => by unfold Only at e; omega⟩
    have e : (headB base next k bs.length ++ zeros 68).take 20 ++ (chunk bs k ++ (headB base next k bs.length ++ zeros 68).drop (20 + (chunk bs k).length)) = pieceB base next k bs := by
      have hl := headB_length base next k bs.length
      rw [List.take_left' hl, List.drop_append, List.drop_eq_nil_of_le (by omega), hl, Nat.add_sub_cancel_left, zeros_drop]
      rfl
    rwa [e] at h6
  have HFin := Lib.hid fin
  clear fin
  by_cases hlt' : s < bs.length
  · have d1 : ¬ ((bs.length : Int) < (s : Int)) := by omega
    have d2 : ¬ c = s := by omega
    have d3 : s ≤ bs.length := by omega
    go_region_law (refine step_copy_bytes (o := ⟨some 35, _, _, _, _, _⟩) rfl (.tmp 27) (.tmp 34) 31 31 rfl 5 (by kernel_rfl) (by kernel_rfl) (some ⟨w.heap.size + 1, 20, none⟩) _ 68 68 _ _ rfl rfl (w.heap.size + 1) 20 _ 59 hB5.drew (chunk bs k) HC.out rfl HA.out HF.out ?_; intro w6 hB6 hK6)
    (obtain ⟨hB7, hR7, hK7⟩ := HFin.out _ hB6 hK6; clear hB6 hK6 HFin HF HE HA W1 hB5 hR5; go_wp2_with ((with_reducible show wpList _ _ _ _ _ _); refine wpList_load_row (o := ⟨some 36, _, _, _, _, _⟩) rfl 59 (.tmp 7) rfl (w.heap.size + 1) rfl 59 (pc (pieceB base next k bs)) (0, 0) (.array 88 5) hB7 Try.underlying59 rfl (by rw [pc_size, pieceB_length]; kernel_rfl) ?_; refine wpList_store_blk rfl 59 (.tmp 6) (.tmp 36) rfl w.heap.size (pc (pieceB base next k bs)) rfl rfl 59 (pc (zeros 88)) hR7 (by rw [pc_size, pieceB_length]; kernel_rfl) (by rw [pc_size, pc_size, pieceB_length, zeros_length]) (pc_all _) ?_; intro w7 hR8 hK8; have hK9 := laid_keep hK7 hK8; clear hB7 hR7 hK7 hK8; go_wp2_with fail; exact bodyPost_ret (v := .agg (pc (pieceB base next k bs))) (results_cell_blk rfl _ w.heap.size 59 _ (.array 88 5) rfl hR8 Try.underlying59 rfl (by rw [pc_size, pieceB_length]; kernel_rfl)) rfl ⟨rfl, hK9⟩))
  · have d0 : bs.length ≤ s := by omega
    have HC0 : Hid ((chunk bs k).length = Nat.min 0 68) := by rw [HE.out d0]; rfl
    have HA' : Hid (∀ x : Option Addr, At w5.drew x (chunk bs k)) := fun x => by rw [HE.out d0]; exact At.nil _ _
    rcases Nat.lt_or_ge bs.length s with d1 | d1
    · have d2 : (bs.length : Int) < (s : Int) := by omega
      go_region_law (refine step_copy_bytes (o := ⟨some 35, _, _, _, _, _⟩) rfl (.tmp 27) (.tmp 34) 31 31 rfl 5 (by kernel_rfl) (by kernel_rfl) (some ⟨w.heap.size + 1, 20, none⟩) _ 68 68 _ _ rfl rfl (w.heap.size + 1) 20 _ 59 hB5.drew (chunk bs k) HC0.out rfl (HA'.out _) HF.out ?_; intro w6 hB6 hK6)
      generalize (if c = bs.length then A else Option.map (fun x => x.add bs.length) A) = AA
      (obtain ⟨hB7, hR7, hK7⟩ := HFin.out _ hB6 hK6; clear hB6 hK6 HFin HF HE HA W1 hB5 hR5; go_wp2_with ((with_reducible show wpList _ _ _ _ _ _); refine wpList_load_row (o := ⟨some 36, _, _, _, _, _⟩) rfl 59 (.tmp 7) rfl (w.heap.size + 1) rfl 59 (pc (pieceB base next k bs)) (0, 0) (.array 88 5) hB7 Try.underlying59 rfl (by rw [pc_size, pieceB_length]; kernel_rfl) ?_; refine wpList_store_blk rfl 59 (.tmp 6) (.tmp 36) rfl w.heap.size (pc (pieceB base next k bs)) rfl rfl 59 (pc (zeros 88)) hR7 (by rw [pc_size, pieceB_length]; kernel_rfl) (by rw [pc_size, pc_size, pieceB_length, zeros_length]) (pc_all _) ?_; intro w7 hR8 hK8; have hK9 := laid_keep hK7 hK8; clear hB7 hR7 hK7 hK8; go_wp2_with fail; exact bodyPost_ret (v := .agg (pc (pieceB base next k bs))) (results_cell_blk rfl _ w.heap.size 59 _ (.array 88 5) rfl hR8 Try.underlying59 rfl (by rw [pc_size, pieceB_length]; kernel_rfl)) rfl ⟨rfl, hK9⟩))
    · obtain rfl : s = bs.length := by omega
      go_region_law (refine step_copy_bytes (o := ⟨some 35, _, _, _, _, _⟩) rfl (.tmp 27) (.tmp 34) 31 31 rfl 5 (by kernel_rfl) (by kernel_rfl) (some ⟨w.heap.size + 1, 20, none⟩) _ 68 68 _ _ rfl rfl (w.heap.size + 1) 20 _ 59 hB5.drew (chunk bs k) HC0.out rfl (HA'.out _) HF.out ?_; intro w6 hB6 hK6)
      generalize (if c = bs.length then A else Option.map (fun x => x.add bs.length) A) = AA
      (obtain ⟨hB7, hR7, hK7⟩ := HFin.out _ hB6 hK6; clear hB6 hK6 HFin HF HE HA W1 hB5 hR5; go_wp2_with ((with_reducible show wpList _ _ _ _ _ _); refine wpList_load_row (o := ⟨some 36, _, _, _, _, _⟩) rfl 59 (.tmp 7) rfl (w.heap.size + 1) rfl 59 (pc (pieceB base next k bs)) (0, 0) (.array 88 5) hB7 Try.underlying59 rfl (by rw [pc_size, pieceB_length]; kernel_rfl) ?_; refine wpList_store_blk rfl 59 (.tmp 6) (.tmp 36) rfl w.heap.size (pc (pieceB base next k bs)) rfl rfl 59 (pc (zeros 88)) hR7 (by rw [pc_size, pieceB_length]; kernel_rfl) (by rw [pc_size, pc_size, pieceB_length, zeros_length]) (pc_all _) ?_; intro w7 hR8 hK8; have hK9 := laid_keep hK7 hK8; clear hB7 hR7 hK7 hK8; go_wp2_with fail; exact bodyPost_ret (v := .agg (pc (pieceB base next k bs))) (results_cell_blk rfl _ w.heap.size 59 _ (.array 88 5) rfl hR8 Try.underlying59 rfl (by rw [pc_size, pieceB_length]; kernel_rfl)) rfl ⟨rfl, hK9⟩))
end Go.Proofs.Ytmlffigfhhoihaa
