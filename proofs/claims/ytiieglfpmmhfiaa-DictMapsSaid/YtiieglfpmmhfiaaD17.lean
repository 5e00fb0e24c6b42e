/- awake. -/
import Derived.Test.YtiieglfpmmhfiaaD16
import Derived.Test.YtiieglfpmmhfiaaD10
namespace Go.Proofs.Ytiieglfpmmhfiaa
set_option maxRecDepth 100000
open Go.RowKit Go.Uc

def oneD : Dic := ⟨true, 0, [0], [⟨0, [⟨[97], 5⟩]⟩]⟩
theorem kOf_flat {d : Dic} (hd : d.depth = 0) (ht : d.table = [0]) (n : List UInt8) : kOf d n = 0 := by
  unfold kOf plc
  rw [hd, ht, Nat.pow_zero, Nat.mod_one]
  rfl
theorem put_one : putD emptyD [97] 5 = (0, oneD) := by
  have hk : kOf emptyD [97] = 0 := kOf_flat rfl rfl _
  unfold putD
  rw [hk]
  rw [if_neg (by decide), if_neg (by decide), if_neg (by decide)]
  unfold putL
  show outL (if fitE (ins (leafAt emptyD (kOf emptyD [97])).l ⟨[97], 5⟩) = true then some (setL emptyD (kOf emptyD [97]) (ins (leafAt emptyD (kOf emptyD [97])).l ⟨[97], 5⟩)) else _) _ = _
  rw [hk, if_pos (by decide)]
  rfl
theorem put_two : putD oneD [] 5 = (150, oneD) := by unfold putD; rw [if_pos (by decide)]
theorem put_three : putD oneD [97] (-1) = (1, oneD) := by unfold putD; rw [if_neg (by decide), if_pos (by decide)]
theorem one_inv : Inv oneD := by
  have h := ins_inv empty_inv ⟨[97], 5⟩ (by unfold GoodE; decide) (by rw [kOf_flat rfl rfl]; decide)
  rw [kOf_flat (d := emptyD) rfl rfl] at h
  exact h
theorem val_one : val oneD [97] = some 5 := by unfold val; rw [kOf_flat rfl rfl]; rfl
theorem hash_none : v32 (hashB []) = 2166103257 := by kernel_rfl
theorem laid_one : laidB 109 (UInt8.ofNat (leafAt oneD 0).l.length) 0 (leafAt oneD 0).l = [109, 1, 0, 1, 97, 5, 0, 0, 0, 0] ++ zeros 246 := by kernel_rfl
section steps
variable {w : World} {g : Nat} {t l : Sl} {ps : List (Nat × Sl)}
theorem step_one (h : DictM 69 66 w g emptyD t l ps) : Calls Try.prog 9 #[.pointer (some ⟨g, 0, none⟩), .string { data := #[97] }, .int .i64 5] w fun e w' => e = .returned (.int .i64 0) ∧ DoneD 69 66 w g t l ps oneD w' := by
  have := put_any h empty_inv [97] (by decide) 5
  rw [put_one] at this
  exact this
theorem step_two (h : DictM 69 66 w g oneD t l ps) : Calls Try.prog 9 #[.pointer (some ⟨g, 0, none⟩), .string { data := #[] }, .int .i64 5] w fun e w' => e = .returned (.int .i64 150) ∧ DoneD 69 66 w g t l ps oneD w' := by
  have := put_any h one_inv [] (by decide) 5
  rw [put_two] at this
  exact this
theorem step_three (h : DictM 69 66 w g oneD t l ps) : Calls Try.prog 9 #[.pointer (some ⟨g, 0, none⟩), .string { data := #[97] }, .int .i64 (-1)] w fun e w' => e = .returned (.int .i64 1) ∧ DoneD 69 66 w g t l ps oneD w' := by
  have := put_any h one_inv [97] (by decide) (-1)
  rw [put_three] at this
  exact this
theorem step_four (h : DictM 69 66 w g oneD t l ps) : Calls Try.prog 25 #[.pointer (some ⟨g, 0, none⟩), .string { data := #[97] }] w fun e w' => e = .returned (.tuple #[.int .i64 5, .bool true]) ∧ Keeps Non w w' := by
  have := get_any h one_inv.ok [97] (by decide)
  rw [val_one] at this
  exact this
theorem step_five (h : DictM 69 66 w g oneD t l ps) : Calls Try.prog 22 #[.pointer (some ⟨g, 0, none⟩)] w fun e w' => ∃ (ob pb c : Nat), e = .returned (.slice (some ⟨ob, 0, none⟩) 1 1) ∧ Blk w' ob 53 #[.slice (some ⟨pb, 0, none⟩) 256 c] ∧ 256 ≤ c ∧ At w' (some ⟨pb, 0, none⟩) ([109, 1, 0, 1, 97, 5, 0, 0, 0, 0] ++ zeros 246) ∧ Keeps Non w w' := by
  have := pages_small h one_inv.toInv0 rfl
  rw [laid_one] at this
  exact this
theorem step_six (w : World) : Calls Try.prog 16 #[.string { data := #[] }] w fun e w' => e = .returned (.int .u32 2166103257) ∧ w' = w := by
  have := hash_any [] (by decide) w
  rw [hash_none] at this
  exact this
end steps
/-- Nothing of what was there has changed, since the dictionary is new. -/
theorem DoneD.new {w0 w w' : World} {g : Nat} {t l : Sl} {ps : List (Nat × Sl)} {d' : Dic} (h : DoneD 69 66 w g t l ps d' w') (hK : Keeps Non w0 w) (hN : ∀ q ∈ foot g t l ps, w0.heap.size ≤ q) :
    ∃ t2 l2 ps2, DictM 69 66 w' g d' t2 l2 ps2 ∧ Keeps Non w0 w' ∧ ∀ q ∈ foot g t2 l2 ps2, w0.heap.size ≤ q := by
  obtain ⟨t2, l2, ps2, h1, h2, h3⟩ := h
  have hz := hK.size
  refine ⟨t2, l2, ps2, h1, hK.then h2 fun i hi e => ?_, fun q hq => ?_⟩
  · have := hN i e; omega
  · rcases h3 q hq with h' | h'
    · exact hN q h'
    · omega
set_option maxHeartbeats 4000000 in
theorem awake_any (w : World) : Calls Try.prog 7 #[] w fun e w' => e = .returned (.bool true) ∧ Keeps Non w w' := by
  go_enter Try.func7, Try.ntmps7
  go_upto_region 4 with ((go_at_call 8; refine (new_any w).mono ?_; rintro e w1 ⟨g, t1, l1, ps1, rfl, h1, hN1, hK1⟩))
  have H1 := Lib.hid (step_one h1)
  go_upto_region 5 with ((go_at_call 9; refine H1.out.mono ?_; rintro e w2 ⟨rfl, hd2⟩))
  obtain ⟨t2, l2, ps2, h2, hK2, hN2⟩ := hd2.new hK1 hN1
  have H2 := Lib.hid (step_two h2)
  clear hd2 H1 h1 hN1 hK1
  go_upto_region 6 with ((go_at_call 9; refine H2.out.mono ?_; rintro e w3 ⟨rfl, hd3⟩))
  obtain ⟨t3, l3, ps3, h3, hK3, hN3⟩ := hd3.new hK2 hN2
  have H3 := Lib.hid (step_three h3)
  clear hd3 H2 h2 hN2 hK2
  go_upto_region 7 with ((go_at_call 9; refine H3.out.mono ?_; rintro e w4 ⟨rfl, hd4⟩))
  obtain ⟨t4, l4, ps4, h4, hK4, hN4⟩ := hd4.new hK3 hN3
  have H4 := Lib.hid (step_four h4)
  clear hd4 H3 h3 hN3 hK3
  go_upto_region 8 with ((go_at_call 25; refine H4.out.mono ?_; rintro e w5 ⟨rfl, hK5⟩))
  have h5 := h4.non hK5
  have H5 := Lib.hid (step_five h5)
  clear H4 h4
  go_upto_region 9 with ((go_at_call 22; refine H5.out.mono ?_; rintro e w6 ⟨ob, pb, c, rfl, hB6, hc6, hA6, hK6⟩))
  have H6 := Lib.hid (step_six w6)
  have hK06 := (hK4.non hK5).non hK6
  clear H5 h5
  go_upto_region 10 with ((go_at_call 16; refine H6.out.mono ?_; rintro e w7 ⟨rfl, hw7⟩; subst w7))
  clear H6
  have hA10 := hA6.take 10
  have cv : (convert 53 9 (.slice (some ⟨pb, 0, none⟩) 10 c)).run Try.prog w6 = .ok (.string { data := #[109, 1, 0, 1, 97, 5, 0, 0, 0, 0] }) w6 := run_convert_at 53 9 5 Try.underlying53 Try.underlying5 Try.underlying9 _ _ hA10 10 c (by simp)
  have x0 : w6.cell? ⟨ob, 0, none⟩ = some (.slice (some ⟨pb, 0, none⟩) 256 c) := hB6.cell 0
  have hci : (10 : Int) ≤ (c : Int) := by omega
  have hcn : 10 ≤ c := by omega
  clear hA6 hA10 hB6
  go_wp2_with fail
  trace_state
  go_ret
  exact ⟨rfl, hK06⟩
end Go.Proofs.Ytiieglfpmmhfiaa
