/- Pages of a small dictionary. -/
import Derived.Test.YtiieglfpmmhfiaaD15
namespace Go.Proofs.Ytiieglfpmmhfiaa
set_option maxRecDepth 100000
open Go.RowKit Go.Uc

theorem laid_len {a b c : UInt8} {l : List Ent} (hf : fitE l = true) : (laidB a b c l).length = 256 := by
  have := (fitE_len hf).2
  exact pad_len (by rw [List.length_append, ents_len]; simp; omega)
set_option maxHeartbeats 4000000 in
theorem pages_small {w : World} {g : Nat} {d : Dic} {t l : Sl} {ps : List (Nat × Sl)} (h : DictM 69 66 w g d t l ps) (hi : Inv0 d) (hsm : d.small = true) :
    Calls Try.prog 22 #[.pointer (some ⟨g, 0, none⟩)] w fun e w' => ∃ (ob pb c : Nat), e = .returned (.slice (some ⟨ob, 0, none⟩) 1 1) ∧ Blk w' ob 53 #[.slice (some ⟨pb, 0, none⟩) 256 c] ∧ 256 ≤ c ∧ At w' (some ⟨pb, 0, none⟩) (laidB 109 (UInt8.ofNat (leafAt d 0).l.length) 0 (leafAt d 0).l) ∧ Keeps Non w w' := by
  have hl1 := (hi.sm hsm).2
  have hkd : 0 < d.leaves.length := by omega
  have hkp : 0 < ps.length := by rw [h.len]; exact hkd
  obtain ⟨L, hL⟩ : ∃ L, L = (leafAt d 0).l := ⟨_, rfl⟩
  rw [← hL]
  have hf : fitE L = true := by rw [hL]; exact hi.ok.fit _ (leaf_mem hkd)
  have hG : ∀ e ∈ L, GoodE e := by rw [hL]; exact hi.good 0 hkd
  have hE : RowE w ps[0].2.v L := by rw [hL, leafAt_get hkd]; exact h.ent 0 hkp hkd
  clear hL
  obtain ⟨h50, -⟩ := fitE_len hf
  have HLd := Lib.hid (laid_any 109 (UInt8.ofNat L.length) 0 ps[0].2.v L hf hG w hE)
  rw [bv_ofNat _ (by omega)] at HLd
  obtain ⟨eA, ec, hev, -, -⟩ := hE.val
  rw [hev] at HLd
  obtain ⟨lA, lc, hle, -, -⟩ := h.lvs.val
  have c0 : w.cell? ⟨g, 0, none⟩ = some (.bool true) := by rw [← hsm]; exact h.blk.cell 0
  have c3 : w.cell? ⟨g, 3, none⟩ = some (.slice lA ps.length lc) := by rw [← hle]; exact h.blk.cell 3
  obtain ⟨bl, cl, e2, -, -, x1, -, -⟩ := rowP_at h.lvs hkp
  rw [hle] at e2
  injection e2 with e2 e2b e2c
  clear e2b
  subst e2 e2c
  rw [hev] at x1
  have x1' : w.cell? ⟨bl, 1, none⟩ = some (.slice eA L.length ec) := x1
  have hkpi : (0 : Int) < (ps.length : Int) := by omega
  have hll := laid_len (a := 109) (b := UInt8.ofNat L.length) (c := 0) hf
  have HLL := Lib.hid hll
  obtain ⟨B, hB⟩ : ∃ B, B = laidB 109 (UInt8.ofNat L.length) 0 L := ⟨_, rfl⟩
  rw [← hB] at hll HLL HLd ⊢
  clear hll hB h hi hE hG hf hev hle hl1 hkd hsm x1
  have hz := zero96
  have hsz : (pc (zeros 256)).size = 256 := by rw [pc_size, zeros_length]
  generalize ps.length = pn at *
  change Hid (Calls Try.prog 49 #[.int .u8 109, .int .u8 (L.length : Int), .int .u8 0, .slice eA L.length ec] w _) at HLd
  go_enter Try.func22, Try.ntmps22
  go_upto_region 4 with (first
    | (go_at_call 49; refine HLd.out.mono ?_; rintro e w2 ⟨rfl, hK2⟩; have hB0 := Blk.new w2 96 (pc (zeros 256)); have hKa := (Keeps.refl Non w2).alloc (.cells (pc (zeros 256)) 96))
    | ((with_reducible show wpList _ _ _ ({ dst := none, op := Op.store 96 _ _, type := _, pos := _, after := _, guard := _ } :: _) _ _); go_must (refine wpList_store_blk rfl 96 (.tmp 4) (.tmp 27) rfl w2.heap.size (pc B) rfl rfl 96 (pc (zeros 256)) hB0 (by rw [pc_size, HLL.out]; exact info96) (by rw [pc_size, pc_size, HLL.out, zeros_length]) (pc_all _) ?_); intro w3 hB3 hK3))
  have hAt3 : At w3 (some ⟨w2.heap.size, 0, none⟩) B := At.blk hB3
  have HCl := Lib.hid (cloneU_any (some ⟨w2.heap.size, 0, none⟩) 256 B w3 hAt3 (by rw [HLL.out]; omega) (by rw [HLL.out]; omega))
  rw [HLL.out] at HCl
  have hK03 : Keeps Non w w3 := (hK2.non hKa).then hK3 fun i hi e => by unfold Only at e; have := hK2.size; omega
  clear hz hsz hB0 hKa hAt3
  generalize w2.heap.size = pb at *
  go_wp2_with ((go_at_call 50; refine HCl.out.mono ?_; rintro e w4 ⟨⟨sA, sn, sc⟩, rfl, hU4, hN4, hK4⟩))
  go_ret
  have hU5 : RowU w4 (.slice sA sn sc) B := hU4
  have hl := HLL.out
  obtain ⟨hsn, hAt4⟩ := hU5.at_
  obtain ⟨_, c5, e5, h5, -⟩ := hU5.val
  injection e5 with e6 e7 e8
  obtain ⟨g4, c4, e9, -⟩ := RowP.at_ encU_len hU5 (i := 0) (by omega)
  injection e9 with e10 e11 e12
  subst e10
  obtain rfl : sn = 256 := hsn.trans hl
  exact ⟨w4.heap.size, g4, sc, rfl, Blk.new w4 53 _, by omega, hAt4.non ((Keeps.refl Non w4).alloc _), (hK03.non hK4).alloc _⟩
end Go.Proofs.Ytiieglfpmmhfiaa
