/- The document's Of and Check. -/
import Derived.Test.YtgpamjinkiadnaaDoorU15
import Derived.Test.YtgpamjinkiadnaaDoorU16
namespace Go.Proofs.YtgpamjinkiadnaaDoor
open Go.RowKit Go.Uc

set_option maxRecDepth 100000 in
set_option maxHeartbeats 1000000 in
theorem refof_any (kind : Int) (A : Option Addr) (c : Nat) (bs : List UInt8) (w : World) (hA : At w A bs) (hc : bs.length ≤ c) (hn : bs.length ≤ 140737488351240) (hT : Good2 w) :
    Calls Tryd.prog 10 #[.int .i64 kind, .slice A bs.length c] w fun e w' => e = .returned (.tuple #[(ofP roundsK kind bs).1.v, .int .i64 (ofP roundsK kind bs).2]) ∧ Keeps Non w w' := by
  by_cases h1 : kind = 1
  · subst h1
    go_enter Tryd.func10, Tryd.ntmps10
    go_wp2_with fail
    obtain ⟨wx, hwx⟩ : ∃ W : World, W = w.alloc (.cells #[.int .u64 0, .int .u64 0, .int .u64 0, .int .u64 0] 25) := ⟨_, rfl⟩
    have hR : Blk wx w.heap.size 25 sum0.cells := by rw [hwx]; exact Blk.new _ _ _
    have hK : Keeps Non w wx := by rw [hwx]; exact (Keeps.refl _ _).alloc _
    rw [← hwx]
    have hA1 := hA.non hK
    have hT1 := hT.non hK
    have hblt := hR.lt
    obtain ⟨b, hb⟩ : ∃ b, b = w.heap.size := ⟨_, rfl⟩
    rw [← hb] at hR hblt ⊢
    have hbL : w.heap.size ≤ b := by omega
    have hAb : ∀ ad, A = some ad → bs ≠ [] → ad.block < b := fun ad e h => by
      obtain ⟨ad', e', h'⟩ := hA.lt (List.length_pos_iff.2 h)
      rw [e] at e'; injection e' with e'; subst e'; omega
    clear hwx hb hA hT
    refine (fletcher_any A c bs wx hA1 hc hn).mono ?_
    rintro e w2 ⟨rfl, hK2⟩
    have hRz := hR.non hK2
    have hKz := hK.non hK2
    clear hR hK hK2 hA1 hT1 hAb
    obtain ⟨S, hS⟩ : ∃ S, S = sumF bs := ⟨_, rfl⟩
    have HF := Lib.hid (show ofP roundsK 1 bs = (S, 0) by rw [hS]; unfold ofP; rw [if_pos rfl]; rfl)
    rw [← hS]
    clear hS
    go_wp2_with ((with_reducible show wpList _ _ _ ({ dst := none, op := Op.store 25 _ _, type := _, pos := _, after := _, guard := _ } :: _) _ _); go_must (refine wpList_store_blk rfl 25 (.tmp 4) (.tmp 10) rfl b S.cells rfl rfl 25 _ hRz (by kernel_rfl) rfl (by kernel_rfl) ?_); intro w7 hR8 hK8; have hK9 : Keeps Non w w7 := hKz.then hK8 (fun i hi e => absurd e (by show ¬ i = b; omega)); clear hRz hKz hK8)
    refine bodyPost_ret (results_cell_tmp (ty := 25) rfl _ b 25 _ _ rfl hR8 Tryd.underlying25 rfl (by kernel_rfl)) rfl ⟨?_, hK9⟩
    rw [HF.out]
    rfl
  · by_cases h2 : kind = 2
    · subst h2
      go_enter Tryd.func10, Tryd.ntmps10
      go_wp2_with fail
      obtain ⟨wx, hwx⟩ : ∃ W : World, W = w.alloc (.cells #[.int .u64 0, .int .u64 0, .int .u64 0, .int .u64 0] 25) := ⟨_, rfl⟩
      have hR : Blk wx w.heap.size 25 sum0.cells := by rw [hwx]; exact Blk.new _ _ _
      have hK : Keeps Non w wx := by rw [hwx]; exact (Keeps.refl _ _).alloc _
      rw [← hwx]
      have hA1 := hA.non hK
      have hT1 := hT.non hK
      have hblt := hR.lt
      obtain ⟨b, hb⟩ : ∃ b, b = w.heap.size := ⟨_, rfl⟩
      rw [← hb] at hR hblt ⊢
      have hbL : w.heap.size ≤ b := by omega
      have hAb : ∀ ad, A = some ad → bs ≠ [] → ad.block < b := fun ad e h => by
        obtain ⟨ad', e', h'⟩ := hA.lt (List.length_pos_iff.2 h)
        rw [e] at e'; injection e' with e'; subst e'; omega
      clear hwx hb hA hT
      refine (refsha_any A c bs wx hA1 hn hT1).mono ?_
      rintro e w2 ⟨rfl, hK2⟩
      have hRz := hR.non hK2
      have hKz := hK.non hK2
      clear hR hK hK2 hA1 hT1 hAb
      obtain ⟨S, hS⟩ : ∃ S, S = shaP roundsK bs := ⟨_, rfl⟩
      have HF := Lib.hid (show ofP roundsK 2 bs = (S, 0) by rw [hS]; unfold ofP; rw [if_neg (by decide), if_pos rfl])
      rw [← hS]
      clear hS
      go_wp2_with ((with_reducible show wpList _ _ _ ({ dst := none, op := Op.store 25 _ _, type := _, pos := _, after := _, guard := _ } :: _) _ _); go_must (refine wpList_store_blk rfl 25 (.tmp 4) (.tmp 14) rfl b S.cells rfl rfl 25 _ hRz (by kernel_rfl) rfl (by kernel_rfl) ?_); intro w7 hR8 hK8; have hK9 : Keeps Non w w7 := hKz.then hK8 (fun i hi e => absurd e (by show ¬ i = b; omega)); clear hRz hKz hK8)
      refine bodyPost_ret (results_cell_tmp (ty := 25) rfl _ b 25 _ _ rfl hR8 Tryd.underlying25 rfl (by kernel_rfl)) rfl ⟨?_, hK9⟩
      rw [HF.out]
      rfl
    · have hk1 : (kind == 1) = false := by simpa using h1
      have hk2 : (kind == 2) = false := by simpa using h2
      go_enter Tryd.func10, Tryd.ntmps10
      go_wp2_with fail
      obtain ⟨wx, hwx⟩ : ∃ W : World, W = w.alloc (.cells #[.int .u64 0, .int .u64 0, .int .u64 0, .int .u64 0] 25) := ⟨_, rfl⟩
      have hR : Blk wx w.heap.size 25 sum0.cells := by rw [hwx]; exact Blk.new _ _ _
      have hK : Keeps Non w wx := by rw [hwx]; exact (Keeps.refl _ _).alloc _
      rw [← hwx]
      refine bodyPost_ret (results_cell_tmp (ty := 25) rfl _ w.heap.size 25 _ _ rfl hR Tryd.underlying25 rfl (by kernel_rfl)) rfl ⟨?_, hK⟩
      unfold ofP
      rw [if_neg h1, if_neg h2]
      rfl
#print axioms refof_any

set_option maxRecDepth 100000 in
set_option maxHeartbeats 1000000 in
theorem refcheck_any (kind : Int) (s : Sum4) (A : Option Addr) (c : Nat) (bs : List UInt8) (w : World) (hA : At w A bs) (hc : bs.length ≤ c) (hn : bs.length ≤ 140737488351240) (hT : Good2 w) :
    Calls Tryd.prog 12 #[.int .i64 kind, s.v, .slice A bs.length c] w fun e w' => e = .returned (.bool ((ofP roundsK kind bs).2 == 0 && s.eqv (ofP roundsK kind bs).1)) ∧ Keeps Non w w' := by
  obtain ⟨o, ho⟩ : ∃ o, o = ofP roundsK kind bs := ⟨_, rfl⟩
  have HC := fun W h1 h2 => refof_any kind A c bs W h1 hc hn h2
  rw [← ho] at HC ⊢
  have HCh := Lib.hid HC
  clear HC ho
  obtain ⟨SA, SB, SC, SD⟩ := s
  obtain ⟨⟨TA, TB, TC, TD⟩, er⟩ := o
  rw [show (⟨SA, SB, SC, SD⟩ : Sum4).v = .agg #[.int .u64 (v64 SA), .int .u64 (v64 SB), .int .u64 (v64 SC), .int .u64 (v64 SD)] from rfl]
  go_enter Tryd.func12, Tryd.ntmps12
  go_wp2_with fail
  obtain ⟨wx, hwx⟩ : ∃ W : World, W = w.alloc (.cells #[.int .u64 (v64 SA), .int .u64 (v64 SB), .int .u64 (v64 SC), .int .u64 (v64 SD)] 25) := ⟨_, rfl⟩
  have hR : Blk wx w.heap.size 25 #[.int .u64 (v64 SA), .int .u64 (v64 SB), .int .u64 (v64 SC), .int .u64 (v64 SD)] := by rw [hwx]; exact Blk.new _ _ _
  have hK : Keeps Non w wx := by rw [hwx]; exact (Keeps.refl _ _).alloc _
  rw [← hwx]
  have hA1 := hA.non hK
  have hT1 := hT.non hK
  obtain ⟨b, hb⟩ : ∃ b, b = w.heap.size := ⟨_, rfl⟩
  rw [← hb] at hR ⊢
  clear hwx hb hA hT
  refine (HCh.out wx hA1 hT1).mono ?_
  rintro e w2 ⟨rfl, hK2⟩
  have hR2 := hR.non hK2
  have hK3 := hK.non hK2
  have hb2 := hR2.lt
  clear hR hK hK2 hA1 hT1
  have d0 := hR2.cell 0
  have d1 := hR2.cell 1
  have d2 := hR2.cell 2
  have d3 := hR2.cell 3
  simp only [Sum4.v, sv]
  by_cases her : er = 0
  · subst her
    go_wp2_with fail
    all_goals
      go_ret
      refine ⟨?_, hK3.alloc _⟩
      congr 2
      simp [Sum4.eqv, *]
  · have hk0 : (er == 0) = false := by simpa using her
    go_wp2_with fail
    go_ret
    refine ⟨?_, hK3.alloc _⟩
    congr 2
    simp [Sum4.eqv, hk0]
#print axioms refcheck_any
end Go.Proofs.YtgpamjinkiadnaaDoor
