/- The document's put and drop. The document's drop, Get, List. The document's List. The document's Drop, New. The document's copy. -/
import Derived.Test.YtiieglfpmmhfiaaG5
import Derived.Test.YtiieglfpmmhfiaaG8
import Derived.Deep.RegionHeld3
import Derived.Deep.RegionWith
namespace Go.Proofs.Ytiieglfpmmhfiaa
set_option maxRecDepth 100000
open Go.RowKit Go.Uc

theorem ownE_new {w1 w : World} {bA A8 : Option Addr} {n bc n8 c8 : Nat} (h1 : ∀ q ∈ own (.slice bA n bc), w1.heap.size ≤ q) (hz : w1.heap.size ≤ w.heap.size) (hat : (Value.slice A8 n8 c8).ownBlock = (Value.slice bA n bc).ownBlock ∨ (Value.slice A8 n8 c8).ownBlock = some w.heap.size) : ∀ q ∈ own (.slice A8 n8 c8), w1.heap.size ≤ q := fun q hq => by
  rw [mem_own] at hq
  rcases hat with h | h
  · rw [h] at hq; exact h1 q (mem_own.2 hq)
  · rw [h] at hq; injection hq with hq; omega
set_option maxHeartbeats 8000000 in
theorem put63_any (vA : Option Addr) (vc : Nat) (l : List Ent) (hl : l.length ≤ 100000) (e : Ent) (w : World) (h : RowE w (.slice vA l.length vc) l) :
    Calls Try.prog 63 #[.slice vA l.length vc, .agg #[.string (str e.name), .int .i64 e.val]] w fun en w' => ∃ s : Sl, en = .returned s.v ∧ RowE w' s.v (finP e (foldP e l)) ∧ New w s ∧ Keeps Non w w' := by
  obtain ⟨F, hF⟩ : ∃ F, F = finP e (foldP e l) := ⟨_, rfl⟩
  rw [← hF]
  have HF := Lib.hid hF
  clear hF
  have hB0 := Blk.new w 56 #[.string (str e.name), .int .i64 e.val]
  have hK0 := (Keeps.refl Non w).alloc (.cells #[.string (str e.name), .int .i64 e.val] 56)
  go_enter Try.func63, Try.ntmps63
  go_upto_region 4 with fail
  obtain ⟨w1, hw1⟩ : ∃ V : World, V = w.alloc (.cells #[.string (str e.name), .int .i64 e.val] 56) := ⟨_, rfl⟩
  rw [← hw1] at hB0 hK0 ⊢
  have hz1 : w.heap.size ≤ w1.heap.size := hK0.size
  have h1 := h.non hK0
  have HZ : Hid (w.heap.size ≤ w1.heap.size) := Lib.hid hz1
  have HK0 := Lib.hid hK0
  clear hw1 h hK0
  clear hz1
  obtain ⟨eb, hebe⟩ : ∃ b, b = w.heap.size := ⟨_, rfl⟩
  rw [← hebe] at hB0 ⊢
  clear hebe
  go_loopw [5, 6, 7] (fun o b i wr => ∃ (k : Nat) (bA : Option Addr) (bc : Nat), k ≤ l.length ∧ i = .int .i64 (k : Int) ∧ b = .bool (foldP e (l.take k)).1 ∧ o = .slice bA (foldP e (l.take k)).2.length bc ∧ RowE wr (.slice bA (foldP e (l.take k)).2.length bc) (foldP e (l.take k)).2 ∧ (∀ q ∈ own (.slice bA (foldP e (l.take k)).2.length bc), w1.heap.size ≤ q) ∧ Keeps Non w1 wr) (fun _ _ i _ => l.length - (intOf i).toNat)
  case atStart => exact ⟨0, none, 0, Nat.zero_le _, rfl, rfl, rfl, RowP.nil _ _ _ _, fun q hq => (List.not_mem_nil hq).elim, Keeps.refl _ _⟩
  case round =>
    obtain ⟨k, bA, bc, hk, rfl, rfl, rfl, hB, hBn, hK⟩ := hrel
    obtain ⟨wx, rfl⟩ : ∃ V : World, V = wr := ⟨_, rfl⟩
    have hfl := foldP_len e (l.take k)
    have htl : (l.take k).length ≤ 100000 := by rw [List.length_take]; omega
    by_cases hlt : k < l.length
    · obtain ⟨xb, cap, e1, -, x0, x1, -, -⟩ := rowE_at (h1.non hK) hlt
      injection e1 with e1 e2 e3
      clear e2
      subst e1 e3
      have HFS := Lib.hid (foldP_succ hlt e)
      generalize l[k] = x at x0 x1 HFS
      have y0 : wx.cell? ⟨eb, 0, none⟩ = some (.string (str e.name)) := (hB0.non hK).cell 0
      have y1 : wx.cell? ⟨eb, 1, none⟩ = some (.int .i64 e.val) := (hB0.non hK).cell 1
      generalize foldP e (l.take k) = st at hB hBn hfl HFS
      obtain ⟨b, O⟩ := st
      simp only at hB hBn hfl ⊢
      have HLa : Hid (O.length + 1 ≤ maxLen ∧ (O.length + 1) * 24 ≤ 140737488355328) := Lib.hid (by unfold maxLen; omega)
      have HLb : Hid ((O ++ [e]).length + 1 ≤ maxLen ∧ ((O ++ [e]).length + 1) * 24 ≤ 140737488355328) := Lib.hid (by unfold maxLen; simp; omega)
      have hxl : xb < w1.heap.size := h1.lt xb (by simp [own_slice])
      have hel : eb < w1.heap.size := hB0.lt
      have hcases : b = true ∨ (b = false ∧ lt x.name e.name = true) ∨ (b = false ∧ lt x.name e.name = false) := by
        cases b <;> cases lt x.name e.name <;> simp
      rcases hcases with hb | ⟨hb, hlt2⟩ | ⟨hb, hlt2⟩
      case' inl =>
        subst hb
        have HFZ : Hid (foldP e (l.take (k + 1)) = if x.name = e.name then (true, O) else (true, O ++ [x])) := Lib.hid (by rw [HFS.out]; simp [stepP])
        go_upto_region 6 with fail
        go_quiet (fail)
        go_upto_region 9 with fail
        obtain ⟨wz, hwz⟩ : ∃ V : World, V = wx.drewN nq := ⟨_, rfl⟩
        rw [← hwz]
        have hKz : Keeps Non wx wz := by rw [hwz]; exact (Keeps.refl _ _).drewN _
        clear hwz
        have hBz := hB.non hKz
        have hK1z := hK.non hKz
        have a0 := hKz.cell x0 id
        have a1 := hKz.cell x1 id
        have b0 := hKz.cell y0 id
        have HLz := HLa
        clear hB hKz hK x0 x1 y0 y1 HLa HLb
        obtain ⟨B, rfl⟩ : ∃ B, B = O := ⟨_, rfl⟩
        obtain ⟨zA, rfl⟩ : ∃ A, A = bA := ⟨_, rfl⟩
        obtain ⟨zc, rfl⟩ : ∃ A, A = bc := ⟨_, rfl⟩
      case' inr.inl =>
        subst hb
        have HFZ : Hid (foldP e (l.take (k + 1)) = if x.name = e.name then (false, O) else (false, O ++ [x])) := Lib.hid (by rw [HFS.out]; simp [stepP, hlt2])
        have hcb : Op.bytesLess (str x.name).toList (str e.name).toList = true := by rw [str_toList, str_toList]; exact hlt2
        clear hlt2
        go_upto_region 6 with fail
        go_quiet (fail)
        go_upto_region 9 with fail
        obtain ⟨wz, hwz⟩ : ∃ V : World, V = wx.drewN nq := ⟨_, rfl⟩
        rw [← hwz]
        have hKz : Keeps Non wx wz := by rw [hwz]; exact (Keeps.refl _ _).drewN _
        clear hwz
        have hBz := hB.non hKz
        have hK1z := hK.non hKz
        have a0 := hKz.cell x0 id
        have a1 := hKz.cell x1 id
        have b0 := hKz.cell y0 id
        have HLz := HLa
        clear hB hKz hK x0 x1 y0 y1 HLa HLb
        obtain ⟨B, rfl⟩ : ∃ B, B = O := ⟨_, rfl⟩
        obtain ⟨zA, rfl⟩ : ∃ A, A = bA := ⟨_, rfl⟩
        obtain ⟨zc, rfl⟩ : ∃ A, A = bc := ⟨_, rfl⟩
      case' inr.inr =>
        subst hb
        have HFZ : Hid (foldP e (l.take (k + 1)) = if x.name = e.name then (true, O ++ [e]) else (true, (O ++ [e]) ++ [x])) := Lib.hid (by rw [HFS.out]; simp only [stepP, hlt2, and_self, if_true])
        have hcb : Op.bytesLess (str x.name).toList (str e.name).toList = false := by rw [str_toList, str_toList]; exact hlt2
        clear hlt2
        go_upto_region 6 with fail
        go_quiet (fail)
        go_upto_region 7 with fail
        obtain ⟨wz, hwz⟩ : ∃ V : World, V = wx.drewN nq := ⟨_, rfl⟩
        rw [← hwz]
        have hKz : Keeps Non wx wz := by rw [hwz]; exact (Keeps.refl _ _).drewN _
        clear hwz
        have hka := (Keeps.refl Non wz).alloc (.cells #[.string (str e.name), .int .i64 e.val] 56)
        have hB7 := (hB.non hKz).non hka
        have hK7 := (hK.non hKz).non hka
        have a0 := hKz.cell x0 id
        have a1 := hKz.cell x1 id
        have b0 := hKz.cell y0 id
        have b1 := hKz.cell y1 id
        go_upto_region 9 with (at_builtin; go_must (refine wpList_append_row (o := ⟨some 29, _, _, _, _, _⟩) rfl (.tmp 26) (.tmp 28) 32 rfl 56 2 encE _ 24 Try.underlying32 info56 rfl (by decide) encE_len encE_one (.slice bA O.length bc) O rfl hB7 (some ⟨wz.heap.size, 0, none⟩) 1 1 [e] rfl rfl (Ats.lit wz #[.string (str e.name), .int .i64 e.val] 56 _ rfl) HLa.out.1 HLa.out.2 ?_); intro u8 w8 hO8 hK8 hat; obtain ⟨zA, zc, rfl, -, -⟩ := hO8.val; obtain ⟨B, hBB⟩ : ∃ B, B = O ++ [e] := ⟨_, rfl⟩; rw [← hBB] at hO8 HFZ HLb hat ⊢; clear hBB)
        have hne : ∀ q ∈ own (.slice zA B.length zc), w1.heap.size ≤ q := ownE_new hBn hK7.size hat
        have a0 := hK8.cell (hka.cell a0 id) (fun hq => by have := hBn _ hq; simp at this; omega)
        have a1 := hK8.cell (hka.cell a1 id) (fun hq => by have := hBn _ hq; simp at this; omega)
        have b0 := hK8.cell (hka.cell b0 id) (fun hq => by have := hBn _ hq; simp at this; omega)
        have hK1z : Keeps Non w1 w8 := hK7.then hK8 fun i hi hq => by have := hBn _ hq; omega
        have HLz := HLb
        have hBn := hne
        have hBz := hO8
        clear hne hO8 hK8 hat hK7 hB7 hka b1 hKz hB hK x0 x1 y0 y1 HLa HLb
        obtain ⟨wz, rfl⟩ : ∃ V : World, V = w8 := ⟨_, rfl⟩
      all_goals
        by_cases hxn : x.name = e.name
        · have heq : ((str x.name).toList == (str e.name).toList) = true := by rw [hxn]; simp
          rw [if_pos hxn] at HFZ
          clear hxn
          go_quiet (fail)
          go_wp2_with fail
          go_roundw
          case rel => exact ⟨k + 1, zA, zc, by omega, by go_num, by rw [HFZ.out], by rw [HFZ.out], by rw [HFZ.out]; exact hBz.non ((Keeps.refl _ _).drewN _), by rw [HFZ.out]; exact hBn, hK1z.drewN _⟩
          case measure => simp [intOf]; omega
        · have hne : ¬ (str x.name).toList = (str e.name).toList := by rw [str_toList, str_toList]; exact hxn
          have heq : ((str x.name).toList == (str e.name).toList) = false := by simp [hne]
          rw [if_neg hxn] at HFZ
          clear hxn hne
          go_quiet (fail)
          go_upto_region 10 with fail
          obtain ⟨wv, hwv⟩ : ∃ V : World, V = wz.drewN nq := ⟨_, rfl⟩
          rw [← hwv]
          have hKv : Keeps Non wz wv := by rw [hwv]; exact (Keeps.refl _ _).drewN _
          clear hwv
          have c0 := hKv.cell a0 id
          have c1 := hKv.cell a1 id
          have hka := (Keeps.refl Non wv).alloc (.cells #[.string (str x.name), .int .i64 x.val] 56)
          have hBv := (hBz.non hKv).non hka
          have hK1v := (hK1z.non hKv).non hka
          clear hKv a0 a1 b0 hBz hK1z
          go_wp2_with (at_builtin; go_must (refine wpList_append_row (o := ⟨some 44, _, _, _, _, _⟩) rfl (.tmp 38) (.tmp 43) 32 rfl 56 2 encE _ 24 Try.underlying32 info56 rfl (by decide) encE_len encE_one (.slice zA B.length zc) B rfl hBv (some ⟨wv.heap.size, 0, none⟩) 1 1 [x] rfl rfl (Ats.lit wv #[.string (str x.name), .int .i64 x.val] 56 _ rfl) HLz.out.1 HLz.out.2 ?_); intro u9 w9 hO9 hK9 hat9; obtain ⟨⟨yA, n9, yc⟩, rfl, h9⟩ := RowP.sl hO9; have hn9 : n9 = (B ++ [x]).length := h9; clear h9; subst hn9)
          go_roundw
          case rel => exact ⟨k + 1, yA, yc, by omega, by go_num, by rw [HFZ.out], by rw [HFZ.out]; show Value.slice yA _ yc = Value.slice yA _ yc; simp, by rw [HFZ.out]; exact hO9, by rw [HFZ.out]; exact ownE_new hBn hK1v.size hat9, hK1v.then hK9 fun i hi hq => by have := hBn _ hq; omega⟩
          case measure => simp [intOf]; omega
    · obtain rfl : k = l.length := by omega
      rw [List.take_of_length_le (Nat.le_refl _)] at hB hBn hfl ⊢
      have HFin : Hid (F = if (foldP e l).1 = true then (foldP e l).2 else (foldP e l).2 ++ [e]) := Lib.hid HF.out
      have hKw := (HK0.out.non hK)
      generalize foldP e l = st at hB hBn hfl HFin ⊢
      obtain ⟨b, O⟩ := st
      simp only at hB hBn hfl HFin ⊢
      cases b
      · rw [if_neg (by simp)] at HFin
        have y0 : wx.cell? ⟨eb, 0, none⟩ = some (.string (str e.name)) := (hB0.non hK).cell 0
        have y1 : wx.cell? ⟨eb, 1, none⟩ = some (.int .i64 e.val) := (hB0.non hK).cell 1
        have hka := (Keeps.refl Non wx).alloc (.cells #[.string (str e.name), .int .i64 e.val] 56)
        have hBv := hB.non hka
        have hKv := hK.non hka
        have hKwv := hKw.non hka
        have HLa : Hid (O.length + 1 ≤ maxLen ∧ (O.length + 1) * 24 ≤ 140737488355328) := Lib.hid (by unfold maxLen; omega)
        go_wp2_with (at_builtin; go_must (refine wpList_append_row (o := ⟨some 50, _, _, _, _, _⟩) rfl (.tmp 47) (.tmp 49) 32 rfl 56 2 encE _ 24 Try.underlying32 info56 rfl (by decide) encE_len encE_one (.slice bA O.length bc) O rfl hBv (some ⟨wx.heap.size, 0, none⟩) 1 1 [e] rfl rfl (Ats.lit wx #[.string (str e.name), .int .i64 e.val] 56 _ rfl) HLa.out.1 HLa.out.2 ?_); intro u8 w8 hO8 hK8 hat)
        go_ret
        obtain ⟨s8, rfl, h8⟩ := RowP.sl hO8
        refine ⟨s8, rfl, by rw [HFin.out]; exact hO8, fun q hq => ?_, hKwv.then hK8 fun i hi hq => by have := hBn _ hq; have := HZ.out; omega⟩
        have := ownE_new (A8 := s8.A) (n8 := s8.n) (c8 := s8.c) hBn hKv.size hat q hq
        have := HZ.out
        omega
      · rw [if_pos rfl] at HFin
        go_wp2_with fail
        go_ret
        exact ⟨⟨bA, O.length, bc⟩, rfl, by rw [HFin.out]; exact hB, fun q hq => by have := hBn q hq; have := HZ.out; omega, hKw⟩
end Go.Proofs.Ytiieglfpmmhfiaa
namespace Go.Proofs.Ytiieglfpmmhfiaa
set_option maxRecDepth 100000
open Go.RowKit Go.Uc

theorem drp_succ {l : List Ent} {k : Nat} (hk : k < l.length) (n : List UInt8) : drp (l.take (k + 1)) n = if l[k].name = n then drp (l.take k) n else drp (l.take k) n ++ [l[k]] := by
  rw [List.take_succ_eq_append_getElem hk]
  unfold drp
  rw [List.filter_append]
  by_cases h : l[k].name = n
  · rw [if_pos h]; simp [h]
  · rw [if_neg h]; simp [h]
theorem drp_le (l : List Ent) (n : List UInt8) : (drp l n).length ≤ l.length := List.length_filter_le _ _
set_option maxHeartbeats 8000000 in
theorem drop66_any (vA : Option Addr) (vc : Nat) (l : List Ent) (hl : l.length ≤ 100000) (n : List UInt8) (w : World) (h : RowE w (.slice vA l.length vc) l) :
    Calls Try.prog 66 #[.slice vA l.length vc, .string (str n)] w fun en w' => ∃ s : Sl, en = .returned s.v ∧ RowE w' s.v (drp l n) ∧ New w s ∧ Keeps Non w w' := by
  obtain ⟨F, hF⟩ : ∃ F, F = drp l n := ⟨_, rfl⟩
  rw [← hF]
  have HF := Lib.hid hF
  clear hF
  go_enter Try.func66, Try.ntmps66
  go_upto_region 3 with fail
  go_loopw [5, 6] (fun o i wr => ∃ (k : Nat) (bA : Option Addr) (bc : Nat), k ≤ l.length ∧ i = .int .i64 (k : Int) ∧ o = .slice bA (drp (l.take k) n).length bc ∧ RowE wr (.slice bA (drp (l.take k) n).length bc) (drp (l.take k) n) ∧ (∀ q ∈ own (.slice bA (drp (l.take k) n).length bc), w.heap.size ≤ q) ∧ Keeps Non w wr) (fun _ i _ => l.length - (intOf i).toNat)
  case atStart => exact ⟨0, none, 0, Nat.zero_le _, rfl, rfl, RowP.nil _ _ _ _, fun q hq => (List.not_mem_nil hq).elim, Keeps.refl _ _⟩
  case round =>
    obtain ⟨k, bA, bc, hk, rfl, rfl, hB, hBn, hK⟩ := hrel
    obtain ⟨wx, rfl⟩ : ∃ V : World, V = wr := ⟨_, rfl⟩
    by_cases hlt : k < l.length
    · obtain ⟨xb, cap, e1, -, x0, x1, -, -⟩ := rowE_at (h.non hK) hlt
      injection e1 with e1 e2 e3
      clear e2
      subst e1 e3
      have HFS := drp_succ hlt n
      have hdl := drp_le (l.take k) n
      have htl : (l.take k).length ≤ 100000 := by rw [List.length_take]; omega
      generalize l[k] = x at x0 x1 HFS
      generalize drp (l.take k) n = B at hB hBn HFS hdl
      by_cases hxn : x.name = n
      · have heq : ((str x.name).toList == (str n).toList) = true := by rw [hxn]; simp
        rw [if_pos hxn] at HFS
        have HFZ := Lib.hid HFS
        clear hxn HFS
        go_wp2_with fail
        go_roundw
        case rel => exact ⟨k + 1, bA, bc, by omega, by go_num, by rw [HFZ.out], by rw [HFZ.out]; exact hB, by rw [HFZ.out]; exact hBn, hK⟩
        case measure => simp [intOf]; omega
      · have hne : ¬ (str x.name).toList = (str n).toList := by rw [str_toList, str_toList]; exact hxn
        have heq : ((str x.name).toList == (str n).toList) = false := by simp [hne]
        rw [if_neg hxn] at HFS
        have HFZ := Lib.hid HFS
        clear hxn hne HFS
        have hka := (Keeps.refl Non wx).alloc (.cells #[.string (str x.name), .int .i64 x.val] 56)
        have hBv := hB.non hka
        have hKv := hK.non hka
        have HLz : Hid (B.length + 1 ≤ maxLen ∧ (B.length + 1) * 24 ≤ 140737488355328) := Lib.hid (by unfold maxLen; omega)
        clear hB
        go_wp2_with (at_builtin; go_must (refine wpList_append_row (o := ⟨some 26, _, _, _, _, _⟩) rfl (.tmp 20) (.tmp 25) 32 rfl 56 2 encE _ 24 Try.underlying32 info56 rfl (by decide) encE_len encE_one (.slice bA B.length bc) B rfl hBv (some ⟨wx.heap.size, 0, none⟩) 1 1 [x] rfl rfl (Ats.lit wx #[.string (str x.name), .int .i64 x.val] 56 _ rfl) HLz.out.1 HLz.out.2 ?_); intro u9 w9 hO9 hK9 hat9; obtain ⟨⟨yA, n9, yc⟩, rfl, h9⟩ := RowP.sl hO9; have hn9 : n9 = (B ++ [x]).length := h9; clear h9; subst hn9)
        go_roundw
        case rel => exact ⟨k + 1, yA, yc, by omega, by go_num, by rw [HFZ.out]; show Value.slice yA _ yc = Value.slice yA _ yc; simp, by rw [HFZ.out]; exact hO9, by rw [HFZ.out]; exact ownE_new hBn hKv.size hat9, hKv.then hK9 fun i hi hq => by have := hBn _ hq; omega⟩
        case measure => simp [intOf]; omega
    · obtain rfl : k = l.length := by omega
      rw [List.take_of_length_le (Nat.le_refl _)] at hB hBn ⊢
      have HFin : Hid (F = drp l n) := HF
      generalize drp l n = O at hB hBn HFin ⊢
      go_wp2_with fail
      go_ret
      exact ⟨⟨bA, O.length, bc⟩, rfl, by rw [HFin.out]; exact hB, hBn, hK⟩
theorem getE_at {l : List Ent} {k : Nat} (hk : k < l.length) {n : List UInt8} (h : ∀ j (hj : j < l.length), j < k → l[j].name ≠ n) (he : l[k].name = n) : getE l n = some l[k].val := by
  unfold getE
  have : l.find? (fun x => x.name == n) = some l[k] := by
    rw [List.find?_eq_some_iff_getElem]
    refine ⟨by simp [he], k, hk, rfl, fun j hj => ?_⟩
    have := h j (by omega) hj
    simp [this]
  rw [this]; rfl
theorem getE_none {l : List Ent} {n : List UInt8} (h : ∀ j (hj : j < l.length), l[j].name ≠ n) : getE l n = none := by
  unfold getE
  have : l.find? (fun x => x.name == n) = none := by
    rw [List.find?_eq_none]
    intro x hx
    obtain ⟨j, hj, rfl⟩ := List.getElem_of_mem hx
    simp [h j hj]
  rw [this]; rfl
set_option maxHeartbeats 8000000 in
theorem get44_any {w : World} {g : Nat} {d : Dic} {t l : Sl} {ps : List (Nat × Sl)} (h : DictM 84 86 w g d t l ps) (ho : Ok d) (n : List UInt8) (hn : n.length ≤ 9223372036854775807) :
    Calls Try.prog 44 #[.pointer (some ⟨g, 0, none⟩), .string (str n)] w fun e w' => e = .returned (.tuple #[.int .i64 (getR (val d n)).1, .bool (getR (val d n)).2]) ∧ Keeps Non w w' := by
  have hkl := kOf_lt ho n
  have hkp : kOf d n < ps.length := by rw [h.len]; exact hkl
  have HLf := Lib.hid (fun q => leaf_any (h.drewN q) ho n hn)
  have hE := h.ent _ hkp hkl
  have h50 := (fitE_len (ho.fit _ (List.getElem_mem hkl))).1
  have HV : Hid (val d n = getE d.leaves[kOf d n].l n) := Lib.hid (by unfold val; rw [leafAt_get hkl])
  obtain ⟨r, hr⟩ : ∃ r, r = getR (val d n) := ⟨_, rfl⟩
  rw [← hr]
  have HR := Lib.hid hr
  clear hr
  obtain ⟨-, -, -, c3⟩ := dict_cells h
  obtain ⟨bl, cl, e2, hcl, -, x1, -, -⟩ := rowP_at h.lvs hkp
  rw [e2] at c3
  obtain ⟨eA, ec, hev, -, -⟩ := hE.val
  rw [hev] at x1 hE
  generalize d.leaves[kOf d n].l = L at x1 hE h50 HV
  generalize kOf d n = k at HLf x1 hkp hkl
  have hi2 : (k : Int) < (ps.length : Int) := by omega
  clear h ho hev e2 hcl hkl
  go_enter Try.func44, Try.ntmps44
  go_upto_region 1 with fail
  go_quiet ((go_at_call 62; exact Calls.quiet_of (HLf.out _)))
  go_upto_region 3 with fail
  obtain ⟨w1, hw1⟩ : ∃ V : World, V = w.drewN nq := ⟨_, rfl⟩
  rw [← hw1]
  have hK1 : Keeps Non w w1 := by rw [hw1]; exact (Keeps.refl _ _).drewN _
  clear hw1
  have hE1 := hE.non hK1
  go_loop [7] (fun i => ∃ j : Nat, j ≤ L.length ∧ i = .int .i64 (j : Int) ∧ Hid (∀ q (hq : q < L.length), q < j → L[q].name ≠ n)) (fun i => L.length - (intOf i).toNat)
  case atStart => exact ⟨0, Nat.zero_le _, rfl, Lib.hid (fun q _ h => absurd h (by omega))⟩
  case round =>
    obtain ⟨j, hj, rfl, HN⟩ := hrel
    by_cases hjl : j < L.length
    · obtain ⟨xb, cap, e1, -, z0, z1, -, -⟩ := rowE_at hE1 hjl
      injection e1 with e1 e2 e3
      clear e2
      subst e1 e3
      have HAt : Hid (L[j].name = n → getE L n = some L[j].val) := Lib.hid (fun he => getE_at hjl HN.out he)
      have HNS : Hid (L[j].name ≠ n → ∀ q (hq : q < L.length), q < j + 1 → L[q].name ≠ n) := Lib.hid (fun h q hq hqj => by
        rcases Nat.lt_or_ge q j with h' | h'
        · exact HN.out q hq h'
        · obtain rfl : q = j := by omega
          exact h)
      generalize L[j] = x at z0 z1 HAt HNS
      by_cases hxn : x.name = n
      · have HRR : Hid (r = (x.val, true)) := Lib.hid (by rw [HR.out, HV.out, HAt.out hxn]; rfl)
        have heq : ((str x.name).toList == (str n).toList) = true := by rw [hxn]; simp
        clear hxn
        go_wp2_with fail
        go_ret2
        exact ⟨by rw [HRR.out]; rfl, hK1⟩
      · have hne : ¬ (str x.name).toList = (str n).toList := by rw [str_toList, str_toList]; exact hxn
        have heq : ((str x.name).toList == (str n).toList) = false := by simp [hne]
        have HNX := Lib.hid (HNS.out hxn)
        clear hxn hne
        go_wp2_with fail
        go_round
        case rel => exact ⟨j + 1, by omega, by go_num, HNX⟩
        case measure => simp [intOf]; omega
    · have HRR : Hid (r = (0, false)) := Lib.hid (by rw [HR.out, HV.out, getE_none fun q hq => HN.out q hq (by omega)]; rfl)
      obtain rfl : j = L.length := by omega
      go_wp2_with fail
      go_ret2
      exact ⟨by rw [HRR.out]; rfl, hK1⟩
end Go.Proofs.Ytiieglfpmmhfiaa
namespace Go.Proofs.Ytiieglfpmmhfiaa
set_option maxRecDepth 100000
open Go.RowKit Go.Uc

theorem foldI_srt (L : List Ent) : ∀ acc, Srt acc → Srt (L.foldl ins acc) := by
  induction L with
  | nil => intro acc h; exact h
  | cons x L ih => intro acc h; exact ih _ (ins_srt h x)
theorem ins_len (l : List Ent) (e : Ent) : (ins l e).length ≤ 2 * l.length + 1 := by
  unfold ins
  have h1 := List.length_filter_le (fun x : Ent => lt x.name e.name) l
  have h2 := List.length_filter_le (fun x : Ent => lt e.name x.name) l
  simp
  omega
theorem ins_len' {l : List Ent} (hs : Srt l) (e : Ent) : (ins l e).length ≤ l.length + 1 := by
  cases hh : has l e.name
  · rw [(ins_perm hs e hh).length_eq]; simp
  · rw [← ins_set hs e hh]; simp
theorem foldI_len (L : List Ent) : ∀ acc, Srt acc → (L.foldl ins acc).length ≤ acc.length + L.length := by
  induction L with
  | nil => intro acc _; simp
  | cons x L ih =>
    intro acc h
    rw [List.foldl_cons, List.length_cons]
    have h1 := ih _ (ins_srt h x)
    have h2 := ins_len' h x
    omega
theorem listI_srt (L : List Ent) : Srt (listI L) := foldI_srt L [] List.Pairwise.nil
theorem listI_len (L : List Ent) : (listI L).length ≤ L.length := by have := foldI_len L [] List.Pairwise.nil; simpa [listI] using this
theorem listI_leaf {ls : List Leaf} {i : Nat} (hi : i < ls.length) : listI (allE (ls.take (i + 1))) = ls[i].l.foldl ins (listI (allE (ls.take i))) := by
  unfold listI
  rw [allE_take ls i hi, List.foldl_append]
theorem foldI_succ {L : List Ent} {j : Nat} (hj : j < L.length) (acc : List Ent) : (L.take (j + 1)).foldl ins acc = ins ((L.take j).foldl ins acc) L[j] := by
  rw [List.take_succ_eq_append_getElem hj, List.foldl_append]
  rfl
theorem allE_take_len (ls : List Leaf) (i : Nat) (h : ∀ x ∈ ls, x.l.length ≤ 50) (hm : ls.length ≤ 32) : (allE (ls.take i)).length ≤ 1600 := by
  have h1 := allE_len (ls.take i) fun x hx => h x (List.mem_of_mem_take hx)
  have h2 : (ls.take i).length ≤ 32 := by rw [List.length_take]; omega
  omega
set_option maxHeartbeats 8000000 in
theorem list41_any {w : World} {g : Nat} {d : Dic} {t l : Sl} {ps : List (Nat × Sl)} (h : DictM 84 86 w g d t l ps) (hi : Inv0 d) :
    Calls Try.prog 41 #[.pointer (some ⟨g, 0, none⟩)] w fun e w' => ∃ s : Sl, e = .returned s.v ∧ RowE w' s.v (listI (allE d.leaves)) ∧ New w s ∧ Keeps Non w w' := by
  obtain ⟨F, hF⟩ : ∃ F, F = listI (allE d.leaves) := ⟨_, rfl⟩
  rw [← hF]
  have HF := Lib.hid hF
  clear hF
  have hl50 : ∀ x ∈ d.leaves, x.l.length ≤ 50 := fun x hx => (fitE_len (hi.ok.fit x hx)).1
  have hmany := hi.ok.many
  have hlen := h.len
  obtain ⟨lA, lc, hle, -, -⟩ := h.lvs.val
  have HC3 : Hid (∀ W, Keeps Non w W → W.cell? ⟨g, 3, none⟩ = some (.slice lA ps.length lc)) := Lib.hid (fun W hk => by
    obtain ⟨-, -, -, c3⟩ := dict_cells (h.non hk)
    rw [hle] at c3; exact c3)
  have HLE := Lib.hid hle
  clear hle
  go_enter Try.func41, Try.ntmps41
  go_upto_region 3 with fail
  go_loopw [3, 4] (fun o i wr => ∃ (k : Nat) (bA : Option Addr) (bc : Nat), k ≤ d.leaves.length ∧ i = .int .i64 (k : Int) ∧ o = .slice bA (listI (allE (d.leaves.take k))).length bc ∧ RowE wr (.slice bA (listI (allE (d.leaves.take k))).length bc) (listI (allE (d.leaves.take k))) ∧ (∀ q ∈ own (.slice bA (listI (allE (d.leaves.take k))).length bc), w.heap.size ≤ q) ∧ Keeps Non w wr) (fun _ i _ => d.leaves.length - (intOf i).toNat)
  case atStart => exact ⟨0, none, 0, Nat.zero_le _, rfl, rfl, RowP.nil _ _ _ _, fun q hq => (List.not_mem_nil hq).elim, Keeps.refl _ _⟩
  case round =>
    obtain ⟨k, bA, bc, hk, rfl, rfl, hB, hBn, hK⟩ := hrel
    obtain ⟨wx, rfl⟩ : ∃ V : World, V = wr := ⟨_, rfl⟩
    have c3 := HC3.out wx hK
    by_cases hlt : k < d.leaves.length
    · have hkp : k < ps.length := by omega
      obtain ⟨bl, cl, e2, -, -, -, -, -⟩ := rowP_at (h.lvs.non hK) hkp
      rw [HLE.out] at e2
      injection e2 with e2 e2b e2c
      clear e2b
      subst e2 e2c
      have hE := h.ent k hkp hlt
      obtain ⟨eA, ec, hev, -, -⟩ := hE.val
      rw [hev] at hE
      have HX1 : Hid (∀ W, Keeps Non w W → W.cell? ⟨bl, k * 2 + 1, none⟩ = some (.slice eA d.leaves[k].l.length ec)) := Lib.hid (fun W hk' => by
        obtain ⟨b3, _, e3, -, -, x1, -⟩ := rowP_at (h.lvs.non hk') hkp
        rw [HLE.out] at e3
        injection e3 with e3
        injection e3 with e3
        injection e3 with e3
        rw [e3, x1, hev])
      have HLS : Hid (listI (allE (d.leaves.take (k + 1))) = d.leaves[k].l.foldl ins (listI (allE (d.leaves.take k)))) := Lib.hid (listI_leaf hlt)
      have hacl := listI_len (allE (d.leaves.take k))
      have hacl2 := allE_take_len d.leaves k hl50 hmany
      have HAS := Lib.hid (listI_srt (allE (d.leaves.take k)))
      have hL50 := hl50 _ (List.getElem_mem hlt)
      clear hev
      generalize d.leaves[k].l = L at hE HX1 HLS hL50
      generalize listI (allE (d.leaves.take k)) = acc at hB hBn HLS hacl HAS
      have hki : (k : Int) < (ps.length : Int) := by omega
      go_upto_region 6 with fail
      clear c3
      go_loopw [3, 5] (fun o i wr => ∃ (j : Nat) (bA : Option Addr) (bc : Nat), j ≤ L.length ∧ i = .int .i64 (j : Int) ∧ o = .slice bA ((L.take j).foldl ins acc).length bc ∧ RowE wr (.slice bA ((L.take j).foldl ins acc).length bc) ((L.take j).foldl ins acc) ∧ (∀ q ∈ own (.slice bA ((L.take j).foldl ins acc).length bc), w.heap.size ≤ q) ∧ Keeps Non w wr) (fun _ i _ => L.length - (intOf i).toNat)
      case atStart => exact ⟨0, bA, bc, Nat.zero_le _, rfl, rfl, hB, hBn, hK⟩
      case round =>
        obtain ⟨j, zA, zc, hj, rfl, rfl, hZ, hZn, hKz⟩ := hrel
        obtain ⟨wy, rfl⟩ : ∃ V : World, V = wr := ⟨_, rfl⟩
        have c3 := HC3.out wy hKz
        have c4 := HX1.out wy hKz
        by_cases hjl : j < L.length
        · obtain ⟨xb, cap, e1, -, x0, x1, -, -⟩ := rowE_at (hE.non hKz) hjl
          injection e1 with e1 e2 e3
          clear e2
          subst e1 e3
          have HFS := Lib.hid (foldI_succ hjl acc)
          have hfl := foldI_len (L.take j) acc HAS.out
          have htl : (L.take j).length ≤ 50 := by rw [List.length_take]; omega
          have HSr := Lib.hid (foldI_srt (L.take j) acc HAS.out)
          generalize L[j] = x at x0 x1 HFS
          generalize (L.take j).foldl ins acc = B at hZ hZn HFS hfl HSr
          have HPt := Lib.hid (put63_any zA zc B (by omega) x wy hZ)
          rw [put_ins HSr.out] at HPt
          have hji : (j : Int) < (L.length : Int) := by omega
          go_wp2_with ((go_at_call 63; go_must (refine HPt.out.mono ?_); rintro en w8 ⟨⟨yA, n9, yc⟩, he, hO9, hN9, hK9⟩; change en = .returned (.slice yA n9 yc) at he; subst he; have hn9 : n9 = (ins B x).length := (by obtain ⟨_, _, e, -⟩ := hO9.val; injection e); subst hn9))
          go_roundw
          case rel => exact ⟨j + 1, yA, yc, by omega, by go_num, by rw [HFS.out], by rw [HFS.out]; exact hO9, by rw [HFS.out]; exact fun q hq => by have h1 : wy.heap.size ≤ q := hN9 q hq; have := hKz.size; omega, hKz.non hK9⟩
          case measure => simp [intOf]; omega
        · obtain rfl : j = L.length := by omega
          rw [List.take_of_length_le (Nat.le_refl _), ← HLS.out] at hZ hZn ⊢
          go_wp2_with fail
          go_roundw
          case rel => exact ⟨k + 1, zA, zc, by omega, by go_num, rfl, hZ, hZn, hKz⟩
          case measure => simp [intOf]; omega
    · obtain rfl : k = d.leaves.length := by omega
      rw [List.take_of_length_le (Nat.le_refl _)] at hB hBn ⊢
      rw [← HF.out] at hB hBn ⊢
      have hnl : ¬ d.leaves.length < ps.length := by omega
      go_wp2_with fail
      go_ret
      exact ⟨⟨bA, F.length, bc⟩, rfl, hB, hBn, hK⟩
end Go.Proofs.Ytiieglfpmmhfiaa
namespace Go.Proofs.Ytiieglfpmmhfiaa
set_option maxRecDepth 100000
open Go.RowKit Go.Uc

/-- One leaf's entries laid anew. -/
theorem DictM.leafE {T L : TypeId} {w wA : World} {g bl lc k : Nat} {d : Dic} {t s : Sl} {ps : List (Nat × Sl)} {E : List Ent} (h : DictM T L w g d t ⟨some ⟨bl, 0, none⟩, ps.length, lc⟩ ps) (hk : k < ps.length) (hA : Keeps Non w wA) (hE : RowE wA s.v E) (hs : ∀ q ∈ own s.v, w.heap.size ≤ q) :
    DoneD T L w g t ⟨some ⟨bl, 0, none⟩, ps.length, lc⟩ ps (setL d k E) (wA.setCell ⟨bl, k * 2 + 1, none⟩ s.v) := by
  have hkd : k < d.leaves.length := by rw [← h.len]; exact hk
  have hlow := h.low
  have hK3 : Keeps (Only bl) wA (wA.setCell ⟨bl, k * 2 + 1, none⟩ s.v) := (Keeps.refl (Only bl) _).set (p := ⟨bl, k * 2 + 1, none⟩) rfl _
  have hS := h.setE (dp := ps[k].1) (a := s) hk (hA.of_non) hE (fun q hq => .inr fun hq' => by have := hs q hq; have := hlow q hq'; omega) hK3 (rowP_setE (h.lvs.non hA) hk)
  have hd : (⟨ps[k].1, E⟩ : Leaf) = ⟨(leafAt d k).depth, E⟩ := by rw [h.dep k hk hkd, leafAt_get hkd]
  rw [hd] at hS
  refine ⟨t, ⟨some ⟨bl, 0, none⟩, ps.length, lc⟩, ps.set k (ps[k].1, s), hS, (hA.of_non).trans (hK3.mono fun q e => by unfold Only at e; subst e; exact foot_l (by show q ∈ [q]; simp)), fun q hq => ?_⟩
  rcases mem_foot.1 hq with e | e | e | e
  · exact .inl (e ▸ foot_g)
  · exact .inl (foot_t e)
  · exact .inl (foot_l e)
  · rw [ents_set hk] at e
    simp only [List.mem_append] at e
    rcases e with e | e | e
    · exact .inl (mem_foot.2 (.inr (.inr (.inr (by rw [ents_at hk]; simp only [List.mem_append]; exact .inl e)))))
    · exact .inr (hs q e)
    · exact .inl (mem_foot.2 (.inr (.inr (.inr (by rw [ents_at hk]; simp only [List.mem_append]; exact .inr (.inr e))))))
theorem DoneD.after {T L : TypeId} {w0 w w' : World} {g : Nat} {t l : Sl} {ps : List (Nat × Sl)} {d' : Dic} (h : DoneD T L w g t l ps d' w') (hk : Keeps Non w0 w) : DoneD T L w0 g t l ps d' w' := by
  obtain ⟨t2, l2, p2, h1, h2, h3⟩ := h
  exact ⟨t2, l2, p2, h1, (hk.of_non).trans h2, fun q hq => by
    rcases h3 q hq with e | e
    · exact .inl e
    · have := hk.size; exact .inr (by omega)⟩
set_option maxHeartbeats 8000000 in
theorem drop40_any {w : World} {g : Nat} {d : Dic} {t l : Sl} {ps : List (Nat × Sl)} (h : DictM 84 86 w g d t l ps) (ho : Ok d) (n : List UInt8) (hn : n.length ≤ 9223372036854775807) :
    Calls Try.prog 40 #[.pointer (some ⟨g, 0, none⟩), .string (str n)] w fun e w' => e = .returned (.int .i64 (dropD d n).1) ∧ DoneD 84 86 w g t l ps (dropD d n).2 w' := by
  have hkd := kOf_lt ho n
  have hkp : kOf d n < ps.length := by rw [h.len]; exact hkd
  have HG := Lib.hid (get44_any h ho n hn)
  have HLf := Lib.hid (fun W (hW : DictM 84 86 W g d t l ps) => leaf_any hW ho n hn)
  obtain ⟨R, hR⟩ : ∃ R, R = dropD d n := ⟨_, rfl⟩
  rw [← hR]
  have HR : Hid (R = if (val d n).isSome = true then (0, setL d (kOf d n) (drp (leafAt d (kOf d n)).l n)) else (171, d)) := Lib.hid (by rw [hR]; unfold dropD val; rw [has_getE])
  clear hR
  obtain ⟨vo, hvo⟩ : ∃ v, v = val d n := ⟨_, rfl⟩
  rw [← hvo] at HG HR
  clear hvo
  obtain ⟨k, hk⟩ : ∃ k, k = kOf d n := ⟨_, rfl⟩
  rw [← hk] at hkd hkp HR HLf
  clear hk
  obtain ⟨lA, lc, hle, -, -⟩ := h.lvs.val
  obtain rfl : l = ⟨lA, ps.length, lc⟩ := by cases l; injection hle with h1 h2 h3; subst h1 h2 h3; rfl
  clear hle
  obtain ⟨bl, cl, e2, -⟩ := rowP_at h.lvs hkp
  injection e2 with e2 e2b e2c
  clear e2b
  subst e2 e2c
  cases vo with
  | none =>
    have HRR : Hid (R = (171, d)) := Lib.hid (by rw [HR.out]; rfl)
    have HG' : Hid (Calls Try.prog 44 #[.pointer (some ⟨g, 0, none⟩), .string (str n)] w fun e w' => e = .returned (.tuple #[.int .i64 0, .bool false]) ∧ Keeps Non w w') := HG
    clear HG
    have HS := Lib.hid (fun w' (hk : Keeps Non w w') => h.doneSelf hk)
    go_enter Try.func40, Try.ntmps40
    go_wp2_with ((go_at_call 44; go_must (refine HG'.out.mono ?_); rintro e w2 ⟨rfl, hK2⟩))
    go_ret
    exact ⟨by rw [HRR.out]; rfl, by rw [HRR.out]; exact HS.out _ hK2⟩
  | some v =>
    have HRR : Hid (R = (0, setL d k (drp (leafAt d k).l n))) := Lib.hid (by rw [HR.out]; rfl)
    have HG' : Hid (Calls Try.prog 44 #[.pointer (some ⟨g, 0, none⟩), .string (str n)] w fun e w' => e = .returned (.tuple #[.int .i64 v, .bool true]) ∧ Keeps Non w w') := HG
    clear HG
    have hE := h.ent k hkp hkd
    rw [← leafAt_get hkd] at hE
    have h50 := (fitE_len (ho.fit _ (leaf_mem hkd))).1
    obtain ⟨eA, ec, hev, -, -⟩ := hE.val
    rw [hev] at hE
    have HX1 : Hid (∀ W, Keeps Non w W → W.cell? ⟨bl, k * 2 + 1, none⟩ = some (.slice eA (leafAt d k).l.length ec) ∧ ∀ j, W.frozen? ⟨bl, j, none⟩ = false) := Lib.hid (fun W hk' => by
      obtain ⟨b3, _, e3, -, -, x1, xf, -⟩ := rowP_at (h.lvs.non hk') hkp
      injection e3 with e3
      injection e3 with e3
      injection e3 with e3
      rw [e3]
      exact ⟨by rw [x1, hev], xf⟩)
    clear hev
    have HLA : Hid ((leafAt d k).l = (leafAt d k).l) := Lib.hid rfl
    generalize (leafAt d k).l = L at hE HX1 HRR h50
    have hki : (k : Int) < (ps.length : Int) := by omega
    go_enter Try.func40, Try.ntmps40
    go_upto_region 2 with ((go_at_call 44; go_must (refine HG'.out.mono ?_); rintro e w2 ⟨rfl, hK2⟩))
    have HLf2 := Lib.hid (HLf.out w2 (h.non hK2))
    go_upto_region 5 with ((go_at_call 62; go_must (refine HLf2.out.mono ?_); rintro e w3 ⟨rfl, q3, hq3⟩; have HQ3 := Lib.hid hq3; clear hq3))
    have hK3 : Keeps Non w w3 := hK2.non (by rw [HQ3.out]; exact (Keeps.refl _ _).drewN q3)
    have hD3 := (h.non hK3).non (Keeps.refl Non w3).drew
    have HDp := Lib.hid (drop66_any eA ec L (by omega) n w3.drew ((hE.non hK3).non (Keeps.refl Non w3).drew))
    obtain ⟨-, -, -, c3⟩ := dict_cells hD3
    have c3' : w3.drew.cell? ⟨g, 3, none⟩ = some (.slice (some ⟨bl, 0, none⟩) ps.length lc) := c3
    have c4 : w3.drew.cell? ⟨bl, k * 2 + 1, none⟩ = some (.slice eA L.length ec) := (HX1.out _ (hK3.drew)).1
    clear c3
    go_region_law (first
      | (go_simp; go_at_call 66; refine HDp.out.mono ?_; rintro en w6 ⟨⟨sA, sn, sc⟩, he, hE6, hN6, hK6⟩; go_must (change en = .returned (.slice sA sn sc) at he; subst he; have z3 : w6.cell? ⟨g, 3, none⟩ = some (.slice (some ⟨bl, 0, none⟩) ps.length lc) := hK6.cell c3' id; have hfr := HX1.out w6 ((hK3.drew).non hK6); have z4 := hfr.1; have zf := hfr.2 (k * 2 + 1); clear hfr)))
    all_goals
      have hL := (hD3.leafE hkp hK6 hE6 (fun q hq => by have h1 : w3.drew.heap.size ≤ q := hN6 q hq; exact h1)).after (hK3.drew)
      go_wp2_with fail
      go_ret
      exact ⟨by rw [HRR.out]; rfl, by rw [HRR.out]; exact hL⟩
set_option maxHeartbeats 2000000 in
theorem new13_any (w : World) : Calls Try.prog 13 #[] w fun e w' => ∃ g t l ps, e = .returned (.pointer (some ⟨g, 0, none⟩)) ∧ Grown 84 86 w w' g emptyD t l ps := by
  have hmk : ∀ W, (Instr.makeSlice 82 (.int .i64 1) (.int .i64 1)).run Try.prog W = .ok (.slice (some ⟨W.heap.size, 0, none⟩) 1 1) (W.alloc (.cells #[.int .i64 0, .slice none 0 0] 86)) := fun W => by kernel_rfl
  have HG1 := Lib.hid (Grown.one (T := 84) (L := 86) (s := ⟨none, 0, 0⟩) (Keeps.refl Non w) (RowP.nil w 56 2 encE) (fun q hq => (List.not_mem_nil hq).elim))
  go_enter Try.func13, Try.ntmps13
  go_wp2_with fail
  go_ret
  exact ⟨_, _, _, _, rfl, HG1.out⟩
end Go.Proofs.Ytiieglfpmmhfiaa
namespace Go.Proofs.Ytiieglfpmmhfiaa
set_option maxRecDepth 100000
open Go.RowKit Go.Uc

set_option maxHeartbeats 8000000 in
theorem copied61_any {w : World} {g : Nat} {d : Dic} {t l : Sl} {ps : List (Nat × Sl)} (h : DictM 84 86 w g d t l ps) (ho : Ok d) :
    Calls Try.prog 61 #[.pointer (some ⟨g, 0, none⟩)] w fun e w' => ∃ gb t2 l2 ps2, e = .returned (.pointer (some ⟨gb, 0, none⟩)) ∧ Grown 84 86 w w' gb d t2 l2 ps2 := by
  obtain ⟨small, depth, table, leaves⟩ := d
  have hl50 : ∀ x ∈ leaves, x.l.length ≤ 50 := fun x hx => (fitE_len (ho.fit x hx)).1
  have hmany : leaves.length ≤ 32 := ho.many
  have htl : table.length ≤ 32 := by have h1 := ho.tab; have h2 := two_pow depth ho.dep; simp only at h1; omega
  have hlen : ps.length = leaves.length := h.len
  obtain ⟨lA, lc, hle, -, -⟩ := h.lvs.val
  obtain ⟨tA, tc, hte, -, -⟩ := h.tab.val
  have HC : Hid (∀ W, Keeps Non w W → W.cell? ⟨g, 0, none⟩ = some (.bool small) ∧ W.cell? ⟨g, 1, none⟩ = some (.int .i64 (depth : Int)) ∧ W.cell? ⟨g, 2, none⟩ = some (.slice tA table.length tc) ∧ W.cell? ⟨g, 3, none⟩ = some (.slice lA ps.length lc)) := Lib.hid (fun W hk => by
    have := dict_cells (h.non hk)
    rw [hle, hte] at this
    exact this)
  have HT : RowN w (.slice tA table.length tc) table := by rw [← hte]; exact h.tab
  have HLE := Lib.hid hle
  clear hle hte
  obtain ⟨c0, c1, -, -⟩ := HC.out w (Keeps.refl _ _)
  go_enter Try.func61, Try.ntmps61
  go_upto_region 1 with fail
  go_region
  go_upto_region 2 with fail
  have hG1 := (Grown.new (T := 84) (L := 86) (Keeps.refl Non w) small depth).non (Keeps.refl Non _).drew
  obtain ⟨w1, hw1⟩ : ∃ W : World, W = (w.alloc (.cells #[.bool small, .int .i64 (depth : Int), .slice none 0 0, .slice none 0 0] 84)).drew := ⟨_, rfl⟩
  rw [← hw1] at hG1 ⊢
  clear hw1 c0 c1
  have hgw : ∀ q ∈ foot g t l ps, q < w.heap.size := h.low
  obtain ⟨gb, hgb⟩ : ∃ b, b = w.heap.size := ⟨_, rfl⟩
  rw [← hgb] at hG1 ⊢
  clear hgb
  have hG2 := hG1.non (Keeps.refl Non w1).drew
  obtain ⟨-, -, c2, c3⟩ := HC.out w1.drew hG2.k
  have y2 : w1.drew.cell? ⟨gb, 2, none⟩ = some (.slice none 0 0) := hG2.m.blk.cell 2
  have hAts : Ats w1.drew tA (table.flatMap encN) := by
    obtain ⟨A', c', e, -, ha⟩ := (HT.non hG2.k).ats encN_len
    injection e with e
    rw [e]; exact ha
  have HLB : Hid ((([] : List Nat).length + table.length) ≤ maxLen ∧ (([] : List Nat).length + table.length) * 8 ≤ 140737488355328) := Lib.hid (by unfold maxLen; simp; omega)
  clear c3
  go_region_law (first
    | (go_loud (refine step_append_row (o := ⟨some 25, _, _, _, _, _⟩) rfl (.tmp 20) (.tmp 24) 23 rfl 3 1 encN _ 8 Try.underlying23 info3 rfl (by decide) encN_len encN_one (.slice none 0 0) [] rfl (RowP.nil _ _ _ _) tA table.length tc table rfl rfl hAts HLB.out.1 HLB.out.2 ?_; intro u8 w8 hO8 hK8 hat; obtain ⟨s8, rfl, -⟩ := RowP.sl hO8; have hB8 := hG2.m.blk.keep hK8 (fun hq => (List.not_mem_nil hq).elim); have z8 := hB8.cell 2; have f8 := hB8.frozen 2)))
  all_goals
    have hG3 := hG1.tab8 ((Keeps.refl Non w1).drew) hO8 hK8 hat
    simp only [List.nil_append] at hG3
    clear hO8 hK8 hat hB8 z8 f8 hAts y2 c2 hG2
    go_upto_region 4 with fail
    go_loopw [4] (fun i wr => ∃ (k : Nat) (l2 : Sl) (ps2 : List (Nat × Sl)), k ≤ leaves.length ∧ i = .int .i64 (k : Int) ∧ Grown 84 86 w wr gb ⟨small, depth, table, leaves.take k⟩ s8 l2 ps2) (fun i _ => leaves.length - (intOf i).toNat)
    case atStart => exact ⟨0, _, _, Nat.zero_le _, rfl, hG3⟩
    case round =>
      obtain ⟨k, l2, ps2, hk, rfl, hGk⟩ := hrel
      obtain ⟨wx, rfl⟩ : ∃ V : World, V = wr := ⟨_, rfl⟩
      clear hG3 hG1
      obtain ⟨-, -, -, c3⟩ := HC.out wx hGk.k
      by_cases hlt : k < leaves.length
      · have hkp : k < ps.length := by omega
        obtain ⟨bl, cl, e2, -, -, -, -, -⟩ := rowP_at (h.lvs.non hGk.k) hkp
        rw [HLE.out] at e2
        injection e2 with e2 e2b e2c
        clear e2b
        subst e2 e2c
        have hE : RowE w ps[k].2.v leaves[k].l := h.ent k hkp hlt
        obtain ⟨eA, ec, hev, -, -⟩ := hE.val
        have hdp : ps[k].1 = leaves[k].depth := h.dep k hkp hlt
        have HX : Hid (∀ W, Keeps Non w W → W.cell? ⟨bl, k * 2, none⟩ = some (.int .i64 (leaves[k].depth : Int)) ∧ W.cell? ⟨bl, k * 2 + 1, none⟩ = some (.slice eA leaves[k].l.length ec)) := Lib.hid (fun W hk' => by
          obtain ⟨b3, _, e3, -, x0, x1, -, -⟩ := rowP_at (h.lvs.non hk') hkp
          rw [HLE.out] at e3
          injection e3 with e3
          injection e3 with e3
          injection e3 with e3
          rw [e3]
          exact ⟨by rw [x0, hdp], by rw [x1, hev]⟩)
        have hatE : Ats wx eA (leaves[k].l.flatMap encE) := by
          obtain ⟨A', c', e, -, ha⟩ := (hE.non hGk.k).ats encE_len
          rw [hev] at e
          injection e with e
          rw [e]; exact ha
        have hL50 := hl50 _ (List.getElem_mem hlt)
        have hdl : leaves[k].depth ≤ 5 := by have h1 := ho.low _ (List.getElem_mem hlt); have h2 := ho.dep; simp only at h1 h2; omega
        have HPT : Hid (leaves.take (k + 1) = leaves.take k ++ [⟨leaves[k].depth, leaves[k].l⟩]) := Lib.hid (List.take_succ_eq_append_getElem hlt)
        clear hev hdp hE
        generalize leaves[k].l = L at HX hatE hL50 HPT
        generalize leaves[k].depth = dp at HX HPT hdl
        have hki : (k : Int) < (ps.length : Int) := by omega
        obtain ⟨x0, x1⟩ := HX.out wx hGk.k
        have HLa : Hid ((([] : List Ent).length + L.length) ≤ maxLen ∧ (([] : List Ent).length + L.length) * 24 ≤ 140737488355328) := Lib.hid (by unfold maxLen; simp; omega)
        go_upto_region 8 with (at_builtin; go_must (refine wpList_append_row (o := ⟨some 46, _, _, _, _, _⟩) rfl (.tmp 37) (.tmp 45) 32 rfl 56 2 encE _ 24 Try.underlying32 info56 rfl (by decide) encE_len encE_one (.slice none 0 0) [] rfl (RowP.nil _ _ _ _) eA L.length ec L rfl rfl hatE HLa.out.1 HLa.out.2 ?_); intro u7 w7 hO7 hK7 hat7; obtain ⟨⟨sA, sn, sc⟩, rfl, -⟩ := RowP.sl hO7)
        rw [List.nil_append] at hO7
        have hK7n : Keeps Non wx w7 := hK7.mono fun q hq => (List.not_mem_nil hq).elim
        have hG7 := hGk.non hK7n
        have hnew7 : ∀ q ∈ own (⟨sA, sn, sc⟩ : Sl).v, wx.heap.size ≤ q := fun q hq => by
          rw [mem_own] at hq
          rcases hat7 with e | e
          · rw [e] at hq; cases hq
          · rw [e] at hq; injection hq with hq; omega
        obtain ⟨l2A, l2c, hl2, -, -⟩ := hG7.m.lvs.val
        obtain ⟨l2A', l2n, l2c'⟩ := l2
        injection hl2 with e1 e2 e3
        simp only at e1 e2 e3
        clear e1 e3
        subst e2
        have hG7d := hG7.non (Keeps.refl Non w7).drew
        obtain ⟨-, -, -, d3⟩ := HC.out w7.drew hG7d.k
        obtain ⟨v0, -⟩ := HX.out w7.drew hG7d.k
        have v3 : w7.drew.cell? ⟨gb, 3, none⟩ = some (.slice l2A' ps2.length l2c') := hG7d.m.blk.cell 3
        have hka : Keeps Non w7 (w7.alloc (.cells #[.int .i64 (dp : Int), .slice sA sn sc] 86)).drew := ((Keeps.refl Non w7).alloc _).drew
        have hG8 := hG7.non hka
        obtain ⟨-, -, -, d3'⟩ := HC.out _ hG8.k
        have d3a : (w7.alloc (.cells #[.int .i64 (dp : Int), .slice sA sn sc] 86)).cell? ⟨g, 3, none⟩ = some (.slice (some ⟨bl, 0, none⟩) ps.length lc) := d3'
        have v0a : (w7.alloc (.cells #[.int .i64 (dp : Int), .slice sA sn sc] 86)).cell? ⟨bl, k * 2, none⟩ = some (.int .i64 (dp : Int)) := (HX.out _ hG8.k).1
        have v3a : (w7.alloc (.cells #[.int .i64 (dp : Int), .slice sA sn sc] 86)).cell? ⟨gb, 3, none⟩ = some (.slice l2A' ps2.length l2c') := hG8.m.blk.cell 3
        have hAts2 : Ats (w7.alloc (.cells #[.int .i64 (dp : Int), .slice sA sn sc] 86)).drew (some ⟨w7.heap.size, 0, none⟩) ([(dp, (⟨sA, sn, sc⟩ : Sl))].flatMap encP) := (Ats.lit w7 #[.int .i64 (dp : Int), .slice sA sn sc] 86 _ rfl).non ((Keeps.refl Non _).drew)
        have hqlen : ps2.length ≤ 32 := by have := hG7.m.len; rw [this]; show (leaves.take k).length ≤ 32; rw [List.length_take]; omega
        have HBB : Hid (ps2.length + 1 ≤ maxLen ∧ (ps2.length + 1) * 32 ≤ 140737488355328) := Lib.hid (by unfold maxLen; omega)
        have Hgl := Lib.hid (nod_iff.1 hG8.m.nod).gl
        have HNF : Hid (∀ x ∈ own (⟨sA, sn, sc⟩ : Sl).v, x ∉ foot gb s8 ⟨l2A', ps2.length, l2c'⟩ ps2) := Lib.hid (fun x hx hx' => by
          have h1 := hnew7 x hx
          have h2 := hGk.m.low x hx'
          omega)
        have HNW : Hid (∀ x ∈ own (⟨sA, sn, sc⟩ : Sl).v, w.heap.size ≤ x) := Lib.hid (fun x hx => by
          have h1 := hnew7 x hx
          have := hGk.k.size
          omega)
        have hwr1 : IntKind.i64.wrap (dp : Int) = (dp : Int) := by rw [IntKind.wrap_i64]; omega
        clear d3' x0 x1 c3 hqlen hnew7 hat7 hK7
        go_region_law (first
          | (go_loud (refine step_append_row (o := ⟨some 63, _, _, _, _, _⟩) rfl (.tmp 51) (.tmp 62) 82 rfl 86 2 encP _ 32 Try.underlying82 info86 rfl (by decide) encP_len encP_one (.slice l2A' ps2.length l2c') ps2 rfl hG8.m.lvs (some ⟨w7.heap.size, 0, none⟩) 1 1 [(dp, (⟨sA, sn, sc⟩ : Sl))] rfl rfl hAts2 HBB.out.1 HBB.out.2 ?_; intro u8 w9 hO8 hK8 hat; obtain ⟨s9, rfl, -⟩ := RowP.sl hO8; have hB8 := hG8.m.blk.keep hK8 Hgl.out; have z8 := hB8.cell 3; have f8 := hB8.frozen 3)))
        all_goals
          have hG9 := hG7.leaf8 (b := ⟨sA, sn, sc⟩) hO7 HNF.out HNW.out (((Keeps.refl Non w7).alloc _).drew) hO8 hK8 hat
          go_wp2_with fail
          go_roundw
          case rel => exact ⟨k + 1, s9, _, by omega, by go_num, by rw [HPT.out]; exact hG9⟩
          case measure => simp [intOf]; omega
      · obtain rfl : k = leaves.length := by omega
        rw [List.take_of_length_le (Nat.le_refl _)] at hGk
        have hnl : ¬ leaves.length < ps.length := by omega
        go_wp2_with fail
        go_ret
        exact ⟨gb, s8, l2, ps2, rfl, hGk⟩
end Go.Proofs.Ytiieglfpmmhfiaa
