/- Pages of a large dictionary. -/
import Derived.Test.YtiieglfpmmhfiaaM4
namespace Go.Proofs.Ytiieglfpmmhfiaa
set_option maxRecDepth 100000
open Go.RowKit Go.Uc

set_option maxHeartbeats 8000000 in
theorem pages_large {w : World} {g : Nat} {d : Dic} {t l : Sl} {ps : List (Nat × Sl)} (hM : DictM 69 66 w g d t l ps) (hi : Inv0 d) (hsm : d.small = false) :
    Calls Try.prog 22 #[.pointer (some ⟨g, 0, none⟩)] w fun e w' => ∃ (o : Sl) (ss : List Sl), e = .returned o.v ∧ PgM w' o ss (pagesD d) ∧ (∀ q ∈ footS o ss, w.heap.size ≤ q) ∧ Keeps Non w w' := by
  have ho := hi.ok
  have hdd := ho.dep
  have htl : d.table.length ≤ 32 := by rw [ho.tab]; have := two_pow d.depth ho.dep; omega
  have hpl : ps.length ≤ 32 := by rw [hM.len]; exact ho.many
  have hll : d.leaves.length ≤ 32 := ho.many
  obtain ⟨tA, tc, htv, -, -⟩ := hM.tab.val
  obtain rfl : t = ⟨tA, d.table.length, tc⟩ := by cases t; injection htv with h1 h2 h3; subst h1 h2 h3; rfl
  clear htv
  obtain ⟨lA, lc, hle, -, -⟩ := hM.lvs.val
  obtain rfl : l = ⟨lA, ps.length, lc⟩ := by cases l; injection hle with h1 h2 h3; subst h1 h2 h3; rfl
  clear hle
  have c0 : w.cell? ⟨g, 0, none⟩ = some (.bool false) := by rw [← hsm]; exact hM.blk.cell 0
  have c1 : w.cell? ⟨g, 1, none⟩ = some (.int .i64 (d.depth : Int)) := hM.blk.cell 1
  have c2 : w.cell? ⟨g, 2, none⟩ = some (.slice tA d.table.length tc) := hM.blk.cell 2
  have c3 : w.cell? ⟨g, 3, none⟩ = some (.slice lA ps.length lc) := hM.blk.cell 3
  have HSM := Lib.hid hsm
  clear hsm
  have hz := zero96
  have hsz : (pc (zeros 256)).size = 256 := by rw [pc_size, zeros_length]
  have e0 : (((pc (zeros 256)).setIfInBounds 0 (.int .u8 114)).setIfInBounds 1 (.int .u8 (d.depth : Int))) = pc (pad [114, UInt8.ofNat d.depth]) := by
    rw [← bv_ofNat d.depth (by omega)]
    show (((pc (zeros 256)).setIfInBounds 0 (bv 114)).setIfInBounds 1 (bv (UInt8.ofNat d.depth))) = _
    rw [set_pc, set_pc]
    rfl
  have E0 := Lib.hid e0
  clear e0
  have HL2 : Hid ((pad [114, UInt8.ofNat d.depth]).length = 256) := Lib.hid (pad_len (by simp))
  have hB0 := Blk.new w 96 (pc (zeros 256))
  have hK0 := (Keeps.refl Non w).alloc (.cells (pc (zeros 256)) 96)
  go_enter Try.func22, Try.ntmps22
  go_upto_region 6 with ((with_reducible show wpList _ _ _ ({ dst := none, op := Op.store 96 _ _, type := _, pos := _, after := _, guard := _ } :: _) _ _); go_must (refine wpList_store_blk rfl 96 (.tmp 5) (.tmp 36) rfl w.heap.size (((pc (zeros 256)).setIfInBounds 0 (.int .u8 114)).setIfInBounds 1 (.int .u8 (d.depth : Int))) rfl rfl 96 (pc (zeros 256)) hB0 (by rw [E0.out, pc_size, HL2.out]; exact info96) (by rw [E0.out, pc_size, pc_size, HL2.out, zeros_length]) (by rw [E0.out]; exact pc_all _) ?_); intro w1 hB1 hK1; rw [E0.out] at hB1)
  have hK01 : Keeps Non w w1 := hK0.then hK1 fun i hi e => by unfold Only at e; omega
  obtain ⟨rb, hrb⟩ : ∃ b, b = w.heap.size := ⟨_, rfl⟩
  rw [← hrb] at hB1 ⊢
  have hrw : w.heap.size ≤ rb := by omega
  clear hB0 hK0 hK1 hz hsz c0 c1 hrb
  have h1 := hM.non hK01
  have c2 : w1.cell? ⟨g, 2, none⟩ = some (.slice tA d.table.length tc) := h1.blk.cell 2
  have hxl : ∀ k, k ≤ d.table.length → ([114, UInt8.ofNat d.depth] ++ (d.table.take k).map fun x => UInt8.ofNat (x + 1)).length = 2 + k := fun k hk => by simp; omega
  have HXL := Lib.hid hxl
  clear hxl
  go_upto_region 7 with fail
  go_loopw [42] (fun i wr => ∃ k, k ≤ d.table.length ∧ i = .int .i64 (k : Int) ∧ Blk wr rb 96 (pc (pad ([114, UInt8.ofNat d.depth] ++ (d.table.take k).map fun x => UInt8.ofNat (x + 1)))) ∧ Keeps Non w wr) (fun i _ => d.table.length - (intOf i).toNat)
  case atStart => exact ⟨0, Nat.zero_le _, rfl, hB1, hK01⟩
  case round =>
    obtain ⟨k, hk, rfl, hB, hK⟩ := hrel
    obtain ⟨wx, rfl⟩ : ∃ W : World, W = wr := ⟨_, rfl⟩
    clear hB1 hK01 h1 c2
    have hx := hM.non hK
    by_cases hlt : k < d.table.length
    · obtain ⟨bt, ct, e1, -, x0, -⟩ := rowN_at hx.tab hlt
      injection e1 with e1 e2 e3
      clear e2
      subst e1 e3
      have hrg := ho.rng _ (List.getElem_mem hlt)
      have hmap : (d.table.take (k + 1)).map (fun x => UInt8.ofNat (x + 1)) = (d.table.take k).map (fun x => UInt8.ofNat (x + 1)) ++ [UInt8.ofNat (d.table[k] + 1)] := by rw [List.take_succ_eq_append_getElem hlt, List.map_append]; rfl
      have HMAP := Lib.hid hmap
      clear hmap
      have hxk := HXL.out k (by omega)
      obtain ⟨X, hX⟩ : ∃ X, X = [114, UInt8.ofNat d.depth] ++ (d.table.take k).map fun x => UInt8.ofNat (x + 1) := ⟨_, rfl⟩
      rw [← hX] at hB hxk
      have HX := Lib.hid hX
      clear hX
      generalize d.table[k] = x at x0 hrg HMAP
      have hBs := hB.set (2 + k) (bv (UInt8.ofNat (x + 1)))
      rw [set_pc, ← hxk, pad_set _ (by omega), hxk, bv_ofNat _ (by omega)] at hBs
      have hKs := hK.setNew (p := ⟨rb, 2 + k, none⟩) hrw (.int .u8 ((x + 1 : Nat) : Int))
      have hpl2 : (pad X).length = 256 := pad_len (by omega)
      obtain ⟨z, y2⟩ : ∃ z, wx.cell? ⟨rb, 2 + k, none⟩ = some z := ⟨bv ((pad X)[2 + k]'(by omega)), by rw [hB.cell, pc_get, List.getElem?_eq_getElem (by omega)]; rfl⟩
      have y3 := hB.frozen (2 + k)
      clear hxk hpl2
      go_wp2_with fail
      go_roundw
      case rel => exact ⟨k + 1, by omega, by go_num, by rw [HMAP.out, ← List.append_assoc, ← HX.out]; exact hBs, hKs⟩
      case measure => simp [intOf]; omega
    · obtain rfl : k = d.table.length := by omega
      have hBr : Blk wx rb 96 (pc (rootB d)) := by rw [List.take_of_length_le (Nat.le_refl _)] at hB; exact hB
      have hrl : (rootB d).length = 256 := by
        have := HXL.out d.table.length (Nat.le_refl _)
        rw [List.take_of_length_le (Nat.le_refl _)] at this
        exact pad_len (by omega)
      have HRL := Lib.hid hrl
      have HCl := Lib.hid (cloneU_any (some ⟨rb, 0, none⟩) 256 (rootB d) wx (At.blk hBr) (by omega) (by omega))
      rw [hrl] at HCl
      clear hB hrl hlt hk
      go_upto_region 12 with ((go_at_call 50; refine HCl.out.mono ?_; rintro e w2 ⟨⟨sA, sn, sc⟩, rfl, hU, hN, hK2⟩))
      have hRow : RowP (w2.alloc (.cells #[.slice sA sn sc] 53)) 53 1 encS (.slice (some ⟨w2.heap.size, 0, none⟩) 1 1) [(⟨sA, sn, sc⟩ : Sl)] := RowP.lit encS_len w2 53 [(⟨sA, sn, sc⟩ : Sl)] _ rfl (by show 1 ≤ maxLen; decide)
      have hka := (Keeps.refl Non w2).alloc (.cells #[.slice sA sn sc] 53)
      have hult := hU.lt
      have hz2 := hK2.size
      have hPg : PgM (w2.alloc (.cells #[.slice sA sn sc] 53)) ⟨some ⟨w2.heap.size, 0, none⟩, 1, 1⟩ [⟨sA, sn, sc⟩] (rootB d :: (d.leaves.take 0).map leafB) := by
        refine ⟨hRow, rfl, fun i hi hi' => ?_, ?_⟩
        · simp at hi; subst hi; exact hU.non hka
        · show ([w2.heap.size] ++ (own (⟨sA, sn, sc⟩ : Sl).v ++ [])).Nodup
          rw [List.append_nil, List.nodup_append]
          refine ⟨by simp, own_nodup _, ?_⟩
          rintro q hq q' hq' rfl
          simp at hq
          have := hult q hq'
          omega
      have hNw : ∀ q ∈ footS ⟨some ⟨w2.heap.size, 0, none⟩, 1, 1⟩ [(⟨sA, sn, sc⟩ : Sl)], w.heap.size ≤ q := fun q hq => by
        have hz := hK.size
        rcases mem_footS.1 hq with e | ⟨i, hi, e⟩
        · have : q ∈ [w2.heap.size] := e
          simp at this; omega
        · simp at hi; subst hi
          have := hN q e; omega
      have hKw : Keeps Non w (w2.alloc (.cells #[.slice sA sn sc] 53)) := (hK.non hK2).non hka
      obtain ⟨w3, hw3⟩ : ∃ V : World, V = w2.alloc (.cells #[.slice sA sn sc] 53) := ⟨_, rfl⟩
      obtain ⟨ob, hob⟩ : ∃ b, b = w2.heap.size := ⟨_, rfl⟩
      rw [← hw3] at hPg hKw ⊢
      rw [← hob] at hPg hNw ⊢
      clear hw3 hob hRow hka hult hz2 hU hN hK2 HCl hBr hK hx
      have h3 := hM.non hKw
      have c3 : w3.cell? ⟨g, 3, none⟩ = some (.slice lA ps.length lc) := h3.blk.cell 3
      have hlen0 := hM.len
      have HLEN := Lib.hid hlen0
      clear hlen0
      go_upto_region 13 with fail
      go_loopw [8, 62] (fun s8 i wr => ∃ (k : Nat) (o : Sl) (ss : List Sl), k ≤ ps.length ∧ i = .int .i64 (k : Int) ∧ s8 = o.v ∧ PgM wr o ss (rootB d :: (d.leaves.take k).map leafB) ∧ (∀ q ∈ footS o ss, w.heap.size ≤ q) ∧ Keeps Non w wr) (fun _ i _ => ps.length - (intOf i).toNat)
      case atStart => exact ⟨0, _, _, Nat.zero_le _, rfl, rfl, hPg, hNw, hKw⟩
      case round =>
        obtain ⟨k, o, ss, hk, rfl, rfl, hP, hN, hK⟩ := hrel
        obtain ⟨wy, rfl⟩ : ∃ V : World, V = wr := ⟨_, rfl⟩
        clear hPg hNw hKw h3 c3
        by_cases hlt : k < ps.length
        · have hkd : k < d.leaves.length := by rw [← HLEN.out]; exact hlt
          have hxM := hM.non hK
          obtain ⟨gl, cap, ev, -, x0, x1, -, -⟩ := rowP_at hxM.lvs hlt
          injection ev with e1 e2 e3
          clear e2
          subst e1 e3
          have hE := hxM.ent k hlt hkd
          have hdep := hxM.dep k hlt hkd
          have hd5 : ps[k].1 ≤ 5 := by rw [hdep]; exact Nat.le_trans (ho.low _ (List.getElem_mem hkd)) hdd
          have hf := ho.fit _ (List.getElem_mem hkd)
          have hG : ∀ e ∈ d.leaves[k].l, GoodE e := by rw [← leafAt_get hkd]; exact hi.good k hkd
          have hmap : (d.leaves.take (k + 1)).map leafB = (d.leaves.take k).map leafB ++ [laidB 108 (UInt8.ofNat ps[k].1) (UInt8.ofNat d.leaves[k].l.length) d.leaves[k].l] := by
            rw [List.take_succ_eq_append_getElem hkd, List.map_append, hdep]; rfl
          have HMAP := Lib.hid hmap
          clear hmap hdep
          obtain ⟨L, hL⟩ : ∃ L, L = d.leaves[k].l := ⟨_, rfl⟩
          rw [← hL] at hE hf hG HMAP
          clear hL
          obtain ⟨dk, hdk⟩ : ∃ n, n = ps[k].1 := ⟨_, rfl⟩
          rw [← hdk] at x0 hd5 HMAP
          clear hdk
          have h50 := (fitE_len hf).1
          have HLd := Lib.hid (fun W (hW : Keeps Non wy W) => laid_any 108 (UInt8.ofNat dk) (UInt8.ofNat L.length) ps[k].2.v L hf hG W (hE.non hW))
          rw [bv_ofNat _ (by omega), bv_ofNat _ (by omega)] at HLd
          obtain ⟨eA, ec, hev, -, -⟩ := hE.val
          rw [hev] at x1 HLd
          change Hid (∀ W, Keeps Non wy W → Calls Try.prog 49 #[.int .u8 108, .int .u8 (dk : Int), .int .u8 (L.length : Int), .slice eA L.length ec] W _) at HLd
          have hll := laid_len (a := 108) (b := UInt8.ofNat dk) (c := UInt8.ofNat L.length) hf
          have HLL := Lib.hid hll
          obtain ⟨B, hB⟩ : ∃ B, B = laidB 108 (UInt8.ofNat dk) (UInt8.ofNat L.length) L := ⟨_, rfl⟩
          rw [← hB] at HLL HLd HMAP
          clear hll hB hE hev hf hG
          have hk4 := (Keeps.refl Non wy).alloc (.cells #[.int .i64 (dk : Int), .slice eA L.length ec] 66)
          have hX4 := Blk.new wy 66 #[.int .i64 (dk : Int), .slice eA L.length ec]
          go_upto_region 15 with fail
          obtain ⟨w4, hw4⟩ : ∃ V : World, V = wy.alloc (.cells #[.int .i64 (dk : Int), .slice eA L.length ec] 66) := ⟨_, rfl⟩
          obtain ⟨xb, hxb⟩ : ∃ b, b = wy.heap.size := ⟨_, rfl⟩
          rw [← hw4] at hk4 hX4 ⊢
          rw [← hxb] at hX4 ⊢
          clear hw4 hxb x0 x1
          have y0 : w4.cell? ⟨xb, 0, none⟩ = some (.int .i64 (dk : Int)) := hX4.cell 0
          have y1 : w4.cell? ⟨xb, 1, none⟩ = some (.slice eA L.length ec) := hX4.cell 1
          have HLd4 := Lib.hid (HLd.out w4 hk4)
          have hz := zero96
          have hsz : (pc (zeros 256)).size = 256 := by rw [pc_size, zeros_length]
          go_upto_region 16 with (first
            | (go_at_call 49; refine HLd4.out.mono ?_; rintro e w5 ⟨rfl, hK5⟩; have hB5 := Blk.new w5 96 (pc (zeros 256)); have hK5a := (Keeps.refl Non w5).alloc (.cells (pc (zeros 256)) 96))
            | ((with_reducible show wpList _ _ _ ({ dst := none, op := Op.store 96 _ _, type := _, pos := _, after := _, guard := _ } :: _) _ _); go_must (refine wpList_store_blk rfl 96 (.tmp 11) (.tmp 75) rfl w5.heap.size (pc B) rfl rfl 96 (pc (zeros 256)) hB5 (by rw [pc_size, HLL.out]; exact info96) (by rw [pc_size, pc_size, HLL.out, zeros_length]) (pc_all _) ?_); intro w6 hB6 hK6))
          have hAt6 : At w6 (some ⟨w5.heap.size, 0, none⟩) B := At.blk hB6
          have HCl := Lib.hid (cloneU_any (some ⟨w5.heap.size, 0, none⟩) 256 B w6 hAt6 (by rw [HLL.out]; omega) (by rw [HLL.out]; omega))
          rw [HLL.out] at HCl
          have hK46 : Keeps Non wy w6 := ((hk4.non hK5).non hK5a).then hK6 fun i hi e => by unfold Only at e; have := (hk4.non hK5).size; omega
          have hP6 := hP.non hK46
          clear hz hsz hB5 hK5a hAt6 HLd HLd4 y0 y1 hX4
          generalize w5.heap.size = pb at *
          obtain ⟨oA, on, oc⟩ := o
          obtain rfl : on = ss.length := by obtain ⟨_, _, e, -⟩ := hP.row.val; injection e
          have hsl : ss.length ≤ 33 := by rw [hP.len]; simp; omega
          have HB1 : Hid (ss.length + 1 ≤ maxLen ∧ (ss.length + 1) * 24 ≤ 140737488355328) := Lib.hid (by unfold maxLen; omega)
          go_wp2_with (first
            | (go_at_call 50; refine HCl.out.mono ?_; rintro e w7 ⟨⟨sA, sn, sc⟩, rfl, hU7, hN7, hK7⟩; have hP7 := hP6.non hK7; have hPA := hP7.non ((Keeps.refl Non w7).alloc (.cells #[.slice sA sn sc] 53)))
            | (at_builtin; go_must (refine wpList_append_row (o := ⟨some 80, _, _, _, _, _⟩) rfl (.tmp 76) (.tmp 79) 42 rfl 53 1 encS _ 24 Try.underlying42 info53 rfl (by decide) encS_len encS_one (.slice oA ss.length oc) ss rfl hPA.row (some ⟨w7.heap.size, 0, none⟩) 1 1 [(⟨sA, sn, sc⟩ : Sl)] rfl rfl (Ats.lit w7 #[.slice sA sn sc] 53 _ rfl) HB1.out.1 HB1.out.2 ?_); intro u8 w8 hO8 hK8 hat; obtain ⟨s8, rfl, -⟩ := RowP.sl hO8))
          have hlow := hP.low
          have hz46 := hK46.size
          have hz7 := hK7.size
          have hPS := hP7.snoc hU7 (fun q hq hq' => by have := hN7 q hq; have := hlow q hq'; omega) ((Keeps.refl Non w7).alloc (.cells #[.slice sA sn sc] 53)) hO8 hK8 hat
          have hKK : Keeps Non w w8 := (((hK.non hK46).non hK7).alloc _).then hK8 fun i hi e => by have := hN i (mem_footS.2 (.inl e)); omega
          have hNN : ∀ q ∈ footS s8 (ss ++ [(⟨sA, sn, sc⟩ : Sl)]), w.heap.size ≤ q := fun q hq => by
            have hzw := hK.size
            rcases mem_footS.1 hq with e | ⟨i, hi, e⟩
            · rw [mem_own] at e
              rcases hat with e' | e'
              · rw [e'] at e; exact hN q (mem_footS.2 (.inl (mem_own.2 e)))
              · rw [e'] at e; injection e with e; simp at e; omega
            · simp at hi
              rcases Nat.lt_or_ge i ss.length with hlt2 | hge
              · rw [List.getElem_append_left hlt2] at e; exact hN q (mem_footS.2 (.inr ⟨i, hlt2, e⟩))
              · obtain rfl : i = ss.length := by omega
                rw [List.getElem_append_right (Nat.le_refl _)] at e
                simp at e
                have := hN7 q e; omega
          go_roundw
          case rel => exact ⟨k + 1, s8, _, by omega, by go_num, rfl, by rw [HMAP.out]; exact hPS, hNN, hKK⟩
          case measure => simp [intOf]; omega
        · obtain rfl : k = ps.length := by omega
          have HPD : Hid (rootB d :: (d.leaves.take ps.length).map leafB = pagesD d) := Lib.hid (by
            unfold pagesD
            rw [HSM.out, List.take_of_length_le (by rw [HLEN.out]; exact Nat.le_refl _)]
            rfl)
          obtain ⟨oA, on, oc⟩ := o
          go_wp2_with fail
          go_ret
          exact ⟨⟨oA, on, oc⟩, ss, rfl, by rw [← HPD.out]; exact hP, hN, hK⟩
end Go.Proofs.Ytiieglfpmmhfiaa
