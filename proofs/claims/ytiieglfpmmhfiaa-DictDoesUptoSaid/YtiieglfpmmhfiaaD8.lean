/- A leaf split. -/
import Derived.Test.YtiieglfpmmhfiaaG3
import Derived.RegionTactic
import Derived.Deep.CutRange
namespace Go.Proofs.Ytiieglfpmmhfiaa
set_option maxRecDepth 100000
open Go.RowKit Go.Uc

set_option maxHeartbeats 8000000 in
theorem split_any {w : World} {g : Nat} {d : Dic} {t l : Sl} {ps : List (Nat × Sl)} (h : DictM 69 66 w g d t l ps) (ho : Ok d) (p k ow : Nat) (hp : p < d.table.length) (hk : d.table[p] = k) (hown : (leafAt d k).depth = ow) (h5 : ow ≠ 5) :
    Calls Try.prog 33 #[.pointer (some ⟨g, 0, none⟩), .int .i64 (p : Int)] w fun e w' => e = .returned (.bool true) ∧ DoneD 69 66 w g t l ps (splitD d k) w' := by
  obtain ⟨tA, tc, htv, htc, -⟩ := h.tab.val
  obtain rfl : t = ⟨tA, d.table.length, tc⟩ := by cases t; injection htv with h1 h2 h3; subst h1 h2 h3; rfl
  clear htv
  obtain ⟨lA, lc, hle, hlc, -⟩ := h.lvs.val
  obtain rfl : l = ⟨lA, ps.length, lc⟩ := by cases l; injection hle with h1 h2 h3; subst h1 h2 h3; rfl
  clear hle
  have hkl : k < d.leaves.length := by rw [← hk]; exact ho.rng _ (List.getElem_mem _)
  have hkp : k < ps.length := by rw [h.len]; exact hkl
  have hpl : ps.length ≤ 32 := by rw [h.len]; exact ho.many
  have htl : d.table.length ≤ 32 := by rw [ho.tab]; have := two_pow d.depth ho.dep; omega
  have hdd := ho.dep
  obtain ⟨bt, ct, e1, -, ct0, -⟩ := rowN_at h.tab hp
  obtain ⟨bl, cl, e2, -, cl0, -⟩ := rowP_at h.lvs hkp
  rw [hk] at ct0
  have hd0 : ps[k].1 = ow := by rw [h.dep k hkp hkl, ← leafAt_get hkl, hown]
  rw [hd0] at cl0
  injection e1 with e1 e1b e1c
  injection e2 with e2 e2b e2c
  clear e1b e2b
  subst e1 e1c e2 e2c
  have c1 : w.cell? ⟨g, 1, none⟩ = some (.int .i64 (d.depth : Int)) := h.blk.cell 1
  have c2 : w.cell? ⟨g, 2, none⟩ = some (.slice (some ⟨bt, 0, none⟩) d.table.length tc) := h.blk.cell 2
  have c3 : w.cell? ⟨g, 3, none⟩ = some (.slice (some ⟨bl, 0, none⟩) ps.length lc) := h.blk.cell 3
  have f1 := h.blk.frozen 1
  have h5' : ((ow : Int) == 5) = false := by simp; omega
  have hpi : (p : Int) < (d.table.length : Int) := by omega
  have hki : (k : Int) < (ps.length : Int) := by omega
  have hlow := ho.low (leafAt d k) (by rw [leafAt_get hkl]; exact List.getElem_mem _)
  rw [hown] at hlow
  have HD0 := Lib.hid hd0
  have hlen0 := h.len
  have HLEN0 := Lib.hid hlen0
  clear hlen0
  have HKK := Lib.hid hk
  have HOW := Lib.hid hown
  clear hk hd0 hown
  go_enter Try.func33, Try.ntmps33
  go_upto_if 35 with fail
  go_cut [] from 30 to 55 (fun wc => ∃ t1, DictM 69 66 wc g (widen d ow) t1 ⟨some ⟨bl, 0, none⟩, ps.length, lc⟩ ps ∧ Keeps (· ∈ foot g ⟨some ⟨bt, 0, none⟩, d.table.length, tc⟩ ⟨some ⟨bl, 0, none⟩, ps.length, lc⟩ ps) w wc ∧ ∀ q ∈ own t1.v, q ∈ own (.slice (some ⟨bt, 0, none⟩) d.table.length tc) ∨ w.heap.size ≤ q)
  case first =>
    by_cases hw : ow = d.depth
    · have hwi : ((ow : Int) == (d.depth : Int)) = true := by simp [hw]
      have HW : Hid (widen d ow = { d with depth := d.depth + 1, table := d.table ++ d.table }) := Lib.hid (by unfold widen; rw [if_pos hw])
      clear hw
      go_upto_region 7 with fail
      obtain ⟨w6, hw6⟩ : ∃ W : World, W = w.setCell ⟨g, 1, none⟩ (.int .i64 ((d.depth + 1 : Nat) : Int)) := ⟨_, rfl⟩
      rw [show (w.setCell ⟨g, 1, none⟩ (Value.int IntKind.i64 ((d.depth : Int) + 1))) = w6 from hw6.symm]
      have hb6 : Blk w6 g 69 #[.bool d.small, .int .i64 ((d.depth + 1 : Nat) : Int), .slice (some ⟨bt, 0, none⟩) d.table.length tc, .slice (some ⟨bl, 0, none⟩) ps.length lc] := by rw [hw6]; exact h.blk.set 1 _
      have k6 : Keeps (Only g) w w6 := by rw [hw6]; exact (Keeps.refl (Only g) _).set (p := ⟨g, 1, none⟩) rfl _
      have ht6 : RowN w6.drew (.slice (some ⟨bt, 0, none⟩) d.table.length tc) d.table := (h.tab.keep k6 fun q hq e => (nod_iff.1 h.nod).gt (by unfold Only at e; exact e ▸ hq)).non (Keeps.refl Non w6).drew
      have y2 : w6.drew.cell? ⟨g, 2, none⟩ = some (.slice (some ⟨bt, 0, none⟩) d.table.length tc) := hb6.cell 2
      have HCl := Lib.hid (cloneN_any _ d.table (by omega) w6.drew ht6)
      have Hgt := Lib.hid (nod_iff.1 h.nod).gt
      have HB1 : Hid (d.table.length + d.table.length ≤ maxLen ∧ (d.table.length + d.table.length) * 8 ≤ 140737488355328) := Lib.hid ⟨by unfold maxLen; omega, by omega⟩
      have HW6 := Lib.hid hw6
      clear hw6 c1 c2 c3 f1 ct0 cl0
      go_region_law (first
        | (go_simp; go_at_call 54; refine HCl.out.mono ?_; rintro e w7 ⟨⟨A7, n7, c7⟩, rfl, hR7, hN7, hK7⟩; obtain ⟨_, _, e7, -, hA7⟩ := hR7.ats encN_len; injection e7 with q1 q2 q3; subst q1 q2 q3; have hb7 := (hb6.drew).non hK7; have ht7 := ht6.non hK7; have z2 : w7.cell? ⟨g, 2, none⟩ = some (.slice (some ⟨bt, 0, none⟩) d.table.length tc) := hb7.cell 2)
        | (refine step_append_row (o := ⟨some 53, _, _, _, _, _⟩) rfl (.tmp 47) (.tmp 52) 23 rfl 3 1 encN _ 8 Try.underlying23 info3 rfl (by decide) encN_len encN_one (.slice (some ⟨bt, 0, none⟩) d.table.length tc) d.table rfl ht7 A7 d.table.length c7 d.table rfl rfl hA7 HB1.out.1 HB1.out.2 ?_; intro u8 w8 hO8 hK8 hat; obtain ⟨s8, rfl, -⟩ := RowP.sl hO8; have hB8 := hb7.keep hK8 Hgt.out; have z8 := hB8.cell 2; have f8 := hB8.frozen 2))
      all_goals
        go_wp2_with fail
        go_meet
        case rel => exact ⟨s8, by rw [HW.out]; exact (widen_mem h w6 HW6.out hK7 hO8 hK8 hat).1, (widen_mem h w6 HW6.out hK7 hO8 hK8 hat).2⟩
    · have hwi : ((ow : Int) == (d.depth : Int)) = false := by simp; omega
      have HW : Hid (widen d ow = d) := Lib.hid (by unfold widen; rw [if_neg hw])
      clear hw
      go_wp2_with fail
      go_meet
      case rel => exact ⟨_, by rw [HW.out]; exact h, Keeps.refl _ _, fun q hq => .inl hq⟩
  case rest =>
    obtain ⟨w1, rfl⟩ : ∃ W : World, W = wc := ⟨_, rfl⟩
    obtain ⟨t1, h1, hK1, hT1⟩ := hcut
    obtain ⟨d1, hd1⟩ : ∃ D, D = widen d ow := ⟨_, rfl⟩
    rw [← hd1] at h1
    have hlv : d1.leaves = d.leaves := by rw [hd1]; unfold widen; split <;> rfl
    have hpos : 0 < d1.table.length := by rw [hd1]; unfold widen; split; (simp only [List.length_append]; omega); omega
    have ht64 : d1.table.length ≤ 64 := by rw [hd1]; unfold widen; split; (simp only [List.length_append]; omega); omega
    obtain ⟨t1A, t1c, htv, ht1c, -⟩ := h1.tab.val
    obtain rfl : t1 = ⟨t1A, d1.table.length, t1c⟩ := by cases t1; injection htv with h1 h2 h3; subst h1 h2 h3; rfl
    clear htv
    have HD1 := Lib.hid hd1
    clear hd1 c1 c2 c3 f1 ct0 cl0 h hpi
    have hkl1 : k < d1.leaves.length := by rw [hlv]; exact hkl
    have hent : RowE w1 ps[k].2.v (leafAt d k).l := by rw [leafAt_get hkl]; have := h1.ent k hkp hkl1; simpa only [hlv] using this
    have hfit : (leafAt d k).l.length ≤ 50 := by rw [leafAt_get hkl]; exact (fitE_len (ho.fit _ (List.getElem_mem _))).1
    obtain ⟨_, _, e3, -, _, cl1, -⟩ := rowP_at h1.lvs hkp
    injection e3 with e3 e3b e3c
    injection e3 with e3
    injection e3 with e3
    subst e3 e3c
    clear e3b
    obtain ⟨L, hL⟩ : ∃ L, L = (leafAt d k).l := ⟨_, rfl⟩
    rw [← hL] at hent hfit
    have hnl : ∀ j (hj : j < L.length), L[j].name.length ≤ 9223372036854775807 := fun j hj => by have := name_room L j hj; have := (fitE_len (ho.fit (leafAt d k) (by rw [leafAt_get hkl]; exact List.getElem_mem _))).2; rw [← hL] at this; omega
    have HNL := Lib.hid hnl
    clear hnl
    obtain ⟨eA, ec, hev, hec, -⟩ := hent.val
    rw [hev] at cl1 hent
    have HEV := Lib.hid hev
    have HL := Lib.hid hL
    have HLV := Lib.hid hlv
    clear hL hev hlv
    have c1 : w1.cell? ⟨g, 1, none⟩ = some (.int .i64 (d1.depth : Int)) := h1.blk.cell 1
    have c3 : w1.cell? ⟨g, 3, none⟩ = some (.slice (some ⟨bl, 0, none⟩) ps.length lc) := h1.blk.cell 3
    have HH := Lib.hid (fun (n : List UInt8) (hn : n.length ≤ 9223372036854775807) W => hash_any n hn W)
    have hP0 := Part.zero w1 ow L
    go_upto_region 10 with fail
    go_loopw [7, 8, 65] (fun s7 s8 i wr => ∃ j a b, j ≤ L.length ∧ i = .int .i64 (j : Int) ∧ s7 = Sl.v a ∧ s8 = Sl.v b ∧ Part w1 wr ow L j a b) (fun _ _ i _ => L.length - (intOf i).toNat)
    case atStart => exact ⟨0, _, _, Nat.zero_le _, rfl, rfl, rfl, hP0⟩
    case round =>
      obtain ⟨j, a, b, hj, rfl, rfl, rfl, hR⟩ := hrel
      obtain ⟨wx, rfl⟩ : ∃ W : World, W = wr := ⟨_, rfl⟩
      by_cases hlt : j < L.length
      · obtain ⟨eb, cap, ev, -, x0, x1, -, -⟩ := rowE_at (hent.non hR.keep) hlt
        injection ev with e1 e2 e3
        clear e2
        subst e1 e3
        have HG := Lib.hid (goes_code L[j] ow)
        have HHj := Lib.hid (HH.out L[j].name (HNL.out j hlt))
        obtain ⟨x, hx⟩ : ∃ x, x = L[j] := ⟨_, rfl⟩
        rw [← hx] at x0 x1 HG HHj
        have HX := Lib.hid hx
        clear hx
        go_upto_region 12 with fail
        have hR2 := hR.non ((Keeps.refl Non wx).alloc (.cells #[.string (str x.name), .int .i64 x.val] 56))
        have hX2 := Blk.new wx 56 #[.string (str x.name), .int .i64 x.val]
        obtain ⟨w2, hw2⟩ : ∃ W : World, W = wx.alloc (.cells #[.string (str x.name), .int .i64 x.val] 56) := ⟨_, rfl⟩
        obtain ⟨xb, hxb⟩ : ∃ b, b = wx.heap.size := ⟨_, rfl⟩
        rw [← hw2] at hR2 hX2 ⊢
        rw [← hxb] at hX2 ⊢
        clear hw2 hxb x0 x1 hR
        have y0 : w2.cell? ⟨xb, 0, none⟩ = some (.string (str x.name)) := hX2.cell 0
        have y1 : w2.cell? ⟨xb, 1, none⟩ = some (.int .i64 x.val) := hX2.cell 1
        obtain ⟨gx, hgx⟩ : ∃ G, G = goes ow x := ⟨_, rfl⟩
        rw [← hgx] at HG
        have HGX := Lib.hid hgx
        clear hgx
        go_upto_if 75 with ((go_at_call 16; refine (HHj.out _).mono ?_; rintro e w' ⟨rfl, hww⟩; subst w'))
        obtain ⟨bA, bn, bc⟩ := b
        obtain rfl : bn = (overL ow (L.take j)).length := by obtain ⟨_, _, e, -⟩ := hR2.over.val; injection e
        obtain ⟨aA, an, ac⟩ := a
        obtain rfl : an = (stayL ow (L.take j)).length := by obtain ⟨_, _, e, -⟩ := hR2.stay.val; injection e
        have HLa : Hid ((stayL ow (L.take j)).length + 1 ≤ maxLen ∧ ((stayL ow (L.take j)).length + 1) * 24 ≤ 140737488355328) := Lib.hid (by have : (stayL ow (L.take j)).length ≤ 50 := Nat.le_trans (List.length_filter_le _ _) (Nat.le_trans (List.length_take_le ..) (by omega)); unfold maxLen; omega)
        have HLb : Hid ((overL ow (L.take j)).length + 1 ≤ maxLen ∧ ((overL ow (L.take j)).length + 1) * 24 ≤ 140737488355328) := Lib.hid (by have : (overL ow (L.take j)).length ≤ 50 := Nat.le_trans (List.length_filter_le _ _) (Nat.le_trans (List.length_take_le ..) (by omega)); unfold maxLen; omega)
        have hR3 := hR2.non ((Keeps.refl Non w2).alloc (.cells #[.string (str x.name), .int .i64 x.val] 56))
        have hgb := HG.out
        clear HG HHj HH
        cases gx
        · go_wp2_with (refine wpList_append_row (o := ⟨some 83, _, _, _, _, _⟩) rfl (.tmp 80) (.tmp 82) 32 rfl 56 2 encE _ 24 Try.underlying32 info56 rfl (by decide) encE_len encE_one (.slice aA (stayL ow (L.take j)).length ac) (stayL ow (L.take j)) rfl hR3.stay (some ⟨w2.heap.size, 0, none⟩) 1 1 [x] rfl rfl (Ats.lit w2 #[.string (str x.name), .int .i64 x.val] 56 _ rfl) HLa.out.1 HLa.out.2 ?_; intro u8 w8 hO8 hK8 hat; obtain ⟨s8, rfl, -⟩ := RowP.sl hO8)
          go_roundw
          case rel => exact ⟨j + 1, s8, _, by omega, by go_num, rfl, rfl, hR3.goA hlt (by rw [← HX.out]; exact HGX.out.symm) (by rw [← HX.out]; exact hO8) hK8 hat⟩
          case measure => simp [intOf]; omega
        · go_wp2_with (refine wpList_append_row (o := ⟨some 79, _, _, _, _, _⟩) rfl (.tmp 76) (.tmp 78) 32 rfl 56 2 encE _ 24 Try.underlying32 info56 rfl (by decide) encE_len encE_one (.slice bA (overL ow (L.take j)).length bc) (overL ow (L.take j)) rfl hR3.over (some ⟨w2.heap.size, 0, none⟩) 1 1 [x] rfl rfl (Ats.lit w2 #[.string (str x.name), .int .i64 x.val] 56 _ rfl) HLb.out.1 HLb.out.2 ?_; intro u8 w8 hO8 hK8 hat; obtain ⟨s8, rfl, -⟩ := RowP.sl hO8)
          go_roundw
          case rel => exact ⟨j + 1, _, s8, by omega, by go_num, rfl, rfl, hR3.goB hlt (by rw [← HX.out]; exact HGX.out.symm) (by rw [← HX.out]; exact hO8) hK8 hat⟩
          case measure => simp [intOf]; omega
      · obtain rfl : j = L.length := by omega
        have h2 := h1.non hR.keep
        obtain ⟨bt1, ct1, e1, -, -⟩ := rowN_at h2.tab (i := 0) hpos
        injection e1 with e1 e2 e3
        clear e2
        subst e1 e3
        have d2 : wx.cell? ⟨g, 2, none⟩ = some (.slice (some ⟨bt1, 0, none⟩) d1.table.length t1c) := h2.blk.cell 2
        have d3 : wx.cell? ⟨g, 3, none⟩ = some (.slice (some ⟨bl, 0, none⟩) ps.length lc) := h2.blk.cell 3
        have hT0 : DictM 69 66 wx g { d1 with table := turnT ow k ps.length d1.table 0 } ⟨some ⟨bt1, 0, none⟩, d1.table.length, t1c⟩ ⟨some ⟨bl, 0, none⟩, ps.length, lc⟩ ps := by rw [turnT_zero]; exact h2
        clear HH
        go_upto_region 17 with fail
        obtain ⟨wz, rfl⟩ : ∃ W : World, W = wx := ⟨_, rfl⟩
        clear d2 d3 c1 c3
        go_loopw [90] (fun i wr => ∃ n, n ≤ d1.table.length ∧ i = .int .i64 (n : Int) ∧ DictM 69 66 wr g { d1 with table := turnT ow k ps.length d1.table n } ⟨some ⟨bt1, 0, none⟩, d1.table.length, t1c⟩ ⟨some ⟨bl, 0, none⟩, ps.length, lc⟩ ps ∧ Keeps (Only bt1) wz wr) (fun i _ => d1.table.length - (intOf i).toNat)
        case atStart => exact ⟨0, Nat.zero_le _, rfl, hT0, Keeps.refl _ _⟩
        case round =>
          obtain ⟨n, hn, rfl, hD, hKn⟩ := hrel
          obtain ⟨wy, rfl⟩ : ∃ W : World, W = wr := ⟨_, rfl⟩
          by_cases hnt : n < d1.table.length
          · obtain ⟨bt2, ct2, e1, -, x0, xf, -⟩ := rowN_at hD.tab (i := n) (by rw [turnT_len]; exact hnt)
            have hbt : bt2 = bt1 := by injection e1 with e1; injection e1 with e1; injection e1 with e1; exact e1.symm
            rw [hbt] at x0 xf
            rw [turnT_get _ _ _ _ _ _ hnt, if_neg (fun hh => Nat.lt_irrefl _ hh.1)] at x0
            clear e1 hbt
            have hnb := place_bit n ow (by omega)
            obtain ⟨q, hq⟩ : ∃ q, q = d1.table[n] := ⟨_, rfl⟩
            rw [← hq] at x0
            have HQ := Lib.hid hq
            clear hq
            have hlen : (turnT ow k ps.length d1.table n).length = d1.table.length := turnT_len ..
            have HLEN := Lib.hid hlen
            clear hlen
            by_cases hqk : q = k
            · have hqb : ((q : Int) == (k : Int)) = true := by simp [hqk]
              have HQK := Lib.hid hqk
              clear hqk
              cases hbb : bitB ow n
              · have HBB := Lib.hid hbb
                rw [hbb] at hnb
                clear hbb
                go_wp2_with fail
                go_roundw
                case rel => exact ⟨n + 1, by omega, by go_num, by rw [turnT_same _ _ _ _ _ hnt (by rw [HBB.out]; simp)]; exact hD, hKn⟩
                case measure => simp [intOf]; omega
              · have HBB := Lib.hid hbb
                rw [hbb] at hnb
                clear hbb
                have hDd := hD.non (Keeps.refl Non wy).drew
                have z2 : wy.drew.cell? ⟨g, 2, none⟩ = some (.slice (some ⟨bt1, 0, none⟩) d1.table.length t1c) := hDd.blk.cell 2
                have z3 : wy.drew.cell? ⟨g, 3, none⟩ = some (.slice (some ⟨bl, 0, none⟩) ps.length lc) := hDd.blk.cell 3
                have zf := xf n
                have zfd : wy.drew.frozen? ⟨bt1, n, none⟩ = false := zf
                clear xf
                have HDS : Hid (DictM 69 66 (wy.drew.setCell ⟨bt1, n, none⟩ (.int .i64 (ps.length : Int))) g { d1 with table := turnT ow k ps.length d1.table (n + 1) } ⟨some ⟨bt1, 0, none⟩, d1.table.length, t1c⟩ ⟨some ⟨bl, 0, none⟩, ps.length, lc⟩ ps) := by
                  show DictM _ _ _ _ _ _ _ _
                  rw [turnT_set _ _ _ _ _ hnt ⟨by rw [← HQ.out]; exact HQK.out, HBB.out⟩]
                  have h3 := hDd
                  rw [← HLEN.out] at h3 ⊢
                  exact h3.setT (d := { d1 with table := turnT ow k ps.length d1.table n }) (by show n < (turnT ow k ps.length d1.table n).length; rw [HLEN.out]; exact hnt)
                go_upto_region 20 with fail
                go_region_with (fail)
                all_goals
                  go_wp2_with fail
                  go_roundw
                  case rel => exact ⟨n + 1, by omega, by go_num, HDS.out, hKn.drew.set (p := ⟨bt1, n, none⟩) rfl _⟩
                  case measure => simp [intOf]; omega
            · have hqb : ((q : Int) == (k : Int)) = false := by simp; omega
              have HQK := Lib.hid hqk
              clear hqk
              go_wp2_with fail
              go_roundw
              case rel => exact ⟨n + 1, by omega, by go_num, by rw [turnT_same _ _ _ _ _ hnt (fun hh => HQK.out (HQ.out.trans hh.1))]; exact hD, hKn⟩
              case measure => simp [intOf]; omega
          · obtain rfl : n = d1.table.length := by omega
            have hM := split_mid h1 hR hD hKn hkp
            have hz9 : w1.heap.size ≤ ((wy.setCell ⟨bl, k * 2, none⟩ (.int .i64 ((ow : Int) + 1))).setCell ⟨bl, k * 2 + 1, none⟩ a.v).heap.size := Nat.le_trans hR.keep.size (Nat.le_trans hKn.size hM.2.2.2.size)
            have c3 : wy.cell? ⟨g, 3, none⟩ = some (.slice (some ⟨bl, 0, none⟩) ps.length lc) := hD.blk.cell 3
            obtain ⟨bl2, cl2, e1, -, x0, x1, xf, -⟩ := rowP_at hD.lvs hkp
            have hbl2 : bl2 = bl := by injection e1 with e1; injection e1 with e1; injection e1 with e1; exact e1.symm
            rw [hbl2] at xf x0 x1
            have xf0 := xf (k * 2)
            have xf1 := xf (k * 2 + 1)
            clear xf e1 hbl2
            obtain ⟨aA, an, ac⟩ := a
            obtain ⟨bA, bn, bc⟩ := b
            go_upto_region 23 with fail
            obtain ⟨wp, hwp⟩ : ∃ W : World, W = (wy.setCell ⟨bl, k * 2, none⟩ (.int .i64 ((ow : Int) + 1))).setCell ⟨bl, k * 2 + 1, none⟩ (.slice aA an ac) := ⟨_, rfl⟩
            rw [← hwp] at hM hz9 ⊢
            obtain ⟨hM1, hM2, hM3, hM4⟩ := hM
            clear hwp c3 xf0 xf1 x0 x1
            have hps : (ps.set k (ow + 1, (⟨aA, an, ac⟩ : Sl))).length = ps.length := List.length_set
            have c3 : wp.cell? ⟨g, 3, none⟩ = some (.slice (some ⟨bl, 0, none⟩) ps.length lc) := hM1.blk.cell 3
            have hA := (Keeps.refl Non wp).alloc (.cells #[.int .i64 ((ow : Int) + 1), .slice bA bn bc] 66)
            have hMA := hM1.non hA
            have c4 : (wp.alloc (.cells #[.int .i64 ((ow : Int) + 1), .slice bA bn bc] 66)).cell? ⟨g, 3, none⟩ = some (.slice (some ⟨bl, 0, none⟩) ps.length lc) := hMA.blk.cell 3
            have hlvA := hMA.lvs
            have HgL := Lib.hid (nod_iff.1 hMA.nod).gl
            have HBB : Hid ((ps.set k (ow + 1, (⟨aA, an, ac⟩ : Sl))).length + 1 ≤ maxLen ∧ ((ps.set k (ow + 1, (⟨aA, an, ac⟩ : Sl))).length + 1) * 32 ≤ 140737488355328) := Lib.hid (by rw [hps]; unfold maxLen; omega)
            have HPS := Lib.hid hps
            clear hps
            go_wp2_with (refine wpList_append_row (o := ⟨some 137, _, _, _, _, _⟩) rfl (.tmp 131) (.tmp 136) 67 rfl 66 2 encP _ 32 Try.underlying67 info66 rfl (by decide) encP_len encP_one (.slice (some ⟨bl, 0, none⟩) ps.length lc) (ps.set k (ow + 1, (⟨aA, an, ac⟩ : Sl))) rfl hlvA (some ⟨wp.heap.size, 0, none⟩) 1 1 [(ow + 1, (⟨bA, bn, bc⟩ : Sl))] rfl rfl (Ats.lit wp #[.int .i64 ((ow : Int) + 1), .slice bA bn bc] 66 _ rfl) HBB.out.1 HBB.out.2 ?_; intro u8 w8 hO8 hK8 hat; obtain ⟨s8, rfl, -⟩ := RowP.sl hO8; have hB8 := hMA.blk.keep hK8 HgL.out; have z8 := hB8.cell 3; have f8 := hB8.frozen 3)
            have hS := hM1.snoc hM2 hM3 hA hO8 hK8 hat
            have hF := split_fin h1 hR hK1 hT1 hKn hM4 hz9 hS.2.1 hS.2.2
            go_ret
            refine ⟨rfl, _, _, _, ?_, hF⟩
            have e1 : splitD d k = { { { d1 with table := turnT ow k ps.length d1.table d1.table.length } with leaves := d1.leaves.set k ⟨ow + 1, stayL ow L⟩ } with leaves := d1.leaves.set k ⟨ow + 1, stayL ow L⟩ ++ [⟨ow + 1, overL ow L⟩] } := by
              unfold splitD
              simp only [HOW.out]
              rw [← HD1.out, HLV.out, ← HL.out, ← HLEN0.out]
            rw [e1]
            exact hS.1
end Go.Proofs.Ytiieglfpmmhfiaa
