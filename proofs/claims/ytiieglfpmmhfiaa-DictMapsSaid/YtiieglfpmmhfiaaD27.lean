/- whole. -/
import Derived.Test.YtiieglfpmmhfiaaD26
import Derived.Test.YtiieglfpmmhfiaaP7
namespace Go.Proofs.Ytiieglfpmmhfiaa
set_option maxRecDepth 100000
open Go.RowKit Go.Uc

/-- A dictionary as it stands in memory while it is being read: only what the walk leans on. -/
structure Sized (d : Dic) : Prop where
  tl : d.table.length ≤ 32
  ll : d.leaves.length ≤ 40
  lo : ∀ x ∈ d.leaves, x.depth ≤ 5
  nm : ∀ x ∈ d.leaves, ∀ e ∈ x.l, e.name.length ≤ 24
  en : ∀ x ∈ d.leaves, x.l.length ≤ 60
theorem and_mask (x n : Nat) (h : n ≤ 5) (hx : x ≤ 4294967295) : bits .and .i64 (x : Int) ((2 ^ n - 1 : Nat) : Int) = ((x % 2 ^ n : Nat) : Int) := by
  have hp := two_pow n h
  rw [(bits_nat .i64 63 (by decide) (fun n h0 h1 => by rw [IntKind.wrap_i64]; omega) x (2 ^ n - 1) (by omega) (by omega)).1]
  rw [Nat.and_two_pow_sub_one_eq_mod]
theorem mask_of (n : Nat) (h : n ≤ 5) : wrap64 (wrap64 ((2 : Int) ^ n) - 1) = ((2 ^ n - 1 : Nat) : Int) := by
  have hp := two_pow n h
  have e : (2 : Int) ^ n = ((2 ^ n : Nat) : Int) := by simp
  rw [e]
  have e2 : wrap64 ((2 ^ n : Nat) : Int) = ((2 ^ n : Nat) : Int) := IntWalk.wrap64_in _ ⟨by omega, by omega⟩
  rw [e2, IntWalk.wrap64_in _ ⟨by omega, by omega⟩]
  omega
theorem hashI_any (L : List UInt8) (hn : L.length ≤ 9223372036854775807) (w : World) : Calls Try.prog 16 #[.string (str L)] w fun e w' => e = .returned (.int .u32 (hash L : Int)) ∧ w' = w := hash_any L hn w
theorem hash_le (L : List UInt8) : hash L ≤ 4294967295 := by have := (hashB L).isLt; unfold hash; omega
/-- What whole answers. -/
def WholeR (w : World) (d : Dic) (e : Ending) (w' : World) : Prop := (Whole d ∧ e = .returned (.bool true) ∨ ¬ Whole d ∧ e = .returned (.bool false)) ∧ Keeps Non w w'
set_option maxHeartbeats 8000000 in
theorem whole_any {w : World} {g : Nat} {d : Dic} {t l : Sl} {ps : List (Nat × Sl)} (h : DictM 69 66 w g d t l ps) (hs : Sized d) :
    Calls Try.prog 69 #[.pointer (some ⟨g, 0, none⟩)] w (WholeR w d) := by
  obtain ⟨lA, lc, hle, -, -⟩ := h.lvs.val
  obtain ⟨tA, tc, hte, -, -⟩ := h.tab.val
  have hlen := h.len
  have hll := hs.ll
  obtain ⟨c0, c1, c2, c3⟩ := dict_cells h
  rw [hle] at c3
  rw [hte] at c2
  have hT : RowN w (.slice tA d.table.length tc) d.table := by rw [← hte]; exact h.tab
  have HTE := Lib.hid hte
  clear c0 hte
  go_enter Try.func69, Try.ntmps69
  go_upto_region 3 with fail
  go_loopw [3, 17] (fun b i wr => ∃ (k : Nat) (bb : Bool), k ≤ d.leaves.length ∧ i = .int .i64 (k : Int) ∧ b = .bool bb ∧ Hid (bb = true ↔ ∃ j, j < k ∧ (leafAt d j).depth = d.depth) ∧ Hid (∀ j, j < k → LeafOk d j) ∧ Keeps Non w wr) (fun _ i _ => d.leaves.length - (intOf i).toNat)
  case atStart => exact ⟨0, false, Nat.zero_le _, rfl, rfl, Lib.hid ⟨(fun e => by cases e), (fun ⟨j, h, _⟩ => absurd h (by omega))⟩, Lib.hid (fun j h => by omega), Keeps.refl _ _⟩
  case round =>
    obtain ⟨k, bb, hk, rfl, rfl, HB, HW, hK⟩ := hrel
    obtain ⟨wx, rfl⟩ : ∃ W : World, W = wr := ⟨_, rfl⟩
    by_cases hlt : k < d.leaves.length
    · have hkp : k < ps.length := by omega
      obtain ⟨bl, cl, e2, -, x0, x1, -, -⟩ := rowP_at (h.lvs.non hK) hkp
      rw [hle] at e2
      injection e2 with e2 e2b e2c
      clear e2b
      subst e2 e2c
      have hE := (h.ent k hkp hlt).non hK
      have hdp := h.dep k hkp hlt
      obtain ⟨eA, ec, hev, -, -⟩ := hE.val
      rw [hev] at x1 hE
      rw [hdp] at x0
      have hlo := hs.lo _ (List.getElem_mem hlt)
      have hnm := hs.nm _ (List.getElem_mem hlt)
      have hen := hs.en _ (List.getElem_mem hlt)
      have HLA : Hid (leafAt d k = d.leaves[k]) := Lib.hid (leafAt_get hlt)
      generalize d.leaves[k] = lf at x0 x1 hE hlo hnm hen HLA
      obtain ⟨dp, L⟩ := lf
      simp only at x0 x1 hE hlo hnm hen
      clear hev hdp
      have hki : (k : Int) < (ps.length : Int) := by omega
      go_upto_region 5 with fail
      have hk2 := (Keeps.refl Non wx).alloc (.cells #[.int .i64 (dp : Int), .slice eA L.length ec] 66)
      have hX := Blk.new wx 66 #[.int .i64 (dp : Int), .slice eA L.length ec]
      obtain ⟨w2, hw2⟩ : ∃ W : World, W = wx.alloc (.cells #[.int .i64 (dp : Int), .slice eA L.length ec] 66) := ⟨_, rfl⟩
      rw [← hw2] at hk2 hX ⊢
      have hE2 := hE.non hk2
      have hK2 := hK.non hk2
      have hM2 := h.non hK2
      have hxb : wx.heap.size ≠ g := by have := (h.non hK).blk.lt; omega
      clear hw2 x0 x1 hE hK hk2
      generalize wx.heap.size = xb at *
      obtain ⟨-, d1, d2, -⟩ := dict_cells hM2
      have x0 : w2.cell? ⟨xb, 0, none⟩ = some (.int .i64 (dp : Int)) := hX.cell 0
      have x1 : w2.cell? ⟨xb, 1, none⟩ = some (.slice eA L.length ec) := hX.cell 1
      have hT2 := hT.non hK2
      rw [HTE.out] at d2
      have HIX := Lib.hid (index_any hT2 k)
      go_wp2_with fail
      refine HIX.out.mono ?_
      rintro e w3 (⟨⟨f, hf, rfl, hfk, -⟩, rfl⟩ | ⟨⟨rfl, hnot⟩, rfl⟩)
      · have HL : Hid (LeafOk d k ↔ (∀ i, i < d.table.length → (tAt d i = k ↔ i % 2 ^ dp = f % 2 ^ dp)) ∧ ∀ e ∈ L, hash e.name % 2 ^ dp = f % 2 ^ dp) := Lib.hid (by
          unfold LeafOk
          rw [HLA.out]
          constructor
          · rintro ⟨p, hp, hpk, h1, h2⟩
            have hfp : f % 2 ^ dp = p % 2 ^ dp := (h1 f hf).1 (by rw [tAt_get hf]; exact hfk)
            rw [hfp]
            exact ⟨h1, h2⟩
          · rintro ⟨h1, h2⟩
            exact ⟨f, hf, by rw [tAt_get hf]; exact hfk, h1, h2⟩)
        have HFK := Lib.hid hfk
        have hf32 : f < 32 := by have := hs.tl; omega
        have hf0 : (0 : Int) ≤ (f : Int) := by omega
        clear hfk
        have HMk := mask_of dp hlo
        have HAnd := Lib.hid (fun x => and_mask x dp hlo)
        obtain ⟨M, hM⟩ : ∃ M, M = 2 ^ dp - 1 := ⟨_, rfl⟩
        obtain ⟨u, hu⟩ : ∃ u, u = 2 ^ dp := ⟨_, rfl⟩
        rw [← hM] at HMk HAnd
        rw [← hu] at HAnd HL
        clear hM hu
        have hand : bits .and .i64 (f : Int) (M : Int) = ((f % u : Nat) : Int) := HAnd.out f (by omega)
        have HL' : Hid (LeafOk d k ↔ (∀ i, i < d.table.length → (tAt d i = k ↔ i % u = f % u)) ∧ ∀ e ∈ L, hash e.name % u = f % u) := HL
        clear HL
        generalize f % u = r at hand HL'
        go_upto_region 8 with fail
        have HB3 : Hid (∀ b2 : Bool, (b2 = true ↔ bb = true ∨ dp = d.depth) → (b2 = true ↔ ∃ j, j < k + 1 ∧ (leafAt d j).depth = d.depth)) := Lib.hid (fun b2 h => by
          rw [h, HB.out]
          constructor
          · rintro (⟨j, hj, e⟩ | e)
            · exact ⟨j, by omega, e⟩
            · exact ⟨k, by omega, by rw [HLA.out]; exact e⟩
          · rintro ⟨j, hj, e⟩
            rcases Nat.lt_or_ge j k with h' | h'
            · exact .inl ⟨j, h', e⟩
            · obtain rfl : j = k := by omega
              rw [HLA.out] at e
              exact .inr e)
        have hr3 : bb = true ∨ (bb = false ∧ dp = d.depth) ∨ (bb = false ∧ dp ≠ d.depth) := by
          cases bb
          · by_cases h : dp = d.depth
            · exact .inr (.inl ⟨rfl, h⟩)
            · exact .inr (.inr ⟨rfl, h⟩)
          · exact .inl rfl
        rcases hr3 with h3 | ⟨h3, h4⟩ | ⟨h3, h4⟩
        case' inl =>
          have HB2 := Lib.hid (HB3.out true ⟨fun _ => .inl h3, fun _ => rfl⟩)
          subst h3
        case' inr.inl =>
          have HB2 := Lib.hid (HB3.out true ⟨fun _ => .inr h4, fun _ => rfl⟩)
          have hdb : ((dp : Int) == (d.depth : Int)) = true := by simp [h4]
          subst h3
          clear h4
        case' inr.inr =>
          have HB2 := Lib.hid (HB3.out false ⟨(fun e => by cases e), (fun e => by rcases e with e | e; (rw [h3] at e; cases e); (exact absurd e h4))⟩)
          have hdb : ((dp : Int) == (d.depth : Int)) = false := beq_eq_false_iff_ne.2 (by omega)
          subst h3
          clear h4
        all_goals
          clear HB3 HB
          go_upto_region 9 with fail
          rw [HMk]
          go_quiet (fail)
          go_upto_region 11 with fail
          obtain ⟨w4, hw4⟩ : ∃ W : World, W = w3.drewN nq := ⟨_, rfl⟩
          rw [← hw4]
          have hk4 : Keeps Non w3 w4 := by rw [hw4]; exact (Keeps.refl _ _).drewN _
          clear hw4
          have hE4 := hE2.non hk4
          have hK4 := hK2.non hk4
          have hT4 := hT2.non hk4
          have y1 : w4.cell? ⟨xb, 1, none⟩ = some (.slice eA L.length ec) := (hX.non hk4).cell 1
          have hX4 := hX.non hk4
          have htl := hs.tl
          clear hk4 x0 x1 d1 d2 hX hE2 hK2 hM2
          go_loop [49] (fun i => ∃ j : Nat, j ≤ d.table.length ∧ i = .int .i64 (j : Int) ∧ Hid (∀ i, i < j → (tAt d i = k ↔ i % u = r))) (fun i => d.table.length - (intOf i).toNat)
          case atStart => exact ⟨0, Nat.zero_le _, rfl, Lib.hid (fun i h => absurd h (by omega))⟩
          case round =>
            obtain ⟨j, hj, rfl, HT⟩ := hrel
            by_cases hjl : j < d.table.length
            · obtain ⟨bt, ct, e1, -, z0, -⟩ := rowN_at hT4 hjl
              injection e1 with e1 e1b e1c
              clear e1b
              subst e1 e1c
              have hta : Hid (tAt d j = d.table[j]) := Lib.hid (tAt_get hjl)
              generalize d.table[j] = tv at z0 hta
              have hand2 : bits .and .i64 (j : Int) (M : Int) = ((j % u : Nat) : Int) := HAnd.out j (by omega)
              have HTS : Hid ((tv = k ↔ j % u = r) → ∀ i, i < j + 1 → (tAt d i = k ↔ i % u = r)) := Lib.hid (fun h i hi => by
                rcases Nat.lt_or_ge i j with h' | h'
                · exact HT.out i h'
                · obtain rfl : i = j := by omega
                  rw [hta.out]; exact h)
              have HNW : Hid (¬ (tv = k ↔ j % u = r) → ¬ Whole d) := Lib.hid (fun h hw => h (by
                have := (HL'.out.1 (hw.1 k hlt)).1 j hjl
                rw [hta.out] at this
                exact this))
              generalize j % u = r2 at hand2 HTS HNW
              by_cases q1 : tv = k <;> by_cases q2 : r2 = r
              · have HTT := Lib.hid (HTS.out ⟨fun _ => q2, fun _ => q1⟩)
                have b1 : ((tv : Int) == (k : Int)) = true := by simp [q1]
                have b2 : ((r2 : Int) == (r : Int)) = true := by simp [q2]
                clear q1 q2
                go_wp2_with fail
                go_round
                case rel => exact ⟨j + 1, by omega, by go_num, HTT⟩
                case measure => simp [intOf]; omega
              · have HNN := Lib.hid (HNW.out fun h => q2 (h.1 q1))
                have b1 : ((tv : Int) == (k : Int)) = true := by simp [q1]
                have b2 : ((r2 : Int) == (r : Int)) = false := beq_eq_false_iff_ne.2 (by omega)
                clear q1 q2
                go_wp2_with fail
                go_ret
                exact ⟨.inr ⟨HNN.out, rfl⟩, hK4⟩
              · have HNN := Lib.hid (HNW.out fun h => q1 (h.2 q2))
                have b1 : ((tv : Int) == (k : Int)) = false := beq_eq_false_iff_ne.2 (by omega)
                have b2 : ((r2 : Int) == (r : Int)) = true := by simp [q2]
                clear q1 q2
                go_wp2_with fail
                go_ret
                exact ⟨.inr ⟨HNN.out, rfl⟩, hK4⟩
              · have HTT := Lib.hid (HTS.out ⟨fun h => absurd h q1, fun h => absurd h q2⟩)
                have b1 : ((tv : Int) == (k : Int)) = false := beq_eq_false_iff_ne.2 (by omega)
                have b2 : ((r2 : Int) == (r : Int)) = false := beq_eq_false_iff_ne.2 (by omega)
                clear q1 q2
                go_wp2_with fail
                go_round
                case rel => exact ⟨j + 1, by omega, by go_num, HTT⟩
                case measure => simp [intOf]; omega
            · have HTA : Hid (∀ i, i < d.table.length → (tAt d i = k ↔ i % u = r)) := Lib.hid (fun i hi => HT.out i (by omega))
              go_upto_region 17 with fail
              go_loopw [69] (fun i wr => ∃ m : Nat, m ≤ L.length ∧ i = .int .i64 (m : Int) ∧ Hid (∀ e ∈ L.take m, hash e.name % u = r) ∧ Keeps Non w4 wr) (fun i _ => L.length - (intOf i).toNat)
              case atStart => exact ⟨0, Nat.zero_le _, rfl, Lib.hid (fun e h => by simp at h), Keeps.refl _ _⟩
              case round =>
                obtain ⟨m, hm, rfl, HE, hk5⟩ := hrel
                obtain ⟨wy, rfl⟩ : ∃ W : World, W = wr := ⟨_, rfl⟩
                by_cases hml : m < L.length
                · obtain ⟨eb, cap, ev, -, z0, z1, -, -⟩ := rowE_at (hE4.non hk5) hml
                  injection ev with e1 e2 e3
                  clear e2
                  subst e1 e3
                  have hnl := hnm L[m] (List.getElem_mem hml)
                  have hmem : L[m] ∈ L := List.getElem_mem hml
                  have hts : L.take (m + 1) = L.take m ++ [L[m]] := List.take_succ_eq_append_getElem hml
                  have HES : Hid (hash L[m].name % u = r → ∀ e ∈ L.take (m + 1), hash e.name % u = r) := Lib.hid (fun h e he => by
                    rw [hts] at he
                    rcases List.mem_append.1 he with he | he
                    · exact HE.out e he
                    · rw [List.mem_singleton] at he; rw [he]; exact h)
                  have HNW : Hid (¬ hash L[m].name % u = r → ¬ Whole d) := Lib.hid (fun h hw => h ((HL'.out.1 (hw.1 k hlt)).2 _ hmem))
                  clear hts hmem
                  generalize L[m] = e at z0 z1 hnl HES HNW
                  have HH := Lib.hid (fun W => hashI_any e.name (by omega) W)
                  have hhl := hash_le e.name
                  have hh0 : (0 : Int) ≤ (hash e.name : Int) := by omega
                  have hand2 : bits .and .i64 (hash e.name : Int) (M : Int) = ((hash e.name % u : Nat) : Int) := HAnd.out _ hhl
                  generalize hash e.name % u = r2 at hand2 HES HNW
                  generalize hash e.name = hv at HH hhl hand2 hh0
                  have hk6 := hk5.alloc (.cells #[.string (str e.name), .int .i64 e.val] 56)
                  by_cases q : r2 = r
                  · have HEE := Lib.hid (HES.out q)
                    subst q
                    go_wp2_with ((go_at_call 16; refine (HH.out _).mono ?_; rintro e w9 ⟨rfl, rfl⟩))
                    go_roundw
                    case rel => exact ⟨m + 1, by omega, by go_num, HEE, hk6⟩
                    case measure => simp [intOf]; omega
                  · have HNN := Lib.hid (HNW.out q)
                    have b2 : ((r2 : Int) != (r : Int)) = true := by simp; omega
                    clear q
                    go_wp2_with ((go_at_call 16; refine (HH.out _).mono ?_; rintro e w9 ⟨rfl, rfl⟩))
                    go_ret
                    exact ⟨.inr ⟨HNN.out, rfl⟩, hK4.non hk6⟩
                · obtain rfl : m = L.length := by omega
                  have HW2 : Hid (∀ j, j < k + 1 → LeafOk d j) := Lib.hid (fun j hj => by
                    rcases Nat.lt_or_ge j k with h' | h'
                    · exact HW.out j h'
                    · obtain rfl : j = k := by omega
                      refine HL'.out.2 ⟨HTA.out, ?_⟩
                      have := HE.out
                      rwa [List.take_of_length_le (Nat.le_refl _)] at this)
                  have hK9 := hK4.non hk5
                  go_wp2_with fail
                  go_roundw
                  case rel => exact ⟨k + 1, _, by omega, by go_num, rfl, Lib.hid (by have := HB2.out; simpa using this), HW2, hK9⟩
                  case measure => simp [intOf]; omega
      · have HNW : Hid (¬ Whole d) := Lib.hid (fun ⟨hw, _⟩ => by
          obtain ⟨p, hp, hpk, -⟩ := hw k hlt
          rw [tAt_get hp] at hpk
          exact hnot (by rw [← hpk]; exact List.getElem_mem hp))
        go_wp2_with fail
        go_ret
        exact ⟨.inr ⟨HNW.out, rfl⟩, hK2⟩
    · obtain rfl : k = d.leaves.length := by omega
      go_wp2_with fail
      go_ret
      refine ⟨?_, hK⟩
      by_cases hd : bb = true
      · subst hd
        obtain ⟨j, hj, hjd⟩ := HB.out.1 rfl
        exact .inl ⟨⟨HW.out, j, hj, hjd⟩, rfl⟩
      · refine .inr ⟨fun ⟨_, j, hj, hjd⟩ => hd (HB.out.2 ⟨j, hj, hjd⟩), ?_⟩
        have : bb = false := by simpa using hd
        rw [this]
        rfl
end Go.Proofs.Ytiieglfpmmhfiaa
