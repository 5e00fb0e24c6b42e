/- The document's belongs. What is told and belongs together is a dictionary. The document's Open. The document's Open. -/
import Derived.Test.YtiieglfpmmhfiaaD45
namespace Go.Proofs.Ytiieglfpmmhfiaa
set_option maxRecDepth 100000
open Go.RowKit Go.Uc

/-- A leaf where it must be. -/
def BelP (d : Dic) (k : Nat) : Prop := (leafAt d k).depth ≤ d.depth ∧ LeafOk d k ∧ Srt (leafAt d k).l
def BelR (w : World) (d : Dic) (k : Nat) (e : Ending) (w' : World) : Prop := (BelP d k ∧ e = .returned (.bool true) ∨ ¬ BelP d k ∧ e = .returned (.bool false)) ∧ Keeps Non w w'
theorem BelR.no {w w' : World} {d : Dic} {k : Nat} (h : ¬ BelP d k) (hk : Keeps Non w w') : BelR w d k (.returned (.bool false)) w' := ⟨.inr ⟨h, rfl⟩, hk⟩
theorem refhashI_any (L : List UInt8) (hn : L.length ≤ 9223372036854775807) (w : World) : Calls Try.prog 17 #[.string (str L)] w fun e w' => e = .returned (.int .u32 (hash L : Int)) ∧ w' = w := refhash_any L hn w
/-- Where the leaf was met first, if it was. -/
def PreQ (d : Dic) (k j : Nat) : Option Nat → Prop
  | none => ∀ q, q < j → tAt d q ≠ k
  | some q => q < j ∧ tAt d q = k
def preV (u : Nat) : Option Nat → Int
  | none => -1
  | some q => ((q % u : Nat) : Int)
set_option maxHeartbeats 8000000 in
theorem belongs68_any {w : World} {g : Nat} {d : Dic} {t l : Sl} {ps : List (Nat × Sl)} (h : DictM 84 86 w g d t l ps) (hd5 : d.depth ≤ 5) (htl : d.table.length ≤ 32) (k : Nat) (hkd : k < d.leaves.length) (hld : (leafAt d k).depth ≤ 255) (h60 : (leafAt d k).l.length ≤ 60) (h24 : ∀ e ∈ (leafAt d k).l, e.name.length ≤ 24) :
    Calls Try.prog 68 #[.pointer (some ⟨g, 0, none⟩), .int .i64 (k : Int)] w (BelR w d k) := by
  have hkp : k < ps.length := by rw [h.len]; exact hkd
  obtain ⟨lA, lc, hle, -, -⟩ := h.lvs.val
  obtain ⟨tA, tc, hte, -, -⟩ := h.tab.val
  obtain ⟨-, c1, c2, c3⟩ := dict_cells h
  rw [hle] at c3
  rw [hte] at c2
  have hT : RowN w (.slice tA d.table.length tc) d.table := by rw [← hte]; exact h.tab
  obtain ⟨bl, cl, e2, -, x0, x1, -, -⟩ := rowP_at h.lvs hkp
  rw [hle] at e2
  injection e2 with e2 e2b e2c
  clear e2b
  subst e2 e2c
  have hE := h.ent k hkp hkd
  have hdp := h.dep k hkp hkd
  obtain ⟨eA, ec, hev, -, -⟩ := hE.val
  rw [hev] at x1 hE
  rw [hdp] at x0
  have HLA : Hid (leafAt d k = d.leaves[k]) := Lib.hid (leafAt_get hkd)
  rw [leafAt_get hkd] at hld h60 h24
  generalize d.leaves[k] = lf at x0 x1 hE HLA hld h60 h24
  obtain ⟨dp, L⟩ := lf
  simp only at x0 x1 hE hld h60 h24
  clear hev hdp hte hle
  have hki : (k : Int) < (ps.length : Int) := by omega
  have hk2 := (Keeps.refl Non w).alloc (.cells #[.int .i64 (dp : Int), .slice eA L.length ec] 86)
  have hX := Blk.new w 86 #[.int .i64 (dp : Int), .slice eA L.length ec]
  go_enter Try.func68, Try.ntmps68
  go_upto_region 2 with fail
  obtain ⟨w2, hw2⟩ : ∃ W : World, W = w.alloc (.cells #[.int .i64 (dp : Int), .slice eA L.length ec] 86) := ⟨_, rfl⟩
  rw [← hw2] at hk2 hX ⊢
  clear hw2
  obtain ⟨xb, hxb⟩ : ∃ b, b = w.heap.size := ⟨_, rfl⟩
  rw [← hxb] at hX ⊢
  clear hxb x0 x1
  have d1 := hk2.cell c1 id
  have d2 := hk2.cell c2 id
  have y0 : w2.cell? ⟨xb, 0, none⟩ = some (.int .i64 (dp : Int)) := hX.cell 0
  have y1 : w2.cell? ⟨xb, 1, none⟩ = some (.slice eA L.length ec) := hX.cell 1
  clear c1 c2 c3
  by_cases hlow : d.depth < dp
  · have hno : ¬ BelP d k := fun hb => by have := hb.1; rw [HLA.out] at this; simp only at this; omega
    have hlb : decide (d.depth < dp) = true := decide_eq_true hlow
    go_quiet (fail)
    go_wp2_with fail
    go_ret
    exact BelR.no hno (hk2.drewN _)
  · have hlb : decide (d.depth < dp) = false := decide_eq_false hlow
    obtain ⟨u, hu⟩ : ∃ u, u = 2 ^ dp := ⟨_, rfl⟩
    have hu32 : 1 ≤ u ∧ u ≤ 32 := by have := two_pow dp (by omega); omega
    have HPw := Lib.hid (fun W => power_any dp (by omega) W)
    rw [← hu] at HPw
    have HU := Lib.hid hu
    clear hu
    go_quiet (fail)
    go_upto_region 5 with ((go_at_call 82; go_must (refine (HPw.out _).mono ?_); rintro e w5 ⟨rfl, hw5⟩; subst w5))
    obtain ⟨w3, hw3⟩ : ∃ W : World, W = w2.drewN nq := ⟨_, rfl⟩
    rw [← hw3]
    have hk3 : Keeps Non w w3 := by rw [hw3]; exact hk2.drewN _
    have z1 : w3.cell? ⟨xb, 1, none⟩ = some (.slice eA L.length ec) := by rw [hw3]; exact y1
    have d2' : w3.cell? ⟨g, 2, none⟩ = some (.slice tA d.table.length tc) := by rw [hw3]; exact d2
    have hX3 : Blk w3 xb 86 #[.int .i64 (dp : Int), .slice eA L.length ec] := by rw [hw3]; exact hX.drewN _
    clear hw3 y0 y1 d1 d2
    have hT3 := hT.non hk3
    have hE3 := hE.non hk3
    obtain ⟨hu1, hu2⟩ := hu32
    have hu0 : ((u : Int) == 0) = false := beq_eq_false_iff_ne.2 (by omega)
    go_upto_region 7 with fail
    go_loop [7, 8] (fun f i => ∃ (j : Nat) (fo : Option Nat), j ≤ d.table.length ∧ i = .int .i64 (j : Int) ∧ f = .int .i64 (preV u fo) ∧ Hid (PreQ d k j fo)) (fun _ i => d.table.length - (intOf i).toNat)
    case atStart => exact ⟨0, none, Nat.zero_le _, rfl, rfl, Lib.hid (fun q h => absurd h (by omega))⟩
    case round =>
      obtain ⟨j, fo, hj, rfl, rfl, HF⟩ := hrel
      by_cases hjl : j < d.table.length
      · obtain ⟨bt, ct, e1, -, z0, -⟩ := rowN_at hT3 hjl
        injection e1 with e1 e1b e1c
        clear e1b
        subst e1 e1c
        have HTJ : Hid (tAt d j = d.table[j]) := Lib.hid (tAt_get hjl)
        generalize d.table[j] = tv at z0 HTJ
        have hji : (j : Int) < (d.table.length : Int) := by omega
        by_cases hq : tv = k
        · have b1 : ((tv : Int) == (k : Int)) = true := by simp [hq]
          cases fo with
          | none =>
            have hrem : (j : Int) % (u : Int) = ((j % u : Nat) : Int) := by omega
            have HFS : Hid (PreQ d k (j + 1) (some j)) := Lib.hid ⟨by omega, by rw [HTJ.out]; exact hq⟩
            clear hq
            rw [show preV u none = -1 from rfl]
            go_wp2_with fail
            go_round
            case rel => exact ⟨j + 1, some j, by omega, by go_num, by first | rfl | (show Value.int .i64 _ = Value.int .i64 _; rw [← hrem]), HFS⟩
            case measure => simp [intOf]; omega
          | some q =>
            have HFS : Hid (PreQ d k (j + 1) (some q)) := Lib.hid ⟨by have := HF.out.1; omega, HF.out.2⟩
            have hge : (0 : Int) ≤ ((q % u : Nat) : Int) := Int.natCast_nonneg _
            rw [show preV u (some q) = ((q % u : Nat) : Int) from rfl]
            generalize hqq : q % u = qu at hge ⊢
            have HQQ := Lib.hid hqq
            clear hqq hq
            go_wp2_with fail
            go_round
            case rel => exact ⟨j + 1, some q, by omega, by go_num, by show Value.int .i64 _ = Value.int .i64 ((q % u : Nat) : Int); rw [HQQ.out], HFS⟩
            case measure => simp [intOf]; omega
        · have b1 : ((tv : Int) == (k : Int)) = false := beq_eq_false_iff_ne.2 (by omega)
          have HFS : Hid (PreQ d k (j + 1) fo) := Lib.hid (by
            cases fo with
            | none =>
              intro q hqj
              rcases Nat.lt_or_ge q j with h' | h'
              · exact HF.out q h'
              · obtain rfl : q = j := by omega
                rw [HTJ.out]; exact hq
            | some q => exact ⟨by have := HF.out.1; omega, HF.out.2⟩)
          clear hq
          go_wp2_with fail
          go_round
          case rel => exact ⟨j + 1, fo, by omega, by go_num, rfl, HFS⟩
          case measure => simp [intOf]; omega
      · obtain rfl : j = d.table.length := by omega
        cases fo with
        | none =>
          have hno : ¬ BelP d k := fun hb => by
            obtain ⟨p, hp, hpk, -⟩ := hb.2.1
            exact HF.out p hp hpk
          rw [show preV u none = -1 from rfl]
          go_wp2_with fail
          go_ret
          exact BelR.no hno hk3
        | some f =>
          rw [show preV u (some f) = ((f % u : Nat) : Int) from rfl]
          have hf : f < d.table.length := HF.out.1
          have HL : Hid (LeafOk d k ↔ (∀ i, i < d.table.length → (tAt d i = k ↔ i % u = f % u)) ∧ ∀ e ∈ L, hash e.name % u = f % u) := Lib.hid (by
            unfold LeafOk
            rw [HLA.out, HU.out]
            constructor
            · rintro ⟨p, hp, hpk, h1, h2⟩
              have hfp : f % 2 ^ dp = p % 2 ^ dp := (h1 f hf).1 HF.out.2
              rw [hfp]
              exact ⟨h1, h2⟩
            · rintro ⟨h1, h2⟩
              exact ⟨f, hf, HF.out.2, h1, h2⟩)
          have hr0 : (0 : Int) ≤ ((f % u : Nat) : Int) := Int.natCast_nonneg _
          have hrl : f % u < 32 := by have := Nat.mod_lt f (show 0 < u by omega); omega
          generalize f % u = r at HL hr0 hrl ⊢
          go_upto_region 14 with fail
          go_loopw [9] (fun i wr => ∃ j : Nat, j ≤ d.table.length ∧ i = .int .i64 (j : Int) ∧ Hid (∀ i, i < j → (tAt d i = k ↔ i % u = r)) ∧ Keeps Non w3 wr) (fun i _ => d.table.length - (intOf i).toNat)
          case atStart => exact ⟨0, Nat.zero_le _, rfl, Lib.hid (fun i h => absurd h (by omega)), Keeps.refl _ _⟩
          case round =>
            obtain ⟨j, hj, rfl, HT, hk4⟩ := hrel
            obtain ⟨wx, rfl⟩ : ∃ W : World, W = wr := ⟨_, rfl⟩
            have d3 := hk4.cell d2' id
            have hKx := hk3.non hk4
            by_cases hjl : j < d.table.length
            · obtain ⟨bt, ct, e1, -, z0, -⟩ := rowN_at (hT3.non hk4) hjl
              injection e1 with e1 e1b e1c
              clear e1b
              subst e1 e1c
              have hta : Hid (tAt d j = d.table[j]) := Lib.hid (tAt_get hjl)
              generalize d.table[j] = tv at z0 hta
              have hji : (j : Int) < (d.table.length : Int) := by omega
              have hrem : (j : Int) % (u : Int) = ((j % u : Nat) : Int) := by omega
              have hrem2 : (j : Int).tmod (u : Int) = ((j % u : Nat) : Int) := by rw [Int.tmod_eq_emod_of_nonneg (by omega)]; exact hrem
              have HTS : Hid ((tv = k ↔ j % u = r) → ∀ i, i < j + 1 → (tAt d i = k ↔ i % u = r)) := Lib.hid (fun h i hi => by
                rcases Nat.lt_or_ge i j with h' | h'
                · exact HT.out i h'
                · obtain rfl : i = j := by omega
                  rw [hta.out]; exact h)
              have HNW : Hid (¬ (tv = k ↔ j % u = r) → ¬ BelP d k) := Lib.hid (fun h hw => h (by
                have := (HL.out.1 hw.2.1).1 j hjl
                rw [hta.out] at this
                exact this))
              generalize j % u = r2 at hrem hrem2 HTS HNW
              by_cases q1 : tv = k <;> by_cases q2 : r2 = r
              · have HTT := Lib.hid (HTS.out ⟨fun _ => q2, fun _ => q1⟩)
                have b1 : ((tv : Int) == (k : Int)) = true := by simp [q1]
                have b2 : ((r2 : Int) == (r : Int)) = true := by simp [q2]
                clear q1 q2
                go_upto_region 16 with fail
                go_quiet (fail)
                go_wp2_with fail
                go_roundw
                case rel => exact ⟨j + 1, by omega, by go_num, HTT, hk4.drewN _⟩
                case measure => simp [intOf]; omega
              · have HNN := Lib.hid (HNW.out fun h => q2 (h.1 q1))
                have b1 : ((tv : Int) == (k : Int)) = true := by simp [q1]
                have b2 : ((r2 : Int) == (r : Int)) = false := beq_eq_false_iff_ne.2 (by omega)
                clear q1 q2
                go_upto_region 16 with fail
                go_quiet (fail)
                go_wp2_with fail
                go_ret
                exact BelR.no HNN.out (hKx.drewN _)
              · have HNN := Lib.hid (HNW.out fun h => q1 (h.2 q2))
                have b1 : ((tv : Int) == (k : Int)) = false := beq_eq_false_iff_ne.2 (by omega)
                have b2 : ((r2 : Int) == (r : Int)) = true := by simp [q2]
                clear q1 q2
                go_upto_region 16 with fail
                go_quiet (fail)
                go_wp2_with fail
                go_ret
                exact BelR.no HNN.out (hKx.drewN _)
              · have HTT := Lib.hid (HTS.out ⟨fun h => absurd h q1, fun h => absurd h q2⟩)
                have b1 : ((tv : Int) == (k : Int)) = false := beq_eq_false_iff_ne.2 (by omega)
                have b2 : ((r2 : Int) == (r : Int)) = false := beq_eq_false_iff_ne.2 (by omega)
                clear q1 q2
                go_upto_region 16 with fail
                go_quiet (fail)
                go_wp2_with fail
                go_roundw
                case rel => exact ⟨j + 1, by omega, by go_num, HTT, hk4.drewN _⟩
                case measure => simp [intOf]; omega
            · have HTA : Hid (∀ i, i < d.table.length → (tAt d i = k ↔ i % u = r)) := Lib.hid (fun i hi => HT.out i (by omega))
              have z1x := hk4.cell z1 id
              go_upto_region 19 with fail
              go_loopw [10] (fun i wr => ∃ m : Nat, m ≤ L.length ∧ i = .int .i64 (m : Int) ∧ Hid (∀ e ∈ L.take m, hash e.name % u = r) ∧ Keeps Non w3 wr) (fun i _ => L.length - (intOf i).toNat)
              case atStart => exact ⟨0, Nat.zero_le _, rfl, Lib.hid (fun e h => by simp at h), hk4⟩
              case round =>
                obtain ⟨m, hm, rfl, HE, hk5⟩ := hrel
                obtain ⟨wy, rfl⟩ : ∃ W : World, W = wr := ⟨_, rfl⟩
                have zx := hk5.cell z1 id
                have hKy := hk3.non hk5
                by_cases hml : m < L.length
                · obtain ⟨eb, cap, ev, -, z0, z9, -, -⟩ := rowE_at (hE3.non hk5) hml
                  injection ev with e1 e2 e3
                  clear e2
                  subst e1 e3
                  have hnl := h24 L[m] (List.getElem_mem hml)
                  have hmem : L[m] ∈ L := List.getElem_mem hml
                  have hts : L.take (m + 1) = L.take m ++ [L[m]] := List.take_succ_eq_append_getElem hml
                  have HES : Hid (hash L[m].name % u = r → ∀ e ∈ L.take (m + 1), hash e.name % u = r) := Lib.hid (fun h e he => by
                    rw [hts] at he
                    rcases List.mem_append.1 he with he | he
                    · exact HE.out e he
                    · rw [List.mem_singleton] at he; rw [he]; exact h)
                  have HNW : Hid (¬ hash L[m].name % u = r → ¬ BelP d k) := Lib.hid (fun h hw => h ((HL.out.1 hw.2.1).2 _ hmem))
                  clear hts hmem
                  generalize L[m] = e at z0 z9 hnl HES HNW
                  have HH := Lib.hid (fun W => refhashI_any e.name (by omega) W)
                  have hhl := hash_le e.name
                  generalize hash e.name = hv at HH hhl HES HNW
                  have hrem : (hv : Int) % (u : Int) = ((hv % u : Nat) : Int) := by omega
                  have hr2l : hv % u < 32 := by have := Nat.mod_lt hv (show 0 < u by omega); omega
                  generalize hv % u = r2 at hrem HES HNW hr2l
                  have hmi : (m : Int) < (L.length : Int) := by omega
                  by_cases q : r2 = r
                  · have HEE := Lib.hid (HES.out q)
                    have b2 : ((r2 : Int) != (r : Int)) = false := by simp [q]
                    clear q
                    go_wp2_with ((go_at_call 17; go_must (refine (HH.out _).mono ?_); rintro e w9 ⟨rfl, hw9⟩; subst w9))
                    go_roundw
                    case rel => exact ⟨m + 1, by omega, by go_num, HEE, hk5⟩
                    case measure => simp [intOf]; omega
                  · have HNN := Lib.hid (HNW.out q)
                    have b2 : ((r2 : Int) != (r : Int)) = true := by simp; omega
                    clear q
                    go_wp2_with ((go_at_call 17; go_must (refine (HH.out _).mono ?_); rintro e w9 ⟨rfl, hw9⟩; subst w9))
                    go_ret
                    exact BelR.no HNN.out hKy
                · obtain rfl : m = L.length := by omega
                  have HLO : Hid (LeafOk d k) := Lib.hid (HL.out.2 ⟨HTA.out, by have := HE.out; rwa [List.take_of_length_le (Nat.le_refl _)] at this⟩)
                  have HRi := Lib.hid (rising84_any eA ec L (by omega) wy (hE3.non hk5))
                  have HLow : Hid ((leafAt d k).depth ≤ d.depth) := Lib.hid (by rw [HLA.out]; show dp ≤ d.depth; omega)
                  have HLl : Hid ((leafAt d k).l = L) := Lib.hid (by rw [HLA.out])
                  go_wp2_with fail
                  refine HRi.out.mono ?_
                  rintro e w9 ⟨⟨hs, rfl⟩ | ⟨hs, rfl⟩, hK9⟩
                  · have HS := Lib.hid hs
                    clear hs
                    go_wp2_with fail
                    go_ret
                    exact ⟨.inl ⟨⟨HLow.out, HLO.out, by rw [HLl.out]; exact HS.out⟩, rfl⟩, hKy.non hK9⟩
                  · have HS := Lib.hid hs
                    clear hs
                    go_wp2_with fail
                    go_ret
                    exact BelR.no (fun hb => HS.out (by have := hb.2.2; rwa [HLl.out] at this)) (hKy.non hK9)
end Go.Proofs.Ytiieglfpmmhfiaa
namespace Go.Proofs.Ytiieglfpmmhfiaa
open Go.Uc

theorem told_inv0 {rs : List (List UInt8)} {d : Dic} (h : Told rs d) (hb : ∀ k, k < d.leaves.length → BelP d k) : Inv0 d := by
  have hmem : ∀ x ∈ d.leaves, ∃ k, k < d.leaves.length ∧ x = leafAt d k := fun x hx => by
    obtain ⟨k, hk, rfl⟩ := List.getElem_of_mem hx
    exact ⟨k, hk, (leafAt_get hk).symm⟩
  refine ⟨⟨h.d5, h.tl, h.rng, h.many, fun x hx => ?_, h.fit, fun x hx => ?_⟩, fun k hk => ?_, fun k hk e he => ?_, fun k hk => h.good _ (leaf_mem hk), h.sm⟩
  · obtain ⟨k, hk, rfl⟩ := hmem x hx; exact (hb k hk).2.2
  · obtain ⟨k, hk, rfl⟩ := hmem x hx; exact (hb k hk).1
  · obtain ⟨p, -, -, hp3, -⟩ := (hb k hk).2.1
    exact ⟨p % 2 ^ (leafAt d k).depth, Nat.mod_lt _ (Nat.pow_pos (by omega)), hp3⟩
  · obtain ⟨p, -, -, hp3, hp4⟩ := (hb k hk).2.1
    have hpl : plc d e.name < d.table.length := by rw [h.tl]; exact Nat.mod_lt _ (Nat.pow_pos (by omega))
    rw [kOf_tAt, hp3 _ hpl, ← hp4 e he]
    unfold plc
    exact mod_low _ _ _ (hb k hk).1
theorem inv_bel {d : Dic} (h : Inv d) (k : Nat) (hk : k < d.leaves.length) : BelP d k := by
  obtain ⟨p, hp1, hp2⟩ := h.pre k hk
  have hlow := h.ok.low _ (leaf_mem hk)
  have hpl : p < d.table.length := by rw [h.ok.tab]; have := pow_le5 hlow; omega
  have hpm : p % 2 ^ (leafAt d k).depth = p := Nat.mod_eq_of_lt hp1
  refine ⟨hlow, ⟨p, hpl, (hp2 p hpl).2 hpm, fun i hi' => by rw [hpm]; exact hp2 i hi', fun e he => ?_⟩, h.ok.srt _ (leaf_mem hk)⟩
  have h1 := h.at_ k hk e he
  rw [kOf_tAt, hp2 _ (plc_lt h.ok _)] at h1
  rw [hpm, ← h1]
  unfold plc
  rw [mod_low _ _ _ hlow]
end Go.Proofs.Ytiieglfpmmhfiaa
namespace Go.Proofs.Ytiieglfpmmhfiaa
set_option maxRecDepth 100000
open Go.RowKit Go.Uc

theorem told67_any {w : World} {A : Option Addr} {c : Nat} {rs : List (List UInt8)} (h : PgQ w A rs) (h256 : ∀ p ∈ rs, p.length = 256) (h1 : 1 ≤ rs.length) (h33 : rs.length ≤ 33) : Calls Try.prog 67 #[.slice A rs.length c] w (ToldR w rs) := by
  match rs, h, h256, h1, h33 with
  | [p], h, h256, _, _ => exact told67_one h (h256 p (by simp))
  | r :: q :: ps, h, h256, _, h33 => exact told67_many h h256 (by simp) (by simp at h33 ⊢; omega) _ (by simp)
end Go.Proofs.Ytiieglfpmmhfiaa
namespace Go.Proofs.Ytiieglfpmmhfiaa
set_option maxRecDepth 100000
open Go.RowKit Go.Uc

set_option maxHeartbeats 8000000 in
theorem open45_any {w : World} {A : Option Addr} {c : Nat} {rs : List (List UInt8)} (h : PgQ w A rs) (hm : rs.length ≤ 9223372036854775807) :
    Calls Try.prog 45 #[.slice A rs.length c] w (OpenR 84 86 w rs) := by
  by_cases h1 : rs.length < 1
  · have hno : ∀ d, Opens rs d → False := fun d hd => by have := (opens_form hd).1; omega
    go_enter Try.func45, Try.ntmps45
    go_wp2_with fail
    go_ret2
    exact OpenR.no hno (Keeps.refl _ _)
  by_cases h33 : 33 < rs.length
  · have hno : ∀ d, Opens rs d → False := fun d hd => by have := (opens_form hd).2.1; omega
    go_enter Try.func45, Try.ntmps45
    go_wp2_with fail
    go_ret2
    exact OpenR.no hno (Keeps.refl _ _)
  go_enter Try.func45, Try.ntmps45
  go_upto_region 4 with fail
  go_loop [4] (fun i => ∃ k : Nat, k ≤ rs.length ∧ i = .int .i64 (k : Int) ∧ Hid (∀ p ∈ rs.take k, p.length = 256)) (fun i => rs.length - (intOf i).toNat)
  case atStart => exact ⟨0, Nat.zero_le _, rfl, Lib.hid (by simp)⟩
  case round =>
    obtain ⟨k, hk, rfl, H256⟩ := hrel
    by_cases hlt : k < rs.length
    · obtain ⟨b, off, Ai, ci, rfl, x0, -, -⟩ := h k hlt
      have HTK : Hid (rs.take (k + 1) = rs.take k ++ [rs[k]]) := Lib.hid (List.take_succ_eq_append_getElem hlt)
      have hmem : rs[k] ∈ rs := List.getElem_mem hlt
      generalize rs[k] = p at x0 HTK hmem
      have hki : (k : Int) < (rs.length : Int) := by omega
      by_cases hp : p.length = 256
      · have hpb : ((p.length : Int) != 256) = false := by simp; omega
        have HNX : Hid (∀ x ∈ rs.take (k + 1), x.length = 256) := Lib.hid (fun x hx => by
          rw [HTK.out] at hx
          rcases List.mem_append.1 hx with hx | hx
          · exact H256.out x hx
          · rw [List.mem_singleton] at hx; rw [hx]; exact hp)
        clear hp
        go_wp2_with fail
        go_round
        case rel => exact ⟨k + 1, by omega, by go_num, HNX⟩
        case measure => simp [intOf]; omega
      · have hno : ∀ d, Opens rs d → False := fun d hd => hp ((opens_form hd).2.2 p hmem)
        have hpb : ((p.length : Int) != 256) = true := by simp; omega
        clear hp
        go_wp2_with fail
        go_ret2
        exact OpenR.no hno (Keeps.refl _ _)
    · obtain rfl : k = rs.length := by omega
      rw [List.take_of_length_le (Nat.le_refl _)] at H256
      have HTo := Lib.hid (told67_any (c := c) h H256.out (by omega) (by omega))
      go_wp2_with fail
      refine HTo.out.mono ?_
      rintro e w2 (⟨d, g, t, l, qs, hTd, rfl, hG⟩ | ⟨hno, ⟨v, rfl⟩, hK⟩)
      · have HTd := Lib.hid hTd
        have HMany := Lib.hid hTd.many
        have hll := hTd.many
        have hd5 := hTd.d5
        have htl : d.table.length ≤ 32 := by rw [hTd.tl]; have := two_pow d.depth hd5; omega
        clear hTd
        have hM := hG.m
        obtain ⟨lA, lc, hle, -, -⟩ := hM.lvs.val
        have hlen := hM.len
        obtain ⟨-, c1, -, c3⟩ := dict_cells hM
        rw [hle] at c3
        have HLE := Lib.hid hle
        clear hle
        go_upto_region 13 with fail
        go_loopw [7, 8] (fun b i wr => ∃ (k : Nat) (bb : Bool), k ≤ d.leaves.length ∧ i = .int .i64 (k : Int) ∧ b = .bool bb ∧ Hid (bb = true ↔ ∃ j, j < k ∧ (leafAt d j).depth = d.depth) ∧ Hid (∀ j, j < k → BelP d j) ∧ Keeps Non w2 wr) (fun _ i _ => d.leaves.length - (intOf i).toNat)
        case atStart => exact ⟨0, false, Nat.zero_le _, rfl, rfl, Lib.hid ⟨(fun e => by cases e), (fun ⟨j, h, _⟩ => absurd h (by omega))⟩, Lib.hid (fun j h => by omega), Keeps.refl _ _⟩
        case round =>
          obtain ⟨k, bb, hk, rfl, rfl, HB, HW, hK⟩ := hrel
          obtain ⟨wx, rfl⟩ : ∃ W : World, W = wr := ⟨_, rfl⟩
          by_cases hlt : k < d.leaves.length
          · have hkp : k < qs.length := by omega
            have HBel := Lib.hid (belongs68_any (hM.non hK) hd5 htl k hlt (HTd.out.low _ (leaf_mem hlt)) (by have := (fitE_len (HTd.out.fit _ (leaf_mem hlt))).1; omega) (fun e he => (HTd.out.good _ (leaf_mem hlt) e he).2.1))
            have d3 := hK.cell c3 id
            have hki : (k : Int) < (qs.length : Int) := by omega
            go_wp2_with fail
            refine HBel.out.mono ?_
            rintro e w3 ⟨hbel, hK3⟩
            have hK4 := hK.non hK3
            obtain ⟨bl, cl, e2, -, x0, -, -, -⟩ := rowP_at (hM.lvs.non hK4) hkp
            rw [HLE.out] at e2
            injection e2 with e2 e2b e2c
            clear e2b d3
            subst e2 e2c
            have hdp := hM.dep k hkp hlt
            rw [hdp] at x0
            have HLA : Hid (leafAt d k = d.leaves[k]) := Lib.hid (leafAt_get hlt)
            generalize d.leaves[k] = lf at x0 HLA hdp
            clear hdp
            obtain ⟨dp, L⟩ := lf
            simp only at x0
            have d1 := hK4.cell c1 id
            have d3 := hK4.cell c3 id
            have HB3 : Hid (∀ b2 : Bool, (b2 = true ↔ bb = true ∨ dp = d.depth) → (b2 = true ↔ ∃ j, j < k + 1 ∧ (leafAt d j).depth = d.depth)) := Lib.hid (fun b2 h => by
              rw [h, HB.out]
              constructor
              · rintro (⟨j, hj, e⟩ | e)
                · exact ⟨j, by omega, e⟩
                · exact ⟨k, by omega, by rw [HLA.out]; exact e⟩
              · rintro ⟨j, hj, e⟩
                rcases Nat.lt_or_ge j k with h' | h'
                · exact .inl ⟨j, h', e⟩
                · obtain rfl : j = k := by omega
                  rw [HLA.out] at e
                  exact .inr e)
            have hr3 : bb = true ∨ (bb = false ∧ dp = d.depth) ∨ (bb = false ∧ dp ≠ d.depth) := by
              cases bb
              · by_cases h : dp = d.depth
                · exact .inr (.inl ⟨rfl, h⟩)
                · exact .inr (.inr ⟨rfl, h⟩)
              · exact .inl rfl
            rcases hr3 with h3 | ⟨h3, h4⟩ | ⟨h3, h4⟩
            case' inl =>
              have HB2 := Lib.hid (HB3.out true ⟨fun _ => .inl h3, fun _ => rfl⟩)
              subst h3
            case' inr.inl =>
              have HB2 := Lib.hid (HB3.out true ⟨fun _ => .inr h4, fun _ => rfl⟩)
              have hdb : ((dp : Int) == (d.depth : Int)) = true := by simp [h4]
              subst h3
              clear h4
            case' inr.inr =>
              have HB2 := Lib.hid (HB3.out false ⟨(fun e => by cases e), (fun e => by rcases e with e | e; (rw [h3] at e; cases e); (exact absurd e h4))⟩)
              have hdb : ((dp : Int) == (d.depth : Int)) = false := beq_eq_false_iff_ne.2 (by omega)
              subst h3
              clear h4
            all_goals
              clear HB3 HB
              rcases hbel with ⟨hb, rfl⟩ | ⟨hb, rfl⟩
              · have HWN : Hid (∀ j, j < k + 1 → BelP d j) := Lib.hid (fun j hj => by
                  rcases Nat.lt_or_ge j k with h' | h'
                  · exact HW.out j h'
                  · obtain rfl : j = k := by omega
                    exact hb)
                clear hb
                go_upto_region 16 with fail
                go_quiet (fail)
                go_wp2_with fail
                go_roundw
                case rel => exact ⟨k + 1, _, by omega, by go_num, rfl, by first | exact HB2 | exact Lib.hid (by have := HB2.out; simpa using this), HWN, hK4.drewN _⟩
                case measure => simp [intOf]; omega
              · have HNO : Hid (∀ d', Opens rs d' → False) := Lib.hid (fun d' hd' => by
                  obtain rfl := HTd.out.uniq d' hd'
                  exact hb (inv_bel hd'.1 k hlt))
                clear hb
                go_upto_region 16 with fail
                go_quiet (fail)
                go_wp2_with fail
                go_ret2
                exact OpenR.no HNO.out (hG.k.non (hK4.drewN _))
          · obtain rfl : k = d.leaves.length := by omega
            have HI0 : Hid (Inv0 d) := Lib.hid (told_inv0 HTd.out HW.out)
            have HPg := Lib.hid (pages14_any (hM.non hK) HI0.out)
            have d3 := hK.cell c3 id
            go_upto_region 19 with fail
            go_wp2_with fail
            refine HPg.out.mono ?_
            rintro e w4 ⟨⟨oA, on, oc⟩, ss, he, hPG⟩
            change e = .returned (.slice oA on oc) at he
            subst he
            obtain ⟨hn, hR⟩ := PgM.read hPG.m
            subst hn
            have hK4 := hK.non hPG.k
            have HSm := Lib.hid (same_any (ca := oc) (cb := c) hR ((h.read.non hG.k).non hK4) (by
              cases hs : d.small
              · rw [pages_large_len hs]; omega
              · rw [pages_small_len hs]; omega))
            have HOK : Hid (decide (pagesD d = rs) = true → bb = true → Opens rs d) := Lib.hid (fun e1 e2 => ⟨⟨HI0.out, HB.out.1 e2⟩, of_decide_eq_true e1⟩)
            have HNO : Hid (decide (pagesD d = rs) = false ∨ bb = false → ∀ d', Opens rs d' → False) := Lib.hid (fun e1 d' hd' => by
              obtain rfl := HTd.out.uniq d' hd'
              rcases e1 with e1 | e1
              · exact of_decide_eq_false e1 hd'.2
              · have := HB.out.2 hd'.1.deep
                rw [e1] at this; cases this)
            generalize decide (pagesD d = rs) = r at HSm HOK HNO
            clear hPG hR HPg HB HW
            go_wp2_with fail
            refine HSm.out.mono ?_
            rintro e w5 ⟨rfl, q, hw5⟩
            have hK5 : Keeps Non w2 w5 := by rw [hw5]; exact hK4.drewN _
            clear hw5
            cases r
            · have HNX := Lib.hid (HNO.out (.inl rfl))
              cases bb <;>
              · go_wp2_with fail
                go_ret2
                exact OpenR.no HNX.out (hG.k.non hK5)
            · cases bb
              · have HNX := Lib.hid (HNO.out (.inr rfl))
                go_wp2_with fail
                go_ret2
                exact OpenR.no HNX.out (hG.k.non hK5)
              · have HYX := Lib.hid (HOK.out rfl rfl)
                go_wp2_with fail
                go_ret2
                exact .inl ⟨d, g, t, l, qs, HYX.out, rfl, hG.non hK5⟩
      · have HNX : Hid (∀ d, Opens rs d → False) := Lib.hid (fun d hd => hno ⟨d, hd⟩)
        clear hno
        go_wp2_with fail
        go_ret2
        exact OpenR.no HNX.out hK
end Go.Proofs.Ytiieglfpmmhfiaa
