/- hashed. -/
import Derived.Test.YtiieglfpmmhfiaaG7
namespace Go.Proofs.Ytiieglfpmmhfiaa
set_option maxRecDepth 100000
open Go.RowKit Go.Uc

/-- The table that a root's page says, so far. -/
def tabK (r : List UInt8) (k : Nat) : List Nat := (List.range k).map fun i => (r.getD (2 + i) 0).toNat - 1
def lfK (p : List UInt8) : Leaf :=
  match entF p (p.getD 2 0).toNat with
  | some l => ⟨(p.getD 1 0).toNat, l⟩
  | none => ⟨0, []⟩
/-- The dictionary that pages say, right or not. -/
def dK (r : List UInt8) (ps : List (List UInt8)) : Dic := ⟨false, (r.getD 1 0).toNat, tabK r (2 ^ (r.getD 1 0).toNat), ps.map lfK⟩
theorem tabK_len (r : List UInt8) (k : Nat) : (tabK r k).length = k := by simp [tabK]
theorem tabK_succ (r : List UInt8) (k : Nat) : tabK r (k + 1) = tabK r k ++ [(r.getD (2 + k) 0).toNat - 1] := by simp [tabK, List.range_succ]
theorem lfK_some {p : List UInt8} {l : List Ent} (h : entF p (p.getD 2 0).toNat = some l) : lfK p = ⟨(p.getD 1 0).toNat, l⟩ := by unfold lfK; rw [h]
theorem tabK_get (r : List UInt8) (k i : Nat) (h : i < k) : (tabK r k).getD i 0 = (r.getD (2 + i) 0).toNat - 1 := by
  unfold tabK
  rw [getD_map _ _ _ 0 _ (by simpa using h)]
  have : (List.range k).getD i 0 = i := by rw [List.getD_eq_getElem?_getD, List.getElem?_range h]; rfl
  rw [this]
theorem leafAt_dK (r : List UInt8) (ps : List (List UInt8)) (k : Nat) (h : k < ps.length) : leafAt (dK r ps) k = lfK (ps.getD k []) := getD_map lfK ps k [] ⟨0, []⟩ h
theorem read_mk {r : List UInt8} {ps : List (List UInt8)} (h0 : r.getD 0 0 = 114) (h5 : (r.getD 1 0).toNat ≤ 5) (ht : ∀ i, i < 2 ^ (r.getD 1 0).toNat → 1 ≤ (r.getD (2 + i) 0).toNat ∧ (r.getD (2 + i) 0).toNat ≤ ps.length)
    (hz : ∀ i, 2 + 2 ^ (r.getD 1 0).toNat ≤ i → i < 256 → r.getD i 0 = 0)
    (hl : ∀ k, k < ps.length → (ps.getD k []).getD 0 0 = 108 ∧ ((ps.getD k []).getD 1 0).toNat ≤ (r.getD 1 0).toNat ∧ ∃ l, entF (ps.getD k []) ((ps.getD k []).getD 2 0).toNat = some l) : Read r ps (dK r ps) := by
  have htg : ∀ i, i < 2 ^ (r.getD 1 0).toNat → tAt (dK r ps) i = (r.getD (2 + i) 0).toNat - 1 := fun i hi => tabK_get r _ i hi
  refine ⟨rfl, h0, rfl, h5, tabK_len _ _, fun i hi => ?_, hz, by simp [dK], fun i hi => ?_, fun k hk => ?_⟩
  · have := (ht i hi).1
    rw [htg i hi]
    omega
  · have := ht i hi
    rw [htg i hi]
    omega
  · obtain ⟨a1, a2, l, a3⟩ := hl k hk
    rw [leafAt_dK r ps k hk, lfK_some a3]
    exact ⟨a1, rfl, a2, a3⟩
/-- What hashed answers. -/
def HashR (w : World) (r : List UInt8) (ps : List (List UInt8)) (e : Ending) (w' : World) : Prop :=
  (∃ (d : Dic) (g : Nat) (t l : Sl) (qs : List (Nat × Sl)), Read r ps d ∧ Whole d ∧ e = .returned (.tuple #[.pointer (some ⟨g, 0, none⟩), .bool true]) ∧ Grown 69 66 w w' g d t l qs) ∨ ((¬ ∃ d, Read r ps d ∧ Whole d) ∧ (∃ v, e = .returned (.tuple #[v, .bool false])) ∧ Keeps Non w w')
theorem HashR.no {w w' : World} {r : List UInt8} {ps : List (List UInt8)} {v : Value} (h : ∀ d, Read r ps d → Whole d → False) (hk : Keeps Non w w') : HashR w r ps (.returned (.tuple #[v, .bool false])) w' := .inr ⟨fun ⟨d, h1, h2⟩ => h d h1 h2, ⟨v, rfl⟩, hk⟩
set_option maxHeartbeats 8000000 in
theorem hashed_any {w : World} {v : Value} {r : List UInt8} {ps : List (List UInt8)} (h : RowPg w v (r :: ps)) (h256 : ∀ p ∈ r :: ps, p.length = 256) (hp1 : 1 ≤ ps.length) (hp2 : ps.length ≤ 32) :
    Calls Try.prog 48 #[v] w (HashR w r ps) := by
  obtain ⟨bp, cap, rfl, hcap, hcells, hbp⟩ := rowPg_at h h256 (i := 0) (by simp)
  have HC : Hid (∀ w', Keeps Non w w' → ∀ i, i < ps.length + 1 → ∀ j, j < 256 → w'.cell? ⟨bp, i * 256 + j, none⟩ = some (.int .u8 ((((r :: ps).getD i []).getD j 0).toNat : Int))) := Lib.hid (fun w' hk i hi j hj => by
    obtain ⟨bp', cap', e, -, hc, -⟩ := rowPg_at (h.non hk) h256 (i := i) (by simpa using hi)
    injection e with e
    injection e with e
    injection e with e
    subst e
    exact hc j hj)
  have HR : Hid (∀ w', Keeps Non w w' → ∀ j, j < 256 → w'.cell? ⟨bp, j, none⟩ = some (.int .u8 ((r.getD j 0).toNat : Int))) := Lib.hid (fun w' hk j hj => by have := HC.out w' hk 0 (by omega) j hj; simpa using this)
  clear hcells
  obtain ⟨n, hn⟩ : ∃ n, n = (r :: ps).length := ⟨_, rfl⟩
  have hn1 : n = ps.length + 1 := by rw [hn]; rfl
  rw [← hn] at hcap ⊢
  have HN := Lib.hid hn1
  have hn2 : 2 ≤ n := by omega
  have hn33 : n ≤ 33 := by omega
  clear hn hn1 h
  have z1 := HR.out w (Keeps.refl _ _) 1 (by omega)
  obtain ⟨dep, hdep⟩ : ∃ x, x = (r.getD 1 0).toNat := ⟨_, rfl⟩
  rw [← hdep] at z1
  have hdep8 : dep < 256 := by rw [hdep]; exact UInt8.toNat_lt _
  have HDP := Lib.hid hdep
  clear hdep
  have hi0 : (0 : Int) < (n : Int) := by omega
  have hi0' : 0 < n := by omega
  go_enter Try.func48, Try.ntmps48
  go_upto_region 2 with fail
  have hG := Grown.new (T := 69) (L := 66) (Keeps.refl Non w) false dep
  obtain ⟨w1, hw1⟩ : ∃ W : World, W = w.alloc (.cells #[.bool false, .int .i64 (dep : Int), .slice none 0 0, .slice none 0 0] 69) := ⟨_, rfl⟩
  rw [← hw1] at hG ⊢
  clear hw1 z1
  have hgb : bp < w.heap.size := hbp
  generalize w.heap.size = g at *
  have c1 : w1.cell? ⟨g, 1, none⟩ = some (.int .i64 (dep : Int)) := hG.m.blk.cell 1
  have z0 := HR.out w1 hG.k 0 (by omega)
  have HX0 : Hid ((r.getD 0 0).toNat = 114 → r.getD 0 0 = 114) := Lib.hid (fun h => UInt8.toNat_inj.1 h)
  have HX1 : Hid (r.getD 0 0 = 114 → (r.getD 0 0).toNat = 114) := Lib.hid (fun h => by rw [h]; rfl)
  have hx8 : (r.getD 0 0).toNat < 256 := UInt8.toNat_lt _
  generalize (r.getD 0 0).toNat = x0 at z0 HX0 HX1 hx8
  by_cases hr0 : x0 = 114
  · have hr0b : ((x0 : Int) != 114) = false := by simp; omega
    have HX := Lib.hid (HX0.out hr0)
    clear hr0
    by_cases h5 : dep ≤ 5
    · obtain ⟨pw, hpw⟩ : ∃ x, x = 2 ^ dep := ⟨_, rfl⟩
      have hpw32 : pw ≤ 32 := by have := two_pow dep h5; omega
      have hpw1 : 1 ≤ pw := by have := two_pow dep h5; omega
      have hwp : wrap64 ((2 : Int) ^ dep) = (pw : Int) := by
        have e : (2 : Int) ^ dep = ((2 ^ dep : Nat) : Int) := by simp
        rw [e, ← hpw]
        exact IntWalk.wrap64_in _ ⟨by omega, by omega⟩
      have HPW := Lib.hid hpw
      clear hpw
      go_upto_region 5 with fail
      rw [hwp]
      have hal : Try.prog.arrayLen 96 = 256 := by simp [Program.arrayLen, Try.underlying96]
      have hsl : ∀ W, (Instr.sliceAt 96 (.pointer (some ⟨bp, 0, none⟩)) (some (.int .i64 2)) (some (.int .i64 (2 + (pw : Int)))) none).run Try.prog W = .ok (.slice (some ⟨bp, 2, none⟩) pw 254) W := fun W => by
        rw [run_sliceAt_array_lh W 96 ⟨bp, 0, none⟩ (by simp [Program.arrayLen, Program.elem, Try.underlying96]) .i64 .i64 2 (2 + (pw : Int)) (by omega) (by omega) (by rw [hal]; omega)]
        go_simp
        omega
      have HAL := Lib.hid hal
      clear hal
      go_upto_region 6 with fail
      go_loopw [44] (fun i wr => ∃ (k : Nat) (t : Sl), k ≤ pw ∧ i = .int .i64 (k : Int) ∧ Grown 69 66 w wr g ⟨false, dep, tabK r k, []⟩ t ⟨none, 0, 0⟩ [] ∧ Hid (∀ i, i < k → 1 ≤ (r.getD (2 + i) 0).toNat ∧ (r.getD (2 + i) 0).toNat ≤ ps.length)) (fun i _ => pw - (intOf i).toNat)
      case atStart => exact ⟨0, _, Nat.zero_le _, rfl, hG, Lib.hid (fun i h => by omega)⟩
      case round =>
        obtain ⟨k, t, hk, rfl, hGk, HT⟩ := hrel
        obtain ⟨wx, rfl⟩ : ∃ W : World, W = wr := ⟨_, rfl⟩
        clear hG c1 z0
        by_cases hlt : k < pw
        · have z2 := HR.out wx hGk.k (2 + k) (by omega)
          have hx28 : (r.getD (2 + k) 0).toNat < 256 := UInt8.toNat_lt _
          have HTS : Hid (1 ≤ (r.getD (2 + k) 0).toNat ∧ (r.getD (2 + k) 0).toNat ≤ ps.length → ∀ i, i < k + 1 → 1 ≤ (r.getD (2 + i) 0).toNat ∧ (r.getD (2 + i) 0).toNat ≤ ps.length) := Lib.hid (fun h i hi => by
            rcases Nat.lt_or_ge i k with h' | h'
            · exact HT.out i h'
            · obtain rfl : i = k := by omega
              exact h)
          have HNO : Hid (¬ (1 ≤ (r.getD (2 + k) 0).toNat ∧ (r.getD (2 + k) 0).toNat ≤ ps.length) → ∀ d, Read r ps d → Whole d → False) := Lib.hid (fun h d hd _ => h (by
            have hdd : d.depth = dep := by have := hd.dep; have := HDP.out; omega
            have h1 := hd.tb k (by rw [hdd]; have := HPW.out; omega)
            have h2 := hd.rng k (by rw [hdd]; have := HPW.out; omega)
            omega))
          have HTK : Hid (tabK r (k + 1) = tabK r k ++ [(r.getD (2 + k) 0).toNat - 1]) := Lib.hid (tabK_succ r k)
          generalize (r.getD (2 + k) 0).toNat = xb at z2 hx28 HTS HNO HTK
          by_cases hx1 : xb < 1
          · have hno := HNO.out (by omega)
            go_wp2_with fail
            go_ret2
            exact HashR.no hno hGk.k
          · by_cases hxn : n ≤ xb
            · have hno := HNO.out (by have := HN.out; omega)
              go_wp2_with fail
              go_ret2
              exact HashR.no hno hGk.k
            · have HTO := Lib.hid (HTS.out (by have := HN.out; omega))
              obtain ⟨xm, hxm⟩ : ∃ xm, xm = xb - 1 := ⟨_, rfl⟩
              rw [← hxm] at HTK
              have hsub : (xb : Int) - 1 = (xm : Int) := by omega
              clear hxm
              obtain ⟨tA, tc, hte, -, -⟩ := hGk.m.tab.val
              obtain ⟨tA', tn, tc'⟩ := t
              injection hte with e1 e2 e3
              rw [tabK_len] at e2
              simp only at e1 e2 e3
              clear e1 e3
              obtain rfl : k = tn := e2.symm
              go_upto_region 10 with fail
              have c2 : wx.cell? ⟨g, 2, none⟩ = some (.slice tA' k tc') := hGk.m.blk.cell 2
              have Hgt := Lib.hid (nod_iff.1 hGk.m.nod).gt
              have HLB : Hid ((tabK r k).length + 1 ≤ maxLen ∧ ((tabK r k).length + 1) * 8 ≤ 140737488355328) := Lib.hid (by rw [tabK_len]; unfold maxLen; omega)
              go_wp2_with (at_builtin; go_must (refine wpList_append_row (o := ⟨some 66, _, _, _, _, _⟩) rfl (.tmp 61) (.tmp 65) 23 rfl 3 1 encN _ 8 Try.underlying23 info3 rfl (by decide) encN_len encN_one (.slice tA' k tc') (tabK r k) rfl (hGk.m.tab.non ((Keeps.refl Non _).alloc _)) (some ⟨wx.heap.size, 0, none⟩) 1 1 [xm] rfl rfl (Ats.lit wx #[.int .i64 (xm : Int)] 3 _ rfl) HLB.out.1 HLB.out.2 ?_); intro u8 w8 hO8 hK8 hat; obtain ⟨s8, rfl, -⟩ := RowP.sl hO8; have hB8 := (hGk.m.blk.non ((Keeps.refl Non _).alloc _)).keep hK8 Hgt.out; have z8 := hB8.cell 2; have f8 := hB8.frozen 2)
              have hG8 := hGk.tab8 ((Keeps.refl Non wx).alloc _) hO8 hK8 hat
              go_roundw
              case rel => exact ⟨k + 1, s8, by omega, by go_num, by rw [HTK.out]; exact hG8, HTO⟩
              case measure => simp [intOf]; omega
        · obtain rfl : k = pw := by omega
          clear hsl
          obtain ⟨N, hNe⟩ : ∃ N, N = 254 - k := ⟨_, rfl⟩
          have hNp : 2 + k + N = 256 := by omega
          have hsl : ∀ W, (Instr.sliceAt 96 (.pointer (some ⟨bp, 0, none⟩)) (some (.int .i64 (2 + (k : Int)))) none none).run Try.prog W = .ok (.slice (some ⟨bp, 2 + k, none⟩) N N) W := fun W => by
            rw [run_sliceAt_array_l W 96 ⟨bp, 0, none⟩ (by simp [Program.arrayLen, Program.elem, Try.underlying96]) .i64 (2 + (k : Int)) (by omega) (by rw [HAL.out]; omega)]
            go_simp
            have ht : ((2 : Int) + (k : Int)).toNat = 2 + k := by omega
            rw [ht, if_neg (by omega)]
            exact ⟨rfl, by omega⟩
          clear hNe
          go_upto_region 13 with fail
          go_loop [75] (fun i => ∃ j : Nat, j ≤ N ∧ i = .int .i64 (j : Int) ∧ Hid (∀ q, q < j → r.getD (2 + k + q) 0 = 0)) (fun i => N - (intOf i).toNat)
          case atStart => exact ⟨0, Nat.zero_le _, rfl, Lib.hid (fun q h => by omega)⟩
          case round =>
            obtain ⟨j, hj, rfl, HZ⟩ := hrel
            by_cases hjn : j < N
            · have c0 := HR.out wx hGk.k (2 + k + j) (by omega)
              by_cases hz : r.getD (2 + k + j) 0 = 0
              · have HZ1 : Hid (∀ q, q < j + 1 → r.getD (2 + k + q) 0 = 0) := Lib.hid (fun q h => by rcases Nat.lt_or_ge q j with h' | h'; (exact HZ.out q h'); (obtain rfl : q = j := by omega); exact hz)
                rw [hz] at c0
                have c1 : wx.cell? ⟨bp, 2 + k + j, none⟩ = some (.int .u8 0) := c0
                clear c0 hz
                go_wp2_with fail
                go_round
                case rel => exact ⟨j + 1, by omega, by go_num, HZ1⟩
                case measure => simp [intOf]; omega
              · have hno : ∀ d, Read r ps d → Whole d → False := fun d hd _ => hz (by
                  have hdd : d.depth = dep := by have := hd.dep; have := HDP.out; omega
                  exact hd.tz _ (by rw [hdd]; have := HPW.out; omega) (by omega))
                have hx : (r.getD (2 + k + j) 0).toNat ≠ 0 := fun h => hz (UInt8.toNat_inj.1 (by rw [h]; rfl))
                generalize (r.getD (2 + k + j) 0).toNat = x at c0 hx
                have hxb : ((x : Int) != 0) = true := by simp; omega
                clear hz hx
                go_wp2_with fail
                go_ret2
                exact HashR.no hno hGk.k
            · obtain rfl : j = N := by omega
              have hcap1 : ¬ cap = 1 := by omega
              have hn1i : (1 : Int) ≤ (n : Int) := by omega
              obtain ⟨M, hM⟩ : ∃ M, M = n - 1 := ⟨_, rfl⟩
              obtain ⟨cM, hcM⟩ : ∃ M, M = cap - 1 := ⟨_, rfl⟩
              have hMp : M = ps.length := by have := HN.out; omega
              have HCM := Lib.hid hcM
              clear hcM
              have hTL : (⟨false, dep, tabK r k, []⟩ : Dic).table = tabK r (2 ^ dep) := by rw [← HPW.out]
              go_upto_region 19 with fail
              go_loopw [85] (fun i wr => ∃ (q : Nat) (l : Sl) (qs : List (Nat × Sl)), q ≤ ps.length ∧ i = .int .i64 (q : Int) ∧ Grown 69 66 w wr g ⟨false, dep, tabK r k, (ps.take q).map lfK⟩ t l qs ∧ Hid (∀ i, i < q → (ps.getD i []).getD 0 0 = 108 ∧ ((ps.getD i []).getD 1 0).toNat ≤ dep ∧ ∃ l, entF (ps.getD i []) ((ps.getD i []).getD 2 0).toNat = some l)) (fun i _ => ps.length - (intOf i).toNat)
              case atStart => exact ⟨0, _, _, Nat.zero_le _, rfl, hGk, Lib.hid (fun i h => by omega)⟩
              case round =>
                obtain ⟨q, l, qs, hq, rfl, hGq, HL⟩ := hrel
                obtain ⟨wy, rfl⟩ : ∃ W : World, W = wr := ⟨_, rfl⟩
                by_cases hqn : q < ps.length
                · have hqn1 : q < n - 1 := by omega
                  obtain ⟨p, hpe⟩ : ∃ p, p = ps.getD q [] := ⟨_, rfl⟩
                  have hpm : p ∈ ps := by rw [hpe, List.getD_eq_getElem?_getD, List.getElem?_eq_getElem hqn]; exact List.getElem_mem _
                  have hp256 : p.length = 256 := h256 p (List.mem_cons_of_mem _ hpm)
                  have hld : ∀ j v, (p.map bv)[j]? = some v → wy.cell? ((⟨bp, 256 + q * 256, none⟩ : Addr).add j) = some v := fun j v hv => by
                    have hj : j < 256 := by have := (List.getElem?_eq_some_iff.1 hv).1; simpa [hp256] using this
                    rw [show (⟨bp, 256 + q * 256, none⟩ : Addr).add j = ⟨bp, 256 + q * 256 + j, none⟩ from by unfold Addr.add; split <;> simp_all]
                    have := HC.out wy hGq.k (q + 1) (by omega) j hj
                    rw [show 256 + q * 256 + j = (q + 1) * 256 + j by omega, this]
                    rw [List.getElem?_map, List.getElem?_eq_getElem (by omega)] at hv
                    injection hv with hv
                    rw [← hv]
                    have e : ((r :: ps).getD (q + 1) []) = p := by rw [hpe]; rfl
                    rw [e, List.getD_eq_getElem?_getD, List.getElem?_eq_getElem (by omega)]
                    rfl
                  have hz := zero96
                  have hsz : (pc (zeros 256)).size = 256 := by rw [pc_size, zeros_length]
                  have hB0 := Blk.new wy 96 (pc (zeros 256))
                  have hKa := (Keeps.refl Non wy).alloc (.cells (pc (zeros 256)) 96)
                  have HP256 := Lib.hid hp256
                  have HPE := Lib.hid hpe
                  clear hpe hpm hp256
                  go_upto_region 21 with (first
                    | ((with_reducible show wpList _ _ _ ({ dst := some 88, op := Op.load 96 _, type := _, pos := _, after := _, guard := _ } :: _) _ _); go_must (refine wpList_load_at rfl 96 (.tmp 87) rfl ⟨bp, 256 + q * 256, none⟩ rfl (p.map bv) (.array 256 5) hld Try.underlying96 rfl (by rw [List.length_map, HP256.out]; exact info96) ?_))
                    | ((with_reducible show wpList _ _ _ ({ dst := none, op := Op.store 96 _ _, type := _, pos := _, after := _, guard := _ } :: _) _ _); go_must (refine wpList_store_blk rfl 96 (.tmp 11) (.tmp 88) rfl wy.heap.size (pc p) rfl rfl 96 (pc (zeros 256)) hB0 (by rw [pc_size, HP256.out]; exact info96) (by rw [pc_size, pc_size, HP256.out, zeros_length]) (pc_all _) ?_); intro w2 hB2 hK2a))
                  have hK2 : Keeps Non wy w2 := hKa.then hK2a fun i hi e => by unfold Only at e; omega
                  have hpbg : wy.heap.size ≠ g := by have := hGq.m.blk.lt; omega
                  have hpbW : w.heap.size ≤ wy.heap.size := hGq.k.size
                  clear hK2a hKa hB0 hz hsz hld
                  generalize wy.heap.size = pb at *
                  have x2 := byte_at hB2 (a := 2) (by rw [HP256.out]; omega)
                  have hm255 : (p.getD 2 0).toNat < 256 := UInt8.toNat_lt _
                  have HLF : Hid (∀ l, entF p (p.getD 2 0).toNat = some l → lfK p = ⟨(p.getD 1 0).toNat, l⟩) := Lib.hid (fun l h => lfK_some h)
                  have HNO : Hid (¬ ((p.getD 0 0).toNat = 108 ∧ (p.getD 1 0).toNat ≤ dep ∧ ∃ l, entF p (p.getD 2 0).toNat = some l) → ∀ d, Read r ps d → Whole d → False) := Lib.hid (fun h d hd _ => h (by
                    obtain ⟨a1, a2, a3, a4⟩ := hd.lf q hqn
                    rw [← HPE.out] at a1 a2 a4
                    have hdd : d.depth = dep := by have := hd.dep; have := HDP.out; omega
                    exact ⟨by rw [a1]; rfl, by rw [a2]; omega, _, a4⟩))
                  have HLS : Hid ((p.getD 0 0).toNat = 108 ∧ (p.getD 1 0).toNat ≤ dep ∧ (∃ l, entF p (p.getD 2 0).toNat = some l) → ∀ i, i < q + 1 → (ps.getD i []).getD 0 0 = 108 ∧ ((ps.getD i []).getD 1 0).toNat ≤ dep ∧ ∃ l, entF (ps.getD i []) ((ps.getD i []).getD 2 0).toNat = some l) := Lib.hid (fun h i hi => by
                    rcases Nat.lt_or_ge i q with h' | h'
                    · exact HL.out i h'
                    · obtain rfl : i = q := by omega
                      rw [← HPE.out]
                      exact ⟨UInt8.toNat_inj.1 h.1, h.2⟩)
                  have HEN := Lib.hid (entries_any p HP256.out (p.getD 2 0).toNat (by omega) w2)
                  obtain ⟨eo, heo⟩ : ∃ eo, eo = entF p (p.getD 2 0).toNat := ⟨_, rfl⟩
                  rw [← heo] at HEN HLF HNO HLS
                  obtain ⟨p0, hp0⟩ : ∃ x, x = (p.getD 0 0).toNat := ⟨_, rfl⟩
                  obtain ⟨p1, hp1e⟩ : ∃ x, x = (p.getD 1 0).toNat := ⟨_, rfl⟩
                  obtain ⟨p2, hp2e⟩ : ∃ x, x = (p.getD 2 0).toNat := ⟨_, rfl⟩
                  rw [← hp0] at HNO HLS
                  rw [← hp1e] at HNO HLS HLF
                  rw [← hp2e] at x2 HEN hm255
                  have hp08 : p0 < 256 := by rw [hp0]; exact UInt8.toNat_lt _
                  have hp18 : p1 < 256 := by rw [hp1e]; exact UInt8.toNat_lt _
                  have HE0 := Lib.hid hp0
                  have HE1 := Lib.hid hp1e
                  have HES : Hid (∀ l, eo = some l → l.length ≤ 60) := Lib.hid (fun l h => by
                    rw [heo] at h
                    have := (fitE_len (entF_some HP256.out h).2.1).1
                    omega)
                  clear hp0 hp1e hp2e heo
                  by_cases q0 : p0 = 108
                  · have q0b : ((p0 : Int) != 108) = false := by simp; omega
                    by_cases q1 : p1 ≤ dep
                    · have q1b : decide (dep < p1) = false := decide_eq_false (by omega)
                      cases eo with
                      | none =>
                        have HNX := Lib.hid (HNO.out (by rintro ⟨-, -, l, e⟩; cases e))
                        clear q0
                        go_upto_region 22 with (first
                          | ((with_reducible show wpList _ _ _ ({ dst := some 90, op := Op.load 96 _, type := _, pos := _, after := _, guard := _ } :: _) _ _); go_must (refine wpList_load_row rfl 96 (.tmp 11) rfl pb rfl 96 (pc p) (0, 0) (.array 256 5) hB2 Try.underlying96 rfl (by rw [pc_size, HP256.out]; exact info96) ?_))
                          | (go_at_call 47; go_must (refine HEN.out.mono ?_); rintro e w3 ⟨rfl, hK3⟩))
                        have hK9 := hGq.k.non (hK2.non hK3)
                        have hB3 := hB2.non hK3
                        have y0 : w3.cell? ⟨pb, 0, none⟩ = some (.int .u8 (p0 : Int)) := by have := byte_at hB3 (a := 0) (by rw [HP256.out]; omega); rw [← HE0.out] at this; exact this
                        have y1 : w3.cell? ⟨pb, 1, none⟩ = some (.int .u8 (p1 : Int)) := by have := byte_at hB3 (a := 1) (by rw [HP256.out]; omega); rw [← HE1.out] at this; exact this
                        have yc : w3.cell? ⟨g, 1, none⟩ = some (.int .i64 (dep : Int)) := ((hGq.non hK2).non hK3).m.blk.cell 1
                        go_quiet (fail)
                        go_wp2_with fail
                        go_ret2
                        exact HashR.no HNX.out (hK9.drewN _)
                      | some L =>
                        have HLX := Lib.hid (HLS.out ⟨q0, q1, L, rfl⟩)
                        have HLG := Lib.hid (HLF.out L rfl)
                        clear q0
                        go_upto_region 22 with (first
                          | ((with_reducible show wpList _ _ _ ({ dst := some 90, op := Op.load 96 _, type := _, pos := _, after := _, guard := _ } :: _) _ _); go_must (refine wpList_load_row rfl 96 (.tmp 11) rfl pb rfl 96 (pc p) (0, 0) (.array 256 5) hB2 Try.underlying96 rfl (by rw [pc_size, HP256.out]; exact info96) ?_))
                          | (go_at_call 47; go_must (refine HEN.out.mono ?_); rintro e w3 ⟨⟨eA, en, ec⟩, he, hRE, hNE, hK3⟩; change e = .returned (.tuple #[.slice eA en ec, .bool true]) at he; subst he))
                        have hK9 := hGq.k.non (hK2.non hK3)
                        have hB3 := hB2.non hK3
                        have y0 : w3.cell? ⟨pb, 0, none⟩ = some (.int .u8 (p0 : Int)) := by have := byte_at hB3 (a := 0) (by rw [HP256.out]; omega); rw [← HE0.out] at this; exact this
                        have y1 : w3.cell? ⟨pb, 1, none⟩ = some (.int .u8 (p1 : Int)) := by have := byte_at hB3 (a := 1) (by rw [HP256.out]; omega); rw [← HE1.out] at this; exact this
                        have yc : w3.cell? ⟨g, 1, none⟩ = some (.int .i64 (dep : Int)) := ((hGq.non hK2).non hK3).m.blk.cell 1
                        go_quiet (fail)
                        go_upto_region 24 with fail
                        obtain ⟨w4, hw4⟩ : ∃ W : World, W = w3.drewN nq := ⟨_, rfl⟩
                        rw [← hw4]
                        have hk34 : Keeps Non w3 w4 := by rw [hw4]; exact (Keeps.refl _ _).drewN _
                        clear hw4
                        have hG4 := ((hGq.non hK2).non hK3).non hk34
                        have hE4 : RowE w4 (.slice eA en ec) L := hRE.non hk34
                        have hB4 := hB3.non hk34
                        obtain ⟨lA, lc, hle, -, -⟩ := hG4.m.lvs.val
                        obtain ⟨lA', ln, lc'⟩ := l
                        injection hle with e1 e2 e3
                        simp only at e1 e2 e3
                        clear e1 e3
                        subst e2
                        have v1 : w4.drew.cell? ⟨pb, 1, none⟩ = some (.int .u8 (p1 : Int)) := by have := byte_at hB4 (a := 1) (by rw [HP256.out]; omega); rw [← HE1.out] at this; exact this
                        have v2 : w4.drew.cell? ⟨g, 3, none⟩ = some (.slice lA' qs.length lc') := hG4.m.blk.cell 3
                        have hka : Keeps Non w4 (w4.alloc (.cells #[.int .i64 (p1 : Int), .slice eA en ec] 66)).drew := ((Keeps.refl Non w4).alloc _).drew
                        have hG7 := hG4.non hka
                        have v2' : (w4.alloc (.cells #[.int .i64 (p1 : Int), .slice eA en ec] 66)).cell? ⟨g, 3, none⟩ = some (.slice lA' qs.length lc') := hG7.m.blk.cell 3
                        have v1' : (w4.alloc (.cells #[.int .i64 (p1 : Int), .slice eA en ec] 66)).cell? ⟨pb, 1, none⟩ = some (.int .u8 (p1 : Int)) := by have := byte_at (hB4.non hka) (a := 1) (by rw [HP256.out]; omega); rw [← HE1.out] at this; exact this
                        have hAts : Ats (w4.alloc (.cells #[.int .i64 (p1 : Int), .slice eA en ec] 66)).drew (some ⟨w4.heap.size, 0, none⟩) ([(p1, (⟨eA, en, ec⟩ : Sl))].flatMap encP) := (Ats.lit w4 #[.int .i64 (p1 : Int), .slice eA en ec] 66 _ rfl).non ((Keeps.refl Non _).drew)
                        have hqlen : qs.length = q := by have := hG4.m.len; rw [this]; show ((ps.take q).map lfK).length = q; simp; omega
                        have HBB : Hid (qs.length + 1 ≤ maxLen ∧ (qs.length + 1) * 32 ≤ 140737488355328) := Lib.hid (by rw [hqlen]; unfold maxLen; omega)
                        clear hqlen y0 y1 yc hB3 hRE
                        have Hgl := Lib.hid (nod_iff.1 hG7.m.nod).gl
                        have HPT : Hid ((ps.take (q + 1)).map lfK = (ps.take q).map lfK ++ [⟨p1, L⟩]) := Lib.hid (by
                          rw [List.take_succ_eq_append_getElem hqn, List.map_append]
                          congr 1
                          have : ps[q] = p := by rw [HPE.out, List.getD_eq_getElem?_getD, List.getElem?_eq_getElem hqn]; rfl
                          rw [this, List.map_singleton, HLG.out])
                        have HNF : Hid (∀ x ∈ own (.slice eA en ec), x ∉ foot g t ⟨lA', qs.length, lc'⟩ qs) := Lib.hid (fun x hx hx' => by
                          have h1 : w2.heap.size ≤ x := hNE x hx
                          have h2 := hGq.m.low x hx'
                          have := hK2.size
                          omega)
                        have HNW : Hid (∀ x ∈ own (.slice eA en ec), w.heap.size ≤ x) := Lib.hid (fun x hx => by
                          have h1 : w2.heap.size ≤ x := hNE x hx
                          have := hK2.size
                          have := hGq.k.size
                          omega)
                        have hwr1 : IntKind.i64.wrap (p1 : Int) = (p1 : Int) := by rw [IntKind.wrap_i64]; omega
                        go_region_law (first
                          | (go_loud (refine step_append_row (o := ⟨some 125, _, _, _, _, _⟩) rfl (.tmp 118) (.tmp 124) 67 rfl 66 2 encP _ 32 Try.underlying67 info66 rfl (by decide) encP_len encP_one (.slice lA' qs.length lc') qs rfl hG7.m.lvs (some ⟨w4.heap.size, 0, none⟩) 1 1 [(p1, (⟨eA, en, ec⟩ : Sl))] rfl rfl hAts HBB.out.1 HBB.out.2 ?_; intro u8 w8 hO8 hK8 hat; obtain ⟨s8, rfl, -⟩ := RowP.sl hO8; have hB8 := hG7.m.blk.keep hK8 Hgl.out; have z8 := hB8.cell 3; have f8 := hB8.frozen 3)))
                        all_goals
                          have hG9 := hG4.leaf8 (b := ⟨eA, en, ec⟩) hE4 HNF.out HNW.out (((Keeps.refl Non w4).alloc _).drew) hO8 hK8 hat
                          go_wp2_with fail
                          go_roundw
                          case rel => exact ⟨q + 1, s8, _, by omega, by go_num, by rw [HPT.out]; exact hG9, HLX⟩
                          case measure => simp [intOf]; omega
                    · have HNX := Lib.hid (HNO.out (by rintro ⟨-, h, -⟩; exact q1 h))
                      have q1i : (dep : Int) < (p1 : Int) := by omega
                      clear q0
                      cases eo with
                      | none =>
                        go_upto_region 22 with (first
                          | ((with_reducible show wpList _ _ _ ({ dst := some 90, op := Op.load 96 _, type := _, pos := _, after := _, guard := _ } :: _) _ _); go_must (refine wpList_load_row rfl 96 (.tmp 11) rfl pb rfl 96 (pc p) (0, 0) (.array 256 5) hB2 Try.underlying96 rfl (by rw [pc_size, HP256.out]; exact info96) ?_))
                          | (go_at_call 47; go_must (refine HEN.out.mono ?_); rintro e w3 ⟨rfl, hK3⟩))
                        have hK9 := hGq.k.non (hK2.non hK3)
                        have hB3 := hB2.non hK3
                        have y0 : w3.cell? ⟨pb, 0, none⟩ = some (.int .u8 (p0 : Int)) := by have := byte_at hB3 (a := 0) (by rw [HP256.out]; omega); rw [← HE0.out] at this; exact this
                        have y1 : w3.cell? ⟨pb, 1, none⟩ = some (.int .u8 (p1 : Int)) := by have := byte_at hB3 (a := 1) (by rw [HP256.out]; omega); rw [← HE1.out] at this; exact this
                        have yc : w3.cell? ⟨g, 1, none⟩ = some (.int .i64 (dep : Int)) := ((hGq.non hK2).non hK3).m.blk.cell 1
                        go_quiet (fail)
                        go_wp2_with fail
                        go_ret2
                        exact HashR.no HNX.out (hK9.drewN _)
                      | some L =>
                        go_upto_region 22 with (first
                          | ((with_reducible show wpList _ _ _ ({ dst := some 90, op := Op.load 96 _, type := _, pos := _, after := _, guard := _ } :: _) _ _); go_must (refine wpList_load_row rfl 96 (.tmp 11) rfl pb rfl 96 (pc p) (0, 0) (.array 256 5) hB2 Try.underlying96 rfl (by rw [pc_size, HP256.out]; exact info96) ?_))
                          | (go_at_call 47; go_must (refine HEN.out.mono ?_); rintro e w3 ⟨⟨eA, en, ec⟩, he, hRE, hNE, hK3⟩; change e = .returned (.tuple #[.slice eA en ec, .bool true]) at he; subst he))
                        have hK9 := hGq.k.non (hK2.non hK3)
                        have hB3 := hB2.non hK3
                        have y0 : w3.cell? ⟨pb, 0, none⟩ = some (.int .u8 (p0 : Int)) := by have := byte_at hB3 (a := 0) (by rw [HP256.out]; omega); rw [← HE0.out] at this; exact this
                        have y1 : w3.cell? ⟨pb, 1, none⟩ = some (.int .u8 (p1 : Int)) := by have := byte_at hB3 (a := 1) (by rw [HP256.out]; omega); rw [← HE1.out] at this; exact this
                        have yc : w3.cell? ⟨g, 1, none⟩ = some (.int .i64 (dep : Int)) := ((hGq.non hK2).non hK3).m.blk.cell 1
                        go_quiet (fail)
                        go_wp2_with fail
                        go_ret2
                        exact HashR.no HNX.out (hK9.drewN _)
                  · have q0b : ((p0 : Int) != 108) = true := by simp; omega
                    have HNX := Lib.hid (HNO.out (by rintro ⟨h, -⟩; exact q0 h))
                    clear q0
                    cases eo with
                    | none =>
                      go_upto_region 22 with (first
                        | ((with_reducible show wpList _ _ _ ({ dst := some 90, op := Op.load 96 _, type := _, pos := _, after := _, guard := _ } :: _) _ _); go_must (refine wpList_load_row rfl 96 (.tmp 11) rfl pb rfl 96 (pc p) (0, 0) (.array 256 5) hB2 Try.underlying96 rfl (by rw [pc_size, HP256.out]; exact info96) ?_))
                        | (go_at_call 47; go_must (refine HEN.out.mono ?_); rintro e w3 ⟨rfl, hK3⟩))
                      have hK9 := hGq.k.non (hK2.non hK3)
                      have hB3 := hB2.non hK3
                      have y0 : w3.cell? ⟨pb, 0, none⟩ = some (.int .u8 (p0 : Int)) := by have := byte_at hB3 (a := 0) (by rw [HP256.out]; omega); rw [← HE0.out] at this; exact this
                      have y1 : w3.cell? ⟨pb, 1, none⟩ = some (.int .u8 (p1 : Int)) := by have := byte_at hB3 (a := 1) (by rw [HP256.out]; omega); rw [← HE1.out] at this; exact this
                      have yc : w3.cell? ⟨g, 1, none⟩ = some (.int .i64 (dep : Int)) := ((hGq.non hK2).non hK3).m.blk.cell 1
                      go_quiet (fail)
                      go_wp2_with fail
                      go_ret2
                      exact HashR.no HNX.out (hK9.drewN _)
                    | some L =>
                      go_upto_region 22 with (first
                        | ((with_reducible show wpList _ _ _ ({ dst := some 90, op := Op.load 96 _, type := _, pos := _, after := _, guard := _ } :: _) _ _); go_must (refine wpList_load_row rfl 96 (.tmp 11) rfl pb rfl 96 (pc p) (0, 0) (.array 256 5) hB2 Try.underlying96 rfl (by rw [pc_size, HP256.out]; exact info96) ?_))
                        | (go_at_call 47; go_must (refine HEN.out.mono ?_); rintro e w3 ⟨⟨eA, en, ec⟩, he, hRE, hNE, hK3⟩; change e = .returned (.tuple #[.slice eA en ec, .bool true]) at he; subst he))
                      have hK9 := hGq.k.non (hK2.non hK3)
                      have hB3 := hB2.non hK3
                      have y0 : w3.cell? ⟨pb, 0, none⟩ = some (.int .u8 (p0 : Int)) := by have := byte_at hB3 (a := 0) (by rw [HP256.out]; omega); rw [← HE0.out] at this; exact this
                      have y1 : w3.cell? ⟨pb, 1, none⟩ = some (.int .u8 (p1 : Int)) := by have := byte_at hB3 (a := 1) (by rw [HP256.out]; omega); rw [← HE1.out] at this; exact this
                      have yc : w3.cell? ⟨g, 1, none⟩ = some (.int .i64 (dep : Int)) := ((hGq.non hK2).non hK3).m.blk.cell 1
                      go_quiet (fail)
                      go_wp2_with fail
                      go_ret2
                      exact HashR.no HNX.out (hK9.drewN _)
                · obtain rfl : q = ps.length := by omega
                  have hdK : (⟨false, dep, tabK r k, (ps.take ps.length).map lfK⟩ : Dic) = dK r ps := by
                    unfold dK
                    rw [List.take_of_length_le (Nat.le_refl _), ← HDP.out, ← HPW.out]
                  rw [hdK] at hGq
                  have hRd : Read r ps (dK r ps) := read_mk HX.out (by rw [← HDP.out]; exact h5) (fun i hi => HT.out i (by rw [← HDP.out, ← HPW.out] at hi; exact hi)) (fun i h1 h2 => by
                    rw [← HDP.out, ← HPW.out] at h1
                    have := HZ.out (i - (2 + k)) (by omega)
                    rwa [show 2 + k + (i - (2 + k)) = i by omega] at this) (fun i hi => by rw [← HDP.out]; exact HL.out i hi)
                  have hSz : Sized (dK r ps) := by
                    have htl := hRd.tl
                    have hpd := two_pow (dK r ps).depth hRd.d5
                    have hmem : ∀ x ∈ (dK r ps).leaves, ∃ i, i < ps.length ∧ x = leafAt (dK r ps) i := fun x hx => by
                      obtain ⟨i, hi, rfl⟩ := List.getElem_of_mem hx
                      exact ⟨i, by rw [← hRd.ll]; exact hi, (leafAt_get hi).symm⟩
                    have hgd : ∀ i, i < ps.length → (leafAt (dK r ps) i).depth ≤ 5 ∧ (∀ e ∈ (leafAt (dK r ps) i).l, e.name.length ≤ 24) ∧ (leafAt (dK r ps) i).l.length ≤ 60 := fun i hi => by
                      obtain ⟨-, -, a3, a4⟩ := hRd.lf i hi
                      have hpl : (ps.getD i []).length = 256 := h256 _ (List.mem_cons_of_mem _ (by rw [List.getD_eq_getElem?_getD, List.getElem?_eq_getElem hi]; exact List.getElem_mem _))
                      obtain ⟨-, b2, b3, -⟩ := entF_some hpl a4
                      have h5' := hRd.d5
                      exact ⟨by omega, fun e he => (b3 e he).2.1, by have := (fitE_len b2).1; omega⟩
                    refine ⟨by omega, by rw [hRd.ll]; omega, fun x hx => ?_, fun x hx => ?_, fun x hx => ?_⟩
                    · obtain ⟨i, hi, rfl⟩ := hmem x hx; exact (hgd i hi).1
                    · obtain ⟨i, hi, rfl⟩ := hmem x hx; exact (hgd i hi).2.1
                    · obtain ⟨i, hi, rfl⟩ := hmem x hx; exact (hgd i hi).2.2
                  have HWA := Lib.hid (whole_any hGq.m hSz)
                  have HRD := Lib.hid hRd
                  clear hRd hSz hdK
                  go_wp2_with fail
                  refine HWA.out.mono ?_
                  rintro e w9 ⟨⟨hw, rfl⟩ | ⟨hw, rfl⟩, hK9⟩
                  · have HWH := Lib.hid hw
                    clear hw
                    go_wp2_with fail
                    go_ret2
                    exact .inl ⟨dK r ps, g, t, l, qs, HRD.out, HWH.out, rfl, hGq.non hK9⟩
                  · have HWH : Hid (∀ d, Read r ps d → Whole d → False) := Lib.hid (fun d hd hw' => hw (by rw [read_unique HRD.out hd]; exact hw'))
                    clear hw
                    go_wp2_with fail
                    go_ret2
                    exact HashR.no HWH.out (hGq.k.non hK9)
    · have hno : ∀ d, Read r ps d → Whole d → False := fun d hd _ => h5 (by have h1 := hd.dep; have h2 := hd.d5; have := HDP.out; omega)
      go_wp2_with fail
      go_ret2
      exact HashR.no hno hG.k
  · have hno : ∀ d, Read r ps d → Whole d → False := fun d hd _ => hr0 (HX1.out hd.r0)
    have hr0b : ((x0 : Int) != 114) = true := by simp; omega
    clear hr0
    go_wp2_with fail
    go_ret2
    exact HashR.no hno hG.k
end Go.Proofs.Ytiieglfpmmhfiaa
