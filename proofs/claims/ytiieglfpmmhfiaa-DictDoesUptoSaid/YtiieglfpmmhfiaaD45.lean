/- The document's told: many pages. -/
import Derived.Test.YtiieglfpmmhfiaaG11
namespace Go.Proofs.Ytiieglfpmmhfiaa
set_option maxRecDepth 100000
open Go.RowKit Go.Uc

set_option maxHeartbeats 8000000 in
theorem told67_many {w : World} {A : Option Addr} {c : Nat} {r : List UInt8} {ps : List (List UInt8)} (h : PgQ w A (r :: ps)) (h256 : ∀ p ∈ r :: ps, p.length = 256) (hp1 : 1 ≤ ps.length) (hp2 : ps.length ≤ 32) (n : Nat) (hn : n = ps.length + 1) :
    Calls Try.prog 67 #[.slice A n c] w (ToldR w (r :: ps)) := by
  have hne : ps ≠ [] := by intro e; rw [e] at hp1; simp at hp1
  have HNo := Lib.hid hne
  obtain ⟨pb, po, -, -, rfl, -⟩ := h 0 (by simp)
  have HP : Hid (∀ W, Keeps Non w W → ∀ i, i < n → ∃ Ai ci, W.cell? ⟨pb, po + i, none⟩ = some (.slice Ai 256 ci) ∧ At W Ai ((r :: ps).getD i []) ∧ 256 ≤ ci) := Lib.hid (fun W hk i hi => by
    obtain ⟨b, off, Ai, ci, e, hc, ha, hl⟩ := (h.non hk) i (by simp; omega)
    injection e with e
    injection e with e1 e2
    subst e1 e2
    have hl256 := h256 _ (List.getElem_mem (show i < (r :: ps).length by simp; omega))
    rw [hl256] at hc hl
    refine ⟨Ai, ci, hc, ?_, hl⟩
    rw [List.getD_eq_getElem?_getD, List.getElem?_eq_getElem (by simp; omega)]
    exact ha)
  obtain ⟨rA, rc, hrc0, hrA, hrcl⟩ := HP.out w (Keeps.refl _ _) 0 (by omega)
  obtain ⟨rb, ro, rfl, -⟩ := hrA.at_ (k := 0) (by have := h256 r (by simp); show 0 < r.length; omega)
  have hrlen : r.length = 256 := h256 r (by simp)
  have HR : Hid (∀ W, Keeps Non w W → W.cell? ⟨pb, po, none⟩ = some (.slice (some ⟨rb, ro, none⟩) 256 rc) ∧ ∀ j, j < 256 → W.cell? ⟨rb, ro + j, none⟩ = some (.int .u8 ((r.getD j 0).toNat : Int))) := Lib.hid (fun W hk => by
    refine ⟨hk.cell (by simpa using hrc0) id, fun j hj => ?_⟩
    obtain ⟨b2, o2, e, h2⟩ := (hrA.non hk).at_ (k := j) (by show j < r.length; omega)
    injection e with e
    injection e with e1 e2
    subst e1 e2
    rw [h2]
    show some (bv (r[j]'(by omega))) = _
    rw [List.getD_eq_getElem?_getD, List.getElem?_eq_getElem (by omega)]
    rfl)
  have HHP := Lib.hid (fun p (hp : p ∈ ps) => h256 p (List.mem_cons_of_mem _ hp))
  have hn2 : 2 ≤ n := by omega
  have hn33 : n ≤ 33 := by omega
  have HN := Lib.hid hn
  clear hn h hrc0 hrA hrcl hne
  obtain ⟨z0, zb⟩ := HR.out w (Keeps.refl _ _)
  have z1 := zb 1 (by omega)
  obtain ⟨dep, hdep⟩ : ∃ x, x = (r.getD 1 0).toNat := ⟨_, rfl⟩
  rw [← hdep] at z1
  have hdep8 : dep < 256 := by rw [hdep]; exact UInt8.toNat_lt _
  have HDP := Lib.hid hdep
  clear hdep zb
  have hn1 : ((n : Int) == 1) = false := beq_eq_false_iff_ne.2 (by omega)
  have hi0 : (0 : Int) < (n : Int) := by omega
  have hi0' : 0 < n := by omega
  go_enter Try.func67, Try.ntmps67
  go_upto_region 5 with fail
  have hG := Grown.new (T := 84) (L := 86) (Keeps.refl Non w) false dep
  obtain ⟨w1, hw1⟩ : ∃ W : World, W = w.alloc (.cells #[.bool false, .int .i64 (dep : Int), .slice none 0 0, .slice none 0 0] 84) := ⟨_, rfl⟩
  rw [← hw1] at hG ⊢
  clear hw1 z0 z1
  obtain ⟨g, hg⟩ : ∃ b, b = w.heap.size := ⟨_, rfl⟩
  rw [← hg] at hG ⊢
  clear hg
  have c1 : w1.cell? ⟨g, 1, none⟩ = some (.int .i64 (dep : Int)) := hG.m.blk.cell 1
  by_cases h5 : dep ≤ 5
  · obtain ⟨pw, hpw⟩ : ∃ x, x = 2 ^ dep := ⟨_, rfl⟩
    have hpw32 : pw ≤ 32 := by have := two_pow dep h5; omega
    have HPw := Lib.hid (fun W => power_any dep (by omega) W)
    rw [← hpw] at HPw
    have HPW := Lib.hid hpw
    clear hpw
    go_upto_region 8 with fail
    go_loopw [7] (fun i wr => ∃ (k : Nat) (t : Sl), k ≤ pw ∧ i = .int .i64 (k : Int) ∧ Grown 84 86 w wr g ⟨false, dep, tabK r k, []⟩ t ⟨none, 0, 0⟩ [] ∧ Hid (∀ i, i < k → 1 ≤ (r.getD (2 + i) 0).toNat ∧ (r.getD (2 + i) 0).toNat ≤ ps.length)) (fun i _ => pw - (intOf i).toNat)
    case atStart => exact ⟨0, _, Nat.zero_le _, rfl, hG, Lib.hid (fun i h => by omega)⟩
    case round =>
      obtain ⟨k, t, hk, rfl, hGk, HT⟩ := hrel
      obtain ⟨wx, rfl⟩ : ∃ W : World, W = wr := ⟨_, rfl⟩
      clear hG c1
      have c1 : wx.cell? ⟨g, 1, none⟩ = some (.int .i64 (dep : Int)) := hGk.m.blk.cell 1
      obtain ⟨z0, zb⟩ := HR.out wx hGk.k
      by_cases hlt : k < pw
      · have z2 := zb (2 + k) (by omega)
        have hx28 : (r.getD (2 + k) 0).toNat < 256 := UInt8.toNat_lt _
        have HTS : Hid (1 ≤ (r.getD (2 + k) 0).toNat ∧ (r.getD (2 + k) 0).toNat ≤ ps.length → ∀ i, i < k + 1 → 1 ≤ (r.getD (2 + i) 0).toNat ∧ (r.getD (2 + i) 0).toNat ≤ ps.length) := Lib.hid (fun h i hi => by
          rcases Nat.lt_or_ge i k with h' | h'
          · exact HT.out i h'
          · obtain rfl : i = k := by omega
            exact h)
        have HNO : Hid (¬ (1 ≤ (r.getD (2 + k) 0).toNat ∧ (r.getD (2 + k) 0).toNat ≤ ps.length) → ∀ d, Opens (r :: ps) d → False) := Lib.hid (fun h d hd => h (by
          obtain ⟨hd, -⟩ := read_of_opens hd HNo.out
          have hdd : d.depth = dep := by have := hd.dep; have := HDP.out; omega
          have h1 := hd.tb k (by rw [hdd]; have := HPW.out; omega)
          have h2 := hd.rng k (by rw [hdd]; have := HPW.out; omega)
          omega))
        have HTK : Hid (tabK r (k + 1) = tabK r k ++ [(r.getD (2 + k) 0).toNat - 1]) := Lib.hid (tabK_succ r k)
        generalize (r.getD (2 + k) 0).toNat = xb at z2 hx28 HTS HNO HTK
        have hki : (2 : Int) + (k : Int) < 256 := by omega
        clear zb
        by_cases hx1 : xb < 1
        · have hno := HNO.out (by omega)
          go_wp2_with ((go_at_call 82; go_must (refine (HPw.out _).mono ?_); rintro e w5 ⟨rfl, rfl⟩))
          go_ret2
          exact ToldR.no hno hGk.k
        · by_cases hxn : n ≤ xb
          · have hno := HNO.out (by have := HN.out; omega)
            go_wp2_with ((go_at_call 82; go_must (refine (HPw.out _).mono ?_); rintro e w5 ⟨rfl, rfl⟩))
            go_ret2
            exact ToldR.no hno hGk.k
          · have HTO := Lib.hid (HTS.out (by have := HN.out; omega))
            obtain ⟨xm, hxm⟩ : ∃ xm, xm = xb - 1 := ⟨_, rfl⟩
            rw [← hxm] at HTK
            have hsub : (xb : Int) - 1 = (xm : Int) := by omega
            clear hxm
            obtain ⟨tA, tc, hte, -, -⟩ := hGk.m.tab.val
            obtain ⟨tA', tn, tc'⟩ := t
            injection hte with e1 e2 e3
            rw [tabK_len] at e2
            simp only at e1 e2 e3
            clear e1 e3
            obtain rfl : k = tn := e2.symm
            have c2 : wx.cell? ⟨g, 2, none⟩ = some (.slice tA' k tc') := hGk.m.blk.cell 2
            have Hgt := Lib.hid (nod_iff.1 hGk.m.nod).gt
            have HLB : Hid ((tabK r k).length + 1 ≤ maxLen ∧ ((tabK r k).length + 1) * 8 ≤ 140737488355328) := Lib.hid (by rw [tabK_len]; unfold maxLen; omega)
            go_wp2_with (first
              | (go_at_call 82; go_must (refine (HPw.out _).mono ?_); rintro e w5 ⟨rfl, rfl⟩)
              | (at_builtin; go_must (refine wpList_append_row (o := ⟨some 81, _, _, _, _, _⟩) rfl (.tmp 77) (.tmp 80) 23 rfl 3 1 encN _ 8 Try.underlying23 info3 rfl (by decide) encN_len encN_one (.slice tA' k tc') (tabK r k) rfl (hGk.m.tab.non ((Keeps.refl Non _).alloc _)) (some ⟨w5.heap.size, 0, none⟩) 1 1 [xm] rfl rfl (Ats.lit w5 #[.int .i64 (xm : Int)] 3 _ rfl) HLB.out.1 HLB.out.2 ?_); intro u8 w8 hO8 hK8 hat; obtain ⟨s8, rfl, -⟩ := RowP.sl hO8; have hB8 := (hGk.m.blk.non ((Keeps.refl Non _).alloc _)).keep hK8 Hgt.out; have z8 := hB8.cell 2; have f8 := hB8.frozen 2))
            have hG8 := hGk.tab8 ((Keeps.refl Non _).alloc _) hO8 hK8 hat
            go_roundw
            case rel => exact ⟨k + 1, s8, by omega, by go_num, by rw [HTK.out]; exact hG8, HTO⟩
            case measure => simp [intOf]; omega
      · obtain rfl : k = pw := by omega
        clear zb z0
        go_upto_region 15 with ((go_at_call 82; go_must (refine (HPw.out _).mono ?_); rintro e w5 ⟨rfl, rfl⟩))
        go_loopw [9] (fun i wr => ∃ (q : Nat) (l : Sl) (qs : List (Nat × Sl)), q ≤ ps.length ∧ i = .int .i64 ((q + 1 : Nat) : Int) ∧ Grown 84 86 w wr g ⟨false, dep, tabK r k, (ps.take q).map lfH⟩ t l qs ∧ Hid (∀ i, i < q → ∃ x, entH (ps.getD i []) ((ps.getD i []).getD 2 0).toNat 3 [] = some x)) (fun i _ => ps.length + 1 - (intOf i).toNat)
        case atStart => exact ⟨0, _, _, Nat.zero_le _, rfl, hGk, Lib.hid (fun i h => by omega)⟩
        case round =>
          obtain ⟨q, l, qs, hq, rfl, hGq, HL⟩ := hrel
          obtain ⟨wy, rfl⟩ : ∃ W : World, W = wr := ⟨_, rfl⟩
          obtain ⟨q1, hq1⟩ : ∃ x, x = q + 1 := ⟨_, rfl⟩
          rw [← hq1]
          by_cases hqn : q < ps.length
          · have hq1n : q1 < n := by have := HN.out; omega
            obtain ⟨Ai, ci, p0, hAp, hci⟩ := HP.out wy hGq.k q1 hq1n
            obtain ⟨p, hpe⟩ : ∃ p, p = ps.getD q [] := ⟨_, rfl⟩
            have hrp : (r :: ps).getD q1 [] = p := by rw [hq1, hpe]; rfl
            rw [hrp] at hAp
            have hpm : p ∈ ps := by rw [hpe, List.getD_eq_getElem?_getD, List.getElem?_eq_getElem hqn]; exact List.getElem_mem _
            have hp256 : p.length = 256 := HHP.out p hpm
            obtain ⟨xb, xo, rfl, -⟩ := hAp.at_ (k := 0) (by omega)
            have HPB : Hid (∀ W, Keeps Non wy W → W.cell? ⟨pb, po + q1, none⟩ = some (.slice (some ⟨xb, xo, none⟩) 256 ci) ∧ ∀ j, j < 256 → W.cell? ⟨xb, xo + j, none⟩ = some (.int .u8 ((p.getD j 0).toNat : Int))) := Lib.hid (fun W hk => by
              refine ⟨hk.cell p0 id, fun j hj => ?_⟩
              obtain ⟨b2, o2, e, h2⟩ := (hAp.non hk).at_ (k := j) (by omega)
              injection e with e
              injection e with e1 e2
              subst e1 e2
              rw [h2, List.getD_eq_getElem?_getD, List.getElem?_eq_getElem (by omega)]
              rfl)
            have HEN := Lib.hid (entries83_any (some ⟨xb, xo, none⟩) ci hci p hp256 (p.getD 2 0).toNat (by have := (p.getD 2 0).toNat_lt; omega) wy.drew (hAp.non (Keeps.refl Non wy).drew))
            have HLF : Hid (∀ a l, entH p (p.getD 2 0).toNat 3 [] = some (a, l) → lfH p = ⟨(p.getD 1 0).toNat, l⟩) := Lib.hid (fun a l h => lfH_some h)
            have HNO : Hid (entH p (p.getD 2 0).toNat 3 [] = none → ∀ d, Opens (r :: ps) d → False) := Lib.hid (fun h d hd => by
              obtain ⟨hd, -⟩ := read_of_opens hd HNo.out
              obtain ⟨-, -, -, a4⟩ := hd.lf q hqn
              rw [← hpe] at a4
              obtain ⟨a, e⟩ := entH_of_F a4
              rw [h] at e
              cases e)
            have HES : Hid (∀ a l, entH p (p.getD 2 0).toNat 3 [] = some (a, l) → l.length ≤ 60) := Lib.hid (fun a l h => by have := (fitE_len (entH_fit hp256 h).1).1; omega)
            have HLS : Hid ((∃ x, entH p (p.getD 2 0).toNat 3 [] = some x) → ∀ i, i < q + 1 → ∃ x, entH (ps.getD i []) ((ps.getD i []).getD 2 0).toNat 3 [] = some x) := Lib.hid (fun h i hi => by
              rcases Nat.lt_or_ge i q with h' | h'
              · exact HL.out i h'
              · obtain rfl : i = q := by omega
                rw [← hpe]; exact h)
            have HPE := Lib.hid hpe
            obtain ⟨eo, heo⟩ : ∃ eo, eo = entH p (p.getD 2 0).toNat 3 [] := ⟨_, rfl⟩
            rw [← heo] at HEN HLF HNO HES HLS
            obtain ⟨v0, vb⟩ := HPB.out wy.drew ((Keeps.refl Non wy).drew)
            have v2 := vb 2 (by omega)
            have hm255 : (p.getD 2 0).toNat < 256 := UInt8.toNat_lt _
            have hm1 : (p.getD 1 0).toNat < 256 := UInt8.toNat_lt _
            have HQ1 := Lib.hid hq1
            have hq1p : 1 ≤ q1 := by omega
            clear heo hpe hrp hpm hAp hci vb hq1 p0
            generalize (p.getD 2 0).toNat = m2 at HEN v2 hm255
            have hwm : IntKind.i64.wrap (m2 : Int) = (m2 : Int) := by rw [IntKind.wrap_i64]; omega
            have hq1i : (q1 : Int) < (n : Int) := by omega
            cases eo with
            | none =>
              have HNX := Lib.hid (HNO.out rfl)
              go_upto_region 17 with fail
              go_region_law (first
                | (go_simp; go_at_call 83; refine HEN.out.mono ?_; rintro en w6 ⟨rfl, hK6⟩))
              all_goals
                have HK1 := Lib.hid (hGq.k.non ((Keeps.refl Non wy).drew.non hK6))
                go_wp2_with fail
                go_ret2
                exact ToldR.no HNX.out HK1.out
            | some x =>
              obtain ⟨ax, L⟩ := x
              have HLX := Lib.hid (HLS.out ⟨_, rfl⟩)
              have HLG := Lib.hid (HLF.out ax L rfl)
              have hL60 := HES.out ax L rfl
              go_upto_region 17 with fail
              go_region_law (first
                | (go_simp; go_at_call 83; refine HEN.out.mono ?_; rintro en w6 ⟨⟨sA, sn, sc⟩, he, hR6, hN6, hK6⟩; go_must (change en = .returned (.tuple #[.slice sA sn sc, .bool true]) at he; subst he)))
              all_goals
                have hKy6 : Keeps Non wy w6 := (Keeps.refl Non wy).drew.non hK6
                have hG6 := hGq.non hKy6
                go_upto_region 20 with fail
                obtain ⟨lA, lc, hle, -, -⟩ := hG6.m.lvs.val
                obtain ⟨lA', ln, lc'⟩ := l
                injection hle with e1 e2 e3
                simp only at e1 e2 e3
                clear e1 e3
                subst e2
                have hka : Keeps Non w6 (w6.alloc (.cells #[.int .i64 ((p.getD 1 0).toNat : Int), .slice sA sn sc] 86)).drew := ((Keeps.refl Non w6).alloc _).drew
                have hG7 := hG6.non hka
                obtain ⟨u0, ub⟩ := HPB.out w6.drew (hKy6.drew)
                have u1 := ub 1 (by omega)
                obtain ⟨u0', ub'⟩ := HPB.out _ (hKy6.non hka)
                have u1' := ub' 1 (by omega)
                have u0a : (w6.alloc (.cells #[.int .i64 ((p.getD 1 0).toNat : Int), .slice sA sn sc] 86)).cell? ⟨pb, po + q1, none⟩ = some (.slice (some ⟨xb, xo, none⟩) 256 ci) := u0'
                have u1a : (w6.alloc (.cells #[.int .i64 ((p.getD 1 0).toNat : Int), .slice sA sn sc] 86)).cell? ⟨xb, xo + 1, none⟩ = some (.int .u8 ((p.getD 1 0).toNat : Int)) := u1'
                have v3 : w6.drew.cell? ⟨g, 3, none⟩ = some (.slice lA' qs.length lc') := hG6.m.blk.cell 3
                have v3a : (w6.alloc (.cells #[.int .i64 ((p.getD 1 0).toNat : Int), .slice sA sn sc] 86)).cell? ⟨g, 3, none⟩ = some (.slice lA' qs.length lc') := hG7.m.blk.cell 3
                have hAts : Ats (w6.alloc (.cells #[.int .i64 ((p.getD 1 0).toNat : Int), .slice sA sn sc] 86)).drew (some ⟨w6.heap.size, 0, none⟩) ([((p.getD 1 0).toNat, (⟨sA, sn, sc⟩ : Sl))].flatMap encP) := (Ats.lit w6 #[.int .i64 ((p.getD 1 0).toNat : Int), .slice sA sn sc] 86 _ rfl).non ((Keeps.refl Non _).drew)
                have hqlen : qs.length = q := by have := hG6.m.len; rw [this]; show ((ps.take q).map lfH).length = q; simp; omega
                have HBB : Hid (qs.length + 1 ≤ maxLen ∧ (qs.length + 1) * 32 ≤ 140737488355328) := Lib.hid (by rw [hqlen]; unfold maxLen; omega)
                clear hqlen u0' u1' ub ub'
                have Hgl := Lib.hid (nod_iff.1 hG7.m.nod).gl
                have HPT : Hid ((ps.take (q + 1)).map lfH = (ps.take q).map lfH ++ [⟨(p.getD 1 0).toNat, L⟩]) := Lib.hid (by
                  rw [List.take_succ_eq_append_getElem hqn, List.map_append]
                  congr 1
                  have : ps[q] = p := by rw [HPE.out, List.getD_eq_getElem?_getD, List.getElem?_eq_getElem hqn]; rfl
                  rw [this, List.map_singleton, HLG.out])
                have HNF : Hid (∀ x ∈ own (.slice sA sn sc), x ∉ foot g t ⟨lA', qs.length, lc'⟩ qs) := Lib.hid (fun x hx hx' => by
                  have h1 : wy.drew.heap.size ≤ x := hN6 x hx
                  have h2 := hGq.m.low x hx'
                  have h3 : wy.drew.heap.size = wy.heap.size := rfl
                  omega)
                have HNW : Hid (∀ x ∈ own (.slice sA sn sc), w.heap.size ≤ x) := Lib.hid (fun x hx => by
                  have h1 : wy.drew.heap.size ≤ x := hN6 x hx
                  have h3 : wy.drew.heap.size = wy.heap.size := rfl
                  have := hGq.k.size
                  omega)
                generalize (p.getD 1 0).toNat = m1 at hka hG7 u1 u1a u0a v3a hAts HPT hm1 Hgl
                have hwr1 : IntKind.i64.wrap (m1 : Int) = (m1 : Int) := by rw [IntKind.wrap_i64]; omega
                go_region_law (first
                  | (go_loud (refine step_append_row (o := ⟨some 122, _, _, _, _, _⟩) rfl (.tmp 111) (.tmp 121) 82 rfl 86 2 encP _ 32 Try.underlying82 info86 rfl (by decide) encP_len encP_one (.slice lA' qs.length lc') qs rfl hG7.m.lvs (some ⟨w6.heap.size, 0, none⟩) 1 1 [(m1, (⟨sA, sn, sc⟩ : Sl))] rfl rfl hAts HBB.out.1 HBB.out.2 ?_; intro u8 w8 hO8 hK8 hat; obtain ⟨s8, rfl, -⟩ := RowP.sl hO8; have hB8 := hG7.m.blk.keep hK8 Hgl.out; have z8 := hB8.cell 3; have f8 := hB8.frozen 3)))
                all_goals
                  have hG9 := hG6.leaf8 (b := ⟨sA, sn, sc⟩) hR6 HNF.out HNW.out (((Keeps.refl Non w6).alloc _).drew) hO8 hK8 hat
                  go_wp2_with fail
                  go_roundw
                  case rel => exact ⟨q + 1, s8, _, by omega, by have := HQ1.out; go_num, by rw [HPT.out]; exact hG9, HLX⟩
                  case measure => simp [intOf]; have := HQ1.out; omega
          · obtain rfl : q = ps.length := by omega
            have hdK : (⟨false, dep, tabK r k, (ps.take ps.length).map lfH⟩ : Dic) = dH r ps := by
              unfold dH
              rw [List.take_of_length_le (Nat.le_refl _), ← HDP.out, ← HPW.out]
            rw [hdK] at hGq
            have HTD : Hid (Told (r :: ps) (dH r ps)) := Lib.hid (told_many HHP.out hp2 HNo.out (by rw [← HDP.out]; exact h5) (fun i hi => HT.out i (by rw [← HDP.out, ← HPW.out] at hi; exact hi)) HL.out)
            have hq1n : ¬ q1 < n := by have := HN.out; omega
            clear hdK hq1
            go_wp2_with fail
            go_ret2
            exact .inl ⟨dH r ps, g, t, l, qs, HTD.out, rfl, hGq⟩
  · have hno : ∀ d, Opens (r :: ps) d → False := fun d hd => h5 (by obtain ⟨hd, -⟩ := read_of_opens hd HNo.out; have h1 := hd.dep; have h2 := hd.d5; have := HDP.out; omega)
    go_wp2_with fail
    go_ret2
    exact ToldR.no hno hG.k
end Go.Proofs.Ytiieglfpmmhfiaa
