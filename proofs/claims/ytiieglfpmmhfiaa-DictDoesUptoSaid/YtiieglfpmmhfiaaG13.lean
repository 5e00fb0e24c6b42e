/- Pages of the call's own, with room behind each. spoil: pages are their owner's. Len. holds. opened: a dictionary of the program beside the document's. -/
import Derived.Test.YtiieglfpmmhfiaaG10
import Derived.Test.YtiieglfpmmhfiaaG5
import Derived.WalkLawsBesides
import Derived.RegionTactic
import Derived.Test.YtiieglfpmmhfiaaG12
namespace Go.Proofs.Ytiieglfpmmhfiaa
set_option maxRecDepth 100000
open Go.RowKit Go.Uc

theorem PgG.nil (w : World) : PgG w w ⟨none, 0, 0⟩ [] [] :=
  ⟨⟨RowP.nil _ _ _ _, rfl, fun i hi => absurd hi (by simp), List.nodup_nil⟩, fun q hq => (List.not_mem_nil hq).elim, Keeps.refl _ _⟩
theorem RowU.front {w : World} {b n : Nat} {p : List UInt8} {x : UInt8} (h : Blk w b 5 (pc (p ++ [x]))) (hn : n = p.length) (hl : p.length + 1 ≤ maxLen) : RowU w (.slice (some ⟨b, 0, none⟩) n (n + 1)) p := by
  subst hn
  exact RowP.mk encU_len h (by omega) hl (by simp [pc_size]) (by simp [pc, flat_encU])
set_option maxHeartbeats 8000000 in
theorem pages19_any {w : World} {A : Option Addr} {c : Nat} {rs : List (List UInt8)} (h : PgR w A rs) (hm : rs.length ≤ 1048576) (hb : ∀ p ∈ rs, p.length ≤ 1048576) :
    Calls Try.prog 19 #[.slice A rs.length c] w fun e w' => ∃ (o : Sl) (ss : List Sl), e = .returned o.v ∧ PgG w w' o ss rs := by
  go_enter Try.func19, Try.ntmps19
  go_upto_region 3 with fail
  go_loopw [3, 4] (fun o i wr => ∃ (k : Nat) (oA : Option Addr) (oc : Nat) (ss : List Sl), k ≤ rs.length ∧ i = .int .i64 (k : Int) ∧ o = .slice oA ss.length oc ∧ PgG w wr ⟨oA, ss.length, oc⟩ ss (rs.take k)) (fun _ i _ => rs.length - (intOf i).toNat)
  case atStart => exact ⟨0, none, 0, [], Nat.zero_le _, rfl, rfl, PgG.nil w⟩
  case round =>
    obtain ⟨k, oA, oc, ss, hk, rfl, rfl, hP⟩ := hrel
    obtain ⟨wx, rfl⟩ : ∃ W : World, W = wr := ⟨_, rfl⟩
    by_cases hlt : k < rs.length
    · have HTK : Hid (rs.take (k + 1) = rs.take k ++ [rs[k]]) := Lib.hid (List.take_succ_eq_append_getElem hlt)
      obtain ⟨b, off, Ai, ci, rfl, x0w, hAiw⟩ := h k hlt
      have hpl := hb _ (List.getElem_mem hlt)
      have x0 := hP.k.cell x0w id
      have hAi := hAiw.non hP.k
      generalize rs[k] = p at x0 hAi HTK hpl x0w hAiw
      have hki : (k : Int) < (rs.length : Int) := by omega
      have hwn : IntKind.i64.wrap ((p.length : Int) + 1) = (p.length : Int) + 1 := by rw [IntKind.wrap_i64]; omega
      have hsl : ss.length ≤ 1048576 := by rw [hP.m.len]; simp; omega
      go_upto_region 6 with (at_make; go_must (refine wpList_make_bytes rfl _ _ 53 rfl 5 Try.underlying53 info5' .i64 .i64 _ _ (p.length + 1) rfl rfl (by omega) (by omega) (by omega) ?_); intro w2 hB2 hK2)
      obtain ⟨pb, hpb⟩ : ∃ b, b = wx.heap.size := ⟨_, rfl⟩
      rw [← hpb] at hB2
      have HPB := Lib.hid hpb
      clear hpb
      have HPB2 := HPB
      rw [← HPB.out]
      go_upto_region 7 with fail
      go_loopw [6] (fun i wr => ∃ m : Nat, m ≤ p.length ∧ i = .int .i64 (m : Int) ∧ Blk wr pb 5 (pc (p.take m ++ zeros (p.length + 1 - m))) ∧ Keeps Non wx wr) (fun i _ => p.length - (intOf i).toNat)
      case atStart => exact ⟨0, Nat.zero_le _, rfl, by simpa using hB2, hK2⟩
      case round =>
        obtain ⟨m, hm2, rfl, hB, hK⟩ := hrel
        obtain ⟨wy, rfl⟩ : ∃ W : World, W = wr := ⟨_, rfl⟩
        clear hB2 hK2
        have y0 := hK.cell x0 id
        by_cases hml : m < p.length
        · obtain ⟨b2, o2, rfl, hc0⟩ := hAi.at_ hml
          have hc : wy.cell? ⟨b2, o2 + m, none⟩ = some (.int .u8 p[m].toNat) := hK.cell hc0 id
          obtain ⟨v, hc2⟩ : ∃ v, wy.cell? ⟨pb, m, none⟩ = some v := ⟨_, hB.byte (by simp [zeros_length]; omega)⟩
          have hf := hB.frozen m
          have HBn : Hid (Blk (wy.setCell ⟨pb, m, none⟩ (.int .u8 p[m].toNat)) pb 5 (pc (p.take (m + 1) ++ zeros (p.length + 1 - (m + 1))))) := Lib.hid (by
            have hB' := hB.set m (bv p[m])
            rw [set_pc] at hB'
            have e := set_zeros (p.take m) m (p.length + 1) p[m] (by omega)
            rw [List.length_take, Nat.min_eq_left (by omega), take_snoc _ _ hml] at e
            rw [e] at hB'
            exact hB')
          have hKn : Keeps Non wx (wy.setCell ⟨pb, m, none⟩ (.int .u8 p[m].toNat)) := hK.setNew (p := ⟨pb, m, none⟩) (by rw [HPB.out]; exact Nat.le_refl _) _
          have hmi : (m : Int) < (p.length : Int) := by omega
          clear hc0 hB
          generalize p[m] = pm at hc HBn hKn
          go_wp2_with fail
          go_roundw
          case rel => exact ⟨m + 1, by omega, by go_num, HBn.out, hKn⟩
          case measure => simp [intOf]; omega
        · obtain rfl : m = p.length := by omega
          have hc2 : ∃ v, wy.cell? ⟨pb, p.length, none⟩ = some v := ⟨_, hB.byte (by simp [zeros_length])⟩
          obtain ⟨v, hc2⟩ := hc2
          have hf := hB.frozen p.length
          have hBn : Blk (wy.setCell ⟨pb, p.length, none⟩ (.int .u8 200)) pb 5 (pc (p ++ [200])) := by
            have hB' := hB.set p.length (bv 200)
            rw [set_pc, List.take_of_length_le (Nat.le_refl _)] at hB'
            have e := set_zeros p p.length (p.length + 1) 200 (by omega)
            rw [e] at hB'
            simpa [zeros, bv] using hB'
          have hKn : Keeps Non wx (wy.setCell ⟨pb, p.length, none⟩ (.int .u8 200)) := hK.setNew (p := ⟨pb, p.length, none⟩) (by rw [HPB.out]; exact Nat.le_refl _) _
          clear hB
          have hnl : ¬ p.length < p.length := by omega
          go_upto_region 11 with fail
          obtain ⟨wz, hwz⟩ : ∃ W : World, W = wy.setCell ⟨pb, p.length, none⟩ (.int .u8 200) := ⟨_, rfl⟩
          rw [← hwz] at hBn hKn ⊢
          clear hwz hc2 hf y0 hK
          have z0 := hKn.cell x0 id
          have hU : RowU wz (Sl.v ⟨some ⟨pb, 0, none⟩, p.length, p.length + 1⟩) p := RowU.front hBn rfl (by unfold maxLen; omega)
          have hPz := hP.non hKn
          have hPA := hPz.non ((Keeps.refl Non wz).alloc (.cells #[.slice (some ⟨pb, 0, none⟩) p.length (p.length + 1)] 53))
          have hlw := hP.m.low
          have hsz := hP.k.size
          have HB1 : Hid (ss.length + 1 ≤ maxLen ∧ (ss.length + 1) * 24 ≤ 140737488355328) := Lib.hid (by unfold maxLen; omega)
          go_wp2_with (at_builtin; go_must (refine wpList_append_row (o := ⟨some 55, _, _, _, _, _⟩) rfl (.tmp 46) (.tmp 54) 42 rfl 53 1 encS _ 24 Try.underlying42 info53 rfl (by decide) encS_len encS_one (.slice oA ss.length oc) ss rfl hPA.m.row (some ⟨wz.heap.size, 0, none⟩) 1 1 [(⟨some ⟨pb, 0, none⟩, p.length, p.length + 1⟩ : Sl)] rfl rfl (Ats.lit wz #[.slice (some ⟨pb, 0, none⟩) p.length (p.length + 1)] 53 _ rfl) HB1.out.1 HB1.out.2 ?_); intro u8 w8 hO8 hK8 hat; obtain ⟨⟨A8, n8, c8⟩, rfl, h8⟩ := RowP.sl hO8; have hn8 : n8 = (ss ++ [(⟨some ⟨pb, 0, none⟩, p.length, p.length + 1⟩ : Sl)]).length := h8; clear h8; subst hn8)
          have hown : ∀ q ∈ own (Sl.v ⟨some ⟨pb, 0, none⟩, p.length, p.length + 1⟩), q = wx.heap.size := fun q hq => by
            have : q ∈ [pb] := hq
            rw [List.mem_singleton] at this
            rw [this, HPB2.out]
          have hPS := hPz.snoc (o8 := ⟨A8, (ss ++ [(⟨some ⟨pb, 0, none⟩, p.length, p.length + 1⟩ : Sl)]).length, c8⟩) hU (fun q hq hq' => by have h1 := hown q hq; have := hlw q hq'; omega) (fun q hq => by rw [hown q hq]; exact hsz) ((Keeps.refl Non wz).alloc (.cells #[.slice (some ⟨pb, 0, none⟩) p.length (p.length + 1)] 53)) hO8 hK8 hat
          go_roundw
          case rel => exact ⟨k + 1, A8, c8, ss ++ [(⟨some ⟨pb, 0, none⟩, p.length, p.length + 1⟩ : Sl)], by omega, by go_num, by show Value.slice A8 _ c8 = Value.slice A8 _ c8; simp, by rw [HTK.out]; exact hPS⟩
          case measure => simp [intOf]; omega
    · obtain rfl : k = rs.length := by omega
      rw [List.take_of_length_le (Nat.le_refl _)] at hP
      have hnl : ¬ rs.length < rs.length := by omega
      go_wp2_with fail
      go_ret
      exact ⟨⟨oA, ss.length, oc⟩, ss, rfl, hP⟩
end Go.Proofs.Ytiieglfpmmhfiaa
namespace Go.Proofs.Ytiieglfpmmhfiaa
set_option maxRecDepth 100000
open Go.RowKit Go.Uc

theorem rowS_at {w : World} {A : Option Addr} {n c : Nat} {ss : List Sl} (h : RowP w 53 1 encS (.slice A n c) ss) {i : Nat} (hi : i < ss.length) : ∃ g, A = some ⟨g, 0, none⟩ ∧ n = ss.length ∧ g ∈ own (.slice A n c) ∧ w.cell? ⟨g, i, none⟩ = some ss[i].v ∧ w.frozen? ⟨g, i, none⟩ = false := by
  obtain ⟨g, cap, e, -, -, h2, h3, -⟩ := h.at_ encS_len hi
  injection e with e1 e2 e3
  refine ⟨g, e1, e2, by rw [e1]; show g ∈ [g]; simp, ?_, h3 _⟩
  have := h2 0 (by decide)
  rw [Nat.add_zero, Nat.mul_one] at this
  rw [this]
  rfl
theorem rowU_at {w : World} {A : Option Addr} {n c : Nat} {ys : List UInt8} (h : RowU w (.slice A n c) ys) {i : Nat} (hi : i < ys.length) : ∃ g, A = some ⟨g, 0, none⟩ ∧ n = ys.length ∧ g ∈ own (.slice A n c) ∧ (∃ v, w.cell? ⟨g, i, none⟩ = some v) ∧ w.frozen? ⟨g, i, none⟩ = false := by
  obtain ⟨g, cap, e, -, -, h2, h3, -⟩ := RowP.at_ encU_len h hi
  injection e with e1 e2 e3
  refine ⟨g, e1, e2, by rw [e1]; show g ∈ [g]; simp, ?_, h3 _⟩
  have := h2 0 (by decide)
  rw [Nat.add_zero, Nat.mul_one] at this
  exact ⟨_, by rw [this]; rfl⟩
theorem rowU_set {w : World} {g c n : Nat} {ys : List UInt8} (h : RowU w (.slice (some ⟨g, 0, none⟩) n c) ys) {i : Nat} (hi : i < ys.length) (y : UInt8) : RowU (w.setCell ⟨g, i, none⟩ (bv y)) (.slice (some ⟨g, 0, none⟩) n c) (ys.set i y) := by
  obtain ⟨_, _, e, -, -⟩ := h.val
  injection e with e1 e2 e3
  subst e2
  have := h.cell_set encU_len (i := i) hi (j := 0) (by decide) y (bv y) rfl
  rw [Nat.mul_one, Nat.add_zero] at this
  exact this
theorem rowS_set {w : World} {g c n : Nat} {ss : List Sl} (h : RowP w 53 1 encS (.slice (some ⟨g, 0, none⟩) n c) ss) {i : Nat} (hi : i < ss.length) (s : Sl) : RowP (w.setCell ⟨g, i, none⟩ s.v) 53 1 encS (.slice (some ⟨g, 0, none⟩) n c) (ss.set i s) := by
  obtain ⟨_, _, e, -, -⟩ := h.val
  injection e with e1 e2 e3
  subst e2
  have := h.cell_set encS_len (i := i) hi (j := 0) (by decide) s s.v rfl
  rw [Nat.mul_one, Nat.add_zero] at this
  exact this
/-- The blocks of the first pages. -/
def Fore (ss : List Sl) (k q : Nat) : Prop := ∃ j, ∃ h : j < ss.length, j < k ∧ q ∈ own ss[j].v
theorem fore_apart : ∀ {ss : List Sl}, (ss.flatMap fun s => own s.v).Nodup → ∀ {i : Nat} (hi : i < ss.length), ∀ q ∈ own ss[i].v, ¬ Fore ss i q := by
  intro ss hn i hi q hq ⟨j, hj, hji, hq'⟩
  have e : ss = ss.take i ++ ss.drop i := (List.take_append_drop i ss).symm
  rw [e, List.flatMap_append, List.nodup_append] at hn
  refine hn.2.2 q (List.mem_flatMap.2 ⟨ss[j], ?_, hq'⟩) q (List.mem_flatMap.2 ⟨ss[i], ?_, hq⟩) rfl
  · rw [List.mem_iff_getElem]
    exact ⟨j, by rw [List.length_take]; omega, List.getElem_take⟩
  · rw [List.drop_eq_getElem_cons hi]
    exact List.mem_cons_self
theorem PgM.fore {w : World} {o : Sl} {ss : List Sl} {bs : List (List UInt8)} (h : PgM w o ss bs) {i : Nat} (hi : i < ss.length) : ∀ q ∈ own ss[i].v, ¬ Fore ss i q := by
  have hn := h.nod
  unfold footS at hn
  rw [List.nodup_append] at hn
  exact fore_apart hn.2.1 hi
theorem PgM.rowx {w : World} {o : Sl} {ss : List Sl} {bs : List (List UInt8)} (h : PgM w o ss bs) : ∀ q ∈ own o.v, ∀ i (hi : i < ss.length), q ∉ own ss[i].v := by
  intro q hq i hi hq'
  have hn := h.nod
  unfold footS at hn
  rw [List.nodup_append] at hn
  exact hn.2.2 q hq q (List.mem_flatMap.2 ⟨ss[i], List.getElem_mem hi, hq'⟩) rfl
theorem spoil_last {pA : Option Addr} {n cap k : Nat} {w wx wr w2 : World} {ss : List Sl} (hk : k < ss.length) (hs : ss[k] = ⟨pA, n, cap⟩) (hX : Keeps (Fore ss k) w wx) {u8 : Value} {ys : List UInt8} (hK : Keeps (· ∈ own (.slice pA n cap)) wx wr) (hO2 : RowU w2 u8 ys) (hy : ys.length = n + 1)
    (hK2 : Keeps (· ∈ own (.slice pA n cap)) wr w2) (hat : u8.ownBlock = (Value.slice pA n cap).ownBlock ∨ u8.ownBlock = some wr.heap.size) :
    ∃ g c' v, u8 = .slice (some ⟨g, 0, none⟩) (n + 1) c' ∧ w2.cell? ⟨g, n, none⟩ = some v ∧ w2.frozen? ⟨g, n, none⟩ = false ∧ Keeps (Fore ss (k + 1)) w (w2.setCell ⟨g, n, none⟩ (.int .u8 92)) := by
  obtain ⟨A, c', rfl, -, -⟩ := hO2.val
  obtain ⟨g, rfl, -, -, ⟨v, hc⟩, hf⟩ := rowU_at hO2 (i := n) (by omega)
  rw [hy]
  refine ⟨g, c', v, rfl, hc, hf, ?_⟩
  have hin : ∀ q, q ∈ own (.slice pA n cap) → Fore ss (k + 1) q := fun q hq => ⟨k, hk, by omega, by rw [hs]; exact hq⟩
  have h1 : Keeps (Fore ss (k + 1)) w wx := hX.mono fun q ⟨j, hj, h, h'⟩ => ⟨j, hj, by omega, h'⟩
  have h2 : Keeps (Fore ss (k + 1)) w wr := h1.then hK fun q _ e => hin q e
  have h3 : Keeps (Fore ss (k + 1)) w w2 := h2.then hK2 fun q _ e => hin q e
  rcases hat with e | e
  · exact h3.set (p := ⟨g, n, none⟩) (hin g (mem_own.2 (by rw [← e]; rfl))) _
  · refine h3.setNew (p := ⟨g, n, none⟩) ?_ _
    have : some g = some wr.heap.size := e
    injection this with this
    have := h2.size
    show w.heap.size ≤ g
    omega
set_option maxHeartbeats 8000000 in
theorem spoil43_any {w : World} {o : Sl} {ss : List Sl} {bs : List (List UInt8)} (h : PgM w o ss bs) (hm : ss.length ≤ 1048576) (hb : ∀ b ∈ bs, b.length ≤ 1048576) :
    Calls Try.prog 43 #[o.v] w fun e w' => e = .returned (.tuple #[]) ∧ Keeps (· ∈ footS o ss) w w' := by
  obtain ⟨oA, oc, hoe, -, -⟩ := h.row.val
  have hO : RowP w 53 1 encS (.slice oA ss.length oc) ss := by rw [← hoe]; exact h.row
  have HX : Hid (∀ q ∈ own (.slice oA ss.length oc), ∀ k, ¬ Fore ss k q) := Lib.hid (fun q hq k ⟨j, hj, h1, h2⟩ => h.rowx q (by rw [hoe]; exact hq) j hj h2)
  have HXi : Hid (∀ q ∈ own (.slice oA ss.length oc), ∀ i (hi : i < ss.length), q ∉ own ss[i].v) := Lib.hid (fun q hq => h.rowx q (by rw [hoe]; exact hq))
  have HF : Hid (∀ k q, Fore ss k q → q ∈ footS o ss) := Lib.hid (fun k q ⟨j, hj, h1, h2⟩ => mem_footS.2 (.inr ⟨j, hj, h2⟩))
  have HFo : Hid (∀ q, q ∈ own (.slice oA ss.length oc) → q ∈ footS o ss) := Lib.hid (fun q hq => mem_footS.2 (.inl (by rw [hoe]; exact hq)))
  rw [hoe]
  clear hoe
  go_enter Try.func43, Try.ntmps43
  go_upto_region 1 with fail
  go_loopw [2] (fun i wr => ∃ k : Nat, k ≤ ss.length ∧ i = .int .i64 (k : Int) ∧ Keeps (Fore ss k) w wr) (fun i _ => ss.length - (intOf i).toNat)
  case atStart => exact ⟨0, Nat.zero_le _, rfl, Keeps.refl _ _⟩
  case round =>
    obtain ⟨k, hk, rfl, hK⟩ := hrel
    obtain ⟨wx, rfl⟩ : ∃ W : World, W = wr := ⟨_, rfl⟩
    by_cases hlt : k < ss.length
    · have hkb : k < bs.length := by have := h.len; omega
      obtain ⟨g, hog, -, hgo, c0w, -⟩ := rowS_at hO hlt
      have hgk := HXi.out g hgo k hlt
      have c0 : wx.cell? ⟨g, k, none⟩ = some ss[k].v := hK.cell c0w (HX.out g hgo k)
      have hU : RowU wx ss[k].v bs[k] := (h.pg k hlt hkb).keep hK (h.fore hlt)
      have hpl := hb _ (List.getElem_mem hkb)
      obtain ⟨s, hs⟩ : ∃ s, s = ss[k] := ⟨_, rfl⟩
      rw [← hs] at c0 hU hgk
      obtain ⟨pA, pn, pc⟩ := s
      have HS := Lib.hid hs.symm
      clear hs c0w
      generalize bs[k] = p at hU hpl
      obtain ⟨hpn, -⟩ := RowU.at_ (A := pA) (n := pn) (c := pc) hU
      subst hpn
      have c0 : wx.cell? ⟨g, k, none⟩ = some (.slice pA p.length pc) := c0
      have hgk : g ∉ own (.slice pA p.length pc) := hgk
      have hU : RowU wx (.slice pA p.length pc) p := hU
      have HOG := Lib.hid hog
      have hki : (k : Int) < (ss.length : Int) := by omega
      have hwk : IntKind.i64.wrap (90 + (k : Int)) = 90 + (k : Int) := by rw [IntKind.wrap_i64]; omega
      subst hog
      go_upto_region 4 with fail
      go_loopw [3] (fun i wr => ∃ (m : Nat) (ys : List UInt8), m ≤ p.length ∧ i = .int .i64 (m : Int) ∧ ys.length = p.length ∧ RowU wr (.slice pA p.length pc) ys ∧ Keeps (· ∈ own (.slice pA p.length pc)) wx wr) (fun i _ => p.length - (intOf i).toNat)
      case atStart => exact ⟨0, p, Nat.zero_le _, rfl, rfl, hU, Keeps.refl _ _⟩
      case round =>
        obtain ⟨m, ys, hm2, rfl, hyl, hY, hKy⟩ := hrel
        obtain ⟨wy, rfl⟩ : ∃ W : World, W = wr := ⟨_, rfl⟩
        have d0 := hKy.cell c0 hgk
        by_cases hml : m < p.length
        · obtain ⟨pg, rfl, -, hpgo, ⟨v, hc2⟩, hf⟩ := rowU_at hY (i := m) (by omega)
          have hmi : (m : Int) < (p.length : Int) := by omega
          have hby : Value.int .u8 ((90 + (k : Int)) % 256) = bv (UInt8.ofNat ((90 + k) % 256)) := by
            rw [bv_ofNat _ (Nat.mod_lt _ (by decide))]; simp
          have hYs := rowU_set hY (i := m) (by omega) (UInt8.ofNat ((90 + k) % 256))
          rw [← hby] at hYs
          have hKs := hKy.set (p := ⟨pg, m, none⟩) hpgo (.int .u8 ((90 + (k : Int)) % 256))
          have HYL : Hid ((ys.set m (UInt8.ofNat ((90 + k) % 256))).length = p.length) := Lib.hid (by rw [List.length_set]; exact hyl)
          have HYR := Lib.hid hYs
          clear hby hYs hU hY
          go_wp2_with fail
          go_roundw
          case rel => exact ⟨m + 1, _, by omega, by go_num, HYL.out, HYR.out, hKs⟩
          case measure => simp [intOf]; omega
        · obtain rfl : m = p.length := by omega
          have hnl : ¬ p.length < p.length := by omega
          have hYA := hY.non ((Keeps.refl Non wy).alloc (.cells #[.int .u8 91] 5))
          have HYL : Hid (ys.length + 1 ≤ maxLen ∧ (ys.length + 1) * 1 ≤ 140737488355328 ∧ ys.length = p.length) := Lib.hid (by unfold maxLen; omega)
          clear hU hyl
          go_wp2_with (at_builtin; go_must (refine wpList_append_row (o := ⟨some 35, _, _, _, _, _⟩) rfl (.tmp 33) (.tmp 34) 53 rfl 5 1 encU _ 1 Try.underlying53 info5' rfl (by decide) encU_len encU_one (.slice pA p.length pc) ys rfl hYA (some ⟨wy.heap.size, 0, none⟩) 1 1 [(91 : UInt8)] rfl rfl (Ats.lit wy #[.int .u8 91] 5 _ rfl) HYL.out.1 HYL.out.2.1 ?_); intro u8 w8 hO8 hK8 hat; obtain ⟨g8, c8, v8, rfl, hc8, hf8, hK9⟩ := spoil_last hlt HS.out hK (hKy.alloc _) hO8 (by simp [HYL.out.2.2]) hK8 hat; clear hO8 hK8 hat)
          have hwp : IntKind.i64.wrap ((p.length : Int) + 1) = (p.length : Int) + 1 := by rw [IntKind.wrap_i64]; omega
          go_wp2_with fail
          go_roundw
          case rel => exact ⟨k + 1, by omega, by go_num, hK9⟩
          case measure => simp [intOf]; omega
    · obtain rfl : k = ss.length := by omega
      have hnl : ¬ ss.length < ss.length := by omega
      have hO2 := hO.keep hK fun q hq => HX.out q hq _
      have hKF : Keeps (· ∈ footS o ss) w wx := hK.mono fun q e => HF.out _ q e
      clear hO hK
      go_upto_region 10 with fail
      go_loopw [5] (fun i wr => ∃ (k : Nat) (zs : List Sl), k ≤ ss.length ∧ i = .int .i64 (k : Int) ∧ zs.length = ss.length ∧ RowP wr 53 1 encS (.slice oA ss.length oc) zs ∧ Keeps (· ∈ footS o ss) w wr) (fun i _ => ss.length - (intOf i).toNat)
      case atStart => exact ⟨0, ss, Nat.zero_le _, rfl, rfl, hO2, hKF⟩
      case round =>
        obtain ⟨k, zs, hk2, rfl, hzl, hZ, hKz⟩ := hrel
        obtain ⟨wy, rfl⟩ : ∃ W : World, W = wr := ⟨_, rfl⟩
        by_cases hkl : k < ss.length
        · obtain ⟨zg, rfl, -, hzgo, hc2, hf⟩ := rowS_at hZ (i := k) (by omega)
          have hki : (k : Int) < (ss.length : Int) := by omega
          have hZs : RowP (wy.setCell ⟨zg, k, none⟩ (.slice none 0 0)) 53 1 encS (.slice (some ⟨zg, 0, none⟩) ss.length oc) (zs.set k ⟨none, 0, 0⟩) := rowS_set hZ (i := k) (by omega) ⟨none, 0, 0⟩
          have hKs := hKz.set (p := ⟨zg, k, none⟩) (HFo.out zg hzgo) (.slice none 0 0)
          have HZL : Hid ((zs.set k ⟨none, 0, 0⟩).length = ss.length) := Lib.hid (by rw [List.length_set]; exact hzl)
          have HZR := Lib.hid hZs
          clear hZs hZ hO2
          go_wp2_with fail
          go_roundw
          case rel => exact ⟨k + 1, _, by omega, by go_num, HZL.out, HZR.out, hKs⟩
          case measure => simp [intOf]; omega
        · obtain rfl : k = ss.length := by omega
          go_wp2_with fail
          go_end0
          exact ⟨rfl, hKz⟩
end Go.Proofs.Ytiieglfpmmhfiaa
namespace Go.Proofs.Ytiieglfpmmhfiaa
set_option maxRecDepth 100000
open Go.RowKit Go.Uc
theorem len_any {w : World} {g : Nat} {d : Dic} {t l : Sl} {ps : List (Nat × Sl)} (h : DictM 69 66 w g d t l ps) (hi : Inv0 d) :
    Calls Try.prog 42 #[.pointer (some ⟨g, 0, none⟩)] w fun e w' => e = .returned (.int .i64 ((allE d.leaves).length : Int)) ∧ Keeps Non w w' := by
  have HL := Lib.hid (list_any h hi)
  have hlen : (allE d.leaves).length ≤ 1600 := by
    have h1 := allE_len d.leaves fun x hx => (fitE_len (hi.ok.fit x hx)).1
    have h2 := hi.ok.many
    omega
  clear h hi
  go_enter Try.func42, Try.ntmps42
  go_wp2_with ((go_at_call 12; refine HL.out.mono ?_; rintro e w2 ⟨⟨A, n, c⟩, R, rfl, hR, hLs, -, hK⟩; go_must (have hn : n = (allE d.leaves).length := by obtain ⟨_, _, e, -⟩ := hR.val; injection e with e1 e2 e3; exact (show n = R.length from e2).trans hLs.perm.length_eq)))
  go_ret
  exact ⟨by rw [← hn]; rfl, hK⟩
end Go.Proofs.Ytiieglfpmmhfiaa
namespace Go.Proofs.Ytiieglfpmmhfiaa
set_option maxRecDepth 100000
open Go.RowKit Go.Uc

theorem but_succ {l : List Ent} {k : Nat} (hk : k < l.length) (n : List UInt8) : (but (l.take (k + 1)) n).length = (but (l.take k) n).length + if l[k].name = n then 0 else 1 := by
  rw [List.take_succ_eq_append_getElem hk]
  unfold but
  rw [List.filter_append, List.length_append]
  congr 1
  by_cases h : l[k].name = n
  · rw [if_pos h]; simp [h]
  · rw [if_neg h]; simp [h]
theorem but_le (l : List Ent) (n : List UInt8) : (but l n).length ≤ l.length := List.length_filter_le _ _
set_option maxHeartbeats 8000000 in
theorem holds_any {w : World} {g : Nat} {d : Dic} {t l : Sl} {ps : List (Nat × Sl)} (h : DictM 69 66 w g d t l ps) (hi : Inv d) {vA : Option Addr} {vc : Nat} {L : List Ent} (hL : RowE w (.slice vA L.length vc) L) (hLn : L.length ≤ 1600) (hLm : ∀ e ∈ L, e.name.length ≤ 24) (n : List UInt8) (_hn : n.length ≤ 9223372036854775807) (hH : Held d L n) :
    Calls Try.prog 24 #[.pointer (some ⟨g, 0, none⟩), .slice vA L.length vc, .string (str n)] w fun e w' => e = .returned (.bool true) ∧ Keeps Non w w' := by
  have HLs := Lib.hid (list_any h hi.toInv0)
  have HAl : Hid ((allE d.leaves).length = (but L n).length + (if n = [] then 0 else 1)) := Lib.hid hH.many
  have HVs := Lib.hid hH.vals
  have hal := all_le hi.toInv0
  go_enter Try.func24, Try.ntmps24
  go_upto_region 2 with ((go_at_call 12; go_must (refine HLs.out.mono ?_); rintro e w2 ⟨⟨rA, rn, rc⟩, R, he, hR, hIL, -, hK2⟩; change e = .returned (.slice rA rn rc) at he; subst he))
  have hrn : rn = R.length := by
    obtain ⟨_, _, e, -⟩ := hR.val
    injection e
  subst hrn
  have HRA : Hid (R.length = (allE d.leaves).length) := Lib.hid hIL.perm.length_eq
  have HRS := Lib.hid hIL.srt
  have hR16 : R.length ≤ 1600 := by rw [HRA.out]; exact hal
  have hD2 := h.non hK2
  have hL2 := hL.non hK2
  clear hIL hal
  go_upto_region 4 with fail
  go_loopw [8, 9] (fun m i wr => ∃ k : Nat, k ≤ L.length ∧ i = .int .i64 (k : Int) ∧ m = .int .i64 ((but (L.take k) n).length : Int) ∧ Keeps Non w2 wr) (fun _ i _ => L.length - (intOf i).toNat)
  case atStart => exact ⟨0, Nat.zero_le _, rfl, rfl, Keeps.refl _ _⟩
  case round =>
    obtain ⟨k, hk, rfl, rfl, hK⟩ := hrel
    obtain ⟨wx, rfl⟩ : ∃ W : World, W = wr := ⟨_, rfl⟩
    by_cases hlt : k < L.length
    · obtain ⟨eb, cap, e1, -, x0, x1, -, -⟩ := rowE_at (hL2.non hK) hlt
      injection e1 with e1 e2 e3
      clear e2
      subst e1 e3
      have hbs := but_succ hlt n
      have hbl := but_le (L.take k) n
      have htl : (L.take k).length ≤ 1600 := by rw [List.length_take]; omega
      have hmem : L[k] ∈ L := List.getElem_mem hlt
      have hvs := HVs.out L[k] hmem
      have hnl := hLm L[k] hmem
      generalize L[k] = x at x0 x1 hbs hvs hnl
      have HGt := Lib.hid (get_any (hD2.non hK) hi.ok x.name (by omega))
      by_cases hxn : x.name = n
      · rw [if_pos hxn, Nat.add_zero] at hbs
        have heq : ((str x.name).toList == (str n).toList) = true := by rw [hxn]; simp
        have HBS := Lib.hid hbs
        clear hbs hvs hxn hmem
        obtain ⟨r, hr⟩ : ∃ r, r = getR (val d x.name) := ⟨_, rfl⟩
        rw [← hr] at HGt
        clear hr
        obtain ⟨r1, r2⟩ := r
        go_upto_region 7 with ((go_at_call 25; go_must (refine HGt.out.mono ?_); rintro e w3 ⟨rfl, hK3⟩))
        have y0 : w3.cell? ⟨eb, k * 2, none⟩ = some (.string (str x.name)) := hK3.cell x0 id
        clear x0 x1
        go_wp2_with fail
        go_roundw
        case rel => exact ⟨k + 1, by omega, by go_num, by rw [HBS.out]; rfl, hK.non hK3⟩
        case measure => simp [intOf]; omega
      · rw [if_neg hxn] at hbs
        have hne : ¬ (str x.name).toList = (str n).toList := by rw [str_toList, str_toList]; exact hxn
        have heq : ((str x.name).toList == (str n).toList) = false := by simp [hne]
        have hv := hvs hxn
        have HBS := Lib.hid hbs
        rw [hv] at HGt
        have hvv : (x.val != x.val) = false := by simp
        clear hbs hvs hxn hne hv hmem
        go_upto_region 7 with ((go_at_call 25; go_must (refine HGt.out.mono ?_); rintro e w3 ⟨he, hK3⟩; change e = .returned (.tuple #[.int .i64 x.val, .bool true]) at he; subst he))
        have y0 : w3.cell? ⟨eb, k * 2, none⟩ = some (.string (str x.name)) := hK3.cell x0 id
        have y1 : w3.cell? ⟨eb, k * 2 + 1, none⟩ = some (.int .i64 x.val) := hK3.cell x1 id
        clear x0 x1
        go_wp2_with fail
        go_roundw
        case rel => exact ⟨k + 1, by omega, by go_num, by rw [HBS.out]; exact congrArg (Value.int IntKind.i64) (by omega), hK.non hK3⟩
        case measure => simp [intOf]; omega
    · obtain rfl : k = L.length := by omega
      have hcl : (but L n).length ≤ 1600 := by have := but_le L n; omega
      rw [List.take_of_length_le (Nat.le_refl _)]
      go_upto_region 11 with fail
      have HLe : Hid (Calls Try.prog 42 #[.pointer (some ⟨g, 0, none⟩)] wx fun e w' => e = .returned (.int .i64 ((allE d.leaves).length : Int)) ∧ Keeps Non wx w') := Lib.hid (len_any (hD2.non hK) hi.toInv0)
      have hRx := hR.non hK
      have hK0 := hK2.non hK
      rw [← HRA.out] at HLe HAl
      have key : (∃ s0 : n = [], True) ∨ n ≠ [] := by
        by_cases h : n = []
        · exact .inl ⟨h, trivial⟩
        · exact .inr h
      rcases key with ⟨hn0, -⟩ | hn0
      case' inl =>
        have HM : Hid (R.length = (but L n).length) := Lib.hid (by have := HAl.out; rw [if_pos hn0] at this; omega)
        have s1 : (str n).toList = [] := by rw [str_toList, hn0]
      case' inr =>
        have HM : Hid (R.length = (but L n).length + 1) := Lib.hid (by have := HAl.out; rw [if_neg hn0] at this; omega)
        have s1 : ¬ (str n).toList = [] := by rw [str_toList]; exact hn0
        have s2 : (str n).toList.isEmpty = false := by simpa using s1
      all_goals
        clear hn0 HAl
        go_upto_region 14 with fail
        go_loopw [12] (fun i wr => ∃ j : Nat, 1 ≤ j ∧ j ≤ R.length + 1 ∧ i = .int .i64 (j : Int) ∧ ∃ q, wr = wx.drewN q) (fun i _ => R.length + 1 - (intOf i).toNat)
        case atStart => exact ⟨1, by omega, by omega, rfl, 0, rfl⟩
        case round =>
          obtain ⟨j, hj1, hj2, rfl, q, hq⟩ := hrel
          obtain ⟨wy, rfl⟩ : ∃ W : World, W = wr := ⟨_, rfl⟩
          have hky : Keeps Non wx wy := by rw [hq]; exact (Keeps.refl _ _).drewN q
          have HQ := Lib.hid hq
          clear hq
          by_cases hjl : j < R.length
          · obtain ⟨jm, hjm⟩ : ∃ jm, jm = j - 1 := ⟨_, rfl⟩
            have hjml : jm < R.length := by omega
            have hRy : RowE wy (.slice rA R.length rc) R := hRx.non hky
            obtain ⟨b1, c1, e1, -, x0, -⟩ := rowE_at hRy hjl
            obtain ⟨b2, c2, e2, -, y0, -⟩ := rowE_at hRy hjml
            injection e1 with e1 e1b e1c
            injection e2 with e2 e2b e2c
            clear e1b e2b
            subst e1 e1c
            injection e2 with e2
            injection e2 with e2
            subst e2 e2c
            have hlts : lt R[jm].name R[j].name = true := List.pairwise_iff_getElem.1 HRS.out jm j hjml hjl (by omega)
            generalize R[j] = x at x0 hlts
            generalize R[jm] = y at y0 hlts
            have hcb : Op.bytesLess (str y.name).toList (str x.name).toList = true := by rw [str_toList, str_toList]; exact hlts
            have hsub : (j : Int) - 1 = (jm : Int) := by omega
            have hw3 : IntKind.i64.wrap ((j : Int) - 1) = (jm : Int) := by rw [IntKind.wrap_i64]; omega
            have hw4 : IntKind.i64.wrap (jm : Int) = (jm : Int) := by rw [IntKind.wrap_i64]; omega
            have hi1 : (jm : Int) < (R.length : Int) := by omega
            have hi2 : (j : Int) < (R.length : Int) := by omega
            clear hlts hjm
            go_upto_region 16 with fail
            go_quiet (fail)
            go_wp2_with fail
            go_roundw
            case rel => exact ⟨j + 1, by omega, by omega, by go_num, _, by rw [HQ.out]; exact World.drewN_drewN _ _ _⟩
            case measure => simp [intOf]; omega
          · have hK9 : Keeps Non w wy := hK0.non hky
            have HLe2 : Hid (Calls Try.prog 42 #[.pointer (some ⟨g, 0, none⟩)] wy fun e w' => e = .returned (.int .i64 (R.length : Int)) ∧ Keeps Non wy w') := Lib.hid (by have := len_any ((hD2.non hK).non hky) hi.toInv0; rw [← HRA.out] at this; exact this)
            go_upto_region 19 with ((go_at_call 42; go_must (refine HLe2.out.mono ?_); rintro e w9 ⟨rfl, hK10⟩))
            first
              | (have hEQ : ((R.length : Int) == ((but L n).length : Int)) = true := (by have := HM.out; simp; omega); go_wp2_with fail; go_ret; exact ⟨rfl, hK9.non hK10⟩)
              | (have hEQ : ((R.length : Int) == ((but L n).length : Int) + 1) = true := (by have := HM.out; simp; omega); go_wp2_with fail; go_ret; exact ⟨rfl, hK9.non hK10⟩)
end Go.Proofs.Ytiieglfpmmhfiaa
namespace Go.Proofs.Ytiieglfpmmhfiaa
set_option maxRecDepth 100000
open Go.RowKit Go.Uc

/-- Where a pair lies: its box, the program's dictionary, the document's. -/
structure Pr where
  b : Nat
  gx : Nat
  tx : Sl
  lx : Sl
  px : List (Nat × Sl)
  gy : Nat
  ty : Sl
  ly : Sl
  py : List (Nat × Sl)
def Pr.fx (p : Pr) : List Nat := foot p.gx p.tx p.lx p.px
def Pr.fy (p : Pr) : List Nat := foot p.gy p.ty p.ly p.py
def Pr.foot (p : Pr) : List Nat := p.b :: (p.fx ++ p.fy)
/-- A pair in memory: both say d. -/
structure PairM (w : World) (p : Pr) (d : Dic) : Prop where
  blk : Blk w p.b 40 #[.pointer (some ⟨p.gx, 0, none⟩), .pointer (some ⟨p.gy, 0, none⟩)]
  x : DictM 69 66 w p.gx d p.tx p.lx p.px
  y : DictM 84 86 w p.gy d p.ty p.ly p.py
  inv : Inv d
  nx : p.b ∉ p.fx
  ny : p.b ∉ p.fy
  xy : ∀ q ∈ p.fx, q ∉ p.fy
theorem PairM.keep {S : Nat → Prop} {w w' : World} {p : Pr} {d : Dic} (h : PairM w p d) (hk : Keeps S w w') (hS : ∀ q ∈ p.foot, ¬ S q) : PairM w' p d :=
  ⟨h.blk.keep hk (hS _ (by unfold Pr.foot; simp)), h.x.keep hk fun q hq => hS q (by unfold Pr.foot; exact List.mem_cons_of_mem _ (List.mem_append_left _ hq)), h.y.keep hk fun q hq => hS q (by unfold Pr.foot; exact List.mem_cons_of_mem _ (List.mem_append_right _ hq)), h.inv, h.nx, h.ny, h.xy⟩
theorem PairM.non {w w' : World} {p : Pr} {d : Dic} (h : PairM w p d) (hk : Keeps Non w w') : PairM w' p d := h.keep hk fun _ _ e => e
theorem PairM.low {w : World} {p : Pr} {d : Dic} (h : PairM w p d) : ∀ q ∈ p.foot, q < w.heap.size := by
  intro q hq
  unfold Pr.foot at hq
  rcases List.mem_cons.1 hq with rfl | hq
  · exact h.blk.lt
  · rcases List.mem_append.1 hq with hq | hq
    · exact h.x.low q hq
    · exact h.y.low q hq
/-- What opened answers. -/
def OpenedR (w : World) (rs : List (List UInt8)) (e : Ending) (w' : World) : Prop :=
  ((∃ (p : Pr) (d : Dic), Opens rs d ∧ e = .returned (.tuple #[.pointer (some ⟨p.b, 0, none⟩), .bool true]) ∧ PairM w' p d ∧ ∀ q ∈ p.foot, w.heap.size ≤ q) ∨ ((¬ ∃ d, Opens rs d) ∧ e = .returned (.tuple #[.pointer none, .bool true]))) ∧ Keeps Non w w'
theorem OpenR.val {T L : TypeId} {w w' : World} {rs : List (List UInt8)} {e : Ending} (h : OpenR T L w rs e w') : ∃ (p : Option Addr) (n : Int), e = .returned (.tuple #[.pointer p, .int .i64 n]) ∧ Keeps Non w w' ∧
    ((∃ d g t l qs, Opens rs d ∧ p = some ⟨g, 0, none⟩ ∧ n = 0 ∧ Grown T L w w' g d t l qs) ∨ ((¬ ∃ d, Opens rs d) ∧ p = none ∧ n = 151)) := by
  rcases h with ⟨d, g, t, l, qs, h1, h2, h3⟩ | ⟨h1, h2, h3⟩
  · exact ⟨_, _, h2, h3.k, .inl ⟨d, g, t, l, qs, h1, rfl, rfl, h3⟩⟩
  · exact ⟨_, _, h2, h3, .inr ⟨h1, rfl, rfl⟩⟩
theorem PgM.readQ {w : World} {A : Option Addr} {n c : Nat} {ss : List Sl} {bs : List (List UInt8)} (h : PgM w ⟨A, n, c⟩ ss bs) : PgQ w A bs := by
  intro i hi
  obtain ⟨hn, hr⟩ := h.read
  obtain ⟨b, off, Ai, ci, e, hc, ha⟩ := hr i hi
  have his : i < ss.length := by have := h.len; omega
  obtain ⟨g, e', -, -, hc', -⟩ := rowS_at (A := A) (n := n) (c := c) h.row his
  rw [e] at e'
  injection e' with e'
  injection e' with e1 e2
  subst e1 e2
  rw [Nat.zero_add] at hc
  rw [hc] at hc'
  injection hc' with hc'
  have hu := h.pg i his hi
  obtain ⟨A2, c2, e3, hle, -⟩ := hu.val
  rw [← hc'] at e3
  injection e3 with e3 e4 e5
  exact ⟨b, 0, Ai, ci, e, by rw [Nat.zero_add]; exact hc, ha, by omega⟩
theorem pair_new {w2 w3 w4 w5 w6 : World} {ss : List Sl} {o : Sl} {rs : List (List UInt8)} {d : Dic} {gx : Nat} {tx lx : Sl} {px : List (Nat × Sl)} {gy : Nat} {ty ly : Sl} {py : List (Nat × Sl)}
    (hi : Inv d) (hP : PgM w2 o ss rs) (hX : Grown 69 66 w2 w3 gx d tx lx px) (h4 : Keeps Non w3 w4) (h5 : Keeps (· ∈ footS o ss) w4 w5) (hY : Grown 84 86 w5 w6 gy d ty ly py) :
    PairM (w6.alloc (.cells #[.pointer (some ⟨gx, 0, none⟩), .pointer (some ⟨gy, 0, none⟩)] 40)) ⟨w6.heap.size, gx, tx, lx, px, gy, ty, ly, py⟩ d ∧ ∀ q ∈ (⟨w6.heap.size, gx, tx, lx, px, gy, ty, ly, py⟩ : Pr).foot, w2.heap.size ≤ q := by
  have hka := (Keeps.refl Non w6).alloc (.cells #[.pointer (some ⟨gx, 0, none⟩), .pointer (some ⟨gy, 0, none⟩)] 40)
  have s3 := hX.k.size
  have s4 := h4.size
  have s5 := h5.size
  have s6 := hY.k.size
  have lx3 := hX.m.low
  have hx5 : DictM 69 66 w5 gx d tx lx px := (hX.m.non h4).keep h5 fun q hq hq' => by have := hX.n q hq; have := hP.low q hq'; omega
  have hx6 := hx5.non hY.k
  have ly6 := hY.m.low
  have ny := hY.n
  have lx6 := hx6.low
  refine ⟨⟨Blk.new _ _ _, hx6.non hka, hY.m.non hka, hi, fun hq => ?_, fun hq => ?_, fun q hq hq' => ?_⟩, fun q hq => ?_⟩
  · have := lx6 _ hq; exact Nat.lt_irrefl _ this
  · have := ly6 _ hq; exact Nat.lt_irrefl _ this
  · have := hx5.low q hq; have := ny q hq'; omega
  · unfold Pr.foot at hq
    rcases List.mem_cons.1 hq with rfl | hq
    · show w2.heap.size ≤ w6.heap.size; omega
    · rcases List.mem_append.1 hq with hq | hq
      · exact hX.n q hq
      · have := ny q hq; omega
set_option maxHeartbeats 8000000 in
theorem opened18_any {w : World} {A : Option Addr} {c : Nat} {rs : List (List UInt8)} (h : PgQ w A rs) (hm : rs.length ≤ 1048576) (hb : ∀ p ∈ rs, p.length ≤ 1048576) :
    Calls Try.prog 18 #[.slice A rs.length c] w (OpenedR w rs) := by
  have H19 := Lib.hid (pages19_any (c := c) h.read hm hb)
  go_enter Try.func18, Try.ntmps18
  go_wp2_with fail
  refine H19.out.mono ?_
  rintro e w2 ⟨⟨oA, on, oc⟩, ss, he, hPG⟩
  change e = .returned (.slice oA on oc) at he
  subst he
  obtain ⟨hn, hR⟩ := PgM.read hPG.m
  subst hn
  have H21 := Lib.hid (open_any (c := oc) hR (by omega))
  go_wp2_with fail
  refine H21.out.mono ?_
  intro e w3 hO
  obtain ⟨x, n, rfl, hK3, hO⟩ := hO.val
  have HO := Lib.hid hO
  clear hO
  have H23 := Lib.hid (Same_any (ca := oc) (cb := c) (hR.non hK3) ((h.read.non hPG.k).non hK3) (by omega))
  rw [decide_eq_true (show rs = rs from rfl)] at H23
  go_wp2_with fail
  refine H23.out.mono ?_
  rintro e w4 ⟨rfl, q, hw4⟩
  have hK4 : Keeps Non w3 w4 := by rw [hw4]; exact (Keeps.refl _ _).drewN _
  clear hw4
  have hsl : ss.length ≤ 1048576 := by rw [hPG.m.len]; exact hm
  have H43 := Lib.hid (spoil43_any ((hPG.m.non hK3).non hK4) hsl hb)
  go_wp2_with fail
  refine H43.out.mono ?_
  rintro e w5 ⟨rfl, hK5⟩
  have hN5 : Keeps Non w w5 := ((hPG.k.non hK3).non hK4).then hK5 fun i hi e => by have := hPG.n i e; omega
  have H45 := Lib.hid (open45_any (c := c) (h.non hN5) (by omega))
  go_wp2_with fail
  refine H45.out.mono ?_
  intro e w6 hO2
  obtain ⟨y, m, rfl, hK6, hO2⟩ := hO2.val
  have HO2 := Lib.hid hO2
  clear hO2
  have hN6 := hN5.non hK6
  clear H19 H21 H23 H43 H45 hR
  rcases HO.out with ⟨d, gx, tx, lx, px, hd, rfl, rfl, hX⟩ | ⟨hno, rfl, rfl⟩
  · rcases HO2.out with ⟨d2, gy, ty, ly, py, hd2, rfl, rfl, hY⟩ | ⟨hno, rfl, rfl⟩
    · obtain rfl := opens_unique hd hd2
      have HP := Lib.hid (pair_new hd.1 hPG.m hX hK4 hK5 hY)
      have HD := Lib.hid hd
      have HS := Lib.hid hPG.k.size
      have HKA := Lib.hid (hN6.alloc (.cells #[.pointer (some ⟨gx, 0, none⟩), .pointer (some ⟨gy, 0, none⟩)] 40))
      clear hd hd2 HO HO2
      go_wp2_with fail
      go_ret2
      exact ⟨.inl ⟨_, d, HD.out, rfl, HP.out.1, fun q hq => by have := HP.out.2 q hq; have := HS.out; omega⟩, HKA.out⟩
    · exact absurd ⟨d, hd⟩ hno
  · rcases HO2.out with ⟨d2, gy, ty, ly, py, hd2, rfl, rfl, hY⟩ | ⟨-, rfl, rfl⟩
    · exact absurd ⟨d2, hd2⟩ hno
    · have HN := Lib.hid hno
      clear hno HO HO2
      go_wp2_with fail
      go_ret2
      exact ⟨.inr ⟨HN.out, rfl⟩, hN6⟩
end Go.Proofs.Ytiieglfpmmhfiaa
