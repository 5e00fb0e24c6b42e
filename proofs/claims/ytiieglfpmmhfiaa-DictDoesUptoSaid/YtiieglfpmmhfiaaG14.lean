/- does: List and Pages upon a pair. Pages are taken for a dictionary just if they are one: the walk. -/
import Derived.Test.YtiieglfpmmhfiaaG13
import Derived.Test.YtiieglfpmmhfiaaD32
import Derived.Test.YtiieglfpmmhfiaaG9
namespace Go.Proofs.Ytiieglfpmmhfiaa
set_option maxRecDepth 100000
open Go.RowKit Go.Uc

theorem pick7_any (c : Int) (m : Nat) (hm : pickN c 7 = m) (h1 : -9223372036854775808 ≤ c) (h2 : c ≤ 9223372036854775807) (w : World) : Calls Try.prog 10 #[.int .i64 c, .int .i64 7] w fun e w' => e = .returned (.int .i64 (m : Int)) ∧ w' = w := by
  have := pick_any c 7 (by decide) (by decide) h1 h2 w
  rw [hm] at this
  exact this
/-- A pair and a call: the call is boxed. -/
theorem pair_box {w : World} {p : Pr} {d : Dic} (h : PairM w p d) (cs : Array Value) : PairM (w.alloc (.cells cs 44)) p d ∧ Keeps Non w (w.alloc (.cells cs 44)) := ⟨h.non ((Keeps.refl Non w).alloc _), (Keeps.refl Non w).alloc _⟩
set_option maxHeartbeats 8000000 in
theorem does_pages {w : World} {p : Pr} {d : Dic} (h : PairM w p d) (ok ow ov : Int) (on : List UInt8) (rA : Option Addr) (rn rc : Nat) (hp : pickN ok 7 = 4) (f1 : -9223372036854775808 ≤ ok) (f2 : ok ≤ 9223372036854775807) :
    Calls Try.prog 15 #[.pointer (some ⟨p.b, 0, none⟩), .agg #[.int .i64 ok, .int .i64 ow, .string (str on), .int .i64 ov, .slice rA rn rc]] w fun e w' => e = .returned (.bool true) ∧ Keeps Non w w' := by
  obtain ⟨hP1, hk1⟩ := pair_box h #[.int .i64 ok, .int .i64 ow, .string (str on), .int .i64 ov, .slice rA rn rc]
  have hO := Blk.new w 44 #[.int .i64 ok, .int .i64 ow, .string (str on), .int .i64 ov, .slice rA rn rc]
  have hno : p.b ≠ w.heap.size := by have := h.blk.lt; omega
  have HPk := Lib.hid (fun W => pick7_any ok 4 hp f1 f2 W)
  have hform := opens_form (⟨h.inv, rfl⟩ : Opens (pagesD d) d)
  go_enter Try.func15, Try.ntmps15
  go_upto_region 1 with fail
  obtain ⟨w1, hw1⟩ : ∃ W : World, W = w.alloc (.cells #[.int .i64 ok, .int .i64 ow, .string (str on), .int .i64 ov, .slice rA rn rc] 44) := ⟨_, rfl⟩
  rw [← hw1] at hP1 hk1 hO ⊢
  clear hw1
  obtain ⟨ob, hob⟩ : ∃ b, b = w.heap.size := ⟨_, rfl⟩
  rw [← hob] at hO hno ⊢
  clear hob
  have o0 : w1.cell? ⟨ob, 0, none⟩ = some (.int .i64 ok) := hO.cell 0
  go_upto_region 2 with ((go_at_call 10; go_must (refine (HPk.out _).mono ?_); rintro e w5 ⟨rfl, hw5⟩; subst w5))
  have b0 : w1.cell? ⟨p.b, 0, none⟩ = some (.pointer (some ⟨p.gx, 0, none⟩)) := hP1.blk.cell 0
  have HPx := Lib.hid (pages_any hP1.x hP1.inv.toInv0)
  go_upto_region 22 with fail
  go_wp2_with fail
  refine HPx.out.mono ?_
  rintro e w2 ⟨⟨oA, on2, oc⟩, ss, he, hPG, hN2, hK2⟩
  change e = .returned (.slice oA on2 oc) at he
  subst he
  have hP2 := hP1.non hK2
  have b1 : w2.cell? ⟨p.b, 1, none⟩ = some (.pointer (some ⟨p.gy, 0, none⟩)) := hP2.blk.cell 1
  have HPy := Lib.hid (pages14_any hP2.y hP1.inv.toInv0)
  go_wp2_with fail
  refine HPy.out.mono ?_
  rintro e w3 ⟨⟨yA, yn, yc⟩, zs, he, hPY⟩
  change e = .returned (.slice yA yn yc) at he
  subst he
  obtain ⟨hn, hR⟩ := PgM.read hPG
  obtain ⟨hn', hR'⟩ := PgM.read hPY.m
  subst hn hn'
  have hsl : ss.length ≤ 1048576 := by rw [hPG.len]; omega
  have HS := Lib.hid (Same_any (ca := oc) (cb := yc) (hR.non hPY.k) hR' (by omega))
  rw [decide_eq_true (show pagesD d = pagesD d from rfl)] at HS
  have hbb : ∀ b ∈ pagesD d, b.length ≤ 1048576 := fun b hb => by have := hform.2.2 b hb; omega
  generalize pagesD d = pg at *
  go_wp2_with fail
  refine HS.out.mono ?_
  rintro e w4 ⟨rfl, q, hw4⟩
  have hK4 : Keeps Non w3 w4 := by rw [hw4]; exact (Keeps.refl _ _).drewN _
  clear hw4
  have H43 := Lib.hid (spoil43_any ((hPG.non hPY.k).non hK4) hsl hbb)
  go_wp2_with fail
  refine H43.out.mono ?_
  rintro e w5 ⟨rfl, hK5⟩
  have hE : Keeps Non w w5 := (((hk1.non hK2).non hPY.k).non hK4).then hK5 fun i hi e => by have := hN2 i e; have := hk1.size; omega
  go_wp2_with fail
  go_ret
  exact ⟨rfl, hE⟩
set_option maxHeartbeats 8000000 in
theorem does_list {w : World} {p : Pr} {d : Dic} (h : PairM w p d) (ok ow ov : Int) (on : List UInt8) (rA : Option Addr) (rn rc : Nat) (hp : pickN ok 7 = 3) (f1 : -9223372036854775808 ≤ ok) (f2 : ok ≤ 9223372036854775807) :
    Calls Try.prog 15 #[.pointer (some ⟨p.b, 0, none⟩), .agg #[.int .i64 ok, .int .i64 ow, .string (str on), .int .i64 ov, .slice rA rn rc]] w fun e w' => e = .returned (.bool true) ∧ Keeps Non w w' := by
  obtain ⟨hP1, hk1⟩ := pair_box h #[.int .i64 ok, .int .i64 ow, .string (str on), .int .i64 ov, .slice rA rn rc]
  have hO := Blk.new w 44 #[.int .i64 ok, .int .i64 ow, .string (str on), .int .i64 ov, .slice rA rn rc]
  have HPk := Lib.hid (fun W => pick7_any ok 3 hp f1 f2 W)
  have hi0 := h.inv.toInv0
  have HL := Lib.hid (listI_is hi0)
  have HLen : Hid (∀ F, IsList d F → F.length = (allE d.leaves).length ∧ F.length ≤ 1600) := Lib.hid (fun F hF => by
    have h1 := hF.perm.length_eq
    have h2 := allE_len d.leaves fun x hx => (fitE_len (hi0.ok.fit x hx)).1
    have h3 := hi0.ok.many
    exact ⟨h1, by omega⟩)
  go_enter Try.func15, Try.ntmps15
  go_upto_region 1 with fail
  obtain ⟨w1, hw1⟩ : ∃ W : World, W = w.alloc (.cells #[.int .i64 ok, .int .i64 ow, .string (str on), .int .i64 ov, .slice rA rn rc] 44) := ⟨_, rfl⟩
  rw [← hw1] at hP1 hk1 hO ⊢
  clear hw1
  obtain ⟨ob, hob⟩ : ∃ b, b = w.heap.size := ⟨_, rfl⟩
  rw [← hob] at hO ⊢
  clear hob
  have o0 : w1.cell? ⟨ob, 0, none⟩ = some (.int .i64 ok) := hO.cell 0
  go_upto_region 2 with ((go_at_call 10; go_must (refine (HPk.out _).mono ?_); rintro e w5 ⟨rfl, hw5⟩; subst w5))
  have b0 : w1.cell? ⟨p.b, 0, none⟩ = some (.pointer (some ⟨p.gx, 0, none⟩)) := hP1.blk.cell 0
  have HPx := Lib.hid (list_any hP1.x hi0)
  go_upto_region 11 with fail
  go_wp2_with fail
  refine HPx.out.mono ?_
  rintro e w2 ⟨⟨sA, sn, sc⟩, R, he, hR, hRL, hN2, hK2⟩
  change e = .returned (.slice sA sn sc) at he
  subst he
  have hP2 := hP1.non hK2
  have b1 : w2.cell? ⟨p.b, 1, none⟩ = some (.pointer (some ⟨p.gy, 0, none⟩)) := hP2.blk.cell 1
  have HPy := Lib.hid (list41_any hP2.y hi0)
  obtain rfl := isList_eq hRL HL.out
  obtain ⟨hl1, hl2⟩ := HLen.out _ hRL
  have HRL := Lib.hid hRL
  clear hRL HL
  have HPn := Lib.hid (fun W hk => len_any ((hP2.x.non (w' := W) hk)) hi0)
  rw [← hl1] at HPn
  generalize listI (allE d.leaves) = F at *
  clear hl1
  have hsn : sn = F.length := by
    obtain ⟨A', c', e, -, -⟩ := hR.val
    have e' : Value.slice sA sn sc = .slice A' F.length c' := e
    injection e' with e1 e2
  subst hsn
  go_wp2_with fail
  refine HPy.out.mono ?_
  rintro e w3 ⟨⟨yA, yn, yc⟩, he, hY, hNY, hK3⟩
  change e = .returned (.slice yA yn yc) at he
  subst he
  have hyn : yn = F.length := by
    obtain ⟨A', c', e, -, -⟩ := hY.val
    have e' : Value.slice yA yn yc = .slice A' F.length c' := e
    injection e' with e1 e2
  subst hyn
  have hP3 := hP2.non hK3
  have b2 : w3.cell? ⟨p.b, 0, none⟩ = some (.pointer (some ⟨p.gx, 0, none⟩)) := hP3.blk.cell 0
  go_wp2_with fail
  refine (HPn.out w3 hK3).mono ?_
  rintro e w4 ⟨rfl, hK4⟩
  have HSe := Lib.hid (sameE_any (sa := ⟨sA, F.length, sc⟩) (sb := ⟨yA, F.length, yc⟩) ((hR.non hK3).non hK4) (hY.non hK4))
  rw [decide_eq_true (show F = F from rfl)] at HSe
  go_wp2_with fail
  refine HSe.out.mono ?_
  rintro e w5 ⟨rfl, q, hw5⟩
  have hK5 : Keeps Non w4 w5 := by rw [hw5]; exact (Keeps.refl _ _).drewN _
  clear hw5
  have hRow : RowE w5 (.slice sA F.length sc) F := ((hR.non hK3).non hK4).non hK5
  have hE5 : Keeps Non w1 w5 := ((hK2.non hK3).non hK4).non hK5
  have HNw : Hid (∀ q ∈ own (.slice sA F.length sc), w1.heap.size ≤ q) := Lib.hid hN2
  clear hR hY HPx HPy HPn HSe b0 b1 b2 hNY hN2 HLen
  go_upto_region 16 with fail
  go_loopw [13] (fun i wr => ∃ (k : Nat) (l : List Ent), k ≤ F.length ∧ i = .int .i64 (k : Int) ∧ l.length = F.length ∧ RowE wr (.slice sA F.length sc) l ∧ Keeps Non w1 wr) (fun i _ => F.length - (intOf i).toNat)
  case atStart => exact ⟨0, F, Nat.zero_le _, rfl, rfl, hRow, hE5⟩
  case round =>
    obtain ⟨k, l, hk, rfl, hll, hl, hK⟩ := hrel
    obtain ⟨wx, rfl⟩ : ∃ W : World, W = wr := ⟨_, rfl⟩
    clear hRow
    by_cases hlt : k < F.length
    · obtain ⟨eb, cap, ev, -, z0, z1, hfz, -⟩ := rowE_at hl (i := k) (by omega)
      injection ev with e1 e2 e3
      clear e2 e3
      subst e1
      have hl' : RowE wx (.slice (some ⟨eb, 0, none⟩) l.length sc) l := by rw [hll]; exact hl
      have hset : RowE ((wx.setCell ⟨eb, k * 2, none⟩ (.string (str [63]))).setCell ⟨eb, k * 2 + 1, none⟩ (.int .i64 0)) (.slice (some ⟨eb, 0, none⟩) F.length sc) (l.set k ⟨[63], 0⟩) := by rw [← hll]; exact rowE_set hl' (by omega) ⟨[63], 0⟩
      have hge : w1.heap.size ≤ eb := HNw.out eb (by show eb ∈ [eb]; simp)
      have hKs : Keeps Non w1 ((wx.setCell ⟨eb, k * 2, none⟩ (.string (str [63]))).setCell ⟨eb, k * 2 + 1, none⟩ (.int .i64 0)) := (hK.setNew (p := ⟨eb, k * 2, none⟩) hge _).setNew (p := ⟨eb, k * 2 + 1, none⟩) hge _
      have hki : (k : Int) < (F.length : Int) := by omega
      have f0 := hfz (k * 2)
      have f1 := hfz (k * 2 + 1)
      have HLL : Hid ((l.set k ⟨[63], 0⟩).length = F.length) := Lib.hid (by rw [List.length_set]; exact hll)
      have HSET := Lib.hid hset
      clear hset hl hl'
      go_wp2_with fail
      go_roundw
      case rel => exact ⟨k + 1, _, by omega, by go_num, HLL.out, HSET.out, hKs⟩
      case measure => simp [intOf]; omega
    · obtain rfl : k = F.length := by omega
      have hnl : ¬ F.length < F.length := by omega
      have hlA := hl.non ((Keeps.refl Non wx).alloc (.cells #[.string ByteArray.empty, .int .i64 0] 56))
      have HB : Hid (l.length + 1 ≤ maxLen ∧ (l.length + 1) * 24 ≤ 140737488355328) := Lib.hid (by unfold maxLen; omega)
      have HLL := Lib.hid hll
      clear hll
      go_upto_region 20 with (at_builtin; go_must (refine wpList_append_row (o := ⟨some 100, _, _, _, _, _⟩) rfl (.tmp 97) (.tmp 99) 32 rfl 56 2 encE _ 24 Try.underlying32 info56 rfl (by decide) encE_len encE_one (.slice sA F.length sc) l rfl hlA (some ⟨wx.heap.size, 0, none⟩) 1 1 [(⟨[], 0⟩ : Ent)] rfl rfl (Ats.lit wx #[.string ByteArray.empty, .int .i64 0] 56 _ rfl) HB.out.1 HB.out.2 ?_); intro u8 w8 hO8 hK8 hat; obtain ⟨⟨A8, n8, c8⟩, rfl, h8⟩ := RowP.sl hO8; have hn8 : n8 = F.length + 1 := (by rw [show n8 = (l ++ [(⟨[], 0⟩ : Ent)]).length from h8, List.length_append, HLL.out]; rfl); clear h8 hat hO8; subst hn8)
      have hEE : Keeps Non w w8 := (hk1.non (hK.alloc _)).then hK8 fun i hi e => by have := HNw.out i e; have := hk1.size; omega
      have hwf : IntKind.i64.wrap ((F.length : Int) + 1) = (F.length : Int) + 1 := by rw [IntKind.wrap_i64]; omega
      go_wp2_with fail
      go_ret
      exact ⟨rfl, hEE⟩
end Go.Proofs.Ytiieglfpmmhfiaa
namespace Go.Proofs.Ytiieglfpmmhfiaa
set_option maxRecDepth 100000
open Go.RowKit Go.Uc

theorem pickN_lt (c : Int) {n : Nat} (h : 0 < n) : pickN c n < n := by
  unfold pickN
  have h1 := Int.emod_lt_of_pos (if c < 0 then -(c + 1) else c) (show (0 : Int) < (n : Int) by omega)
  have h2 := Int.emod_nonneg (if c < 0 then -(c + 1) else c) (show (n : Int) ≠ 0 by omega)
  omega
/-- One byte of one page another one. -/
theorem PgM.setByte {w : World} {o : Sl} {ss : List Sl} {bs : List (List UInt8)} (h : PgM w o ss bs) {k : Nat} (hk : k < ss.length) (hk' : k < bs.length) {g n c : Nat} (hs : ss[k] = ⟨some ⟨g, 0, none⟩, n, c⟩) {j : Nat} (hj : j < bs[k].length) (y : UInt8) :
    PgM (w.setCell ⟨g, j, none⟩ (bv y)) o ss (bs.set k (bs[k].set j y)) := by
  have hK : Keeps (Only g) w (w.setCell ⟨g, j, none⟩ (bv y)) := (Keeps.refl (Only g) _).set (p := ⟨g, j, none⟩) rfl _
  have hg : g ∈ own ss[k].v := by rw [hs]; show g ∈ [g]; simp
  refine ⟨h.row.keep hK fun q hq e => ?_, by simp [h.len], fun i hi hi' => ?_, h.nod⟩
  · unfold Only at e; subst e; exact h.rowx _ hq k hk hg
  · simp only [List.length_set] at hi'
    rw [List.getElem_set]
    by_cases e : k = i
    · subst e
      rw [if_pos rfl, hs]
      have hu := h.pg k hk hk'
      rw [hs] at hu
      exact rowU_set hu hj y
    · rw [if_neg e]
      refine (h.pg i hi hi').keep hK fun q hq e' => ?_
      unfold Only at e'
      subst e'
      rcases Nat.lt_or_ge k i with h' | h'
      · exact h.fore hi _ hq ⟨k, hk, h', hg⟩
      · exact h.fore hk _ hg ⟨i, hi, by omega, hq⟩
set_option maxHeartbeats 8000000 in
theorem opens_any {w : World} {A : Option Addr} {c : Nat} {rs : List (List UInt8)} (h : PgQ w A rs) (hm : rs.length ≤ 1048576) (hb : ∀ p ∈ rs, p.length ≤ 1048576) (pn an : Int) (hp1 : -9223372036854775808 ≤ pn) (hp2 : pn ≤ 9223372036854775807) (ha1 : -9223372036854775808 ≤ an) (ha2 : an ≤ 9223372036854775807) (y : UInt8) :
    Calls Try.prog 5 #[.slice A rs.length c, .int .i64 pn, .int .i64 an, .int .u8 (y.toNat : Int)] w fun e w' => e = .returned (.bool true) ∧ Keeps Non w w' := by
  have HPn := Lib.hid (fun (h0 : 0 < rs.length) W => pick_any pn rs.length h0 (by omega) hp1 hp2 W)
  have HPl := Lib.hid (fun (h0 : 0 < rs.length) => pickN_lt pn h0)
  generalize pickN pn rs.length = pk at HPn HPl
  go_enter Try.func5, Try.ntmps5
  go_upto_region 2 with ((go_at_call 7; go_must (refine (awake_any w).mono ?_); rintro e w1 ⟨rfl, hK1⟩))
  have HOp := Lib.hid (opened18_any (c := c) (h.non hK1) hm hb)
  go_wp2_with fail
  refine HOp.out.mono ?_
  rintro e w2 ⟨⟨p, d, -, rfl, hP, -⟩ | ⟨-, rfl⟩, hK2⟩
  case' inl =>
    have HD1 := Lib.hid (does_list hP 3 0 0 [] none 0 0 (by decide) (by decide) (by decide))
    go_wp2_with fail
    refine HD1.out.mono ?_
    rintro e w3 ⟨rfl, hK3⟩
    have HD2 := Lib.hid (does_pages (hP.non hK3) 4 0 0 [] none 0 0 (by decide) (by decide) (by decide))
    go_wp2_with fail
    refine HD2.out.mono ?_
    rintro e w4 ⟨rfl, hK4⟩
    have hKq : Keeps Non w w4 := ((hK1.non hK2).non hK3).non hK4
    clear HD1 HD2 HOp hP hK1 hK2 hK3 hK4
    go_upto_region 10 with fail
  case' inr =>
    have hKq : Keeps Non w w2 := hK1.non hK2
    clear HOp hK1 hK2
    go_upto_region 10 with fail
  case' inl => obtain ⟨wq, rfl⟩ : ∃ W : World, W = w4 := ⟨_, rfl⟩
  case' inr => obtain ⟨wq, rfl⟩ : ∃ W : World, W = w2 := ⟨_, rfl⟩
  all_goals
    have H19 := Lib.hid (pages19_any (c := c) (h.read.non hKq) hm hb)
    go_wp2_with fail
    refine H19.out.mono ?_
    rintro e w5 ⟨⟨oA, on, oc⟩, ss, he, hPG⟩
    change e = .returned (.slice oA on oc) at he
    subst he
    obtain ⟨hn, -⟩ := PgM.read hPG.m
    subst hn
    have hK5 := hKq.non hPG.k
    by_cases hr0 : 0 < rs.length
    · have hkl := HPl.out hr0
      have hks : pk < ss.length := by rw [hPG.m.len]; exact hkl
      obtain ⟨og, hog, -, hgo, c0, -⟩ := rowS_at (A := oA) (n := rs.length) (c := oc) hPG.m.row hks
      subst hog
      have hU := hPG.m.pg pk hks hkl
      obtain ⟨s, hs⟩ : ∃ s, s = ss[pk] := ⟨_, rfl⟩
      rw [← hs] at c0 hU
      obtain ⟨sA, sn, sc⟩ := s
      have HS := Lib.hid hs.symm
      clear hs
      obtain ⟨hsn, -⟩ := RowU.at_ (A := sA) (n := sn) (c := sc) hU
      have HSN := Lib.hid hsn
      have hpl := hb _ (List.getElem_mem hkl)
      rw [← hsn] at hpl
      clear hsn
      replace c0 : w5.cell? ⟨og, pk, none⟩ = some (.slice sA sn sc) := c0
      have hki : (pk : Int) < (rs.length : Int) := by omega
      have HPk := Lib.hid (HPn.out hr0)
      by_cases hs0 : 0 < sn
      · have HPj := Lib.hid (fun W => pick_any an sn hs0 (by omega) ha1 ha2 W)
        have hjl := pickN_lt an hs0
        generalize pickN an sn = j at HPj hjl
        obtain ⟨sg, hsg, -, hsgo, ⟨v, hc2⟩, hf⟩ := rowU_at (A := sA) (n := sn) (c := sc) hU (i := j) (by rw [← HSN.out]; exact hjl)
        subst hsg
        have hji : (j : Int) < (sn : Int) := by omega
        have hPS := Lib.hid (hPG.m.setByte hks hkl HS.out (by rw [← HSN.out]; exact hjl) y)
        have hsgn : wq.heap.size ≤ sg := hPG.n _ (mem_footS.2 (.inr ⟨pk, hks, by rw [HS.out]; exact hsgo⟩))
        have hwz : w.heap.size ≤ sg := by have := hKq.size; omega
        have hKs : Keeps Non w (w5.setCell ⟨sg, j, none⟩ (.int .u8 (y.toNat : Int))) := hK5.setNew (p := ⟨sg, j, none⟩) hwz _
        have HRL : Hid (∀ W, PgM W ⟨some ⟨og, 0, none⟩, rs.length, oc⟩ ss (rs.set pk (rs[pk].set j y)) → Calls Try.prog 18 #[.slice (some ⟨og, 0, none⟩) rs.length oc] W (OpenedR W (rs.set pk (rs[pk].set j y)))) := Lib.hid (fun W hM => by
          have hl : (rs.set pk (rs[pk].set j y)).length = rs.length := by simp
          have := opened18_any (c := oc) hM.readQ (by rw [hl]; exact hm) (fun p hp => by
            rcases List.mem_or_eq_of_mem_set hp with e | e
            · exact hb p e
            · rw [e, List.length_set]; exact hb _ (List.getElem_mem hkl))
          rw [hl] at this
          exact this)
        clear H19 HPn HPl hU
        go_upto_region 12 with ((go_at_call 10; go_must (refine (HPk.out _).mono ?_); rintro e w6 ⟨rfl, hw6⟩; subst w6))
        go_upto_region 13 with ((go_at_call 10; go_must (refine (HPk.out _).mono ?_); rintro e w6 ⟨rfl, hw6⟩; subst w6))
        go_upto_region 14 with ((go_at_call 10; go_must (refine (HPj.out _).mono ?_); rintro e w6 ⟨rfl, hw6⟩; subst w6))
        have HO2 := Lib.hid (HRL.out _ hPS.out)
        go_wp2_with fail
        refine HO2.out.mono ?_
        rintro e w7 ⟨⟨p, d, -, rfl, -, -⟩ | ⟨-, rfl⟩, hK7⟩
        all_goals
          go_wp2_with fail
          go_ret
          exact ⟨rfl, hKs.non hK7⟩
      · obtain rfl : sn = 0 := by omega
        have HO2 := Lib.hid (opened18_any (c := oc) hPG.m.readQ hm hb)
        clear H19 HPn HPl hU
        go_upto_region 14 with ((go_at_call 10; go_must (refine (HPk.out _).mono ?_); rintro e w6 ⟨rfl, hw6⟩; subst w6))
        go_wp2_with fail
        refine HO2.out.mono ?_
        rintro e w7 ⟨⟨p, d, -, rfl, -, -⟩ | ⟨-, rfl⟩, hK7⟩
        all_goals
          go_wp2_with fail
          go_ret
          exact ⟨rfl, hK5.non hK7⟩
    · have hrl : rs.length = 0 := by omega
      have HO2 := Lib.hid (opened18_any (c := oc) hPG.m.readQ hm hb)
      rw [hrl] at HO2
      rw [hrl]
      clear H19 HPn HPl
      go_upto_region 14 with fail
      go_wp2_with fail
      refine HO2.out.mono ?_
      rintro e w7 ⟨⟨p, d, -, rfl, -, -⟩ | ⟨-, rfl⟩, hK7⟩
      all_goals
        go_wp2_with fail
        go_ret
        exact ⟨rfl, hK5.non hK7⟩
end Go.Proofs.Ytiieglfpmmhfiaa
