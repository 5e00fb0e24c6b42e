/- The document's Load and Clone. -/
import Derived.Test.YtmlffigfhhoihacS22
namespace Go.Proofs.Ytmlffigfhhoihac
open Go.RowKit Go.Uc

/-- What the document's Load tells of a list. -/
def RefLoadP (w0 : World) (rs : List Rp) (w : World) (e : Ending) (w' : World) : Prop := Keeps Non w w' ∧
  ((loadB 0 rs = true ∧ ∃ q, e = .returned (.tuple #[.pointer (some ⟨q, 0, none⟩), .int .i64 0]) ∧ Doc w0 w' w.heap.size q (tabF (fun _ => Rp.none) rs) 0 0 0) ∨
   (loadB 0 rs = false ∧ e = .returned (.tuple #[.pointer none, .int .i64 240])))
theorem load_good {rs : List Rp} (h : loadB 0 rs = true) : listTo (tabF (fun _ => Rp.none) rs) 9 = rs ∧ Good (tabF (fun _ => Rp.none) rs) := by
  have := load_list rs (fun _ => Rp.none) 0 (by omega) Good.none (fun _ _ => rfl) h
  rw [listTo_none (fun _ _ => rfl), List.nil_append] at this
  exact this

set_option maxRecDepth 100000 in
set_option maxHeartbeats 8000000 in
theorem refload_any (w0 : World) (A : Option Addr) (c : Nat) (rs : List Rp) (w : World) (hR : RepsE w (RdE w0) A rs) (hn : rs.length * 96 ≤ 140737488355328) (hc : rs.length ≤ c) :
    Calls Try.prog 28 #[.slice A rs.length c] w (RefLoadP w0 rs w) := by
  unfold RefLoadP
  have HR := Lib.hid hR
  have hwr : ∀ j : Nat, (j : Int) ≤ 140737488355328 → IntKind.i64.wrap (((j + 1 : Nat) : Int) - 1) = (j : Int) := fun j hj => by
    rw [show ((j + 1 : Nat) : Int) - 1 = (j : Int) by omega]
    exact IntKind.wrap_i64 _ |>.trans (by omega)
  have HWR := Lib.hid hwr
  clear hR hwr
  go_enter Try.func28, Try.ntmps28
  go_upto_region 2 with fail
  go_loopw [4, 5] (fun i _ wr => ∃ (k : Nat) (la : Int), k ≤ rs.length ∧ i = .int .i64 k ∧ Hid (k = 0 → la = 0) ∧ Hid (∀ j (hj : j < rs.length), j + 1 = k → la = rs[j].ses) ∧ Hid (loadB la (rs.drop k) = loadB 0 rs) ∧ Keeps Non w wr) (fun i _ _ => rs.length - (intOf i).toNat)
  case atStart => exact ⟨0, 0, Nat.zero_le _, rfl, fun _ => rfl, fun j _ h => absurd h (by omega), rfl, Keeps.refl _ _⟩
  case round =>
    obtain ⟨k, la, hk, rfl, HZ, HP, HLB, hK⟩ := hrel
    by_cases hlt : k < rs.length
    · have HDR := Lib.hid (List.drop_eq_getElem_cons hlt)
      obtain ⟨b, off, l, d, rfl, hsev, hrd⟩ := HR.out.sev hlt
      obtain ⟨p, hp⟩ : ∃ p, p = rs[k] := ⟨_, rfl⟩
      rw [← hp] at hsev hrd HDR
      have HPE := Lib.hid hp
      clear hp
      obtain ⟨c0, c1, c2, c3, c4, c5, c6⟩ := hsev.non hK
      have HIS := Lib.hid (fun W => refis_any p.ses p.id W)
      clear c2 c3 c4 c5 c6 hsev
      have HPR : Hid (∀ j (hj : j < rs.length), wr.cell? ⟨b, off + j * 7, none⟩ = some (.int .i64 rs[j].ses)) := fun j hj => by
        obtain ⟨b', off', l', d', e, hs, -⟩ := HR.out.sev hj
        injection e with e
        injection e with e1 e2
        subst e1 e2
        exact (hs.non hK).1
      cases hs : isB p.ses p.id with
      | false =>
        have HS := Lib.hid hs
        clear hs
        go_upto_region 4 with fail
        go_quiet (first | (go_at_call 40; refine Calls.quiet_of_same (HIS.out _)))
        rw [HS.out]
        go_upto_region 5 with fail
        go_quiet (fail)
        go_wp2_with fail
        go_ret2
        refine ⟨(hK.drewN _).drewN _, .inr ⟨?_, rfl⟩⟩
        rw [← HLB.out, HDR.out]
        simp [loadB, HS.out]
      | true =>
        have HS := Lib.hid hs
        clear hs
        by_cases hk0 : k = 0
        · have HLA := Lib.hid (HZ.out hk0)
          subst hk0
          simp only [Nat.zero_mul, Nat.add_zero] at c0 c1
          have hb := isB_of HS.out
          go_upto_region 4 with fail
          go_quiet (first | (go_at_call 40; refine Calls.quiet_of_same (HIS.out _)))
          rw [HS.out]
          go_upto_region 5 with fail
          go_quiet (fail)
          go_wp2_with fail
          go_roundw
          case rel =>
            refine ⟨1, p.ses, by omega, by go_num, fun h => absurd h (by omega), fun j hj h => ?_, ?_, hK.drewN _⟩
            · rw [HPE.out]
              congr 1
              congr 1
              omega
            · show _ = _
              rw [← HLB.out, HDR.out, HLA.out]
              have : decide (0 < p.ses) = true := by rw [decide_eq_true_eq]; omega
              simp only [loadB, HS.out, this, Bool.true_and]
          case measure => simp [intOf]; omega
        · obtain ⟨j, hj⟩ : ∃ j, k = j + 1 := ⟨k - 1, by omega⟩
          subst hj
          have hla := HP.out j (by omega) rfl
          have hw1 := HWR.out j (by omega)
          have g0 := HPR.out j (by omega)
          have hi0 : (0 : Int) ≤ (j : Int) := by omega
          have hij : (j : Int) < (rs.length : Int) := by omega
          have hjn : j < rs.length := by omega
          rw [← hla] at g0
          clear hla
          have hd1 : decide (0 < ((j + 1 : Nat) : Int)) = true := by rw [decide_eq_true_eq]; omega
          by_cases hge : p.ses ≤ la
          · have hgb : decide (p.ses ≤ la) = true := by simpa using hge
            have HGE := Lib.hid hge
            clear hge
            go_upto_region 4 with fail
            go_quiet (first | (go_at_call 40; refine Calls.quiet_of_same (HIS.out _)))
            rw [HS.out]
            go_upto_region 5 with fail
            go_quiet (fail)
            go_wp2_with fail
            go_ret2
            refine ⟨(hK.drewN _).drewN _, .inr ⟨?_, rfl⟩⟩
            rw [← HLB.out, HDR.out]
            have h1 := HGE.out
            have : ¬ la < p.ses := by omega
            simp [loadB, this]
          · have hgb : decide (p.ses ≤ la) = false := by simpa using hge
            have HGE := Lib.hid hge
            clear hge
            go_upto_region 4 with fail
            go_quiet (first | (go_at_call 40; refine Calls.quiet_of_same (HIS.out _)))
            rw [HS.out]
            go_upto_region 5 with fail
            go_quiet (fail)
            go_wp2_with fail
            go_roundw
            case rel =>
              refine ⟨j + 2, p.ses, by omega, by go_num, fun h => absurd h (by omega), fun j' hj' h => ?_, ?_, hK.drewN _⟩
              · rw [HPE.out]
                congr 1
                congr 1
                omega
              · show _ = _
                rw [← HLB.out, HDR.out]
                have h1 := HGE.out
                have : decide (la < p.ses) = true := by rw [decide_eq_true_eq]; omega
                simp only [loadB, HS.out, this, Bool.true_and]
            case measure => simp [intOf]; omega
    · obtain rfl : k = rs.length := by omega
      rw [List.drop_length] at HLB
      obtain ⟨vss, hv1, hv2, hv3, hv4, hv5⟩ := (HR.out.non hK).ats
      have hz := hK.size
      go_wp2_with (at_builtin; go_must (refine wpList_append_reps rfl (.tmp 44) (.tmp 45) rfl w.heap.size (.slice none 0 0) 0 [] rfl (World.ownsRow_nil _ _ _ _) A rs.length c vss.flatten rfl hv3 hv4 hv5 (by omega) hz ?_); intro u1 W1 hO1 hKK hat; clear hat; go_must (have hU1 : RowR W1 w.heap.size (RdE w0) u1 rs := ⟨vss, (by simpa using hO1), hv1, hv2⟩; have hK1 : Keeps Non w W1 := hK.then hKK (fun i hi e => by cases e); obtain ⟨A9, c9, rfl, -, -, -⟩ := id hU1.open); clear hO1 hKK hv1 hv2 hv3 hv4 hv5)
      go_ret2
      have hLB := HLB.out.symm
      obtain ⟨hl, -⟩ := load_good hLB
      refine ⟨hK1.alloc _, .inl ⟨hLB, _, rfl, ⟨_, hK1.size, Blk.new _ _ _, ?_⟩⟩⟩
      rw [hl]
      exact hU1.non ((Keeps.refl _ _).alloc _)

theorem step_append_reps {ops : Array Oper} {o : Oper} {a : Act} {w : World} {K : Act → World → Prop} {Q : Exit → Act → World → Prop} {E : Prop} (hgd : o.guard = none) (s x : Operand)
    (ho : o.op = .call { callee := .builtin .append, args := #[s, x], argTypes := #[26, 26] })
    (base : Nat) (v : Value) (n : Nat) (xs : List Value) (hs : a.eval s = v) (hown : w.ownsRow base 31 7 v n xs)
    (A : Option Addr) (m c : Nat) (news : List Value) (hx : a.eval x = .slice A m c) (hm : news.length = m * 7) (hr : Ats w A news) (h1 : ∀ u ∈ news, u.oneCell' = true)
    (hmax : (n + m) * 96 ≤ 140737488355328) (hbase : base ≤ w.heap.size)
    (h : ∀ v' w', w'.ownsRow base 31 7 v' (n + m) (xs ++ news) → Keeps (Owned v) w w' → (v'.ownBlock = v.ownBlock ∨ v'.ownBlock = Option.some w.heap.size) → K (a.put o.dst v') w') :
    if Region.wanted o (yielded ops a.tmps) = true then Oper.wp Try.prog o a w K Q else E := by
  have hw : Region.wanted o (yielded ops a.tmps) = true := by simp [Region.wanted, hgd]
  rw [if_pos hw]
  obtain ⟨i, hi0, hz0, hz1, hz2⟩ := info_parts info31
  exact wp_append_any s x 26 ho base 31 i _ 7 96 Try.underlying26 hi0 hz0 hz1 hz2 rfl (by omega) v n xs hs hown A m c news hx (by omega) hr h1 (by unfold maxLen; omega) (by omega) hbase h

set_option maxRecDepth 100000 in
set_option maxHeartbeats 8000000 in
theorem refclone_any (w0 : World) {B q : Nat} {K : Nat → Rp} {f a r : Int} (w : World) (h : Doc w0 w B q K f a r) :
    Calls Try.prog 14 #[.pointer (some ⟨q, 0, none⟩)] w fun e w' => ∃ q', e = .returned (.pointer (some ⟨q', 0, none⟩)) ∧ Doc w0 w' w.heap.size q' K f a r ∧ Keeps Non w w' := by
  obtain ⟨v, -, hQ, hR⟩ := h
  have hln := listTo_length K 9
  obtain ⟨A, c, rfl, hlc, hRE, -⟩ := hR.open
  obtain ⟨vss, hv1, hv2, hv3, hv4, hv5⟩ := (hRE.non (Keeps.refl Non w).drew).ats
  have hQd := hQ.drew
  have c0 : w.cell? ⟨q, 0, none⟩ = some (.slice A (listTo K 9).length c) := hQ.cell 0
  have c1 : w.cell? ⟨q, 1, none⟩ = some (.int .i64 f) := hQ.cell 1
  have c2 : w.cell? ⟨q, 2, none⟩ = some (.int .i64 a) := hQ.cell 2
  have c3 : w.cell? ⟨q, 3, none⟩ = some (.int .i64 r) := hQ.cell 3
  have HC : Hid (w.drew.cell? ⟨q, 0, none⟩ = some (.slice A (listTo K 9).length c) ∧ w.drew.cell? ⟨q, 1, none⟩ = some (.int .i64 f) ∧ w.drew.cell? ⟨q, 2, none⟩ = some (.int .i64 a) ∧ w.drew.cell? ⟨q, 3, none⟩ = some (.int .i64 r)) := ⟨c0, c1, c2, c3⟩
  clear hQ hR hRE
  go_enter Try.func14, Try.ntmps14
  go_upto_region 2 with fail
  have hzd : w.heap.size ≤ w.drew.heap.size := Nat.le_refl _
  go_region_held3 (fun w' : World => w'.cell? ⟨q, 0, none⟩ = some (.slice A (listTo K 9).length c) ∧ w'.cell? ⟨q, 1, none⟩ = some (.int .i64 f) ∧ w'.cell? ⟨q, 2, none⟩ = some (.int .i64 a) ∧ w'.cell? ⟨q, 3, none⟩ = some (.int .i64 r))
    (with_reducible (first | exact HC.out | exact HC1.out | exact HC2.out))
    (first | (refine step_append_reps (o := ⟨some 9, _, _, _, _, _⟩) rfl (.tmp 4) (.tmp 8) rfl w.heap.size (.slice none 0 0) 0 [] rfl (World.ownsRow_nil _ _ _ _) A (listTo K 9).length c vss.flatten rfl hv3 hv4 hv5 (by omega) hzd ?_; intro u1 W1 hO1 hKK hat; go_must (have hU1 : RowR W1 w.heap.size (RdE w0) u1 (listTo K 9) := ⟨vss, (by simpa using hO1), hv1, hv2⟩; have hK1 : Keeps Non w.drew W1 := hKK.mono (fun i e => by cases e); obtain ⟨A9, c9, rfl, -, -, -⟩ := id hU1.open; have hQ1 := hQd.non hK1; have HC1 : Hid (W1.cell? ⟨q, 0, none⟩ = some (.slice A (listTo K 9).length c) ∧ W1.cell? ⟨q, 1, none⟩ = some (.int .i64 f) ∧ W1.cell? ⟨q, 2, none⟩ = some (.int .i64 a) ∧ W1.cell? ⟨q, 3, none⟩ = some (.int .i64 r)) := ⟨hQ1.cell 0, hQ1.cell 1, hQ1.cell 2, hQ1.cell 3⟩; have hQ2 := hQ1.alloc (.cells #[.slice A9 (listTo K 9).length c9, .int .i64 f, .int .i64 a, .int .i64 r] 45); have HC2 : Hid ((W1.alloc (.cells #[.slice A9 (listTo K 9).length c9, .int .i64 f, .int .i64 a, .int .i64 r] 45)).cell? ⟨q, 0, none⟩ = some (.slice A (listTo K 9).length c) ∧ (W1.alloc (.cells #[.slice A9 (listTo K 9).length c9, .int .i64 f, .int .i64 a, .int .i64 r] 45)).cell? ⟨q, 1, none⟩ = some (.int .i64 f) ∧ (W1.alloc (.cells #[.slice A9 (listTo K 9).length c9, .int .i64 f, .int .i64 a, .int .i64 r] 45)).cell? ⟨q, 2, none⟩ = some (.int .i64 a) ∧ (W1.alloc (.cells #[.slice A9 (listTo K 9).length c9, .int .i64 f, .int .i64 a, .int .i64 r] 45)).cell? ⟨q, 3, none⟩ = some (.int .i64 r)) := ⟨hQ2.cell 0, hQ2.cell 1, hQ2.cell 2, hQ2.cell 3⟩)))
  have hzz := hK1.size
  have FIN := Lib.hid (And.intro (show Doc w0 (W1.alloc (.cells #[.slice A9 (listTo K 9).length c9, .int .i64 f, .int .i64 a, .int .i64 r] 45)) w.heap.size W1.heap.size K f a r from ⟨_, hzz, Blk.new _ _ _, hU1.non ((Keeps.refl _ _).alloc _)⟩) (((Keeps.refl Non w).drew.trans hK1).alloc (.cells #[.slice A9 (listTo K 9).length c9, .int .i64 f, .int .i64 a, .int .i64 r] 45)))
  clear hU1 hK1 hQ1 hQ2 HC1 HC2
  go_wp2_with fail
  go_ret
  exact ⟨_, rfl, FIN.out.1, FIN.out.2⟩
end Go.Proofs.Ytmlffigfhhoihac
