/- Load. -/
import Derived.Test.YtmlffigfhhoihacS17
namespace Go.Proofs.Ytmlffigfhhoihac
open Go.RowKit Go.Uc

/-- What Load tells of a list. -/
def LoadP (rs : List Rp) (w : World) (e : Ending) (w' : World) : Prop := Keeps Non w w' ∧
  ((loadB 0 rs = true ∧ ∃ g ok, e = .returned (.tuple #[.pointer (some ⟨g, 0, none⟩), .int .i64 0]) ∧ Tab w' w.heap.size (fun k => w.heap.size ≤ k) g ok (tabF (fun _ => Rp.none) rs) 0 0 0) ∨
   (loadB 0 rs = false ∧ e = .returned (.tuple #[.pointer none, .int .i64 240])))

set_option maxRecDepth 100000 in
set_option maxHeartbeats 8000000 in
theorem load_rs (A : Option Addr) (c : Nat) (rs : List Rp) (w : World) (hR : RepsE w (fun l d r => RdR w l d r ∧ RpB r) A rs) (hn : rs.length ≤ 140737488355328) :
    Calls Try.prog 22 #[.slice A rs.length c] w (LoadP rs w) := by
  unfold LoadP
  have HR := Lib.hid hR
  obtain ⟨B, hB⟩ : ∃ B, B = w.heap.size := ⟨_, rfl⟩
  have HB : Hid (B = w.heap.size) := hB
  have HN := Lib.hid (new_any B (fun k => B ≤ k) w (Nat.le_of_eq hB))
  rw [← hB] at HN ⊢
  clear hR hB
  go_enter Try.func22, Try.ntmps22
  go_upto_region 2 with fail
  refine HN.out.mono ?_
  rintro e w1 ⟨rfl, h1, hK1⟩
  clear HN
  go_upto_region 4 with fail
  go_loopw [5, 7, 11] (fun last _ i wr => ∃ (k : Nat) (la : Int) (K : Nat → Rp) (ok : Option Nat), k ≤ rs.length ∧ last = .int .i64 la ∧ 0 ≤ la ∧ la ≤ 8 ∧ i = .int .i64 k ∧ Hid (loadB la (rs.drop k) = loadB 0 rs) ∧ Hid (tabF K (rs.drop k) = tabF (fun _ => Rp.none) rs) ∧ Tab wr B (fun k => B ≤ k) B ok K 0 0 0 ∧ Keeps Non w wr) (fun _ _ i _ => rs.length - (intOf i).toNat)
  case atStart => exact ⟨0, 0, _, none, Nat.zero_le _, rfl, by omega, by omega, rfl, rfl, rfl, h1, hK1⟩
  case round =>
    clear h1 hK1 w1
    obtain ⟨k, la, K, ok, hk, rfl, hla0, hla8, rfl, HLB, HTB, hT, hK⟩ := hrel
    by_cases hlt : k < rs.length
    · have HDR := Lib.hid (List.drop_eq_getElem_cons hlt)
      obtain ⟨b, off, l, d, rfl, q0, q1, q2, q3, q4, q5, q6, hrd, hrb⟩ := HR.out.get hlt
      obtain ⟨p, hp⟩ : ∃ p, p = rs[k] := ⟨_, rfl⟩
      rw [← hp] at q0 q1 q2 q3 q4 hrd hrb HDR
      clear hp
      obtain ⟨Al, cl, Ad, cd, rfl, rfl, -⟩ := id hrd
      have y0 := hK.cell q0 id
      have y1 := hK.cell q1 id
      have y2 := hK.cell q2 id
      have y3 := hK.cell q3 id
      have y4 := hK.cell q4 id
      have y5 := hK.cell q5 id
      have y6 := hK.cell q6 id
      clear q0 q1 q2 q3 q4 q5 q6
      go_upto_region 6 with fail
      obtain ⟨w2, hw2⟩ : ∃ w2, w2 = wr.alloc (.cells #[.int .i64 p.ses, .int .i64 p.id, .int .i64 p.err, .int .i64 p.num, .string p.text, (.slice Al p.list.length cl), (.slice Ad p.data.length cd)] 31) := ⟨_, rfl⟩
      obtain ⟨q, hq⟩ : ∃ q, q = wr.heap.size := ⟨_, rfl⟩
      have hk2 : Keeps Non wr w2 := by rw [hw2]; exact (Keeps.refl _ _).alloc _
      have hQ2 : Blk w2 q 31 #[.int .i64 p.ses, .int .i64 p.id, .int .i64 p.err, .int .i64 p.num, .string p.text, (.slice Al p.list.length cl), (.slice Ad p.data.length cd)] := by rw [hw2, hq]; exact Blk.new _ _ _
      have hgq : ∀ gk, ok = some gk → gk ≠ q := fun gk e => by have := hT.low gk e; omega
      rw [← hw2, ← hq]
      have hT2 := hT.non hk2
      have hK2 := hK.trans hk2
      have HRD := Lib.hid hrd
      have HRB := Lib.hid hrb
      clear hw2 hq y0 y1 y2 y3 y4 y5 y6 hT hK hk2 hrd hrb
      have z0 : w2.cell? ⟨q, 0, none⟩ = some (.int .i64 p.ses) := hQ2.cell 0
      have z1 : w2.cell? ⟨q, 1, none⟩ = some (.int .i64 p.id) := hQ2.cell 1
      have HIS := Lib.hid (fun W => is_any p.ses p.id W)
      cases hs : isB p.ses p.id with
      | false =>
        have HS := Lib.hid hs
        clear hs
        have HK2 := Lib.hid hK2
        clear hK2 hT2 hQ2
        go_wp2_with fail
        refine (HIS.out _).mono ?_
        rw [HS.out]
        rintro e w3 ⟨rfl, hw3⟩
        subst w3
        go_wp2_with fail
        go_ret2
        refine ⟨HK2.out, .inr ⟨?_, rfl⟩⟩
        rw [← HLB.out, HDR.out]
        simp [loadB, HS.out]
      | true =>
        have hbb := isB_of hs
        have HS := Lib.hid hs
        clear hs
        by_cases hle : p.ses ≤ la
        · have HK2 := Lib.hid hK2
          clear hK2 hT2 hQ2
          go_wp2_with fail
          refine (HIS.out _).mono ?_
          rw [HS.out]
          rintro e w3 ⟨rfl, hw3⟩
          subst w3
          go_wp2_with fail
          go_ret2
          refine ⟨HK2.out, .inr ⟨?_, rfl⟩⟩
          rw [← HLB.out, HDR.out]
          have : ¬ la < p.ses := by omega
          simp [loadB, this]
        · obtain ⟨sn, hsn⟩ := Int.eq_ofNat_of_zero_le (show 0 ≤ p.ses by omega)
          have HSN := Lib.hid hsn
          rw [hsn] at z0 hle hbb HIS
          have hS' : isB sn p.id = true := by rw [← hsn]; exact HS.out
          have HS' := Lib.hid hS'
          rw [hsn] at hQ2
          clear hsn hS'
          go_upto_region 8 with fail
          refine (HIS.out _).mono ?_
          rw [HS'.out]
          rintro e w3 ⟨rfl, hw3⟩
          subst w3
          go_upto_region 9 with fail
          have hz2 := hK2.size
          have HP := Lib.hid (places_any w2.drew (hT2.non (Keeps.refl _ _).drew) (by have := HB.out; simp; omega))
          have ho := fun W (hk : Keeps Non w W) => own_any p _ _ W (HRD.out.non hk) HRB.out
          simp only [HSN.out] at ho
          have HO := Lib.hid ho
          have hqB : q ≠ B := hT2.box hQ2
          have FS2 : Hid (w2.drew.cell? ⟨q, 0, none⟩ = some (.int .i64 sn) ∧ w2.drew.cell? ⟨q, 1, none⟩ = some (.int .i64 p.id) ∧ w2.drew.cell? ⟨q, 2, none⟩ = some (.int .i64 p.err) ∧ w2.drew.cell? ⟨q, 3, none⟩ = some (.int .i64 p.num) ∧ w2.drew.cell? ⟨q, 4, none⟩ = some (.string p.text) ∧ w2.drew.cell? ⟨q, 5, none⟩ = some (.slice Al p.list.length cl) ∧ w2.drew.cell? ⟨q, 6, none⟩ = some (.slice Ad p.data.length cd)) := ⟨hQ2.cell 0, hQ2.cell 1, hQ2.cell 2, hQ2.cell 3, hQ2.cell 4, hQ2.cell 5, hQ2.cell 6⟩
          have hi0 : (0 : Int) ≤ (sn : Int) := by omega
          have hi9 : (sn : Int) < 9 := by omega
          have hsn9 : sn < 9 := by omega
          clear ho z0 z1 hle
          go_region_held3 (fun w' : World => w'.cell? ⟨q, 0, none⟩ = some (.int .i64 sn) ∧ w'.cell? ⟨q, 1, none⟩ = some (.int .i64 p.id) ∧ w'.cell? ⟨q, 2, none⟩ = some (.int .i64 p.err) ∧ w'.cell? ⟨q, 3, none⟩ = some (.int .i64 p.num) ∧ w'.cell? ⟨q, 4, none⟩ = some (.string p.text) ∧ w'.cell? ⟨q, 5, none⟩ = some (.slice Al p.list.length cl) ∧ w'.cell? ⟨q, 6, none⟩ = some (.slice Ad p.data.length cd))
            (with_reducible (first | exact FS2.out | exact FS3.out | exact FS5.out | exact FS7.out))
            (first
              | (go_at_call 19; go_must (refine HP.out.mono ?_); rintro e w3 ⟨gk, rfl, hT3, hE3, hK3⟩; go_must (have hQ3 := hQ2.drew.one hK3 hqB; have FS3 : Hid (w3.cell? ⟨q, 0, none⟩ = some (.int .i64 sn) ∧ w3.cell? ⟨q, 1, none⟩ = some (.int .i64 p.id) ∧ w3.cell? ⟨q, 2, none⟩ = some (.int .i64 p.err) ∧ w3.cell? ⟨q, 3, none⟩ = some (.int .i64 p.num) ∧ w3.cell? ⟨q, 4, none⟩ = some (.string p.text) ∧ w3.cell? ⟨q, 5, none⟩ = some (.slice Al p.list.length cl) ∧ w3.cell? ⟨q, 6, none⟩ = some (.slice Ad p.data.length cd)) := ⟨hQ3.cell 0, hQ3.cell 1, hQ3.cell 2, hQ3.cell 3, hQ3.cell 4, hQ3.cell 5, hQ3.cell 6⟩; have HO3 := HO.out w3 (hK2.drew.then hK3 (fun i hi e => by unfold Only at e; have := HB.out; omega))))
              | (go_at_call 21; go_must (refine HO3.mono ?_); rintro e w5 ⟨l', d', rfl, hRo, hK5⟩; go_must (obtain ⟨Al', cl', Ad', cd', el, ed, -⟩ := hRo.rd; subst el ed; have hQ5 := hQ3.non hK5; have FS5 : Hid (w5.cell? ⟨q, 0, none⟩ = some (.int .i64 sn) ∧ w5.cell? ⟨q, 1, none⟩ = some (.int .i64 p.id) ∧ w5.cell? ⟨q, 2, none⟩ = some (.int .i64 p.err) ∧ w5.cell? ⟨q, 3, none⟩ = some (.int .i64 p.num) ∧ w5.cell? ⟨q, 4, none⟩ = some (.string p.text) ∧ w5.cell? ⟨q, 5, none⟩ = some (.slice Al p.list.length cl) ∧ w5.cell? ⟨q, 6, none⟩ = some (.slice Ad p.data.length cd)) := ⟨hQ5.cell 0, hQ5.cell 1, hQ5.cell 2, hQ5.cell 3, hQ5.cell 4, hQ5.cell 5, hQ5.cell 6⟩; obtain ⟨cur, hcb, hcz, -⟩ := hT3.row; have hcb5 := hcb.non hK5; obtain ⟨⟨va0, sa0⟩, fa0, ⟨va1, sa1⟩, fa1, ⟨va2, sa2⟩, fa2, ⟨va3, sa3⟩, fa3, ⟨va4, sa4⟩, fa4, ⟨va5, sa5⟩, fa5, ⟨va6, sa6⟩, fa6, hBa, hKa⟩ := store_seven hcb5 (sn * 7) (by omega) (.int .i64 sn) (.int .i64 p.id) (.int .i64 p.err) (.int .i64 p.num) (.string p.text) (.slice Al' p.list.length cl') (.slice Ad' p.data.length cd'); have hgk : q ≠ gk := fun e => (hE3.ne (hQ2.drew.lt) hgq) gk rfl e.symm; have hQ7 := hQ5.one hKa hgk; have FS7 : Hid ((((((((w5.setCell ⟨gk, sn * 7, none⟩ (.int .i64 sn)).setCell ⟨gk, sn * 7 + 1, none⟩ (.int .i64 p.id)).setCell ⟨gk, sn * 7 + 2, none⟩ (.int .i64 p.err)).setCell ⟨gk, sn * 7 + 3, none⟩ (.int .i64 p.num)).setCell ⟨gk, sn * 7 + 4, none⟩ (.string p.text)).setCell ⟨gk, sn * 7 + 5, none⟩ (.slice Al' p.list.length cl')).setCell ⟨gk, sn * 7 + 6, none⟩ (.slice Ad' p.data.length cd')).cell? ⟨q, 0, none⟩ = some (.int .i64 sn) ∧ (((((((w5.setCell ⟨gk, sn * 7, none⟩ (.int .i64 sn)).setCell ⟨gk, sn * 7 + 1, none⟩ (.int .i64 p.id)).setCell ⟨gk, sn * 7 + 2, none⟩ (.int .i64 p.err)).setCell ⟨gk, sn * 7 + 3, none⟩ (.int .i64 p.num)).setCell ⟨gk, sn * 7 + 4, none⟩ (.string p.text)).setCell ⟨gk, sn * 7 + 5, none⟩ (.slice Al' p.list.length cl')).setCell ⟨gk, sn * 7 + 6, none⟩ (.slice Ad' p.data.length cd')).cell? ⟨q, 1, none⟩ = some (.int .i64 p.id) ∧ (((((((w5.setCell ⟨gk, sn * 7, none⟩ (.int .i64 sn)).setCell ⟨gk, sn * 7 + 1, none⟩ (.int .i64 p.id)).setCell ⟨gk, sn * 7 + 2, none⟩ (.int .i64 p.err)).setCell ⟨gk, sn * 7 + 3, none⟩ (.int .i64 p.num)).setCell ⟨gk, sn * 7 + 4, none⟩ (.string p.text)).setCell ⟨gk, sn * 7 + 5, none⟩ (.slice Al' p.list.length cl')).setCell ⟨gk, sn * 7 + 6, none⟩ (.slice Ad' p.data.length cd')).cell? ⟨q, 2, none⟩ = some (.int .i64 p.err) ∧ (((((((w5.setCell ⟨gk, sn * 7, none⟩ (.int .i64 sn)).setCell ⟨gk, sn * 7 + 1, none⟩ (.int .i64 p.id)).setCell ⟨gk, sn * 7 + 2, none⟩ (.int .i64 p.err)).setCell ⟨gk, sn * 7 + 3, none⟩ (.int .i64 p.num)).setCell ⟨gk, sn * 7 + 4, none⟩ (.string p.text)).setCell ⟨gk, sn * 7 + 5, none⟩ (.slice Al' p.list.length cl')).setCell ⟨gk, sn * 7 + 6, none⟩ (.slice Ad' p.data.length cd')).cell? ⟨q, 3, none⟩ = some (.int .i64 p.num) ∧ (((((((w5.setCell ⟨gk, sn * 7, none⟩ (.int .i64 sn)).setCell ⟨gk, sn * 7 + 1, none⟩ (.int .i64 p.id)).setCell ⟨gk, sn * 7 + 2, none⟩ (.int .i64 p.err)).setCell ⟨gk, sn * 7 + 3, none⟩ (.int .i64 p.num)).setCell ⟨gk, sn * 7 + 4, none⟩ (.string p.text)).setCell ⟨gk, sn * 7 + 5, none⟩ (.slice Al' p.list.length cl')).setCell ⟨gk, sn * 7 + 6, none⟩ (.slice Ad' p.data.length cd')).cell? ⟨q, 4, none⟩ = some (.string p.text) ∧ (((((((w5.setCell ⟨gk, sn * 7, none⟩ (.int .i64 sn)).setCell ⟨gk, sn * 7 + 1, none⟩ (.int .i64 p.id)).setCell ⟨gk, sn * 7 + 2, none⟩ (.int .i64 p.err)).setCell ⟨gk, sn * 7 + 3, none⟩ (.int .i64 p.num)).setCell ⟨gk, sn * 7 + 4, none⟩ (.string p.text)).setCell ⟨gk, sn * 7 + 5, none⟩ (.slice Al' p.list.length cl')).setCell ⟨gk, sn * 7 + 6, none⟩ (.slice Ad' p.data.length cd')).cell? ⟨q, 5, none⟩ = some (.slice Al p.list.length cl) ∧ (((((((w5.setCell ⟨gk, sn * 7, none⟩ (.int .i64 sn)).setCell ⟨gk, sn * 7 + 1, none⟩ (.int .i64 p.id)).setCell ⟨gk, sn * 7 + 2, none⟩ (.int .i64 p.err)).setCell ⟨gk, sn * 7 + 3, none⟩ (.int .i64 p.num)).setCell ⟨gk, sn * 7 + 4, none⟩ (.string p.text)).setCell ⟨gk, sn * 7 + 5, none⟩ (.slice Al' p.list.length cl')).setCell ⟨gk, sn * 7 + 6, none⟩ (.slice Ad' p.data.length cd')).cell? ⟨q, 6, none⟩ = some (.slice Ad p.data.length cd)) := ⟨hQ7.cell 0, hQ7.cell 1, hQ7.cell 2, hQ7.cell 3, hQ7.cell 4, hQ7.cell 5, hQ7.cell 6⟩)))
          obtain ⟨w7, hw7⟩ : ∃ w7, w7 = (((((((w5.setCell ⟨gk, sn * 7, none⟩ (.int .i64 sn)).setCell ⟨gk, sn * 7 + 1, none⟩ (.int .i64 p.id)).setCell ⟨gk, sn * 7 + 2, none⟩ (.int .i64 p.err)).setCell ⟨gk, sn * 7 + 3, none⟩ (.int .i64 p.num)).setCell ⟨gk, sn * 7 + 4, none⟩ (.string p.text)).setCell ⟨gk, sn * 7 + 5, none⟩ (.slice Al' p.list.length cl')).setCell ⟨gk, sn * 7 + 6, none⟩ (.slice Ad' p.data.length cd')) := ⟨_, rfl⟩
          have hk23 : Keeps Non w w3 := hK2.drew.then hK3 (fun i hi e => by unfold Only at e; have := HB.out; omega)
          have hzz := hk23.size
          have hgkB : B ≤ gk := hT3.lowk
          have hT7 : TabD w7 B (fun k => B ≤ k) B gk (upd K sn p) 0 0 0 := by
            rw [hw7]
            exact (hT3.non hK5).put hcb5 hKa (by rw [HSN.out]; exact hBa) hsn9 (hRo.mono (Nat.zero_le _)) HRB.out (fun k hk => hk) (fun k hk => by have := (World.ownsRow.lt hRo.1 k hk).1; have := HB.out; omega) (fun k hk => by have := (World.ownsRow.lt hRo.2 k hk).1; have := HB.out; omega)
          have hk7 : Keeps Non w w7 := by
            rw [hw7]
            exact (hk23.trans hK5).then hKa fun i hi e => by unfold Only at e; have := HB.out; omega
          have HLB2 : Hid (loadB sn (rs.drop (k + 1)) = loadB 0 rs) := by
            show _ = _
            rw [← HLB.out, HDR.out]
            have e1 : decide (la < (sn : Int)) = true := by rw [decide_eq_true_eq]; assumption
            simp only [loadB, HSN.out, HS'.out, e1, Bool.true_and]
          have HTB2 : Hid (tabF (upd K sn p) (rs.drop (k + 1)) = tabF (fun _ => Rp.none) rs) := by
            show _ = _
            rw [← HTB.out, HDR.out]
            show _ = tabF (upd K p.ses.toNat p) _
            rw [HSN.out]
            rfl
          rw [← hw7]
          clear sa0 fa0 sa1 fa1 sa2 fa2 sa3 fa3 sa4 fa4 sa5 fa5 sa6 fa6
          clear hw7 FS2 FS3 FS5 FS7 hBa hKa hcb5 hcb hRo hK5 hT3 hE3 hK3 HO HO3 HP hQ2 hQ3 hQ5 hQ7 hT2 hK2 hk23 HIS
          go_wp2_with fail
          go_roundw
          case rel => exact ⟨k + 1, sn, upd K sn p, some gk, by omega, rfl, by omega, by omega, by go_num, HLB2, HTB2, hT7.tab, hk7⟩
          case measure => simp [intOf]; omega
    · obtain rfl : k = rs.length := by omega
      rw [List.drop_length] at HLB HTB
      have FIN := Lib.hid (And.intro hT hK)
      clear hT hK
      go_wp2_with fail
      go_ret2
      refine ⟨FIN.out.2, .inl ⟨HLB.out.symm, B, ok, rfl, ?_⟩⟩
      rw [← HTB.out]
      exact FIN.out.1
end Go.Proofs.Ytmlffigfhhoihac
