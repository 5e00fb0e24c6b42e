/- SumPieces: the walk. -/
import Derived.Test.YtgpamjinkiadnaaDoorU12
import Derived.Test.YtgpamjinkiadnaaDoorU15
import Derived.Test.YtgpamjinkiadnaaDoorU18
import Derived.Deep.Cut
import Derived.Deep.CutRange
namespace Go.Proofs.YtgpamjinkiadnaaDoor
open Go.RowKit Go.Uc

theorem add8 (x : UInt8) : IntKind.u8.wrap ((x.toNat : Int) + 1) = ((x + 1).toNat : Int) := by
  rw [IntKind.wrap_u8, UInt8.toNat_add]
  have := x.toNat_lt
  show _ = (((x.toNat + 1) % 2 ^ 8 : Nat) : Int)
  omega

/-- Pieces that came in: bytes, and do they come at a copy alone? -/
def Pcs (w : World) (A : Option Addr) (ps : List (List UInt8 × Bool)) : Prop := ∀ i (h : i < ps.length), ∃ b off Ai ci, A = some ⟨b, off, none⟩ ∧ w.cell? ⟨b, off + i * 2, none⟩ = some (.slice Ai ps[i].1.length ci) ∧
  w.cell? ⟨b, off + i * 2 + 1, none⟩ = some (.bool ps[i].2) ∧ At w Ai ps[i].1 ∧ ps[i].1.length ≤ ci
def lens (ps : List (List UInt8 × Bool)) : Nat := (ps.map (·.1.length)).sum
theorem lens_drop (ps : List (List UInt8 × Bool)) (j : Nat) (h : j < ps.length) : lens (ps.drop j) = ps[j].1.length + lens (ps.drop (j + 1)) := by
  unfold lens
  rw [List.drop_eq_getElem_cons h, List.map_cons, List.sum_cons]
/-- What stands at a round's beginning. -/
def St (w wr : World) (r qb : Nat) (al th : Value) (AL TH : List UInt8) : Prop :=
  RnB wr r (rn0.add AL) ∧ RnB wr qb (rn0.add TH) ∧ r < qb ∧ OwnB wr (r + 1) 5 al AL ∧ OwnB wr (r + 1) 5 th TH ∧ (∀ k, al.ownBlock = some k → k ≠ qb) ∧ (∀ k, th.ownBlock = some k → k ≠ qb) ∧
  (∀ k, al.ownBlock = some k → th.ownBlock ≠ some k) ∧ Keeps Non w wr

theorem St.non {w wr w' : World} {r qb : Nat} {al th : Value} {AL TH : List UInt8} (h : St w wr r qb al th AL TH) (hk : Keeps Non wr w') : St w w' r qb al th AL TH := by
  obtain ⟨hR, hQ, hrq, hOa, hOt, ha1, ht1, hat, hK⟩ := h
  exact ⟨Blk.non hR hk, Blk.non hQ hk, hrq, hOa.non hk, hOt.non hk, ha1, ht1, hat, hK.non hk⟩
theorem value_lit (g : Nat) (L : List UInt8) (S : Sum4) (hS : S = sumF L) (W : World) (h : RnB W g (rn0.add L)) :
    Calls Tryd.prog 16 #[.pointer (some ⟨g, 0, none⟩)] W fun e w' => e = .returned (.agg #[.int .u64 (v64 S.a), .int .u64 (v64 S.b), .int .u64 (v64 S.c), .int .u64 (v64 S.d)]) ∧ Keeps Non W w' := by
  refine (value_any g _ (Rn.add_lt L rn0 (by decide)) W h).mono ?_
  rintro e w' ⟨rfl, hk⟩
  refine ⟨?_, hk⟩
  rw [show (rn0.add L).value = sumF L from rfl, ← hS]
  rfl
theorem fletcher_lit (B : Nat) (A : Option Addr) (n c : Nat) (L : List UInt8) (hL : L.length ≤ 1048576) (S : Sum4) (hS : S = sumF L) (W : World) (h : OwnB W B 5 (.slice A n c) L) :
    Calls Tryd.prog 18 #[.slice A n c] W fun e w' => e = .returned (.agg #[.int .u64 (v64 S.a), .int .u64 (v64 S.b), .int .u64 (v64 S.c), .int .u64 (v64 S.d)]) ∧ Keeps Non W w' := by
  obtain ⟨A6, c6, e1, hc6, hA6, -⟩ := h.open
  injection e1 with e1 e3 e2
  subst e1 e2 e3
  refine (fletcher_any A c L W hA6 hc6 (by omega)).mono ?_
  rintro e w' ⟨rfl, hk⟩
  refine ⟨?_, hk⟩
  rw [← hS]
  rfl

set_option maxRecDepth 100000 in
set_option maxHeartbeats 2000000 in
theorem sumPieces_any (A0 : Option Addr) (c0 : Nat) (ps : List (List UInt8 × Bool)) (w : World) (hP : Pcs w A0 ps) (hc : ps.length ≤ c0) (hn : ps.length ≤ 1048576) (hl : lens ps ≤ 1048576) (hG : Good w) :
    Calls Tryd.prog 6 #[.slice A0 ps.length c0] w fun e w' => e = .returned (.bool true) ∧ Keeps Non w w' := by
  have HP := Lib.hid hP
  clear hP
  go_enter Tryd.func6, Tryd.ntmps6
  go_wp2_with fail
  refine (awake_any w hG).mono ?_
  rintro e w1 ⟨rfl, hK1⟩
  go_wp2_with fail
  refine (new_any w1).mono ?_
  rintro e w2 ⟨rfl, hR2, hK⟩
  have hK2 := hK1.non hK
  have hrw : w.heap.size ≤ w1.heap.size := hK1.size
  obtain ⟨r, hr⟩ : ∃ r, r = w1.heap.size := ⟨_, rfl⟩
  rw [← hr] at hR2 hrw ⊢
  clear hr hK hK1
  go_wp2_with fail
  refine (clone_any r _ w2 hR2).mono ?_
  rintro e w3 ⟨rfl, hQ3, hK⟩
  have hR3 : RnB w3 r rn0 := Blk.non hR2 hK
  have hK3 := hK2.non hK
  have hrq := Blk.lt hR2
  obtain ⟨qb, hqb⟩ : ∃ qb, qb = w2.heap.size := ⟨_, rfl⟩
  rw [← hqb] at hQ3 hrq ⊢
  clear hqb hK hK2 hR2
  have hSt : St w w3 r qb (.slice none 0 0) (.slice none 0 0) [] [] := ⟨hR3, hQ3, hrq, OwnB.nil _ _ _, OwnB.nil _ _ _, fun k e => by simp [Value.ownBlock] at e, fun k e => by simp [Value.ownBlock] at e, fun k e => by simp [Value.ownBlock] at e, hK3⟩
  clear hR3 hQ3 hrq hK3
  go_wp2_with fail
  go_loopw [5, 6, 7, 8] (fun q al th i wr => ∃ (j qb : Nat) (AL TH : List UInt8), j ≤ ps.length ∧ i = .int .i64 j ∧ q = .pointer (some ⟨qb, 0, none⟩) ∧ St w wr r qb al th AL TH ∧ AL.length + lens (ps.drop j) ≤ 1048576 ∧ TH.length ≤ 1048576) (fun _ _ _ i _ => ps.length - (intOf i).toNat)
  case atStart => exact ⟨0, qb, [], [], by omega, rfl, rfl, hSt, by simpa using hl, by simp⟩
  case round =>
    clear hSt
    obtain ⟨j, qb, AL, TH, hj, rfl, rfl, ⟨hR, hQ, hrq, hOa, hOt, ha1, ht1, hat, hK⟩, hlen, hlt2⟩ := hrel
    obtain ⟨Aa, ca, rfl, hca, hAa, hab⟩ := id hOa.open
    obtain ⟨Ah, ch, rfl, hch, hAh, -⟩ := id hOt.open
    by_cases hlt : j < ps.length
    · obtain ⟨b, off, Ai, ci, rfl, cl0, cl1, hAi, hci⟩ := HP.out j hlt
      have hpl := lens_drop ps j hlt
      obtain ⟨bs, hbs⟩ : ∃ bs, bs = ps[j].1 := ⟨_, rfl⟩
      obtain ⟨cp, hcp⟩ : ∃ cp, cp = ps[j].2 := ⟨_, rfl⟩
      rw [← hbs] at cl0 hAi hci hpl
      rw [← hcp] at cl1
      clear hbs hcp
      have HC := Lib.hid (And.intro cl0 (And.intro cl1 hAi))
      clear cl0 cl1 hAi
      have hbl : bs.length ≤ 1048576 := by omega
      have j0 : (0 : Int) ≤ (j : Int) := by omega
      have j1 : (j : Int) < (ps.length : Int) := by omega
      have j2 : ((j : Int)).toNat = j := by omega
      obtain ⟨w4, rfl⟩ : ∃ W : World, W = wr := ⟨_, rfl⟩
      have hGr := hG.non hK
      cases cp with
      | true =>
        have q1 := hK.cell HC.out.2.1 id
        go_wp2_with fail
        refine (clone_any r _ w4 hR).mono ?_
        rintro e w5 ⟨rfl, hQ5, hK5⟩
        have hR5 : RnB w5 r (rn0.add AL) := Blk.non hR hK5
        have hOa5 := hOa.non hK5
        have hKw5 := hK.non hK5
        have hrx := Blk.lt hR
        have hax := fun k e => hOa.old k e
        have hwx := hK.size
        obtain ⟨qx, hqx⟩ : ∃ q, q = w4.heap.size := ⟨_, rfl⟩
        rw [← hqx] at hQ5 hrx hax hwx ⊢
        clear hqx hQ hOt hrq ha1 ht1 hat hK hGr hAh hch q1 hR hOa
        have q1 := hKw5.cell HC.out.1 id
        go_wp2_with fail
        clear q1
        have hAi5 := HC.out.2.2.non hKw5
        have hbw : 0 < bs.length → ∀ ad, Ai = some ad → ad.block < w.heap.size := fun hp ad e => by
          obtain ⟨ad', e', h'⟩ := HC.out.2.2.lt hp
          rw [e] at e'; injection e' with e'; subst e'; exact h'
        have HAdd := add_any qx (rn0.add AL) (Rn.add_lt AL rn0 (by decide)) Ai ci bs w5 hQ5 hAi5 hci (by omega) (fun hp ad e => by have := hbw hp ad e; omega)
        rw [Rn.add_append] at HAdd
        refine HAdd.mono ?_
        clear HAdd
        rintro e w6 ⟨rfl, hQ6, hK6⟩
        have hR6 : RnB w6 r (rn0.add AL) := Blk.one hR5 hK6 (by omega)
        have hOa6 : OwnB w6 (r + 1) 5 (.slice Aa AL.length ca) AL := hOa5.keep hK6 (fun k e => by show ¬ k = qx; have := hax k e; omega)
        have hAa6 : At w6 Aa AL := (hAa.non hK5).keep hK6 (fun ad e => by show ¬ ad.block = qx; have := hax ad.block (hab ad e).2.2; omega)
        have hKw6 : Keeps Non w w6 := hKw5.then hK6 (fun i hi e => absurd e (by show ¬ i = qx; omega))
        have hqs := Blk.lt hQ6
        clear hQ5 hR5 hOa5 hK5 hK6 hKw5 hAi5 hAa hab
        have hAi6 := HC.out.2.2.non hKw6
        go_wp2_with (first
          | (at_builtin; refine wpList_append_bytes rfl (.const (.slice none 0 0)) (.tmp 46) 22 rfl w6.heap.size 5 Tryd.underlying22 info5 (.slice none 0 0) [] rfl (OwnB.nil _ _ _) Aa AL.length ca AL rfl rfl hAa6 (by simp; omega) (Nat.le_refl _) ?_; intro v1 w7 hO7 hK7 hat7; rw [List.nil_append] at hO7; have hK7n : Keeps Non w6 w7 := hK7.mono (fun k e => by simp [Owned, Value.ownBlock] at e); clear hK7 hat7; have q2 := (hKw6.non hK7n).cell HC.out.1 id)
          | (at_builtin; go_must (refine wpList_append_bytes rfl (.tmp 48) (.tmp 53) 22 rfl w6.heap.size 5 Tryd.underlying22 info5 v1 AL rfl hO7 Ai bs.length ci bs rfl rfl (hAi6.non hK7n) (by omega) hK7n.size ?_); intro v2 w8 hO8 hK8 hat8; obtain ⟨TX, hTX⟩ : ∃ X, X = AL ++ bs := ⟨_, rfl⟩; rw [← hTX] at hO8 hQ6; have htl : TX.length ≤ 1048576 := (by rw [hTX, List.length_append]; omega); clear hTX; obtain ⟨Ax, cx, rfl, hcx, hAx, hbx⟩ := id hO8.open))
        clear q2
        have hSx : St w w8 r qx (.slice Aa AL.length ca) (.slice Ax TX.length cx) AL TX :=
          ⟨(Blk.non hR6 hK7n).keep hK8 (fun e => by have := hO7.new _ e; omega), (Blk.non hQ6 hK7n).keep hK8 (fun e => by have := hO7.new _ e; omega), hrx,
            (hOa6.non hK7n).keep hK8 (fun k e e' => by have := hO7.new k e'; have := hOa6.old k e; omega), hO8.mono (by omega), fun k e => by have := hax k e; omega, fun k e => by have := hO8.new k e; omega,
            fun k e e' => by have := hO8.new k e'; have := hax k e; omega, (hKw6.non hK7n).then hK8 (fun i hi e => by have := hO7.new i e; omega)⟩
        have hxl : AL.length + lens (ps.drop (j + 1)) ≤ 1048576 := by omega
        clear hR6 hQ6 hO7 hO8 hK8 hat8 hOa6 hK7n hKw6 hAi6 hAa6 hax hqs hbw hcx hAx hbx
        obtain ⟨S, hS⟩ : ∃ S, S = sumF AL := ⟨_, rfl⟩
        obtain ⟨T, hT⟩ : ∃ T, T = sumF TX := ⟨_, rfl⟩
        have CV : Hid (∀ W, RnB W r (rn0.add AL) → Calls Tryd.prog 16 #[.pointer (some ⟨r, 0, none⟩)] W fun e w' => e = .returned (.agg #[.int .u64 (v64 S.a), .int .u64 (v64 S.b), .int .u64 (v64 S.c), .int .u64 (v64 S.d)]) ∧ Keeps Non W w') := fun W h => value_lit r AL S hS W h
        have CW : Hid (∀ W, RnB W qx (rn0.add TX) → Calls Tryd.prog 16 #[.pointer (some ⟨qx, 0, none⟩)] W fun e w' => e = .returned (.agg #[.int .u64 (v64 T.a), .int .u64 (v64 T.b), .int .u64 (v64 T.c), .int .u64 (v64 T.d)]) ∧ Keeps Non W w') := fun W h => value_lit qx TX T hT W h
        have CF : Hid (∀ W A n c, OwnB W (r + 1) 5 (.slice A n c) AL → Calls Tryd.prog 18 #[.slice A n c] W fun e w' => e = .returned (.agg #[.int .u64 (v64 S.a), .int .u64 (v64 S.b), .int .u64 (v64 S.c), .int .u64 (v64 S.d)]) ∧ Keeps Non W w') := fun W A n c h => fletcher_lit (r + 1) A n c AL (by omega) S hS W h
        have CG : Hid (∀ W A n c, OwnB W (r + 1) 5 (.slice A n c) TX → Calls Tryd.prog 18 #[.slice A n c] W fun e w' => e = .returned (.agg #[.int .u64 (v64 T.a), .int .u64 (v64 T.b), .int .u64 (v64 T.c), .int .u64 (v64 T.d)]) ∧ Keeps Non W w') := fun W A n c h => fletcher_lit (r + 1) A n c TX (by omega) T hT W h
        clear hS hT
        obtain ⟨SA, SB, SC, SD⟩ := S
        obtain ⟨TA, TB, TC, TD⟩ := T
        refine (CV.out _ hSx.1).mono ?_
        rintro e w21 ⟨rfl, hK⟩
        replace hSx := hSx.non hK
        clear hK
        go_wp2_with fail
        refine (CF.out w21 _ _ _ hSx.2.2.2.1).mono ?_
        rintro e w22 ⟨rfl, hK⟩
        replace hSx := hSx.non hK
        clear hK
        go_wp2_with fail
        refine (CW.out _ hSx.2.1).mono ?_
        rintro e w23 ⟨rfl, hK⟩
        replace hSx := hSx.non hK
        clear hK
        go_wp2_with fail
        refine (CG.out w23 _ _ _ hSx.2.2.2.2.1).mono ?_
        rintro e w24 ⟨rfl, hK⟩
        replace hSx := hSx.non hK
        clear hK
        go_wp2_with fail
        go_roundw
        case rel => exact ⟨j + 1, qx, AL, TX, by omega, by go_num, rfl, hSx, hxl, htl⟩
        case measure => simp [intOf]; omega
      | false =>
        have q1 := hK.cell HC.out.2.1 id
        have q0 := hK.cell HC.out.1 id
        go_wp2_with fail
        clear q0 q1
        have hax := fun k e => hOa.old k e
        have htx := fun k e => hOt.old k e
        have hqx := Blk.lt hQ
        have hwx := hK.size
        have hS4 : St w w4 r qb (.slice Aa AL.length ca) (.slice Ah TH.length ch) AL TH := ⟨hR, hQ, hrq, hOa, hOt, ha1, ht1, hat, hK⟩
        refine (lent_any Ai ci bs w4 (HC.out.2.2.non hK) (by omega)).mono ?_
        clear hR hQ hrq hOa hOt ha1 ht1 hat hK hAh hGr
        rintro e w5 ⟨g, cap, rfl, hO5, hcap, hK⟩
        replace hS4 := hS4.non hK
        have hgs := hO5.new g rfl
        obtain ⟨B, hB⟩ : ∃ B, B = w4.heap.size := ⟨_, rfl⟩
        rw [← hB] at hO5 hax htx hqx hwx hgs
        clear hB hK hAa hab
        go_wp2_with fail
        obtain ⟨hR, hQ, hrq, hOa, hOt, ha1, ht1, hat, hK⟩ := hS4
        have hAg : At w5 (some ⟨g, 0, none⟩) bs := by
          obtain ⟨A1, d1, e1, -, hA1, -⟩ := hO5.open
          injection e1 with e1 _ _
          subst e1
          have := hA1.take bs.length
          rw [List.take_left' rfl] at this
          exact this
        have HAdd := add_any r (rn0.add AL) (Rn.add_lt AL rn0 (by decide)) (some ⟨g, 0, none⟩) cap bs w5 hR hAg (by omega) (by omega) (fun hp ad e => by injection e with e; subst e; show g ≠ r; omega)
        rw [Rn.add_append] at HAdd
        refine HAdd.mono ?_
        clear HAdd hAg
        rintro e w6 ⟨rfl, hR6, hK6⟩
        have hQ6 : RnB w6 qb (rn0.add TH) := Blk.one hQ hK6 (by omega)
        have hOa6 : OwnB w6 (r + 1) 5 (.slice Aa AL.length ca) AL := hOa.keep hK6 (fun k e => by show ¬ k = r; have := hOa.new k e; omega)
        have hOt6 : OwnB w6 (r + 1) 5 (.slice Ah TH.length ch) TH := hOt.keep hK6 (fun k e => by show ¬ k = r; have := hOt.new k e; omega)
        have hO6 : OwnB w6 B 5 (.slice (some ⟨g, 0, none⟩) (bs.length + 2) cap) (bs ++ [77, 78]) := hO5.keep hK6 (fun k e => by show ¬ k = r; have := hO5.new k e; omega)
        have hKw6 : Keeps Non w w6 := hK.then hK6 (fun i hi e => absurd e (by show ¬ i = r; omega))
        clear hR hQ hOa hOt hK hK6 hO5
        have q0 := hKw6.cell HC.out.1 id
        go_wp2_with fail
        clear q0
        refine (still_any Ai ci g cap B bs w6 (HC.out.2.2.non hKw6) hO6 hcap hci (by omega)).mono ?_
        rintro e w7 ⟨rfl, hK⟩
        have hR7 : RnB w7 r (rn0.add (AL ++ bs)) := Blk.non hR6 hK
        have hQ7 : RnB w7 qb (rn0.add TH) := Blk.non hQ6 hK
        have hOa7 := hOa6.non hK
        have hOt7 := hOt6.non hK
        have hO7 := hO6.non hK
        have hKw7 := hKw6.non hK
        clear hR6 hQ6 hOa6 hOt6 hO6 hKw6 hK
        go_wp2_with fail
        go_loopw [11] (fun k wr => ∃ (m : Nat) (ys : List UInt8), m ≤ bs.length ∧ k = .int .i64 m ∧ ys.length = bs.length + 2 ∧ OwnB wr B 5 (.slice (some ⟨g, 0, none⟩) (bs.length + 2) cap) ys ∧ Keeps (Only g) w7 wr) (fun k _ => bs.length - (intOf k).toNat)
        case atStart => exact ⟨0, _, by omega, rfl, by simp, hO7, Keeps.refl _ _⟩
        case round =>
          obtain ⟨m, ys, hm, rfl, hyl, hOr, hKr⟩ := hrel
          by_cases hlm : m < bs.length
          · have m0 : (0 : Int) ≤ (m : Int) := by omega
            have m1 : (m : Int) < (bs.length : Int) := by omega
            have m2 : ((m : Int)).toNat = m := by omega
            obtain ⟨yv, hyv⟩ : ∃ y, y = ys[m] := ⟨_, rfl⟩
            obtain ⟨g', cap', cur, e1, h2, h3, h4, h5, h6, h7⟩ := row_form (show wr.ownsRow B 5 1 (.slice (some ⟨g, 0, none⟩) (bs.length + 2) cap) ys.length (ys.map bv) from hOr) (by omega)
            injection e1 with e1 e3 e2
            injection e1 with e1
            injection e1 with e1
            subst e1 e2
            have hcm : wr.cell? ⟨g, m, none⟩ = some (.int .u8 (yv.toNat : Int)) := by
              rw [h3.cell, hyv]
              have e1 : (cur.toList.take ys.length)[m]? = some (bv ys[m]) := by rw [show cur.toList.take ys.length = ys.map bv by simpa using h7]; simp [show m < ys.length by omega]
              rw [List.getElem?_take, if_pos (by omega)] at e1
              simpa [bv] using e1
            have hf := h3.frozen m
            have hx8 := add8 yv
            have hOn : OwnB (wr.setCell ⟨g, m, none⟩ (.int .u8 ((yv + 1).toNat : Int))) B 5 (.slice (some ⟨g, 0, none⟩) (bs.length + 2) cap) (ys.set m (yv + 1)) := by
              have := row_set (show wr.ownsRow B 5 1 (.slice (some ⟨g, 0, none⟩) ys.length cap) ys.length (ys.map bv) from by have := hOr; rw [← hyl] at this; exact this) (by omega : m < ys.length) (bv (yv + 1))
              rw [← hyl]
              show World.ownsRow _ _ _ _ _ (ys.set m (yv + 1)).length ((ys.set m (yv + 1)).map bv)
              rw [List.map_set, List.length_set]
              exact this
            have hKn := hKr.set (p := ⟨g, m, none⟩) (show Only g g from rfl) (.int .u8 ((yv + 1).toNat : Int))
            clear h7 h6 h5 h4 h3 hyv hOr hKr e3
            obtain ⟨wx, rfl⟩ : ∃ W : World, W = wr := ⟨_, rfl⟩
            go_wp2_with fail
            go_roundw
            case rel => exact ⟨m + 1, _, by omega, by go_num, by rw [List.length_set]; exact hyl, hOn, hKn⟩
            case measure => simp [intOf]; omega
          · obtain rfl : m = bs.length := by omega
            have hRr : RnB wr r (rn0.add (AL ++ bs)) := Blk.one hR7 hKr (by omega)
            have hQr : RnB wr qb (rn0.add TH) := Blk.one hQ7 hKr (by omega)
            have hOar : OwnB wr (r + 1) 5 (.slice Aa AL.length ca) AL := hOa7.keep hKr (fun k e => by show ¬ k = g; have := hax k e; omega)
            have hOtr : OwnB wr (r + 1) 5 (.slice Ah TH.length ch) TH := hOt7.keep hKr (fun k e => by show ¬ k = g; have := htx k e; omega)
            have hKwr : Keeps Non w wr := hKw7.then hKr (fun i hi e => absurd e (by show ¬ i = g; omega))
            have hqr := Blk.lt hQr
            clear hR7 hQ7 hOa7 hOt7 hKw7 hOr hKr hO7 hyl
            have q0 := hKwr.cell HC.out.1 id
            have hAir := HC.out.2.2.non hKwr
            obtain ⟨wy, rfl⟩ : ∃ W : World, W = wr := ⟨_, rfl⟩
            go_wp2_with (at_builtin; go_must (refine wpList_append_bytes rfl (.tmp 87) (.tmp 92) 22 rfl (r + 1) 5 Tryd.underlying22 info5 (.slice Aa AL.length ca) AL rfl hOar Ai bs.length ci bs rfl rfl hAir (by omega) (by omega) ?_); intro v2 w8 hO8 hK8 hat8; obtain ⟨AX, hAX⟩ : ∃ X, X = AL ++ bs := ⟨_, rfl⟩; rw [← hAX] at hO8 hRr; have hxl : AX.length + lens (ps.drop (j + 1)) ≤ 1048576 := (by rw [hAX, List.length_append]; omega); clear hAX; have hown : ∀ k, v2.ownBlock = some k → (Value.slice Aa AL.length ca).ownBlock = some k ∨ k = wy.heap.size := (fun k e => by rcases hat8 with h | h; (left; rw [← h]; exact e); (right; rw [h] at e; injection e with e; exact e.symm)); have hSx : St w w8 r qb v2 (.slice Ah TH.length ch) AX TH := ⟨Blk.keep hRr hK8 (fun e => by have := hOar.new _ e; omega), Blk.keep hQr hK8 (fun e => ha1 _ e rfl), hrq, hO8, hOtr.keep hK8 (fun k e e' => hat k e' e), (fun k e => by rcases hown k e with h | h; (exact ha1 k h); omega), ht1, (fun k e e' => by rcases hown k e with h | h; (exact hat k h e'); (have := hOtr.old k e'; omega)), hKwr.then hK8 (fun i hi e => by have := hOar.new i e; omega)⟩; clear hRr hQr hOar hOtr hKwr hK8 hat8 hown hAir; obtain ⟨Ax, cx, rfl, hcx, hAx, hbx⟩ := id hO8.open)
            clear q0 hO8 hAx hbx hcx hax htx hqx ha1 ht1 hat
            have htl := hlt2
            obtain ⟨S, hS⟩ : ∃ S, S = sumF AX := ⟨_, rfl⟩
            obtain ⟨T, hT⟩ : ∃ T, T = sumF TH := ⟨_, rfl⟩
            have CV : Hid (∀ W, RnB W r (rn0.add AX) → Calls Tryd.prog 16 #[.pointer (some ⟨r, 0, none⟩)] W fun e w' => e = .returned (.agg #[.int .u64 (v64 S.a), .int .u64 (v64 S.b), .int .u64 (v64 S.c), .int .u64 (v64 S.d)]) ∧ Keeps Non W w') := fun W h => value_lit r AX S hS W h
            have CW : Hid (∀ W, RnB W qb (rn0.add TH) → Calls Tryd.prog 16 #[.pointer (some ⟨qb, 0, none⟩)] W fun e w' => e = .returned (.agg #[.int .u64 (v64 T.a), .int .u64 (v64 T.b), .int .u64 (v64 T.c), .int .u64 (v64 T.d)]) ∧ Keeps Non W w') := fun W h => value_lit qb TH T hT W h
            have CF : Hid (∀ W A n c, OwnB W (r + 1) 5 (.slice A n c) AX → Calls Tryd.prog 18 #[.slice A n c] W fun e w' => e = .returned (.agg #[.int .u64 (v64 S.a), .int .u64 (v64 S.b), .int .u64 (v64 S.c), .int .u64 (v64 S.d)]) ∧ Keeps Non W w') := fun W A n c h => fletcher_lit (r + 1) A n c AX (by omega) S hS W h
            have CG : Hid (∀ W A n c, OwnB W (r + 1) 5 (.slice A n c) TH → Calls Tryd.prog 18 #[.slice A n c] W fun e w' => e = .returned (.agg #[.int .u64 (v64 T.a), .int .u64 (v64 T.b), .int .u64 (v64 T.c), .int .u64 (v64 T.d)]) ∧ Keeps Non W w') := fun W A n c h => fletcher_lit (r + 1) A n c TH (by omega) T hT W h
            clear hS hT
            obtain ⟨SA, SB, SC, SD⟩ := S
            obtain ⟨TA, TB, TC, TD⟩ := T
            refine (CV.out _ hSx.1).mono ?_
            rintro e w21 ⟨rfl, hK⟩
            replace hSx := hSx.non hK
            clear hK
            go_wp2_with fail
            refine (CF.out w21 _ _ _ hSx.2.2.2.1).mono ?_
            rintro e w22 ⟨rfl, hK⟩
            replace hSx := hSx.non hK
            clear hK
            go_wp2_with fail
            refine (CW.out _ hSx.2.1).mono ?_
            rintro e w23 ⟨rfl, hK⟩
            replace hSx := hSx.non hK
            clear hK
            go_wp2_with fail
            refine (CG.out w23 _ _ _ hSx.2.2.2.2.1).mono ?_
            rintro e w24 ⟨rfl, hK⟩
            replace hSx := hSx.non hK
            clear hK
            go_wp2_with fail
            go_roundw
            case rel => exact ⟨j + 1, qb, AX, TH, by omega, by go_num, rfl, hSx, hxl, htl⟩
            case measure => simp [intOf]; omega
    · obtain rfl : j = ps.length := by omega
      have hxl : AL.length ≤ 1048576 := by omega
      have hSx : St w wr r qb (.slice Aa AL.length ca) (.slice Ah TH.length ch) AL TH := ⟨hR, hQ, hrq, hOa, hOt, ha1, ht1, hat, hK⟩
      clear hR hQ hrq hOa hOt ha1 ht1 hat hK hAa hAh hab
      obtain ⟨S, hS⟩ : ∃ S, S = sumF AL := ⟨_, rfl⟩
      have CV := Lib.hid fun W h => value_lit r AL S hS W h
      have CF := Lib.hid fun W A n c h => fletcher_lit (r + 1) A n c AL (by omega) S hS W h
      clear hS
      obtain ⟨SA, SB, SC, SD⟩ := S
      obtain ⟨wy, rfl⟩ : ∃ W : World, W = wr := ⟨_, rfl⟩
      go_wp2_with fail
      refine (CV.out _ hSx.1).mono ?_
      rintro e w21 ⟨rfl, hK⟩
      replace hSx := hSx.non hK
      clear hK
      go_wp2_with fail
      refine (CF.out w21 _ _ _ hSx.2.2.2.1).mono ?_
      rintro e w22 ⟨rfl, hK⟩
      replace hSx := hSx.non hK
      clear hK
      go_wp2_with fail
      go_ret
      exact ⟨rfl, hSx.2.2.2.2.2.2.2.2⟩
#print axioms sumPieces_any
end Go.Proofs.YtgpamjinkiadnaaDoor
