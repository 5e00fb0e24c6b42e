/- The document's Open, the main way. -/
import Derived.Test.YtmlffigfhhoihabV22
namespace Go.Proofs.Ytmlffigfhhoihab
open Go.RowKit Go.Uc

set_option maxRecDepth 100000 in
set_option maxHeartbeats 4000000 in
theorem refOpen_main (c : Nat) (A : Option Addr) (cs : List Cel) (w : World) (hA : Cels w A cs) (hn : cs.length ≤ c) (hm : MayP cs) (h0 : 0 < cs.length) (h2 : cs[0].data.length = 4) :
    Calls Try.prog 20 #[.slice A cs.length c] w (OpenRf cs w) := by
  have HA := Lib.hid hA
  have hmb := mayB_yes hm
  have HMB := Lib.hid hmb
  have hn240 := hm.2
  have HM := Lib.hid hm
  have h0b : ¬ (cs.length : Int) < 1 := by omega
  obtain ⟨x, hx⟩ : ∃ x, x = cs[0] := ⟨_, rfl⟩
  rw [← hx] at h2
  obtain ⟨x0, x1, x2, x3, hxd⟩ : ∃ x0 x1 x2 x3, x.data = [x0, x1, x2, x3] := by
    match hd : x.data, h2 with
    | [a, b, c, d], _ => exact ⟨a, b, c, d, rfl⟩
  obtain ⟨N, hN⟩ : ∃ N : Nat, N = leVal x.data := ⟨_, rfl⟩
  have HX := Lib.hid hx
  have HXD := Lib.hid hxd
  have HN := Lib.hid hN
  have H2 := Lib.hid h2
  clear hA hmb hm hx hxd hN h2
  have b0 := x0.toNat_lt
  have b1 := x1.toNat_lt
  have b2 := x2.toNat_lt
  have b3 := x3.toNat_lt
  go_enter Try.func20, Try.ntmps20
  go_wp2_with (go_at_call 31; go_must (refine (content_any A c cs _ HA.out (by omega)).mono ?_); rw [HMB.out]; rintro e w1 ⟨rfl, hK1⟩; obtain ⟨b, off, Ai, ci, rfl, a1, a2, a3, a4, a5, a6⟩ := (HA.out.non hK1) 0 h0; rw [← HX.out] at a1 a2 a3 a4 a5 a6; rw [H2.out] at a4 a6; rw [HXD.out] at a5; simp only [Nat.zero_mul, Nat.add_zero] at a1 a2 a3 a4; obtain ⟨bd, od, rfl, e0⟩ := a5.at_ (k := 0) (by simp); obtain ⟨bd1, od1, ed1, e1⟩ := a5.at_ (k := 1) (by simp); obtain ⟨bd2, od2, ed2, e2⟩ := a5.at_ (k := 2) (by simp); obtain ⟨bd3, od3, ed3, e3⟩ := a5.at_ (k := 3) (by simp); injection ed1 with ed1; injection ed1 with ed11 ed12; subst ed11 ed12; injection ed2 with ed2; injection ed2 with ed21 ed22; subst ed21 ed22; injection ed3 with ed3; injection ed3 with ed31 ed32; subst ed31 ed32; simp only [Nat.add_zero, bv, List.getElem_cons_zero, List.getElem_cons_succ] at e0 e1 e2 e3)
  have n1 : IntKind.i64.wrap (x0.toNat : Int) = x0.toNat := IntWalk.i64_in _ (by omega)
  have n2 : IntKind.i64.wrap (x1.toNat : Int) = x1.toNat := IntWalk.i64_in _ (by omega)
  have n3 : IntKind.i64.wrap (x2.toNat : Int) = x2.toNat := IntWalk.i64_in _ (by omega)
  have n4 : IntKind.i64.wrap (x3.toNat : Int) = x3.toNat := IntWalk.i64_in _ (by omega)
  have n5 : IntKind.i64.wrap (256 * (x3.toNat : Int)) = 256 * (x3.toNat : Int) := IntWalk.i64_in _ (by omega)
  have n6 : IntKind.i64.wrap ((x2.toNat : Int) + 256 * (x3.toNat : Int)) = (x2.toNat : Int) + 256 * (x3.toNat : Int) := IntWalk.i64_in _ (by omega)
  have n7 : IntKind.i64.wrap (256 * ((x2.toNat : Int) + 256 * (x3.toNat : Int))) = 256 * ((x2.toNat : Int) + 256 * (x3.toNat : Int)) := IntWalk.i64_in _ (by omega)
  have n8 : IntKind.i64.wrap ((x1.toNat : Int) + 256 * ((x2.toNat : Int) + 256 * (x3.toNat : Int))) = (x1.toNat : Int) + 256 * ((x2.toNat : Int) + 256 * (x3.toNat : Int)) := IntWalk.i64_in _ (by omega)
  have n9 : IntKind.i64.wrap (256 * ((x1.toNat : Int) + 256 * ((x2.toNat : Int) + 256 * (x3.toNat : Int)))) = 256 * ((x1.toNat : Int) + 256 * ((x2.toNat : Int) + 256 * (x3.toNat : Int))) := IntWalk.i64_in _ (by omega)
  have n10 : IntKind.i64.wrap ((x0.toNat : Int) + 256 * ((x1.toNat : Int) + 256 * ((x2.toNat : Int) + 256 * (x3.toNat : Int)))) = (x0.toNat : Int) + 256 * ((x1.toNat : Int) + 256 * ((x2.toNat : Int) + 256 * (x3.toNat : Int))) := IntWalk.i64_in _ (by omega)
  clear b0 b1 b2 b3
  have hNx : leVal [x0, x1, x2, x3] = N := by rw [HN.out, HXD.out]
  have hor : (x0.toNat : Int) + 256 * ((x1.toNat : Int) + 256 * ((x2.toNat : Int) + 256 * (x3.toNat : Int))) = (N : Int) := by rw [← hNx]; simp only [leVal]; omega
  have HOR := Lib.hid hor
  clear hor hNx
  cases hz : szB (N : Int) with
  | false =>
    have HZ := Lib.hid hz
    have HNO : Hid (∀ X, ¬ AlikeV X cs) := fun X hX => by
      obtain ⟨_, _, _, d⟩ := hX.head
      rw [← HX.out, ← HN.out] at d
      have := hX.1
      rw [← d, HZ.out] at this
      cases this
    clear hz
    go_region_held3 (fun w' => w'.cell? ⟨bd, od, none⟩ = some (.int .u8 x0.toNat) ∧ w'.cell? ⟨bd, od + 1, none⟩ = some (.int .u8 x1.toNat) ∧ w'.cell? ⟨bd, od + 2, none⟩ = some (.int .u8 x2.toNat) ∧ w'.cell? ⟨bd, od + 3, none⟩ = some (.int .u8 x3.toNat)) (go_keep)
      (first | (go_at_call 16; rw [HOR.out]; refine (refNew_no (N : Int) _ HZ.out).mono ?_; rintro e w2 ⟨rfl, rfl⟩))
    go_wp2_with fail
    go_ret2
    exact OpenRf.no HNO.out hK1.drew
  | true =>
    have HZ := Lib.hid hz
    clear hz
    go_region_held3 (fun w' => w'.cell? ⟨bd, od, none⟩ = some (.int .u8 x0.toNat) ∧ w'.cell? ⟨bd, od + 1, none⟩ = some (.int .u8 x1.toNat) ∧ w'.cell? ⟨bd, od + 2, none⟩ = some (.int .u8 x2.toNat) ∧ w'.cell? ⟨bd, od + 3, none⟩ = some (.int .u8 x3.toNat))
      (first | go_keep | exact ⟨hK2.cell e0 id, hK2.cell e1 id, hK2.cell e2 id, hK2.cell e3 id⟩)
      (first | (go_at_call 16; rw [HOR.out]; refine (refNew_ok N _ HZ.out).mono ?_; rintro e w2 ⟨g, gb, rfl, hv2, hgb2, hg2, hK2⟩))
    have hzN := szB_of HZ.out
    have HND : Hid (∀ X, AlikeV X cs → X.length = N) := fun X hX => by
      obtain ⟨_, _, _, d⟩ := hX.head
      rw [← HX.out, ← HN.out] at d
      exact d.symm
    have hk2 : Keeps Non w w2 := hK1.trans (((Keeps.refl _ _).drew).trans hK2)
    have hgbw : w.heap.size ≤ gb := by have := hK1.size; simp at hgb2; omega
    have hgw : w.heap.size ≤ g := by have := hK1.size; simp at hg2; omega
    clear e0 e1 e2 e3 a1 a2 a3 a4 a5 n1 n2 n3 n4 n5 n6 n7 n8 n9 n10
    go_wp2_with fail
    go_loopw [8, 9, 10] (fun i _ _ wr => ∃ (k : Nat) (Y : List UInt8), 1 ≤ k ∧ k ≤ cs.length ∧ i = .int .i64 k ∧ VolB wr g gb 67 Y ∧ Hid (Y.length = N) ∧ Hid (∀ X, AlikeV X cs → Y = foldC (zeros N) (cs.tail.take (k - 1))) ∧ Keeps Non w wr) (fun i _ _ _ => cs.length - (intOf i).toNat)
    case atStart => exact ⟨1, zeros N, Nat.le_refl _, by omega, rfl, hv2, zeros_length N, (fun _ _ => by simp [foldC]), hk2⟩
    case round =>
      obtain ⟨k, Y, hk1, hk, rfl, hv, HYl, HYf, hK⟩ := hrel
      by_cases hlt : k < cs.length
      · have hmk := HM.out.1 k hlt hlt
        obtain ⟨hmo, -⟩ := hmk
        have htl := Lib.hid (fun X (hX : AlikeV X cs) => hX.tail k hlt hk1)
        have hfo : Hid (foldC (zeros N) (cs.tail.take k) = layC (foldC (zeros N) (cs.tail.take (k - 1))) cs[k]) := by
          show _ = _
          obtain ⟨k', rfl⟩ : ∃ k', k = k' + 1 := ⟨k - 1, by omega⟩
          have e3 : cs.tail.take (k' + 1) = cs.tail.take k' ++ [cs[k' + 1]] := by
            rw [List.take_succ_eq_append_getElem (by simp; omega)]
            simp
          rw [e3]
          unfold foldC
          rw [List.foldl_append]
          rfl
        obtain ⟨bq, oq, Bi, di, eA, q1, q2, q3, q4, q5, q6⟩ := HA.out k hlt
        injection eA with eA
        injection eA with eA1 eA2
        subst eA1 eA2
        obtain ⟨y, hy⟩ : ∃ y, y = cs[k] := ⟨_, rfl⟩
        rw [← hy] at q1 q2 q3 q4 q5 q6 hmo htl hfo
        unfold okC at hmo
        obtain ⟨o1, o2, o3, o4, o5, o6⟩ := hmo
        have hq2 : ∀ w', Keeps Non w w' → w'.cell? ⟨b, off + k * 4 + 1, none⟩ = some (.int .i64 y.at_) ∧ w'.cell? ⟨b, off + k * 4 + 3, none⟩ = some (.slice Bi y.data.length di) ∧ At w' Bi y.data := fun w' h => ⟨h.cell q2 id, h.cell q4 id, q5.non h⟩
        have HQ := Lib.hid hq2
        clear hy hq2 q1 q2 q3 q4 q5 q6
        have hgl1 := hv.1.lt
        have hgl2 := hv.2.1.lt
        go_wp2_with fail
        obtain ⟨wo, rfl⟩ : ∃ wo : World, wo = wr := ⟨_, rfl⟩
        go_loopw [9, 10] (fun j _ wi => ∃ (m : Nat) (Z : List UInt8), m ≤ y.data.length ∧ j = .int .i64 m ∧ VolB wi g gb 67 Z ∧ Hid (Z.length = N) ∧ Hid (∀ X, AlikeV X cs → Z = lay Y (y.at_.toNat * 256) (y.data.take m)) ∧ Keeps (Only gb) wo wi) (fun j _ _ => y.data.length - (intOf j).toNat)
        case atStart => exact ⟨0, Y, Nat.zero_le _, rfl, hv, HYl, (fun X _ => by rw [List.take_zero, lay_nil]), Keeps.refl _ _⟩
        case round =>
          obtain ⟨m, Z, hm, rfl, hz, HZl, HZf, hKj⟩ := hrel
          have hkw : Keeps Non w wr := hK.then hKj (fun i hi e => by unfold Only at e; omega)
          obtain ⟨p2, p4, p5⟩ := HQ.out wr hkw
          by_cases hml : m < y.data.length
          · have c0 : wr.cell? ⟨g, 0, none⟩ = some (.slice (some ⟨gb, 0, none⟩) N N) := by have := hz.1.cell 0; rw [HZl.out] at this; exact this
            by_cases hb1 : 256 * y.at_ + (m : Int) < 0
            · have HNO := Lib.hid (show ∀ X, ¬ AlikeV X cs from fun X hX => by obtain ⟨_, _, h, _⟩ := htl.out X hX; omega)
              clear hz
              go_wp2_with fail
              go_ret2
              exact OpenRf.no HNO.out hkw
            · by_cases hb2 : (N : Int) ≤ 256 * y.at_ + (m : Int)
              · have HNO := Lib.hid (show ∀ X, ¬ AlikeV X cs from fun X hX => by obtain ⟨_, h1, _, h2⟩ := htl.out X hX; rw [HND.out X hX] at h2; omega)
                clear hz
                go_wp2_with fail
                go_ret2
                exact OpenRf.no HNO.out hkw
              · obtain ⟨t, ht⟩ : ∃ t : Nat, 256 * y.at_ + (m : Int) = t := ⟨(256 * y.at_ + (m : Int)).toNat, by omega⟩
                have htN : t < N := by omega
                obtain ⟨bs, os', eBi, hcb⟩ := p5.at_ (k := m) hml
                subst eBi
                have hcb' : wr.cell? ⟨bs, os' + m, none⟩ = some (.int .u8 (y.data[m]).toNat) := hcb
                obtain ⟨v7, hv7⟩ : ∃ v7, wr.cell? ⟨gb, t, none⟩ = some v7 := ⟨_, hz.2.1.byte (i := t) (by have := HZl.out; omega)⟩
                have hf := hz.2.1.frozen t
                have hset : ∀ w', Keeps Non wr w' → VolB (w'.setCell ⟨gb, t, none⟩ (.int .u8 (y.data[m]).toNat)) g gb 67 (Z.set t y.data[m]) ∧ Keeps (Only gb) wo (w'.setCell ⟨gb, t, none⟩ (.int .u8 (y.data[m]).toNat)) := fun w' hk' => by
                  have h1 := (hz.2.1.non hk').set t (bv y.data[m])
                  rw [set_pc] at h1
                  have h2 := (hz.1.non hk').far (p := ⟨gb, t, none⟩) hz.2.2 (bv y.data[m])
                  refine ⟨⟨?_, h1, hz.2.2⟩, (hKj.trans hk'.of_non).set (p := ⟨gb, t, none⟩) rfl _⟩
                  rw [List.length_set]
                  exact h2
                have HSt := Lib.hid hset
                have HL2 : Hid ((Z.set t y.data[m]).length = N) := by show _ = _; rw [List.length_set]; exact HZl.out
                have HF2 : Hid (∀ X, AlikeV X cs → Z.set t y.data[m] = lay Y (y.at_.toNat * 256) (y.data.take (m + 1))) := fun X hX => by
                  obtain ⟨_, h1, h2, h3⟩ := htl.out X hX
                  rw [HND.out X hX] at h3
                  have hYl := HYl.out
                  rw [HZf.out X hX, show t = y.at_.toNat * 256 + m by omega, lay_step Y (y.at_.toNat * 256) m y.data hml (by omega)]
                clear hset hcb hz hKj hb1 hb2
                have g1 : ¬ (t : Int) < 0 := by omega
                have g2 : ¬ (N : Int) ≤ (t : Int) := by omega
                go_wp2_with fail
                go_still_tail 14, (by kernel_rfl)
                have hv7' : wr.drew.cell? ⟨gb, t, none⟩ = some v7 := hv7
                have hf' : wr.drew.frozen? ⟨gb, t, none⟩ = false := hf
                go_wp2_with fail
                go_roundw
                case rel => exact ⟨m + 1, _, by omega, by go_num, (HSt.out _ ((Keeps.refl _ _).drew)).1, HL2, HF2, (HSt.out _ ((Keeps.refl _ _).drew)).2⟩
                case measure => simp [intOf]; omega
          · obtain rfl : m = y.data.length := by omega
            have HF2 : Hid (∀ X, AlikeV X cs → Z = foldC (zeros N) (cs.tail.take (k + 1 - 1))) := fun X hX => by
              rw [Nat.add_sub_cancel, hfo.out, ← HYf.out X hX, HZf.out X hX, List.take_length]
              rfl
            clear hv
            go_wp2_with fail
            go_roundw
            case rel => exact ⟨k + 1, Z, by omega, by omega, by go_num, hz, HZl, HF2, hkw⟩
            case measure => simp [intOf]; omega
      · obtain rfl : k = cs.length := by omega
        have HYt : Hid (∀ X, AlikeV X cs → Y = foldC (zeros N) cs.tail) := fun X hX => by
          rw [HYf.out X hX, List.take_of_length_le (by simp)]
        have hC := refCells_any g gb Y wr hv (by rw [HYl.out]; omega) (by rw [HYl.out]; omega)
        rw [HYl.out] at hC
        have hcl := cellsTo_length Y (N / 256)
        obtain ⟨xs, hxs⟩ : ∃ xs, xs = cellsTo Y (N / 256) := ⟨_, rfl⟩
        rw [← hxs] at hC hcl
        have HXS := Lib.hid hxs
        have HC := Lib.hid hC
        clear hC hxs
        go_wp2_with fail
        refine HC.out.mono ?_
        rintro e w6 ⟨v6, rfl, hR6, hK6⟩
        obtain ⟨A6, c6, rfl, hC6, -, -⟩ := hR6.open
        have hk6 := hK.trans hK6
        have HEq := Lib.hid (fun c9 => alike_any A6 (some ⟨b, off, none⟩) c6 c9 xs cs w6 hC6 (HA.out.non hk6) (by omega) (by omega))
        have hv6 := hv.non hK6
        clear HC hR6 hC6 hK6 hv hK
        go_wp2_with fail
        refine (HEq.out _).mono ?_
        rintro e w7 ⟨r, rfl, hr, hK7⟩
        have hk7 := hk6.trans hK7
        have hv7 := hv6.non hK7
        have HR := Lib.hid hr
        clear hr HEq hv6 hk6 hK7
        cases r with
        | true =>
          go_wp2_with fail
          go_ret2
          refine ⟨hk7, .inl ⟨Y, g, gb, rfl, ⟨by rw [HYl.out]; exact HZ.out, ?_⟩, hv7, hgbw, hgw⟩⟩
          rw [HYl.out, ← HXS.out]; exact HR.out.1 trivial
        | false =>
          have hno : ∀ X, ¬ AlikeV X cs := fun X hX => by
            have hf := hX.fold
            rw [HND.out X hX, ← HYt.out X hX] at hf
            have h2 := hX.2
            rw [← hf, HYl.out, ← HXS.out] at h2
            exact Bool.noConfusion (HR.out.2 h2)
          have HNO := Lib.hid hno
          clear hno
          go_wp2_with fail
          go_ret2
          exact OpenRf.no HNO.out hk7
end Go.Proofs.Ytmlffigfhhoihab
