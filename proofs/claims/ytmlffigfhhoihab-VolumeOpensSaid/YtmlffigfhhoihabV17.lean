/- A pair of volumes: Write and Read upon both. -/
import Derived.Test.YtmlffigfhhoihabV16
namespace Go.Proofs.Ytmlffigfhhoihab
open Go.RowKit Go.Uc

set_option maxRecDepth 100000 in
set_option maxHeartbeats 8000000 in
theorem does_write (B gp gx gbx gy gby co : Nat) (X : List UInt8) (o : Opr) (Ao : Option Addr) (w : World) (hP : PairB w B gp gx gbx gy gby X) (hs : szB (X.length : Int) = true) (hk0 : I64 o.kind) (hkd : pk o.kind 5 = 0) (hA : At w Ao o.b) (hlow : ∀ ad, Ao = some ad → 0 < o.b.length → ad.block < B) (hco : o.b.length ≤ co) (h64 : o.b.length ≤ 140737488351232) :
    Calls Try.prog 30 #[.pointer (some ⟨gp, 0, none⟩), .agg #[.int .i64 o.kind, .int .i64 o.at_, .int .i64 o.many, .slice Ao o.b.length co]] w (DoneB w B gp gy gby X.length) := by
  have HKD := Lib.hid hkd
  have hN := szB_of hs
  have HS := Lib.hid hs
  unfold I64 at hk0
  clear hkd hs
  have HA := Lib.hid hA
  have HLow := Lib.hid hlow
  clear hA hlow
  go_enter Try.func30, Try.ntmps30
  go_wp2_with fail
  obtain ⟨w1, hw1⟩ : ∃ w1, w1 = w.alloc (.cells #[.int .i64 o.kind, .int .i64 o.at_, .int .i64 o.many, .slice Ao o.b.length co] 25) := ⟨_, rfl⟩
  have hk1 : Keeps Non w w1 := by rw [hw1]; exact (Keeps.refl _ _).alloc _
  have hB1 : Blk w1 w.heap.size 25 #[.int .i64 o.kind, .int .i64 o.at_, .int .i64 o.many, .slice Ao o.b.length co] := by rw [hw1]; exact Blk.new _ _ _
  rw [← hw1]
  obtain ⟨gO, hgO⟩ : ∃ q, q = w.heap.size := ⟨_, rfl⟩
  rw [← hgO] at hB1 ⊢
  have hl := hP.lts
  have hd := hP.dis
  have hlo := hP.low
  have hgo : gO ≠ gp ∧ gO ≠ gx ∧ gO ≠ gbx ∧ gO ≠ gy ∧ gO ≠ gby := by omega
  have hP1 := hP.non hk1
  have hs1 := hk1.size
  have hB1l := hB1.lt
  obtain ⟨d1, d2, d3, d4, d5, d6, d7, d8, d9, d10⟩ := hd
  clear hw1 hgO hP
  refine (pick_pk o.kind 5 _ (by omega) (by omega) hk0.1 hk0.2).mono ?_
  rw [HKD.out]
  rintro e w2 ⟨rfl, rfl⟩
  have k1 : w1.cell? ⟨gO, 1, none⟩ = some (.int .i64 o.at_) := hB1.cell 1
  have k2 : w1.cell? ⟨gO, 2, none⟩ = some (.int .i64 o.many) := hB1.cell 2
  have k3 : w1.cell? ⟨gO, 3, none⟩ = some (.slice Ao o.b.length co) := hB1.cell 3
  have c0 : w1.cell? ⟨gp, 0, none⟩ = some (.pointer (some ⟨gx, 0, none⟩)) := hP1.pb.cell 0
  have c1 : w1.cell? ⟨gp, 1, none⟩ = some (.pointer (some ⟨gy, 0, none⟩)) := hP1.pb.cell 1
  have hAw : ∀ w', Keeps (Above B) w w' → At w' Ao o.b := fun w' h => At.keep2 HA.out h (fun ad e hp => by have := HLow.out ad e hp; unfold Above; omega)
  have HAw := Lib.hid hAw
  clear hAw k2
  obtain ⟨n, hn⟩ : ∃ n, n = o.b.length := ⟨_, rfl⟩
  rw [← hn] at hco h64 k3 ⊢
  have HNL := Lib.hid hn
  clear hn
  go_wp2_with (at_builtin; go_must (refine wpList_append_bytes rfl (.tmp 29) (.tmp 31) 23 rfl w1.heap.size 5 Try.underlying23 info5 (.slice none 0 0) [] rfl (OwnB.nil _ _ _) Ao n co o.b rfl HNL.out (HAw.out _ (hk1.of_non)) (by have := HNL.out; simp; omega) (Nat.le_refl _) ?_); intro vb w2 hOb0 hKb hatb; clear hatb)
  have hOb : OwnB w2 w1.heap.size 5 vb o.b := hOb0
  have hkb : Keeps Non w1 w2 := hKb.mono fun k e => by simp [Owned, Value.ownBlock] at e
  obtain ⟨A3, c3, rfl, hc3, hA3, -⟩ := hOb.open
  rw [← HNL.out] at hc3 ⊢
  have hObn := hOb.new
  have hP2 := hP1.non hkb
  have hB2 := hB1.non hkb
  have k1' : w2.cell? ⟨gO, 1, none⟩ = some (.int .i64 o.at_) := hB2.cell 1
  have c0' : w2.cell? ⟨gp, 0, none⟩ = some (.pointer (some ⟨gx, 0, none⟩)) := hP2.pb.cell 0
  have hkw2 : Keeps Non w w2 := hk1.trans hkb
  clear hOb0 hKb hP1 hB1 k1 k3 c0 c1 hkb
  go_wp2_with fail
  go_still_tail 7, (by kernel_rfl)
  have hka : Keeps Non w2 w2.drew := (Keeps.refl _ _).drew
  have hvx := hP2.vx.non hka
  have W1 := write_all gx gbx c3 X o.b o.at_ A3 w2.drew hvx (by omega) (hA3.non hka) (by rw [← HNL.out]; exact hc3) (by rw [← HNL.out]; exact h64)
  rw [← HNL.out] at W1
  have HW1 := Lib.hid W1
  clear W1 k1' c0'
  go_wp2_with fail
  refine HW1.out.mono ?_
  rintro e w3 ⟨rfl, hx3, hK3⟩
  have hk3 := (hka.of_non (S := Only gbx)).trans hK3
  have hOb3 := hOb.keep hk3 (fun g hg e => by have := hObn g hg; unfold Only at e; omega)
  have hB3 := hB2.keep hk3 hgo.2.2.1
  have hp3 := hP2.pb.keep hk3 d2
  have hy3 := hP2.vy.keep hk3 (fun e => d8 e.symm) (fun e => d9 e.symm)
  have hkw3 : Keeps (Above B) w w3 := (hkw2.of_non).trans (hk3.mono fun i e => by unfold Only at e; unfold Above; omega)
  have k3' : w3.cell? ⟨gO, 3, none⟩ = some (.slice Ao n co) := by have := hB3.cell 3; rw [← HNL.out] at this; exact this
  obtain ⟨A3', c3', e3, -, hA33, -⟩ := hOb3.open
  injection e3 with e3 _ e3'
  subst e3 e3'
  have cv1 := run_convert_at (P := Try.prog) (w := w3) 23 9 5 Try.underlying23 Try.underlying5 Try.underlying9 _ _ hA33 n c3 HNL.out
  have cv2 := run_convert_at (P := Try.prog) (w := w3) 23 9 5 Try.underlying23 Try.underlying5 Try.underlying9 _ _ (HAw.out _ hkw3) n co HNL.out
  have hrow : w3.ownsRow w1.heap.size 5 1 (.slice A3 n c3) n (o.b.map bv) := by have := hOb3; unfold OwnB at this; rw [← HNL.out] at this; exact this
  have hOan : ∀ g, (Value.slice A3 n c3).ownBlock = some g → w1.heap.size ≤ g := fun g hg => (World.ownsRow.lt hrow g hg).1
  clear HW1 hK3 hka hvx hOb hOb3 hA3 hA33 hP2 hB2 hkw2 hObn hk3
  go_wp2_with fail
  clear cv1 cv2 k3'
  go_loopw [8] (fun i wr => ∃ (j : Nat) (ys : List Value), j ≤ n ∧ i = .int .i64 j ∧ wr.ownsRow w1.heap.size 5 1 (.slice A3 n c3) n ys ∧ Keeps (Owned (.slice A3 n c3)) w3 wr) (fun i _ => n - (intOf i).toNat)
  case atStart => exact ⟨0, _, Nat.zero_le _, rfl, hrow, Keeps.refl _ _⟩
  case round =>
    clear hrow
    obtain ⟨j, ys, hj, rfl, hy, hKj⟩ := hrel
    by_cases hjl : j < n
    · obtain ⟨gd, cap', cur', eA', hb1, hb2, hb3, hb4, hb5, hb6⟩ := row_form hy (by omega)
      injection eA' with eA' _ ec'
      subst eA' ec'
      obtain ⟨v7, hv7⟩ : ∃ v7, wr.cell? ⟨gd, j, none⟩ = some v7 := ⟨_, by rw [hb2.cell, Array.getElem?_eq_getElem (by omega)]⟩
      have hf := hb2.frozen j
      have H1 := Lib.hid (row_any_set hy ⟨gd, j, none⟩ rfl (.int .u8 97))
      have H2 := Lib.hid (hKj.set (p := ⟨gd, j, none⟩) rfl (.int .u8 97))
      clear hy hb1 hb2 hb3 hb4 hb5 hb6 hKj
      go_wp2_with fail
      go_roundw
      case rel =>
        obtain ⟨zs, hz⟩ := H1.out
        exact ⟨j + 1, zs, by omega, by go_num, hz, H2.out⟩
      case measure => simp [intOf]; omega
    · have hnot : ∀ g, g < w1.heap.size → ¬ Owned (.slice A3 n c3) g := fun g hg e => by have := hOan g e; omega
      have hp4 := hp3.keep hKj (hnot _ (by omega))
      have hx4 := hx3.keep hKj (hnot _ (by omega)) (hnot _ (by omega))
      have hy4 := hy3.keep hKj (hnot _ (by omega)) (hnot _ (by omega))
      have hB4 := hB3.keep hKj (hnot _ (by omega))
      have hkw4 : Keeps (Above B) w wr := hkw3.trans (hKj.mono fun i e => by have := hOan i e; unfold Above; omega)
      have k1' : wr.cell? ⟨gO, 1, none⟩ = some (.int .i64 o.at_) := hB4.cell 1
      have k3' : wr.cell? ⟨gO, 3, none⟩ = some (.slice Ao n co) := by have := hB4.cell 3; rw [← HNL.out] at this; exact this
      have c1' : wr.cell? ⟨gp, 1, none⟩ = some (.pointer (some ⟨gy, 0, none⟩)) := hp4.cell 1
      clear hy hp3 hx3 hy3 hB3 hkw3 hKj
      go_wp2_with fail
      go_still_tail 8, (by kernel_rfl)
      have hkd : Keeps Non wr wr.drew := (Keeps.refl _ _).drew
      have W2 := refWrite_all gy gby co X o.b o.at_ Ao wr.drew (hy4.non hkd) (by omega) (HAw.out _ (hkw4.trans hkd.of_non)) (by rw [← HNL.out]; exact h64) (fun ad e hp => by have := HLow.out ad e hp; omega)
      rw [← HNL.out] at W2
      have HW2 := Lib.hid W2
      clear W2 k1' k3' c1'
      go_wp2_with fail
      refine HW2.out.mono ?_
      rintro e w5 ⟨rfl, hy5, hK5⟩
      have hk5 := (hkd.of_non (S := Only gby)).trans hK5
      have hx5 := hx4.keep hk5 d7 d9
      have hp5 := hp4.keep hk5 d4
      have hkk : Keeps (Above B) w w5 := hkw4.trans (hk5.mono fun i e => by unfold Only at e; unfold Above; omega)
      go_wp2_with fail
      go_ret
      exact ⟨rfl, ⟨gx, gbx, _, ⟨hp5, hx5, hy5, d9, hlo⟩, wrX_length _ _ _⟩, hkk⟩

set_option maxRecDepth 100000 in
set_option maxHeartbeats 8000000 in
theorem does_read (B gp gx gbx gy gby co : Nat) (X : List UInt8) (o : Opr) (Ao : Option Addr) (w : World) (hP : PairB w B gp gx gbx gy gby X) (hs : szB (X.length : Int) = true) (hk0 : I64 o.kind) (hkd : pk o.kind 5 = 2) :
    Calls Try.prog 30 #[.pointer (some ⟨gp, 0, none⟩), .agg #[.int .i64 o.kind, .int .i64 o.at_, .int .i64 o.many, .slice Ao o.b.length co]] w (DoneB w B gp gy gby X.length) := by
  have HKD := Lib.hid hkd
  have hN := szB_of hs
  have HS := Lib.hid hs
  unfold I64 at hk0
  clear hkd hs
  go_enter Try.func30, Try.ntmps30
  go_wp2_with fail
  obtain ⟨w1, hw1⟩ : ∃ w1, w1 = w.alloc (.cells #[.int .i64 o.kind, .int .i64 o.at_, .int .i64 o.many, .slice Ao o.b.length co] 25) := ⟨_, rfl⟩
  have hk1 : Keeps Non w w1 := by rw [hw1]; exact (Keeps.refl _ _).alloc _
  have hB1 : Blk w1 w.heap.size 25 #[.int .i64 o.kind, .int .i64 o.at_, .int .i64 o.many, .slice Ao o.b.length co] := by rw [hw1]; exact Blk.new _ _ _
  rw [← hw1]
  obtain ⟨gO, hgO⟩ : ∃ q, q = w.heap.size := ⟨_, rfl⟩
  rw [← hgO] at hB1 ⊢
  have hl := hP.lts
  have hd := hP.dis
  have hlo := hP.low
  have hgo : gO ≠ gp ∧ gO ≠ gx ∧ gO ≠ gbx ∧ gO ≠ gy ∧ gO ≠ gby := by omega
  have hP1 := hP.non hk1
  have hs1 := hk1.size
  have hB1l := hB1.lt
  obtain ⟨d1, d2, d3, d4, d5, d6, d7, d8, d9, d10⟩ := hd
  clear hw1 hgO hP
  refine (pick_pk o.kind 5 _ (by omega) (by omega) hk0.1 hk0.2).mono ?_
  rw [HKD.out]
  rintro e w2 ⟨rfl, rfl⟩
  have k1 : w1.cell? ⟨gO, 1, none⟩ = some (.int .i64 o.at_) := hB1.cell 1
  have k2 : w1.cell? ⟨gO, 2, none⟩ = some (.int .i64 o.many) := hB1.cell 2
  have k3 : w1.cell? ⟨gO, 3, none⟩ = some (.slice Ao o.b.length co) := hB1.cell 3
  have c0 : w1.cell? ⟨gp, 0, none⟩ = some (.pointer (some ⟨gx, 0, none⟩)) := hP1.pb.cell 0
  have c1 : w1.cell? ⟨gp, 1, none⟩ = some (.pointer (some ⟨gy, 0, none⟩)) := hP1.pb.cell 1
  obtain ⟨R, hR⟩ : ∃ R, R = rdX X o.at_ o.many := ⟨_, rfl⟩
  have hRd1 := fun W h => read_all gx gbx X o.at_ o.many W h (by omega)
  have hRd2 := fun W h => refRead_all gy gby X o.at_ o.many W h (by omega)
  rw [← hR] at hRd1 hRd2
  have hRl : R.length ≤ 16384 := by
    rw [hR]; unfold rdX
    split
    · simp; omega
    · simp
  obtain ⟨er, her⟩ : ∃ er, er = errV X.length o.at_ o.many := ⟨_, rfl⟩
  rw [← her] at hRd1 hRd2
  have HR1 := Lib.hid hRd1
  have HR2 := Lib.hid hRd2
  clear hR hRd1 hRd2 her k3
  go_wp2_with fail
  go_region_held3 (fun w' => w'.cell? ⟨gp, 0, none⟩ = some (.pointer (some ⟨gx, 0, none⟩)) ∧ w'.cell? ⟨gO, 1, none⟩ = some (.int .i64 o.at_) ∧ w'.cell? ⟨gO, 2, none⟩ = some (.int .i64 o.many))
    (first | go_keep | exact ⟨hK3.cell c0 id, hK3.cell k1 id, hK3.cell k2 id⟩)
    (first | (go_at_call 15; refine (HR1.out _ (hP1.vx.non ((Keeps.refl _ _).drew))).mono ?_; rintro e w3 ⟨va, rfl, hOa, hK3⟩))
  have hk3 : Keeps Non w1 w3 := ((Keeps.refl Non w1).drew).trans hK3
  obtain ⟨A3, c3, rfl, -, -, -⟩ := hOa.open
  have k1' := hk3.cell k1 id
  have k2' := hk3.cell k2 id
  have c1' := hk3.cell c1 id
  have hP3 := hP1.non hk3
  have hOan : ∀ g, (Value.slice A3 R.length c3).ownBlock = some g → w1.heap.size ≤ g := fun g hg => by have := hOa.new g hg; simpa using this
  clear HR1 k1 k2 c0 c1 hP1 hB1 hK3
  go_wp2_with fail
  go_region_held3 (fun w' => w'.cell? ⟨gp, 1, none⟩ = some (.pointer (some ⟨gy, 0, none⟩)) ∧ w'.cell? ⟨gO, 1, none⟩ = some (.int .i64 o.at_) ∧ w'.cell? ⟨gO, 2, none⟩ = some (.int .i64 o.many))
    (first | go_keep | exact ⟨hK4.cell c1' id, hK4.cell k1' id, hK4.cell k2' id⟩)
    (first | (go_at_call 38; refine (HR2.out _ (hP3.vy.non ((Keeps.refl _ _).drew))).mono ?_; rintro e w4 ⟨vb, rfl, hOb, hK4⟩))
  have hk4 : Keeps Non w3 w4 := ((Keeps.refl Non w3).drew).trans hK4
  obtain ⟨A4, c4, rfl, -, hA4, -⟩ := hOb.open
  have hOa4 := hOa.non hk4
  obtain ⟨A3', c3', e3, -, hA3, -⟩ := hOa4.open
  injection e3 with e3 _ e3'
  subst e3 e3'
  have hP4 := hP3.non hk4
  have cv1 := run_convert_at (P := Try.prog) (w := w4) 23 9 5 Try.underlying23 Try.underlying5 Try.underlying9 _ _ hA3 R.length c3 rfl
  have cv2 := run_convert_at (P := Try.prog) (w := w4) 23 9 5 Try.underlying23 Try.underlying5 Try.underlying9 _ _ hA4 R.length c4 rfl
  have hkw : Keeps Non w w4 := (hk1.trans hk3).trans hk4
  obtain ⟨n, hn⟩ : ∃ n, n = R.length := ⟨_, rfl⟩
  have hrow : w4.ownsRow w1.drew.heap.size 5 1 (.slice A3 n c3) n (R.map bv) := by rw [hn]; exact hOa4
  rw [← hn] at hOan hRl cv1 cv2 ⊢
  clear hn HR2 k1' k2' c1' hP3 hK4 hk4 hOb hA4 hA3 hOa hOa4 hk3
  go_wp2_with fail
  clear cv1 cv2
  go_loopw [17] (fun i wr => ∃ (j : Nat) (ys : List Value), j ≤ n ∧ i = .int .i64 j ∧ wr.ownsRow w1.drew.heap.size 5 1 (.slice A3 n c3) n ys ∧ Keeps (Owned (.slice A3 n c3)) w4 wr) (fun i _ => n - (intOf i).toNat)
  case atStart => exact ⟨0, _, Nat.zero_le _, rfl, hrow, Keeps.refl _ _⟩
  case round =>
    clear hrow
    obtain ⟨j, ys, hj, rfl, hy, hKj⟩ := hrel
    by_cases hjl : j < n
    · obtain ⟨gd, cap', cur', eA', hb1, hb2, hb3, hb4, hb5, hb6⟩ := row_form hy (by omega)
      injection eA' with eA' _ ec'
      subst eA' ec'
      obtain ⟨v7, hv7⟩ : ∃ v7, wr.cell? ⟨gd, j, none⟩ = some v7 := ⟨_, by rw [hb2.cell, Array.getElem?_eq_getElem (by omega)]⟩
      have hf := hb2.frozen j
      have H1 := Lib.hid (row_any_set hy ⟨gd, j, none⟩ rfl (.int .u8 98))
      have H2 := Lib.hid (hKj.set (p := ⟨gd, j, none⟩) rfl (.int .u8 98))
      clear hy hb1 hb2 hb3 hb4 hb5 hb6 hKj
      go_wp2_with fail
      go_roundw
      case rel =>
        obtain ⟨zs, hz⟩ := H1.out
        exact ⟨j + 1, zs, by omega, by go_num, hz, H2.out⟩
      case measure => simp [intOf]; omega
    · have hnot : ∀ g, g < w1.heap.size → ¬ Owned (.slice A3 n c3) g := fun g hg e => by have := hOan g e; omega
      have hPr := hP4.keep hKj (hnot _ (by omega)) (hnot _ (by omega)) (hnot _ (by omega)) (hnot _ (by omega)) (hnot _ (by omega))
      have hkk : Keeps (Above B) w wr := (hkw.of_non).trans (hKj.mono fun i e => by have := hOan i e; unfold Above; omega)
      go_wp2_with fail
      go_ret
      exact ⟨rfl, ⟨gx, gbx, _, hPr, rfl⟩, hkk⟩
end Go.Proofs.Ytmlffigfhhoihab
