import Derived.Test.YtmlffigfhhoihaaT7
import Derived.Test.YtmlffigfhhoihaaBasec
namespace Go.Proofs.Ytmlffigfhhoihaa
open Go.RowKit Go.Uc

theorem At.own {w : World} {g : Nat} {t : TypeId} {bs xs : List UInt8} (h : Blk w g t (pc (bs ++ xs))) : At w (some ⟨g, 0, none⟩) bs := by
  have := (At.blk h).take bs.length
  simpa using this
set_option maxRecDepth 10000 in
set_option maxHeartbeats 2000000 in
theorem ilogAppends_any (base : Int) (A : Option Addr) (c : Nat) (rs : List (List UInt8)) (many : Int) (w : World) (hR : Recs w A rs) (hn : rs.length ≤ 140737488351232)
    (hm1 : -9223372036854775808 ≤ many) (hm2 : many ≤ 9223372036854775807) :
    Calls Try.prog 3 #[.int .i64 base, .slice A rs.length c, .int .i64 many] w fun e w' => e = .returned (.bool true) ∧ Keeps Non w w' := by
  by_cases hbad : base < 0 ∨ 281474976710656 < base
  · have HB := Lib.hid hbad
    clear hbad
    go_enter Try.func3, Try.ntmps3
    go_wp2_with (first
      | (go_at_call 7; refine (awake_any _).mono ?_; rintro e w1 ⟨rfl, hK1⟩)
      | (go_at_call 8; refine (new_no base _ HB.out).mono ?_; rintro e w2 ⟨rfl, rfl⟩)
      | (go_at_call 9; refine (refNew_no base _ HB.out).mono ?_; rintro e w3 ⟨rfl, rfl⟩))
    go_ret
    exact ⟨rfl, hK1⟩
  · obtain ⟨bn, rfl⟩ := Int.eq_ofNat_of_zero_le (show 0 ≤ base by omega)
    have hbn : bn ≤ 281474976710656 := by omega
    clear hbad
    have HRec := Lib.hid hR
    clear hR
    go_enter Try.func3, Try.ntmps3
    go_wp2_with (first
      | (go_at_call 7; refine (awake_any _).mono ?_; rintro e w1 ⟨rfl, hK1⟩)
      | (go_at_call 8; refine (new_ok bn _ hbn).mono ?_; rintro e w2 ⟨rfl, hx, hK2⟩)
      | (go_at_call 9; refine (refNew_ok bn _ hbn).mono ?_; rintro e w3 ⟨rfl, hy, hK3⟩))
    have hs1 := hK1.size
    have hxy : w1.heap.size < w2.heap.size := hx.lt
    have hx3 := Blk.non hx hK3
    have hK13 := (hK1.trans hK2).trans hK3
    clear hx hK1 hK2 hK3
    obtain ⟨gx, hgx⟩ : ∃ gx, gx = w1.heap.size := ⟨_, rfl⟩
    obtain ⟨gy, hgy⟩ : ∃ gy, gy = w2.heap.size := ⟨_, rfl⟩
    rw [← hgx] at hx3 hxy hs1 ⊢
    rw [← hgy] at hy hxy ⊢
    clear hgx hgy w1 w2
    go_loopw [12] (fun iv wr => ∃ i at_ next : Nat, i ≤ rs.length ∧ iv = .int .i64 i ∧ at_ ≤ 22528 ∧ 88 * next ≤ at_ + 88 ∧ LogB wr gx 53 bn at_ next ∧ LogB wr gy 55 bn at_ next ∧ Keeps Non w wr) (fun iv _ => rs.length - (intOf iv).toNat)
    case atStart => exact ⟨0, 0, 1, Nat.zero_le _, rfl, by omega, by omega, hx3, hy, hK13⟩
    case round =>
      obtain ⟨i, at_, next, hi, rfl, hat, hnx, hbx, hby, hK⟩ := hrel
      clear hx3 hy hK13
      by_cases hlt : i < rs.length
      · obtain ⟨b, off, Ai, ci, rfl, hc0, hAt, hci, h64⟩ := HRec.out i hlt
        obtain ⟨bs, hbs⟩ : ∃ bs, bs = rs[i] := ⟨_, rfl⟩
        rw [← hbs] at hc0 hAt hci h64
        clear hbs
        have HF : Hid (∀ w', Keeps Non w w' → w'.cell? ⟨b, off + i, none⟩ = some (.slice Ai bs.length ci) ∧ At w' Ai bs) := fun w' k => ⟨k.cell hc0 id, hAt.non k⟩
        obtain ⟨q0, a0⟩ := HF.out wr hK
        clear hc0 hAt
        go_wp2_with (first
          | (go_at_call 10; refine (lent_any Ai ci bs _ a0 (by omega)).mono ?_; rintro e w1 ⟨rfl, hB1, hK1⟩; have kk1 := hK.trans hK1; obtain ⟨q1, a1⟩ := HF.out w1 kk1; have hbx1 := Blk.non hbx hK1; have hby1 := Blk.non hby hK1)
          | (go_at_call 11; refine (append_all gx (bs.length + 1) bn at_ next bs _ _ hbx1 hat (At.own hB1) (by omega) h64 hbn (by omega)).mono ?_; rintro e w2 ⟨v2, rfl, hO2, hbx2, hK2⟩))
        have hgx : gx < wr.heap.size := Blk.lt hbx
        have hgy : gy < wr.heap.size := Blk.lt hby
        have hl1 := hB1.lt
        have hls := hK.size
        obtain ⟨A2, c2, rfl, hc2, hA2, -⟩ := hO2.open
        have hby2 := Blk.one hby1 hK2 (by omega)
        have hB2 := hB1.one hK2 (by omega)
        have kk2 := kk1.then hK2 (fun j hj e => by unfold Only at e; omega)
        obtain ⟨q2, a2⟩ := HF.out w2 kk2
        have hRl := apOut_len bn at_ next bs hat
        obtain ⟨R, hR⟩ : ∃ R, R = apOut bn at_ next bs := ⟨_, rfl⟩
        rw [← hR] at hO2 hA2 hc2 hRl ⊢
        have HR := Lib.hid hR
        clear hR hK1 hK2 hB1 hbx1 hby1 q1 a1 q0 a0 kk1 hbx hby
        have cv1 : ∀ nq, (convert 31 9 (.slice (some ⟨wr.heap.size, 0, none⟩) bs.length (bs.length + 1))).run Try.prog (w2.drewN nq) = .ok (.string (str bs)) (w2.drewN nq) := fun nq =>
          run_convert_at 31 9 5 Try.underlying31 Try.underlying5 Try.underlying9 _ _ ((At.own hB2).non ((Keeps.refl Non _).drewN nq)) _ _ rfl
        have cv2 : ∀ nq, (convert 31 9 (.slice Ai bs.length ci)).run Try.prog (w2.drewN nq) = .ok (.string (str bs)) (w2.drewN nq) := fun nq =>
          run_convert_at 31 9 5 Try.underlying31 Try.underlying5 Try.underlying9 _ _ (a2.non ((Keeps.refl Non _).drewN nq)) _ _ rfl
        have cl : w2.cell? ⟨wr.heap.size, bs.length, none⟩ = some (.int .u8 200) := by
          rw [hB2.byte (i := bs.length) (by simp)]; simp [bv]
        go_quiet (fail)
        clear cv1 cv2 cl a2
        have hnq : Keeps Non w2 (w2.drewN nq) := (Keeps.refl Non _).drewN nq
        obtain ⟨wq, hwq⟩ : ∃ wq, wq = w2.drewN nq := ⟨_, rfl⟩
        rw [← hwq] at hnq ⊢
        clear hwq
        have hOw := (OwnB.blk (bs := bs) (xs := [200]) (hB2.non hnq) (Nat.zero_le _) (by simp [maxLen]; omega))
        have hbxq := Blk.non hbx2 hnq
        have hbyq := Blk.non hby2 hnq
        have hO2q := hO2.non hnq
        have kkq := kk2.trans hnq
        have hRq := (HF.out wq kkq).1
        have hle2 := hO2.old
        have hsz2 := hnq.size
        clear hbx2 hby2 hO2 hA2 hB2 kk2 q2 hnq
        go_wp2_with (go_at_call 12; refine (spoil_any (some ⟨wr.heap.size, 0, none⟩) bs.length (bs.length + 1) 0 (bs.map bv) _ hOw (Nat.zero_le _) (by omega)).mono ?_; rintro e w3 ⟨rfl, hK3⟩; have kk3 := kkq.then hK3 (fun j hj e => by rw [owned_one] at e; omega); obtain ⟨q3, a3⟩ := HF.out w3 kk3; have hby3 := Blk.keep hbyq hK3 (by rw [owned_one]; omega))
        refine (refAppend_all gy ci bn at_ next bs Ai _ hby3 hat a3 hci h64 hbn (by omega)).mono ?_
        rw [← HR.out]
        rintro e w4 ⟨v4, rfl, hO4, hby4, hK4⟩
        obtain ⟨A4, c4, rfl, hc4, hA4, -⟩ := hO4.open
        have hO24 := (hO2q.keep hK3 (fun j e => by have := hO2q.new j e; rw [owned_one]; omega)).keep hK4 (fun j e => by have := hO2q.new j e; unfold Only; omega)
        have cv3 := run_convert_at (P := Try.prog) (w := w4) 31 9 5 Try.underlying31 Try.underlying5 Try.underlying9 _ _ hA4 _ c4 rfl
        obtain ⟨A5, c5, e5, _, hA5, hb5⟩ := hO24.open
        injection e5 with e5 _ e6
        subst e5 e6
        have cv4 := run_convert_at (P := Try.prog) (w := w4) 31 9 5 Try.underlying31 Try.underlying5 Try.underlying9 _ _ hA5 _ c2 rfl
        have hbx4 := Blk.one (Blk.keep hbxq hK3 (by rw [owned_one]; omega)) hK4 (by omega)
        have kk4 := kk3.then hK4 (fun j hj e => by unfold Only at e; omega)
        have hn24 := hO24.new
        clear hA4 hA5 hbxq hbyq hby3 hO2q hOw hK3 hK4 kk3 kkq hO4 q3 a3 hRq
        go_wp2_with fail
        refine (spoil_any A2 R.length c2 0 (R.map bv) _ (hO24.mono (Nat.zero_le _)) (Nat.zero_le _) (by omega)).mono ?_
        rintro e w5 ⟨rfl, hK5⟩
        have hbx5 := Blk.keep hbx4 hK5 (fun e => by have := hn24 _ e; omega)
        have hby5 := Blk.keep hby4 hK5 (fun e => by have := hn24 _ e; omega)
        have kk5 := kk4.then hK5 (fun j hj e => by have := hn24 _ e; omega)
        have hend := apEnd_le at_ next bs hat hnx
        clear hbx4 hby4 kk4 hK5 cv3 cv4 hO24 hn24
        go_wp2_with (first
          | (go_at_call 15; refine (pick_any many 5000 _ (by omega) (by omega) hm1 hm2).mono ?_; rintro e w6 ⟨⟨r, hr, rfl⟩, rfl⟩)
          | (go_at_call 14; refine (stands_any gx gy bn (apEnd at_ bs) (apNext at_ next bs) _ _ hbx5 hby5 hend.1).mono ?_; rintro e w7 ⟨rfl, n7, rfl⟩))
        go_roundw
        case rel => exact ⟨i + 1, apEnd at_ bs, apNext at_ next bs, by omega, by go_num, hend.1, hend.2.1, hbx5.drewN _, hby5.drewN _, kk5.drewN _⟩
        case measure => simp [intOf]; omega
      · obtain rfl : i = rs.length := by omega
        go_wp2_with (go_at_call 14; refine (stands_any gx gy bn at_ next _ _ hbx hby hat).mono ?_; rintro e w7 ⟨rfl, n7, rfl⟩)
        go_ret
        exact ⟨rfl, hK.drewN _⟩
end Go.Proofs.Ytmlffigfhhoihaa
