/- The document's Scan. -/
import Derived.Test.YtmlffigfhhoihaaT16
namespace Go.Proofs.Ytmlffigfhhoihaa
open Go.RowKit Go.Uc

theorem recOf_short {reg : List UInt8} {base at_ next : Nat} (h : 22528 < at_ + 88) : recOf reg base at_ next = none := by unfold recOf; rw [if_pos h]
theorem recOf_full {reg : List UInt8} {base at_ next : Nat} (h : toldB reg at_ = false) : recOf reg base at_ next = none := by
  unfold recOf
  have h' : roomB at_ (manyAt reg at_) = false := h
  simp [h']
theorem recOf_told {reg : List UInt8} {base at_ next : Nat} (h1 : at_ + 88 ≤ 22528) (h : toldB reg at_ = true) :
    recOf reg base at_ next = if recB base next (bytesAt reg at_) = sub reg at_ (88 * pieces (manyAt reg at_)) then some (bytesAt reg at_) else none := by
  unfold recOf
  have h' : roomB at_ (manyAt reg at_) = true := h
  rw [if_neg (by omega), if_neg (by rw [h']; simp)]

theorem str_toList (a : List UInt8) : (str a).toList = a := by simp [str]
theorem str_ne {a b : List UInt8} (h : a ≠ b) : ((str a).toList == (str b).toList) = false := by
  rw [str_toList, str_toList, beq_eq_false_iff_ne]
  exact h
set_option maxRecDepth 100000 in
set_option maxHeartbeats 4000000 in
theorem refScan_ok (base c : Nat) (A : Option Addr) (reg : List UInt8) (w : World) (hl : reg.length = 22528) (hA : At w A reg) (hc : 22528 ≤ c) (hbase : base ≤ 281474976710656) :
    Calls Try.prog 21 #[.int .i64 base, .slice A 22528 c] w fun e w' => ∃ v, e = .returned (.tuple #[.pointer (some ⟨w.heap.size, 0, none⟩), v, .int .i64 0]) ∧ LogB w' w.heap.size 55 base (scanAll reg base).2.1 (scanAll reg base).2.2 ∧
      RowB w' w.heap.size (OwnB w' w.heap.size 5) v (scanAll reg base).1 ∧ Keeps Non w w' := by
  obtain ⟨b, off, rfl, _⟩ := hA.at_ (k := 0) (by omega)
  have HA := Lib.hid hA
  clear hA
  go_enter Try.func21, Try.ntmps21
  go_wp2_with (go_at_call 9; go_must (refine (refNew_ok base _ hbase).mono ?_); rintro e w1 ⟨rfl, hx, hK1⟩)
  go_loopg [9, 10, 12] 300 (fun gk v _ _ wr => ∃ (at_ next : Nat) (ls : List (List UInt8)), scanAll reg base = (ls ++ (scanF reg base gk at_ next).1, (scanF reg base gk at_ next).2) ∧ at_ ≤ 22528 ∧ 22528 < at_ + 88 * gk ∧ next = ls.length + 1 ∧ 88 * ls.length ≤ at_ ∧
    LogB wr w.heap.size 55 base at_ next ∧ RowB wr w1.heap.size (OwnB wr w1.heap.size 5) v ls ∧ Keeps Non w wr ∧ w1.heap.size ≤ wr.heap.size)
  case atStart => exact ⟨0, 1, [], rfl, by omega, by omega, rfl, by simp, hx, RowB.nil _ _ _, hK1, Nat.le_refl _⟩
  case round =>
    obtain ⟨at_, next, ls, hS, hat, hgk, hnx, hls, hb, hR, hK, hsz⟩ := hrel
    have HS := Lib.hid hS
    have HNX := Lib.hid hnx
    have HL := Lib.hid hl
    have hnx2 : next ≤ 100000 := by omega
    clear hS hnx
    have hw1 := hx.lt
    by_cases hsh : 22528 < at_ + 88
    · have HE := Lib.hid (recOf_short (reg := reg) (base := base) (next := next) hsh)
      have HRec := Lib.hid (told_short w.heap.size c base at_ next (some ⟨b, off, none⟩) wr hb hat hsh)
      go_wp2_with (go_at_call 30; go_must (refine HRec.out.mono ?_); rintro e w2 ⟨rfl, hK2⟩)
      go_ret3
      have h1 := scanF_stop HE.out gk
      have h2 := HS.out
      rw [h1] at h2
      rw [h2]
      refine ⟨_, rfl, Blk.non hb hK2, ?_, hK.trans hK2⟩
      rw [List.append_nil]
      exact (hR.all hK2 fun _ _ e => e).base (by omega)
    · have HR := told_main w.heap.size c base at_ next b off reg wr hb hl (HA.out.non hK) hc (by omega)
      cases htd : toldB reg at_ with
      | false =>
        rw [htd] at HR
        have HRec := Lib.hid HR
        have HE := Lib.hid (recOf_full (reg := reg) (base := base) (next := next) htd)
        clear HR htd
        go_wp2_with (go_at_call 30; go_must (refine HRec.out.mono ?_); rintro e w2 ⟨v, rfl, -, hK2⟩)
        go_ret3
        have h1 := scanF_stop HE.out gk
        have h2 := HS.out
        rw [h1] at h2
        rw [h2]
        refine ⟨_, rfl, Blk.non hb hK2, ?_, hK.trans hK2⟩
        rw [List.append_nil]
        exact (hR.all hK2 fun _ _ e => e).base (by omega)
      | true =>
        have hrt := recOf_told (reg := reg) (base := base) (next := next) (show at_ + 88 ≤ 22528 by omega) htd
        have hroom := room_of htd
        have hm4 := room_le htd
        have hbl := bytesAt_length hl htd
        rw [htd] at HR
        obtain ⟨bs, hbs⟩ : ∃ bs, bs = bytesAt reg at_ := ⟨_, rfl⟩
        rw [← hbs] at HR hrt hbl
        rw [← hbl] at hroom hm4 hrt
        have HRec := Lib.hid HR
        have HE := Lib.hid hrt
        clear HR hrt hbs hbl htd
        have hp := pieces_le bs.length hm4
        obtain ⟨L, hL⟩ : ∃ L, L = 88 * pieces bs.length := ⟨_, rfl⟩
        rw [← hL] at hroom
        have HL2 := Lib.hid hL
        have hLb : 88 ≤ L := by omega
        clear hL
        have hRl := recB_length base next bs
        rw [← HL2.out] at hRl
        have HRl := Lib.hid hRl
        clear hRl
        obtain ⟨vs, r1, r2, r3⟩ := hR
        have hR3 := Lib.hid r3
        have hR2 := Lib.hid r2
        clear r2 r3
        go_wp2_with (first
          | (go_at_call 30; go_must (refine HRec.out.mono ?_); rintro e w2 ⟨v, rfl, hv, hK2⟩; have hv2 := hv rfl; clear hv; obtain ⟨A2, c2, rfl, hc2, hA2, -⟩ := hv2.open; have hb2 := Blk.non hb hK2)
          | (go_at_call 28; go_must (refine (record_any w.heap.size c2 base at_ next bs A2 _ hb2 hm4 hA2 hc2 hbase hnx2).mono ?_); rintro e w3 ⟨v5, rfl, hv5, hK3⟩; obtain ⟨A5, c5, rfl, hc5, hA5, -⟩ := hv5.open; rw [HRl.out] at hc5 ⊢))
        have hb3 := Blk.non hb2 hK3
        have hk3 := hK2.trans hK3
        have q1 : w3.cell? ⟨w.heap.size, 1, none⟩ = some (.int .i64 at_) := hb3.cell 1
        have cv1 : ∀ nq, (convert 31 9 (.slice (some ⟨b, off + at_, none⟩) L (c - at_))).run Try.prog (w3.drewN nq) = .ok (.string (str (sub reg at_ L))) (w3.drewN nq) := fun nq =>
          run_convert_at 31 9 5 Try.underlying31 Try.underlying5 Try.underlying9 _ _ ((At.sub (HA.out.non (hK.trans hk3)) at_ L).non ((Keeps.refl Non _).drewN nq)) _ _ (by rw [sub_length _ _ _ (by have := HL.out; omega)])
        have cv2 : ∀ nq, (convert 31 9 (.slice A5 L c5)).run Try.prog (w3.drewN nq) = .ok (.string (str (recB base next bs))) (w3.drewN nq) := fun nq =>
          run_convert_at 31 9 5 Try.underlying31 Try.underlying5 Try.underlying9 _ _ (hA5.non ((Keeps.refl Non _).drewN nq)) _ _ HRl.out.symm
        have W1 : IntKind.i64.wrap ((at_ : Int) + L) = (at_ : Int) + L := IntWalk.i64_in _ (by omega)
        have W3 : ((at_ : Int) + L).toNat = at_ + L := by omega
        have W4 : 0 ≤ (at_ : Int) + L := by omega
        have W5 : at_ ≤ at_ + L := by omega
        have d1 : ¬ c = at_ := by omega
        have d2 : at_ + L ≤ c := by omega
        have d3 : (at_ : Int) + L ≤ (c : Int) := by omega
        have d4 : at_ ≤ c := by omega
        have d5 : at_ + L - at_ = L := by omega
        by_cases heq : recB base next bs = sub reg at_ L
        · rw [← heq] at cv1
          have hrec : recOf reg base at_ next = some bs := by rw [HE.out, ← HL2.out, if_pos heq]
          have HRO := Lib.hid hrec
          clear heq hrec
          go_quiet (fail)
          clear cv1 cv2 W1 W3 W4 W5 d1 d2 d3 d4 d5
          obtain ⟨wq, hwq⟩ : ∃ wq, wq = w3.drewN nq := ⟨_, rfl⟩
          have hnq : Keeps Non w3 wq := by rw [hwq]; exact (Keeps.refl _ _).drewN _
          rw [← hwq]
          have hkq := hk3.trans hnq
          have hbq := Blk.non hb3 hnq
          clear hwq
          go_wp2_with (at_builtin; go_must (refine wpList_append_vals rfl (.tmp 56) (.tmp 58) 22 rfl w1.heap.size 31 (.slice none 0 0) 24 Try.underlying22 info31 rfl u9 ls.length vs rfl (row_keep (row_keep r1 hkq fun _ _ e => e) ((Keeps.refl Non _).alloc _) fun _ _ e => e) (some ⟨wq.heap.size, 0, none⟩) 1 1 [.slice A2 bs.length c2] rfl rfl (Ats.one _ _ _) (by intro u hu; simp at hu; subst hu; rfl) (by unfold maxLen; omega) (by omega) (by have := hkq.size; simp; omega) ?_); intro v6 w6 hR6 hK6 hat6; have hG := scan_grow r1 hR2.out hR3.out hkq (((hv2.non hK3).non hnq).mono hsz) hR6 hK6; have hka := ((Keeps.refl Non wq).alloc (.cells #[.slice A2 bs.length c2] 31)); have hlow : ∀ k, Owned u9 k → w1.heap.size ≤ k := fun k hk => (World.ownsRow.lt r1 k hk).1; have hb6 : LogB w6 w.heap.size 55 base at_ next := Blk.keep (Blk.non hbq hka) hK6 (fun e => by have := hlow _ e; omega); have hk6 : Keeps Non w w6 := ((hK.trans hkq).trans hka).then hK6 (fun i hi e => by have := hlow _ e; omega); have hs6 : w1.heap.size ≤ w6.heap.size := (by have := hkq.size; have := hK6.size; simp at this; omega); have q6 : w6.cell? ⟨w.heap.size, 1, none⟩ = some (.int .i64 at_) := hb6.cell 1; have q7 : w6.cell? ⟨w.heap.size, 2, none⟩ = some (.int .i64 next) := hb6.cell 2; have f1 := Blk.frozen hb6 1; have f2 := Blk.frozen hb6 2; clear hK6 hR6 hat6 hka hlow)
          obtain ⟨gk', rfl⟩ : ∃ gk', gk = gk' + 1 := ⟨gk - 1, by omega⟩
          go_roundg gk'
          case measure => omega
          have hset := set_two w6 w.heap.size (.int .i64 ((at_ : Int) + L)) (.int .i64 ((next : Int) + 1))
          refine ⟨at_ + L, next + 1, ls ++ [bs], ?_, by omega, by omega, by rw [List.length_append, HNX.out]; rfl, by rw [List.length_append]; simp; omega, log_two hb6 (by omega) (by omega), ?_, ?_, ?_⟩
          · rw [HS.out, scanF, HRO.out, HL2.out]
            simp
          · exact hG.all hset fun k hk => by unfold Only; omega
          · exact hk6.then hset fun i hi e => by unfold Only at e; omega
          · exact Nat.le_trans hs6 hset.size
        · have hno : recOf reg base at_ next = none := by rw [HE.out, ← HL2.out, if_neg heq]
          have HRO := Lib.hid hno
          have hne : ((str (sub reg at_ L)).toList == (str (recB base next bs)).toList) = false := str_ne (fun e => heq e.symm)
          clear heq hno
          go_quiet (fail)
          go_wp2_with fail
          go_ret3
          have h1 := scanF_stop HRO.out gk
          have h2 := HS.out
          rw [h1] at h2
          rw [h2]
          have hkq : Keeps Non wr (w3.drewN nq) := hk3.drewN nq
          refine ⟨_, rfl, Blk.non hb hkq, ?_, hK.trans hkq⟩
          rw [List.append_nil]
          exact (RowB.all (S := Non) ⟨vs, r1, hR2.out, hR3.out⟩ hkq fun _ _ e => e).base (by omega)
end Go.Proofs.Ytmlffigfhhoihaa
