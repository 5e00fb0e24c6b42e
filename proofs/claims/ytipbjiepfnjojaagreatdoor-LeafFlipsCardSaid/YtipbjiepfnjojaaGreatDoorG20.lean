/- What the document only reads. The document's Write. The document's Flush. Bytes that the document lays: how many there are. Numbers, noughts, sums that the document lays. -/
import Derived.Test.YtipbjiepfnjojaaGreatDoorG19
import Derived.Test.YtipbjiepfnjojaaGreatDoorG3
import Derived.Test.YtipbjiepfnjojaaGreatDoorG4
namespace Go.Proofs.YtipbjiepfnjojaaGreatDoor
set_option maxRecDepth 100000
open Go.RowKit Go.Uc

set_option maxHeartbeats 1000000 in
theorem down103_any {w0 w : World} {Q : Qb} {n : Nat} {pv wv : Sl} (h : Dd w0 w Q n pv wv) : Calls Tryz.prog 103 #[.pointer (some ⟨Q.q, 0, none⟩), .int .i64 0] w fun e w' => e = .returned (.int .i64 0) ∧ w' = w := by
  obtain ⟨z, hp⟩ := h.pw
  obtain ⟨cs, hd, hc0, hdc⟩ := h.ds
  have c0 : w.cell? ⟨Q.q, 0, none⟩ = some (.slice (some ⟨Q.db, 0, none⟩) 1 Q.dc) := hp.cell 0
  have c3 : w.cell? ⟨Q.q, 3, none⟩ = some (.bool false) := hp.cell 3
  have e0 : w.cell? ⟨Q.db, 0, none⟩ = some (.pointer (some ⟨Q.d, 0, none⟩)) := by rw [hd.cell]; exact hc0
  have k1 : w.cell? ⟨Q.d, 1, none⟩ = some (.bool false) := h.dk.cell 1
  clear h
  go_enter Tryz.func103, Tryz.ntmps103
  go_wp2_with fail
  go_ret
  exact ⟨rfl, rfl⟩
set_option maxHeartbeats 1000000 in
theorem sectors62_any {w0 w : World} {Q : Qb} {n : Nat} {pv wv : Sl} (h : Dd w0 w Q n pv wv) : Calls Tryz.prog 62 #[.pointer (some ⟨Q.q, 0, none⟩), .int .i64 0] w fun e w' => e = .returned (.int .i64 (n : Int)) ∧ w' = w := by
  obtain ⟨z, hp⟩ := h.pw
  obtain ⟨cs, hd, hc0, hdc⟩ := h.ds
  obtain ⟨P, hP, hpn, hPn⟩ := h.pl
  have c0 : w.cell? ⟨Q.q, 0, none⟩ = some (.slice (some ⟨Q.db, 0, none⟩) 1 Q.dc) := hp.cell 0
  have e0 : w.cell? ⟨Q.db, 0, none⟩ = some (.pointer (some ⟨Q.d, 0, none⟩)) := by rw [hd.cell]; exact hc0
  have hpn' : pv.n = n := hpn.trans hPn
  have k0 : w.cell? ⟨Q.d, 0, none⟩ = some (.slice pv.A n pv.c) := by rw [← hpn']; exact h.dk.cell 0
  clear h hpn hPn hpn'
  go_enter Tryz.func62, Tryz.ntmps62
  go_wp2_with fail
  go_ret
  exact ⟨rfl, rfl⟩
set_option maxHeartbeats 1000000 in
theorem places64_any (w : World) (n : Nat) (hn : 324 ≤ n) (hn8 : n ≤ 8192) : Calls Tryz.prog 64 #[.int .i64 (n : Int)] w fun e w' => e = .returned (.agg #[.int .i64 0, .int .i64 9, .int .i64 ((n - 18 : Nat) : Int), .int .i64 ((n - 9 : Nat) : Int)]) ∧ Keeps Non w w' := by
  have hB := Blk.new w 86 #[.int .i64 0, .int .i64 0, .int .i64 0, .int .i64 0]
  have hk := (Keeps.refl Non w).alloc (.cells #[.int .i64 0, .int .i64 0, .int .i64 0, .int .i64 0] 86)
  have e1 : ((n - 18 : Nat) : Int) = (n : Int) - 18 := by omega
  have e2 : ((n - 9 : Nat) : Int) = (n : Int) - 9 := by omega
  rw [e1, e2]
  clear e1 e2
  go_enter Tryz.func64, Tryz.ntmps64
  go_upto_region 1 with fail
  obtain ⟨w1, hw1⟩ : ∃ V : World, V = w.alloc (.cells #[.int .i64 0, .int .i64 0, .int .i64 0, .int .i64 0] 86) := ⟨_, rfl⟩
  rw [← hw1] at hB hk ⊢
  clear hw1
  obtain ⟨pb, hpb⟩ : ∃ z, z = w.heap.size := ⟨_, rfl⟩
  rw [← hpb] at hB ⊢
  have hpw : w.heap.size ≤ pb := by omega
  clear hpb
  go_wp2_with ((with_reducible show wpList _ _ _ ({ dst := none, op := Op.store 86 _ _, type := _, pos := _, after := _, guard := _ } :: _) _ _); go_must (refine wpList_store_blk rfl 86 (.tmp 2) (.tmp 7) rfl pb #[.int .i64 0, .int .i64 9, .int .i64 ((n : Int) - 18), .int .i64 ((n : Int) - 9)] rfl rfl 86 _ hB (by kernel_rfl) rfl (by kernel_rfl) ?_); intro w7 hB7 hK7)
  refine bodyPost_ret (results_cell_blk (ty := 86) rfl _ pb 86 _ _ rfl hB7 Tryz.underlying86 rfl (by kernel_rfl)) rfl ⟨rfl, hk.then hK7 fun i hi e => by unfold Only at e; omega⟩
end Go.Proofs.YtipbjiepfnjojaaGreatDoor
namespace Go.Proofs.YtipbjiepfnjojaaGreatDoor
set_option maxRecDepth 100000
open Go.RowKit Go.Uc

theorem Dd.waits {w0 w w' : World} {Q : Qb} {n : Nat} {pv wv : Sl} (h : Dd w0 w Q n pv wv) (wv2 : Sl) (z : Int) (hk : Keeps (fun i => i = Q.q ∨ i ∈ own wv.v) w w') (hq : Blk w' Q.q 129 #[.slice (some ⟨Q.db, 0, none⟩) 1 Q.dc, wv2.v, .int .i64 (-1), .bool false, .int .i64 z])
    (M : List Ww) (hM : RowP w' 178 3 encM wv2.v M) (hl : wv2.n = M.length) (ha : ∀ x ∈ M, x.at_ < n) (ho : ∀ g ∈ own wv2.v, w0.heap.size ≤ g) : Dd w0 w' Q n pv wv2 := by
  obtain ⟨z0, hp⟩ := h.pw
  obtain ⟨cs, hd, hc0, hdc⟩ := h.ds
  obtain ⟨P, hP, hpn, hPn⟩ := h.pl
  obtain ⟨M0, hM0, -⟩ := h.wt
  obtain ⟨n1, n2, n3, n4, n5⟩ := h.new
  have free : ∀ (g t : Nat) (cs : Array Value), Blk w g t cs → t ≠ 129 → t ≠ 178 → ¬ (g = Q.q ∨ g ∈ own wv.v) := fun g t cs hg h1 h2 e => e.elim (hg.ne hp h1) (own_type hM0 hg h2)
  refine ⟨⟨z, hq⟩, ⟨cs, hd.keep hk (free _ _ _ hd (by decide) (by decide)), hc0, hdc⟩, h.dk.keep hk (free _ _ _ h.dk (by decide) (by decide)), ⟨P, hP.keep hk fun g hg e => ?_, hpn, hPn⟩, ⟨M, hM, hl, ha⟩, ⟨n1, n2, n3, n4, ho⟩, h.keep.then hk fun i hi e => ?_⟩
  · rcases e with e | e
    · exact own_type hP hp (by decide) (by rw [← e]; exact hg)
    · rcases hP.form with ⟨e1, -⟩ | ⟨g', cap, cur, e1, hB, -⟩
      · rw [e1] at hg; exact (List.not_mem_nil hg).elim
      · rw [e1, own_slice, List.mem_singleton] at hg
        subst hg
        exact own_type hM0 hB (by decide) e
  · rcases e with e | e
    · omega
    · have := n5 _ e; omega
set_option maxHeartbeats 8000000 in
theorem write63_any {w0 w : World} {Q : Qb} {n : Nat} {pv wv : Sl} (h : Dd w0 w Q n pv wv) (hn2 : n ≤ 8192) (p m g c : Nat) (bs : List UInt8) (hbl : bs.length = 128 * m) (hgb : ∃ cs, Blk w g 5 cs) (hA : At w (some ⟨g, 0, none⟩) bs) (hc : 128 * m ≤ c) (hpm : p + m ≤ n) (hwn : wv.n + m ≤ 8192) :
    Calls Tryz.prog 63 #[.pointer (some ⟨Q.q, 0, none⟩), .int .i64 0, .int .i64 (p : Int), .slice (some ⟨g, 0, none⟩) (128 * m) c] w fun e w' => e = .returned (.int .i64 0) ∧ ∃ wv' : Sl, Dd w0 w' Q n pv wv' ∧ wv'.n = wv.n + m ∧ (∀ k ∈ own wv'.v, k ∈ own wv.v ∨ w.heap.size ≤ k) ∧ Keeps (Fd Q pv wv) w w' := by
  have HDn := Lib.hid (down103_any h)
  obtain ⟨z, hp⟩ := h.pw
  obtain ⟨cs, hd, hc0, hdc⟩ := h.ds
  obtain ⟨P, hP, hpn, hPn⟩ := h.pl
  have c0 : w.cell? ⟨Q.q, 0, none⟩ = some (.slice (some ⟨Q.db, 0, none⟩) 1 Q.dc) := hp.cell 0
  have e0 : w.cell? ⟨Q.db, 0, none⟩ = some (.pointer (some ⟨Q.d, 0, none⟩)) := by rw [hd.cell]; exact hc0
  have hpn' : pv.n = n := hpn.trans hPn
  have k0 : w.cell? ⟨Q.d, 0, none⟩ = some (.slice pv.A n pv.c) := by rw [← hpn']; exact h.dk.cell 0
  clear hpn hPn hpn' hP hp hd hc0
  have HH := Lib.hid h
  clear h
  obtain ⟨M, hM⟩ : ∃ M, M = 128 * m := ⟨_, rfl⟩
  rw [← hM]
  have x1 : Int.tmod (M : Int) 128 = 0 := by rw [Int.tmod_eq_emod_of_nonneg (by omega)]; omega
  have x2 : Int.tdiv (M : Int) 128 = (m : Int) := by rw [Int.tdiv_eq_ediv_of_nonneg (by omega)]; omega
  have x3 : ¬ (p : Int) < 0 := by omega
  have x4 : ¬ (n : Int) < (p : Int) := by omega
  have x5 : IntKind.i64.wrap ((n : Int) - (p : Int)) = ((n - p : Nat) : Int) := by rw [IntKind.wrap_i64]; omega
  have x6 : ¬ ((n - p : Nat) : Int) < (m : Int) := by omega
  have HM := Lib.hid hM
  clear hM
  go_enter Tryz.func63, Tryz.ntmps63
  go_upto_region 5 with (go_at_call 103; go_must (refine HDn.out.mono ?_); rintro e w9 ⟨rfl, hw9⟩; subst w9)
  go_upto_region 8 with fail
  go_loopw [11, 12] (fun i _ wr => ∃ (k : Nat) (wv' : Sl), k ≤ m ∧ i = .int .i64 (k : Int) ∧ Dd w0 wr Q n pv wv' ∧ wv'.n = wv.n + k ∧ (∀ j ∈ own wv'.v, j ∈ own wv.v ∨ w.heap.size ≤ j) ∧ Keeps (Fd Q pv wv) w wr) (fun i _ _ => m - (intOf i).toNat)
  case atStart => exact ⟨0, wv, Nat.zero_le _, rfl, HH.out, rfl, fun j hj => .inl hj, Keeps.refl _ _⟩
  case round =>
    obtain ⟨k, wv', hk, rfl, hD, hwv, hown, hK⟩ := hrel
    obtain ⟨wx, rfl⟩ : ∃ W : World, W = wr := ⟨_, rfl⟩
    by_cases hlt : k < m
    · have hki : (k : Int) < (m : Int) := by omega
      obtain ⟨z1, hq⟩ := hD.pw
      obtain ⟨Ms, hMs, hwl, hMat⟩ := hD.wt
      have HDD := Lib.hid hD
      clear hD
      have c2 : wx.cell? ⟨Q.q, 2, none⟩ = some (.int .i64 (-1)) := hq.cell 2
      have c4 : wx.cell? ⟨Q.q, 4, none⟩ = some (.int .i64 z1) := hq.cell 4
      have f4 := hq.frozen 4
      have HI := Lib.hid (And.intro hwv (And.intro hown (And.intro hwl hMat)))
      clear hwv hown hwl hMat
      go_upto_region 17 with fail
      have hk2 : Keeps (Fd Q pv wv) wx (wx.setCell ⟨Q.q, 4, none⟩ (.int .i64 (wrap64 (z1 + 1)))) := (Keeps.refl (Fd Q pv wv) _).set (p := ⟨Q.q, 4, none⟩) (.inl rfl) _
      have hkq : Keeps (Only Q.q) wx (wx.setCell ⟨Q.q, 4, none⟩ (.int .i64 (wrap64 (z1 + 1)))) := (Keeps.refl (Only Q.q) _).set (p := ⟨Q.q, 4, none⟩) rfl _
      have hq2 : Blk (wx.setCell ⟨Q.q, 4, none⟩ (.int .i64 (wrap64 (z1 + 1)))) Q.q 129 #[.slice (some ⟨Q.db, 0, none⟩) 1 Q.dc, wv'.v, .int .i64 (-1), .bool false, .int .i64 (wrap64 (z1 + 1))] := hq.set 4 _
      obtain ⟨z2, hz2⟩ : ∃ z2, z2 = wrap64 (z1 + 1) := ⟨_, rfl⟩
      rw [← hz2] at hk2 hkq hq2 ⊢
      clear hz2
      obtain ⟨w2, hw2⟩ : ∃ V : World, V = wx.setCell ⟨Q.q, 4, none⟩ (.int .i64 z2) := ⟨_, rfl⟩
      rw [← hw2] at hk2 hkq hq2 ⊢
      clear hw2 c2 c4 f4
      obtain ⟨lo, hlo⟩ : ∃ lo, lo = 128 * k := ⟨_, rfl⟩
      obtain ⟨hi, hhi⟩ : ∃ hi, hi = 128 * k + 128 := ⟨_, rfl⟩
      have y1 : IntKind.i64.wrap ((k : Int) * 128) = (lo : Int) := by rw [IntKind.wrap_i64]; omega
      have y2 : IntKind.i64.wrap ((k : Int) + 1) = ((k : Int) + 1) := by rw [IntKind.wrap_i64]; omega
      have y3 : IntKind.i64.wrap (((k : Int) + 1) * 128) = (hi : Int) := by rw [IntKind.wrap_i64]; omega
      have y4 : (0 : Int) ≤ (lo : Int) := by omega
      have y5 : (lo : Int) ≤ (hi : Int) := by omega
      have y6 : (hi : Int) ≤ (c : Int) := by omega
      have y7 : ¬ c = lo := by omega
      have HLo := Lib.hid (And.intro hlo hhi)
      clear hlo hhi
      go_upto_region 17 with fail
      have hkf : Keeps (Fd Q pv wv) w w2 := hK.trans hk2
      have hA2 : At w2 (some ⟨g, 0, none⟩) bs := hA.keep hkf fun ad e => by injection e with e; subst e; exact hgb.elim fun cs hcs => HH.out.free hcs (by decide) (by decide) (by decide) (by decide)
      have hA3 : At w2 (some ⟨g, lo, none⟩) ((bs.drop lo).take 128) := by
        have e : (⟨g, 0, none⟩ : Addr).add lo = ⟨g, lo, none⟩ := by
          rcases Nat.eq_zero_or_pos lo with hl | hl
          · subst hl; rfl
          · simp [Addr.add, Nat.ne_of_gt hl]
        have := (hA2.drop lo).take 128
        rw [← e]
        exact this
      have hl3 : hi - lo = ((bs.drop lo).take 128).length := by rw [List.length_take, List.length_drop, hbl, HLo.out.1, HLo.out.2]; omega
      have hz3 : 0 + ((bs.drop lo).take 128).length ≤ 140737488355328 := by rw [← hl3, HLo.out.1, HLo.out.2]; omega
      have HA := Lib.hid (And.intro hA3 (And.intro hl3 hz3))
      clear hA3 hl3 hz3
      go_upto_region 18 with (at_builtin; go_must (refine wpList_append_bytes (o := ⟨some 96, _, _, _, _, _⟩) rfl (.const (.slice none 0 0)) (.tmp 95) 55 rfl w2.heap.size 5 Tryz.underlying55 info5 (.slice none 0 0) [] rfl (OwnB.nil _ _ _) (some ⟨g, lo, none⟩) (hi - lo) (c - lo) ((bs.drop lo).take 128) (by kernel_rfl) HA.out.2.1 HA.out.1 HA.out.2.2 (Nat.le_refl _) ?_); intro u5 w5 hO5 hK5 hat5; obtain ⟨A5, c5, rfl, hc5, hA5, hn5⟩ := OwnB.open hO5)
      have hK5n : Keeps Non w2 w5 := hK5.mono fun k e => by simp [Owned, Value.ownBlock] at e
      obtain ⟨L5, hL5⟩ : ∃ L5, L5 = min 128 (128 * m - lo) := ⟨_, rfl⟩
      rw [← hL5]
      clear hL5 hO5 hK5 hat5 hc5 hA5 hn5
      have hq5 := hq2.non hK5n
      have q1 : w5.cell? ⟨Q.q, 1, none⟩ = some wv'.v := hq5.cell 1
      have hqx : ¬ Q.q ∈ own wv'.v := own_type hMs hq (by decide)
      have hMs5 : RowP w5 178 3 encM wv'.v Ms := (hMs.keep hkq fun j hj e => hqx (by unfold Only at e; rw [← e]; exact hj)).non hK5n
      have ka := (Keeps.refl Non w5).alloc (.cells #[.int .i64 0, .int .i64 ((p : Int) + (k : Int)), .slice A5 L5 c5] 178)
      have hMa := Lib.hid (hMs5.non ka)
      have hqa := hq5.non ka
      have HAt := Lib.hid (show Ats (w5.alloc (.cells #[.int .i64 0, .int .i64 ((p : Int) + (k : Int)), .slice A5 L5 c5] 178)) (some ⟨w5.heap.size, 0, none⟩) ([(⟨p + k, ⟨A5, L5, c5⟩⟩ : Ww)].flatMap encM) from Ats.lit w5 _ 178 _ rfl)
      have HBb : Hid (Ms.length + [(⟨p + k, ⟨A5, L5, c5⟩⟩ : Ww)].length ≤ maxLen ∧ (Ms.length + [(⟨p + k, ⟨A5, L5, c5⟩⟩ : Ww)].length) * 40 ≤ 140737488355328) := Lib.hid (by have e1 := HI.out.1; have e2 := HI.out.2.2.1; rw [List.length_singleton]; unfold maxLen; omega)
      clear q1
      have q1 : w5.cell? ⟨Q.q, 1, none⟩ = some (.slice wv'.A wv'.n wv'.c) := hq5.cell 1
      have HK5 := Lib.hid (((hkq.mono (T := fun i => i = Q.q ∨ i ∈ own wv'.v) fun i e => .inl e).non hK5n).non ka)
      have HKf := Lib.hid ((hkf.non hK5n).non ka)
      have HMl := Lib.hid HI.out.2.2.1
      generalize hnn : wv'.n = nn at q1
      have HNN := Lib.hid hnn
      clear hnn
      clear hq2 hkq hk2 hq hMs hK5n hq5 hMs5 ka hqx hkf
      go_wp2_with (at_builtin; go_must (refine wpList_append_row (o := ⟨some 109, _, _, _, _, _⟩) rfl (.tmp 101) (.tmp 108) 127 rfl 178 3 encM _ 40 Tryz.underlying127 info178 rfl (by decide) encM_len encM_one (.slice wv'.A nn wv'.c) Ms (by kernel_rfl) (by rw [← HNN.out]; exact hMa.out) (some ⟨w5.heap.size, 0, none⟩) 1 1 [(⟨p + k, ⟨A5, L5, c5⟩⟩ : Ww)] (by kernel_rfl) rfl HAt.out HBb.out.1 HBb.out.2 ?_); intro u8 w8 hO8 hK8 hat; obtain ⟨⟨A8, n8, c8⟩, rfl, h8⟩ := RowP.sl hO8; have HR8 := Lib.hid (And.intro hO8 (And.intro hK8 (And.intro h8 hat))); clear h8 hat; have hq8 := hqa.keep hK8 (fun e => own_type (v := wv'.v) hMa.out hqa (by decide) (by rw [← HNN.out] at e; exact e)); clear hO8 hK8; have z8 := hq8.cell 1; have f8 := hq8.frozen 1)
      go_roundw
      case rel =>
        obtain ⟨hO8, hK8, h8, hat⟩ := HR8.out
        have hnn := HNN.out
        have h8' : n8 = Ms.length + 1 := by have : n8 = (Ms ++ [(⟨p + k, ⟨A5, L5, c5⟩⟩ : Ww)]).length := h8; rw [List.length_append] at this; exact this
        have hwl := HMl.out
        obtain ⟨hwv, hown, -, hMat⟩ := HI.out
        have hk9 : Keeps (Only Q.q) w8 (w8.setCell ⟨Q.q, 1, none⟩ (.slice A8 n8 c8)) := (Keeps.refl (Only Q.q) _).set (p := ⟨Q.q, 1, none⟩) rfl _
        have hq9 : Blk (w8.setCell ⟨Q.q, 1, none⟩ (.slice A8 n8 c8)) Q.q 129 #[.slice (some ⟨Q.db, 0, none⟩) 1 Q.dc, .slice A8 n8 c8, .int .i64 (-1), .bool false, .int .i64 z2] := hq8.set 1 _
        subst hnn
        have hKt : Keeps (fun i => i = Q.q ∨ i ∈ own wv'.v) wx (w8.setCell ⟨Q.q, 1, none⟩ (.slice A8 n8 c8)) := (HK5.out.trans (hK8.mono fun i e => .inr e)).trans (hk9.mono fun i e => .inl e)
        have hn9 : ∀ j ∈ own (.slice A8 n8 c8), j ∈ own wv'.v ∨ wx.heap.size ≤ j := fun j hj => by
          rw [mem_own] at hj
          rcases hat with e | e
          · exact .inl (mem_own.2 (e.symm.trans hj))
          · have e2 := e.symm.trans hj
            injection e2 with e2
            right
            have := HK5.out.size
            omega
        have hz := hK.size
        have hz0 := HH.out.keep.size
        have hown9 : ∀ j ∈ own (.slice A8 n8 c8), j ∈ own wv.v ∨ w.heap.size ≤ j := fun j hj => by
          rcases hn9 j hj with e | e
          · exact hown j e
          · right; omega
        refine ⟨k + 1, by omega, by omega, ⟨A8, n8, c8⟩, HDD.out.waits ⟨A8, n8, c8⟩ z2 hKt hq9 (Ms ++ [⟨p + k, ⟨A5, L5, c5⟩⟩]) (hO8.keep hk9 fun g hg e => own_type hO8 hq8 (by decide) (by unfold Only at e; rw [← e]; exact hg)) (by rw [List.length_append]; exact h8') (fun x hx => ?_) (fun j hj => ?_), by show n8 = _; omega, hown9, ?_⟩
        · rcases List.mem_append.1 hx with hx | hx
          · exact hMat x hx
          · rw [List.mem_singleton] at hx; subst hx; show p + k < n; omega
        · rcases hown9 j hj with e | e
          · exact HH.out.new.2.2.2.2 j e
          · omega
        · refine hK.then hKt fun i hi e => ?_
          rcases e with e | e
          · exact .inl e
          · rcases hown i e with e | e
            · exact .inr (.inr (.inr e))
            · omega
      case measure => simp [intOf]; omega
    · obtain rfl : k = m := by omega
      go_wp2_with fail
      go_ret
      exact ⟨rfl, wv', hD, hwv, hown, hK⟩
end Go.Proofs.YtipbjiepfnjojaaGreatDoor
namespace Go.Proofs.YtipbjiepfnjojaaGreatDoor
set_option maxRecDepth 100000
open Go.RowKit Go.Uc

theorem encS_map (P : List Sl) : P.flatMap encS = P.map Sl.v := by
  induction P with
  | nil => rfl
  | cons x P ih => rw [List.flatMap_cons, ih, List.map_cons]; rfl
/-- A sector of its platter is another one. -/
theorem Dd.plate {w0 w : World} {Q : Qb} {n : Nat} {pv wv : Sl} (h : Dd w0 w Q n pv wv) {gp : Nat} (e1 : pv.A = some ⟨gp, 0, none⟩) (at_ : Nat) (hat : at_ < n) (x : Sl) : Dd w0 (w.setCell ⟨gp, at_, none⟩ x.v) Q n pv wv ∧ Keeps (Fd Q pv wv) w (w.setCell ⟨gp, at_, none⟩ x.v) := by
  obtain ⟨pA, pn, pc⟩ := pv
  simp only at e1
  subst e1
  obtain ⟨z0, hp⟩ := h.pw
  obtain ⟨cs, hd, hc0, hdc⟩ := h.ds
  obtain ⟨P, hP, hpn, hPn⟩ := h.pl
  obtain ⟨M, hM, hwl, hMa⟩ := h.wt
  obtain ⟨n1, n2, n3, n4, n5⟩ := h.new
  simp only at hpn
  subst hpn
  have hg55 : ∃ cur, Blk w gp 55 cur := by
    rcases hP.form with ⟨e, -⟩ | ⟨g, cap, cur, e, hB, -⟩
    · cases e
    · injection e with e
      injection e with e
      injection e with e
      subst e
      exact ⟨cur, hB⟩
  obtain ⟨cur, hB⟩ := hg55
  have hk : Keeps (Only gp) w (w.setCell ⟨gp, at_, none⟩ x.v) := (Keeps.refl (Only gp) _).set (p := ⟨gp, at_, none⟩) rfl _
  have hR : RowP (w.setCell ⟨gp, at_, none⟩ x.v) 55 1 encS (.slice (some ⟨gp, 0, none⟩) P.length pc) (P.set at_ x) := by
    have := row_set (k := at_) hP (show at_ < P.length by omega) x.v
    unfold RowP
    rw [encS_map] at this ⊢
    rw [List.map_set, List.length_set]
    exact this
  refine ⟨⟨⟨z0, hp.one hk (hp.ne hB (by decide))⟩, ⟨cs, hd.one hk (hd.ne hB (by decide)), hc0, hdc⟩, h.dk.one hk (h.dk.ne hB (by decide)), ⟨P.set at_ x, hR, by simp, by simpa using hPn⟩, ⟨M, hM.keep hk fun g hg e => own_type hM hB (by decide) (by unfold Only at e; rw [← e]; exact hg), hwl, hMa⟩, ⟨n1, n2, n3, n4, n5⟩, h.keep.then hk fun i hi e => ?_⟩, hk.mono fun i e => ?_⟩
  · unfold Only at e
    have := n4 gp (by show gp ∈ own (.slice (some ⟨gp, 0, none⟩) _ _); rw [own_slice]; exact List.mem_singleton.2 rfl)
    omega
  · unfold Only at e
    subst e
    exact .inr (.inr (.inl (by show i ∈ own (.slice (some ⟨i, 0, none⟩) _ _); rw [own_slice]; exact List.mem_singleton.2 rfl)))
theorem Dd.drew {w0 w : World} {Q : Qb} {n : Nat} {pv wv : Sl} (h : Dd w0 w Q n pv wv) : Dd w0 w.drew Q n pv wv := h.non (Keeps.refl Non w).drew
set_option maxHeartbeats 8000000 in
theorem without104_any {w0 w : World} {Q : Qb} {n : Nat} {pv wv : Sl} (h : Dd w0 w Q n pv wv) (hwn : wv.n ≤ 100000) :
    Calls Tryz.prog 104 #[.pointer (some ⟨Q.q, 0, none⟩), .int .i64 0, .bool true] w fun e w' => e = .returned (.tuple #[]) ∧ Dd w0 w' Q n pv ⟨none, 0, 0⟩ ∧ Keeps (Fd Q pv wv) w w' := by
  obtain ⟨N, hN⟩ : ∃ N, N = wv.n := ⟨_, rfl⟩
  have HN := Lib.hid hN
  rw [← hN] at hwn
  clear hN
  go_enter Tryz.func104, Tryz.ntmps104
  go_upto_region 2 with fail
  go_loopw [6, 7] (fun u i wr => ∃ k : Nat, k ≤ N ∧ u = .slice none 0 0 ∧ i = .int .i64 (k : Int) ∧ Dd w0 wr Q n pv wv ∧ Keeps (Fd Q pv wv) w wr) (fun _ i _ => N - (intOf i).toNat)
  case atStart => exact ⟨0, Nat.zero_le _, rfl, rfl, h, Keeps.refl _ _⟩
  case round =>
    obtain ⟨k, hk, rfl, rfl, hD, hK⟩ := hrel
    obtain ⟨wx, rfl⟩ : ∃ W : World, W = wr := ⟨_, rfl⟩
    obtain ⟨z, hp⟩ := hD.pw
    obtain ⟨M, hM, hwl, hMat⟩ := hD.wt
    obtain ⟨cs, hd, hc0, hdc⟩ := hD.ds
    obtain ⟨P, hP, hpn, hPn⟩ := hD.pl
    have q1 : wx.cell? ⟨Q.q, 1, none⟩ = some (.slice wv.A N wv.c) := by rw [HN.out]; exact hp.cell 1
    by_cases hlt : k < N
    · have hki : (k : Int) < (N : Int) := by omega
      have hkM : k < M.length := by have := HN.out; omega
      obtain ⟨g, cap, e1, hle, -, hcell, -, -⟩ := hM.at_ encM_len hkM
      injection e1 with e1 e2 e3
      rw [e1] at q1
      have m0 : wx.cell? ⟨g, k * 3, none⟩ = some (.int .i64 0) := hcell 0 (by decide)
      have m1 : wx.cell? ⟨g, k * 3 + 1, none⟩ = some (.int .i64 ((M[k]).at_ : Int)) := hcell 1 (by decide)
      have m2 : wx.cell? ⟨g, k * 3 + 2, none⟩ = some (M[k]).b.v := hcell 2 (by decide)
      have hat := hMat M[k] (List.getElem_mem hkM)
      generalize M[k] = x at m1 m2 hat
      obtain ⟨at_, xA, xn, xc⟩ := x
      simp only at m1 m2 hat
      have HD := Lib.hid hD
      have Hp := Lib.hid hp
      have HP := Lib.hid (And.intro hP (And.intro hpn hPn))
      have Hd := Lib.hid (And.intro hd (And.intro hc0 hdc))
      clear hcell e1 e2 e3 hle hkM hMat hwl hM hD hp hP hpn hPn hd hc0 hdc
      go_upto_region 5 with fail
      have hB2 := Blk.new wx 178 #[.int .i64 0, .int .i64 (at_ : Int), .slice xA xn xc]
      have hk2 := (Keeps.refl Non wx).alloc (.cells #[.int .i64 0, .int .i64 (at_ : Int), .slice xA xn xc] 178)
      obtain ⟨w2, hw2⟩ : ∃ V : World, V = wx.alloc (.cells #[.int .i64 0, .int .i64 (at_ : Int), .slice xA xn xc] 178) := ⟨_, rfl⟩
      rw [← hw2] at hB2 hk2 ⊢
      clear hw2
      obtain ⟨b2, hb2⟩ : ∃ b, b = wx.heap.size := ⟨_, rfl⟩
      rw [← hb2] at hB2 ⊢
      clear hb2 m0 m1 m2 q1
      have y0 : w2.cell? ⟨b2, 0, none⟩ = some (.int .i64 0) := hB2.cell 0
      have y1 : w2.cell? ⟨b2, 1, none⟩ = some (.int .i64 (at_ : Int)) := hB2.cell 1
      have y2 : w2.cell? ⟨b2, 2, none⟩ = some (.slice xA xn xc) := hB2.cell 2
      have hp2 := Hp.out.non hk2
      have hP2 := HP.out.1.non hk2
      have hd2 := Hd.out.1.non hk2
      have hD2 := HD.out.non hk2
      have z0 : w2.cell? ⟨Q.q, 0, none⟩ = some (.slice (some ⟨Q.db, 0, none⟩) 1 Q.dc) := hp2.cell 0
      have z1 : w2.cell? ⟨Q.db, 0, none⟩ = some (.pointer (some ⟨Q.d, 0, none⟩)) := by rw [hd2.cell]; exact Hd.out.2.1
      have hatP : at_ < P.length := by have := HP.out.2.2; omega
      obtain ⟨gp, capp, e1, hlep, -, hcp, hfp, -⟩ := hP2.at_ encS_len (i := at_) hatP
      have e2 := e1
      injection e2 with e2 e3 e4
      have z2 : w2.cell? ⟨Q.d, 0, none⟩ = some (.slice (some ⟨gp, 0, none⟩) n pv.c) := by rw [← e2, ← HP.out.2.2, ← HP.out.2.1]; exact hD2.dk.cell 0
      obtain ⟨vv, z3⟩ : ∃ vv, w2.cell? ⟨gp, at_, none⟩ = some vv := ⟨(P[at_]'hatP).v, by have := hcp 0 (by decide); rw [Nat.mul_one] at this; exact this⟩
      have z4 := hfp at_
      have hati : (at_ : Int) < (n : Int) := by omega
      have HE := Lib.hid (And.intro e1 (And.intro e2 (And.intro e3 e4)))
      have HB2 := Lib.hid hB2
      clear hcp e1 e2 e3 e4 hfp hlep hp2 hd2 hP2 hD2 hB2
      go_upto_region 8 with fail
      go_region
      have hpl := (HD.out.non hk2).plate (x := ⟨xA, xn, xc⟩) HE.out.2.1 at_ hat
      have HF := Lib.hid (And.intro hpl.1.drew ((hK.trans (hk2.of_non.trans hpl.2)).drew))
      clear hpl
      go_wp2_with fail
      go_roundw
      case rel => exact ⟨k + 1, by omega, rfl, by go_num, HF.out.1, HF.out.2⟩
      case measure => simp [intOf]; omega
    · obtain rfl : k = N := by omega
      have f1 := hp.frozen 1
      go_wp2_with fail
      go_end0
      have hk9 : Keeps (Only Q.q) wx (wx.setCell ⟨Q.q, 1, none⟩ (.slice none 0 0)) := (Keeps.refl (Only Q.q) _).set (p := ⟨Q.q, 1, none⟩) rfl _
      exact ⟨rfl, hD.waits ⟨none, 0, 0⟩ z (hk9.mono fun i e => .inl e) (hp.set 1 _) [] (RowP.nil _ _ _ _) rfl (fun x hx => (List.not_mem_nil hx).elim) (fun g hg => (List.not_mem_nil hg).elim), hK.trans (hk9.mono fun i e => .inl e)⟩
set_option maxHeartbeats 2000000 in
theorem flush65_any {w0 w : World} {Q : Qb} {n : Nat} {pv wv : Sl} (h : Dd w0 w Q n pv wv) (hwn : wv.n ≤ 100000) :
    Calls Tryz.prog 65 #[.pointer (some ⟨Q.q, 0, none⟩), .int .i64 0] w fun e w' => e = .returned (.int .i64 0) ∧ Dd w0 w' Q n pv ⟨none, 0, 0⟩ ∧ Keeps (Fd Q pv wv) w w' := by
  have HD := Lib.hid (down103_any h)
  have HW := Lib.hid (without104_any h hwn)
  clear h
  go_enter Tryz.func65, Tryz.ntmps65
  go_wp2_with (first | (go_at_call 103; go_must (refine HD.out.mono ?_); rintro e w9 ⟨rfl, hw9⟩; subst w9) | (go_at_call 104; go_must (refine HW.out.mono ?_); rintro e w4 ⟨rfl, h4, hK4⟩))
  go_ret
  exact ⟨rfl, h4, hK4⟩
end Go.Proofs.YtipbjiepfnjojaaGreatDoor
namespace Go.Proofs.YtipbjiepfnjojaaGreatDoor
set_option maxRecDepth 100000
open Go.RowKit Go.Uc

/-- Bytes of the call's own, or of its caller's, so many of them. -/
def Own5 (w : World) (B : Nat) (v : Value) (k : Nat) : Prop := ∃ bs : List UInt8, bs.length = k ∧ OwnB w B 5 v bs
theorem Own5.non {w w' : World} {B : Nat} {v : Value} {k : Nat} (h : Own5 w B v k) (hk : Keeps Non w w') : Own5 w' B v k := h.imp fun _ i => ⟨i.1, i.2.non hk⟩
theorem keeps_own {w w1 w2 : World} {B : Nat} {v : Value} {bs : List UInt8} (hk : Keeps Non w w1) (hO : OwnB w1 B 5 v bs) (hB : w.heap.size ≤ B) (h : Keeps (Owned v) w1 w2) : Keeps Non w w2 :=
  hk.then h fun i hi e => by have := hO.new i e; omega
set_option maxHeartbeats 1000000 in
theorem form124_any (n k : Nat) (hk : k ≤ 8) (hn : n < 18446744073709551616) (w : World) :
    Calls Tryz.prog 124 #[.int .u64 (n : Int), .int .i64 (k : Int)] w fun e w' => ∃ (v : Value) (b : Bool), e = .returned (.tuple #[v, .bool b]) ∧ Own5 w' w.heap.size v k ∧ Keeps Non w w' := by
  go_enter Tryz.func124, Tryz.ntmps124
  go_upto_region 3 with fail
  go_loopw [0, 6, 7] (fun a v i wr => ∃ (m j : Nat) (bs : List UInt8), m < 18446744073709551616 ∧ j ≤ k ∧ a = .int .u64 (m : Int) ∧ i = .int .i64 (j : Int) ∧ bs.length = j ∧ OwnB wr w.heap.size 5 v bs ∧ Keeps Non w wr) (fun _ _ i _ => k - (intOf i).toNat)
  case atStart => exact ⟨n, 0, [], hn, Nat.zero_le _, rfl, rfl, rfl, OwnB.nil _ _ _, Keeps.refl _ _⟩
  case round =>
    rename_i a6 a7
    obtain ⟨m, j, bs, hm, hj, rfl, rfl, hbs, hO, hK⟩ := hrel
    obtain ⟨wx, rfl⟩ : ∃ W : World, W = wr := ⟨_, rfl⟩
    have HO := Lib.hid (And.intro hbs hO)
    clear hbs hO
    by_cases hlt : j < k
    · have hji : (j : Int) < (k : Int) := by omega
      have m0 : (0 : Int) ≤ (m : Int) := by omega
      obtain ⟨c, hc⟩ : ∃ c : UInt8, Value.int .u8 ((m : Int) % 256) = bv c := ⟨UInt8.ofNat (m % 256), by rw [bv_ofNat _ (Nat.mod_lt _ (by decide))]; rfl⟩
      have ka := (Keeps.refl Non wx).alloc (.cells #[.int .u8 ((m : Int) % 256)] 5)
      have HA := Lib.hid (And.intro (At.one wx (.int .u8 ((m : Int) % 256)) 5 c hc) (And.intro (HO.out.2.non ka) (hK.non ka)))
      clear hc
      have HL : Hid (bs.length + [c].length ≤ 140737488355328) := Lib.hid (by rw [HO.out.1]; simp; omega)
      have HZ : Hid (w.heap.size ≤ (wx.alloc (.cells #[.int .u8 ((m : Int) % 256)] 5)).heap.size) := Lib.hid HA.out.2.2.size
      clear ka
      go_wp2_with (at_builtin; go_must (refine wpList_append_bytes (o := ⟨some 18, _, _, _, _, _⟩) rfl (.tmp 13) (.tmp 17) 55 rfl w.heap.size 5 Tryz.underlying55 info5 u6 bs rfl HA.out.2.1 (some ⟨wx.heap.size, 0, none⟩) 1 1 [c] (by kernel_rfl) rfl HA.out.1 HL.out HZ.out ?_); intro v8 w8 hO8 hK8 hat8; have hK8w := keeps_own HA.out.2.2 HA.out.2.1 (Nat.le_refl _) hK8; have HR := Lib.hid (And.intro hO8 hK8w); clear hO8 hK8 hat8 hK8w)
      go_roundw
      case rel => exact ⟨m / 256, j + 1, bs ++ [c], by omega, by omega, rfl, by go_num, by rw [List.length_append, HO.out.1]; rfl, HR.out.1, HR.out.2⟩
      case measure => simp [intOf]; omega
    · obtain rfl : j = k := by omega
      go_wp2_with fail
      go_ret2
      exact ⟨_, _, rfl, ⟨bs, HO.out.1, HO.out.2⟩, hK⟩
end Go.Proofs.YtipbjiepfnjojaaGreatDoor
namespace Go.Proofs.YtipbjiepfnjojaaGreatDoor
set_option maxRecDepth 100000
open Go.RowKit Go.Uc

/-- Bytes laid since w0, so many of them; nothing of before has turned. -/
def Byt (w0 w : World) (v : Value) (j : Nat) : Prop := ∃ bs : List UInt8, bs.length = j ∧ OwnB w w0.heap.size 5 v bs ∧ Keeps Non w0 w
theorem oth_own {w w2 : World} {B : Nat} {v : Value} {bs : List UInt8} (h : OwnB w B 5 v bs) (hK : Keeps (Owned v) w w2) : Oth w w2 := fun b t cs hb _ h5 => by
  refine hb.keep hK fun e => ?_
  rcases h.form with ⟨rfl, -⟩ | ⟨g, cap, cur, rfl, -, hB, -⟩
  · simp [Owned, Value.ownBlock] at e
  · simp [Owned, Value.ownBlock] at e
    subst e
    exact hb.ne hB h5 rfl
theorem Byt.non {w0 w w' : World} {v : Value} {j : Nat} (h : Byt w0 w v j) (hk : Keeps Non w w') : Byt w0 w' v j := h.imp fun _ i => ⟨i.1, i.2.1.non hk, i.2.2.non hk⟩
set_option maxHeartbeats 1000000 in
theorem num101_any {w0 w : World} {v : Value} {j : Nat} (h : Byt w0 w v j) (n k : Nat) (hj : j ≤ 1000) (hk : k ≤ 8) (hn : n < 18446744073709551616) :
    Calls Tryz.prog 101 #[v, .int .u64 (n : Int), .int .i64 (k : Int)] w fun e w' => ∃ v', e = .returned v' ∧ Byt w0 w' v' (j + k) ∧ Oth w w' := by
  have HF := Lib.hid (form124_any n k hk hn w)
  obtain ⟨bs, hl, hO, hK⟩ := h
  have HL := Lib.hid hl
  clear hl
  go_enter Tryz.func101, Tryz.ntmps101
  go_upto_region 2 with (go_at_call 124; go_must (refine HF.out.mono ?_); rintro e w1 ⟨u, b, rfl, ⟨bs1, hl1, hO1⟩, hK1⟩; obtain ⟨A1, c1, rfl, hc1, hA1, hn1⟩ := OwnB.open hO1)
  have hO2 := hO.non hK1
  have hK2 := hK.non hK1
  have HB : Hid (bs.length + bs1.length ≤ 140737488355328) := Lib.hid (by rw [HL.out, hl1]; omega)
  have HL1 := Lib.hid hl1
  have HT := Lib.hid (Oth.of hK1)
  clear hl1 hO1 hc1 hn1 hO hK hK1
  have hz := hK2.size
  go_wp2_with (at_builtin; go_must (refine wpList_append_bytes (o := ⟨some 17, _, _, _, _, _⟩) rfl (.tmp 15) (.tmp 16) 55 rfl w0.heap.size 5 Tryz.underlying55 info5 v bs rfl hO2 A1 k c1 bs1 rfl HL1.out.symm hA1 HB.out hz ?_); intro v8 w8 hO8 hK8 hat8; have hK8w := keeps_own hK2 hO2 (Nat.le_refl _) hK8; have HR := Lib.hid (And.intro hO8 (And.intro hK8w (HT.out.trans (oth_own hO2 hK8)))); clear hO8 hK8 hat8 hK8w)
  go_ret
  exact ⟨_, rfl, ⟨bs ++ bs1, by rw [List.length_append, HL.out, HL1.out], HR.out.1, HR.out.2.1⟩, HR.out.2.2⟩
/-- How long a slice is. -/
def vlen : Value → Nat
  | .slice _ n _ => n
  | _ => 0
set_option maxHeartbeats 1000000 in
theorem padded125_any {w0 w : World} {v : Value} {j : Nat} (h : Byt w0 w v j) (to_ : Nat) (hj : j ≤ to_) (ht : to_ ≤ 1000) :
    Calls Tryz.prog 125 #[v, .int .i64 (to_ : Int)] w fun e w' => ∃ v', e = .returned v' ∧ Byt w0 w' v' to_ := by
  go_enter Tryz.func125, Tryz.ntmps125
  go_upto_region 1 with fail
  go_loopw [0] (fun u wr => ∃ i : Nat, i ≤ to_ ∧ Byt w0 wr u i) (fun u _ => to_ - vlen u)
  case atStart => exact ⟨j, hj, h⟩
  case round =>
    obtain ⟨i, hi, bs, hl, hO, hK⟩ := hrel
    obtain ⟨wx, rfl⟩ : ∃ W : World, W = wr := ⟨_, rfl⟩
    obtain ⟨A, c, rfl, hc, hA, hn⟩ := OwnB.open hO
    clear hc hA hn
    subst hl
    have hz := hK.size
    by_cases hlt : bs.length < to_
    · have hki : (bs.length : Int) < (to_ : Int) := by omega
      have ka := (Keeps.refl Non wx).alloc (.cells #[.int .u8 0] 5)
      have hA := At.one wx (.int .u8 0) 5 0 rfl
      have hO1 := hO.non ka
      have hK1 := hK.non ka
      have HL : Hid (bs.length + [(0 : UInt8)].length ≤ 140737488355328) := Lib.hid (by simp; omega)
      have hz1 := hK1.size
      clear hO hK ka
      go_wp2_with (at_builtin; go_must (refine wpList_append_bytes (o := ⟨some 11, _, _, _, _, _⟩) rfl (.tmp 9) (.tmp 10) 55 rfl w0.heap.size 5 Tryz.underlying55 info5 (.slice A bs.length c) bs rfl hO1 (some ⟨wx.heap.size, 0, none⟩) 1 1 [0] (by kernel_rfl) rfl hA HL.out hz1 ?_); intro v8 w8 hO8 hK8 hat8; obtain ⟨A8, c8, rfl, hc8, hA8, hn8⟩ := OwnB.open hO8; rw [show (bs ++ [(0 : UInt8)]).length = bs.length + 1 by simp] at hO8 ⊢; have hK8w := keeps_own hK1 hO1 (Nat.le_refl _) hK8; have HR := Lib.hid (And.intro hO8 hK8w); clear hO8 hK8 hat8 hK8w hc8 hA8 hn8)
      go_roundw
      case rel => exact ⟨bs.length + 1, by omega, bs ++ [0], by simp, HR.out.1, HR.out.2⟩
      case measure => simp [vlen]; omega
    · have hll : ¬ (bs.length : Int) < (to_ : Int) := by omega
      go_wp2_with fail
      go_ret
      exact ⟨_, rfl, bs, by omega, hO, hK⟩
set_option maxHeartbeats 2000000 in
theorem sums126_any {w0 w : World} {v : Value} {j : Nat} (h : Byt w0 w v j) (s : S4) (hs : s.ok) (hj : j ≤ 900) :
    Calls Tryz.prog 126 #[v, .agg s.cs] w fun e w' => ∃ v', e = .returned v' ∧ Byt w0 w' v' (j + 32) := by
  obtain ⟨sa, sb, sc, sd⟩ := s
  obtain ⟨q1, q2, q3, q4⟩ := hs
  simp only at q1 q2 q3 q4
  have HN := Lib.hid (fun V u i n (hV : Byt w0 V u i) (hi : i ≤ 1000) (hn : n < 18446744073709551616) => num101_any hV n 8 hi (by decide) hn)
  have hB := Blk.new w 43 #[.int .u64 (sa : Int), .int .u64 (sb : Int), .int .u64 (sc : Int), .int .u64 (sd : Int)]
  have hk := (Keeps.refl Non w).alloc (.cells #[.int .u64 (sa : Int), .int .u64 (sb : Int), .int .u64 (sc : Int), .int .u64 (sd : Int)] 43)
  have h1 := h.non hk
  unfold S4.cs
  go_enter Tryz.func126, Tryz.ntmps126
  go_upto_region 1 with fail
  obtain ⟨w1, hw1⟩ : ∃ V : World, V = w.alloc (.cells #[.int .u64 (sa : Int), .int .u64 (sb : Int), .int .u64 (sc : Int), .int .u64 (sd : Int)] 43) := ⟨_, rfl⟩
  rw [← hw1] at hB h1 ⊢
  clear hw1
  obtain ⟨g, hg⟩ : ∃ z, z = w.heap.size := ⟨_, rfl⟩
  rw [← hg] at hB ⊢
  clear hg hk h
  have x0 : w1.cell? ⟨g, 0, none⟩ = some (.int .u64 (sa : Int)) := hB.cell 0
  go_upto_region 2 with (go_at_call 101; go_must (refine (HN.out w1 v j sa h1 (by omega) q1).mono ?_); rintro e w2 ⟨v2, rfl, h2, hY2⟩)
  have hB2 := hY2 _ _ _ hB (by decide) (by decide)
  have x1 : w2.cell? ⟨g, 1, none⟩ = some (.int .u64 (sb : Int)) := hB2.cell 1
  go_upto_region 3 with (go_at_call 101; go_must (refine (HN.out w2 v2 (j + 8) sb h2 (by omega) q2).mono ?_); rintro e w3 ⟨v3, rfl, h3, hY3⟩)
  have hB3 := hY3 _ _ _ hB2 (by decide) (by decide)
  have x2 : w3.cell? ⟨g, 2, none⟩ = some (.int .u64 (sc : Int)) := hB3.cell 2
  go_upto_region 4 with (go_at_call 101; go_must (refine (HN.out w3 v3 (j + 8 + 8) sc h3 (by omega) q3).mono ?_); rintro e w4 ⟨v4, rfl, h4, hY4⟩)
  have hB4 := hY4 _ _ _ hB3 (by decide) (by decide)
  have x3 : w4.cell? ⟨g, 3, none⟩ = some (.int .u64 (sd : Int)) := hB4.cell 3
  go_wp2_with (go_at_call 101; go_must (refine (HN.out w4 v4 (j + 8 + 8 + 8) sd h4 (by omega) q4).mono ?_); rintro e w5 ⟨v5, rfl, h5, hY5⟩)
  go_ret
  exact ⟨_, rfl, h5⟩
end Go.Proofs.YtipbjiepfnjojaaGreatDoor
