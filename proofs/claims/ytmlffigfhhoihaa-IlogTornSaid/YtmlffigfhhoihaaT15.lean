/- The walk of IlogTorn. -/
import Derived.Test.YtmlffigfhhoihaaP3
import Derived.Test.YtmlffigfhhoihaaBased
namespace Go.Proofs.Ytmlffigfhhoihaa
open Go.RowKit Go.Uc

set_option maxRecDepth 100000 in
set_option maxHeartbeats 4000000 in
theorem ilogTorn_any (base : Int) (A1 A2 A3 : Option Addr) (c1 c2 c3 : Nat) (old records : List (List UInt8)) (lacks : List Int) (w : World) (hR1 : Recs w A1 old) (hR2 : Recs w A2 records) (hR3 : Nums w A3 lacks) (hn1 : old.length ≤ 140737488351232) (hn2 : records.length ≤ 140737488351232) (hn3 : lacks.length ≤ 140737488351232)
    (hb1 : -9223372036854775808 ≤ base) (hb2 : base ≤ 9223372036854775807) :
    Calls Try.prog 4 #[.int .i64 base, .slice A1 old.length c1, .slice A2 records.length c2, .slice A3 lacks.length c3] w fun e w' => e = .returned (.bool true) ∧ Keeps Non w w' := by
  have HR1 := Lib.hid hR1
  have HR2 := Lib.hid hR2
  have HR3 := Lib.hid hR3
  clear hR1 hR2 hR3
  go_enter Try.func4, Try.ntmps4
  go_wp2_with (first
    | (go_at_call 7; go_must (refine (awake_any _).mono ?_); rintro e w1 ⟨rfl, hK1⟩)
    | (go_at_call 15; go_must (refine (pick_any base 1000 _ (by omega) (by omega) hb1 hb2).mono ?_); rintro e w2 ⟨⟨r, hr, rfl⟩, rfl⟩)
    | (at_make; go_must (refine wpList_make_bytes rfl _ _ 31 rfl 5 Try.underlying31 info5 .i64 .i64 _ _ 22528 rfl rfl (by omega) (by omega) (by omega) ?_); intro w3 hB3 hK3))
  obtain ⟨go, hgo⟩ : ∃ go, go = w1.heap.size := ⟨_, rfl⟩
  have hs1 := hK1.size
  rw [← hgo] at hB3 hs1 ⊢
  clear hgo
  have hkw3 := hK1.trans hK3
  have hgo3 := hB3.lt
  refine (written_any r go c1 A1 old (zeros 22528) w w3 HR1.out hkw3 hn1 (by omega) hB3 hs1 (zeros_length _)).mono ?_
  rintro e w4 ⟨v4, rfl, hB4', -, hK4⟩
  have hB4 : Blk w4 go 5 (pc (backReg r old)) := by unfold backReg; exact hB4'
  clear hB4'
  have hbl := backReg_length r old
  have hkw4 := hkw3.then hK4 fun i hi e => by unfold Only at e; omega
  obtain ⟨f4, hf4⟩ : ∃ f4 : Nat, f4 = (wrF r (zeros 22528) old).frm := ⟨_, rfl⟩
  obtain ⟨t4, ht4⟩ : ∃ t4 : Nat, t4 = (wrF r (zeros 22528) old).to := ⟨_, rfl⟩
  rw [← hf4, ← ht4]
  clear hf4 ht4 hK4 hB3 hK1 hK3
  go_wp2_with (at_builtin; go_must (refine wpList_append_bytes rfl (.tmp 43) (.tmp 44) 31 rfl w4.heap.size 5 Try.underlying31 info5 (.slice none 0 0) [] rfl (OwnB.nil _ _ _) _ _ _ (backReg r old) rfl hbl.symm (At.blk hB4) (by simp only [List.length_nil]; omega) (Nat.le_refl _) ?_); intro vb wb hOb hKb hatb; clear hatb)
  have hkb : Keeps Non w4 wb := hKb.mono fun k e => by simp [Owned, Value.ownBlock] at e
  have hBb := hB4.non hkb
  have hkwb := hkw4.trans hkb
  have hlt4 := hB4.lt
  have hOb' : OwnB wb w4.heap.size 5 vb (backReg r old) := hOb
  rw [show ((r : Int) + 1) = ((r + 1 : Nat) : Int) from by omega]
  refine (written_any (r + 1) go c2 A2 records (backReg r old) w wb HR2.out hkwb hn2 (by omega) hBb hs1 hbl).mono ?_
  have hsc := back_scan r (by omega) old records
  have hinv := wrF_inv hbl (r + 1) records
  have hlast := wrF_last hbl (r + 1) records
  obtain ⟨s, hs⟩ : ∃ s, s = wrF (r + 1) (backReg r old) records := ⟨_, rfl⟩
  rw [← hs] at hsc hinv hlast ⊢
  clear hs
  rintro e w5 ⟨v5, rfl, hB5, hRow5, hK5⟩
  have hkw5 := hkwb.then hK5 fun i hi e => by unfold Only at e; omega
  have hO5 := hOb'.keep hK5 (fun g hg e => by have := hOb'.new g hg; unfold Only at e; omega)
  obtain ⟨Ab, cb, hvb, hcb, hAb, hbb⟩ := hO5.open
  subst hvb
  rw [hbl] at hcb ⊢
  have hto : s.to = s.at_ := hinv.ok.to
  have hnx : s.next = s.ls.length + 1 := hinv.ok.next
  have hl256 : s.ls.length ≤ 256 := by have := hinv.ok.room; have := hinv.ok.at_; omega
  rw [hto]
  obtain ⟨A5, c5, hv5, -, -⟩ := hRow5.in_recs hkw5 (Keeps.refl _ _)
  subst hv5
  by_cases h0 : s.ls.length = 0
  · go_wp2_with fail
    go_ret
    exact ⟨rfl, hkw5⟩
  rcases hlast with he | ⟨ls0, b, q, hls, hch, hbl5, hfr, hrec, hq⟩
  · exact absurd (by rw [he]; rfl) h0
  have hl0 : s.ls.length = ls0.length + 1 := by rw [hls]; simp
  have hold : ∀ j, 88 * j + 88 ≤ 22528 → sub (backReg r old) (88 * j) 8 ≠ le 8 (r + 1) := fun j hj => by
    have := old_base r old j hj
    rcases this with e | e
    · exact fun e' => le_ne (by omega) (by omega) (show r ≠ r + 1 by omega) (e.symm.trans e')
    · exact fun e' => le_ne (by omega) (by omega) (show 0 ≠ r + 1 by omega) (e.symm.trans e')
  have hat := hinv.ok.at_
  have hlen := hinv.ok.len
  have hp0 : 1 ≤ pieces b.length := (pieces_le _ hbl5).1
  have hT0 : Torn (r + 1) (backReg r old) s ls0 s.reg := ⟨hlen, hch, fun j _ _ => .inl rfl⟩
  obtain ⟨P, hP⟩ : ∃ P : Nat, P = pieces b.length := ⟨_, rfl⟩
  have hAt : s.at_ = 88 * q + 88 * P := by rw [hP, ← hq]; exact hfr.symm
  have HB5 := Lib.hid hB5
  have hAbb : Hid (At w5 Ab (backReg r old)) := hAb
  have hAbn : Hid (∀ ad, Ab = some ad → ad.block ≠ go) := fun ad e => by have := (hbb ad e).1; omega
  have hqd : ((88 * (q : Int) + 88 * (P : Int)) - 88 * (q : Int)).tdiv 88 = P := by rw [show (88 * (q : Int) + 88 * (P : Int)) - 88 * (q : Int) = (P : Int) * 88 by omega]; exact Int.mul_tdiv_cancel _ (by omega)
  rw [hq, hAt]
  have HP := Lib.hid hP
  have HP1 : 1 ≤ P := by omega
  have HP2 : 88 * q + 88 * P ≤ 22528 := by omega
  have HHQ := Lib.hid hq
  have HHA := Lib.hid hAt
  have HLS := Lib.hid hls
  have HCH := Lib.hid hch
  have HREC := Lib.hid hrec
  have HOLD := Lib.hid hold
  have HSC := Lib.hid hsc
  have hz68 : ((ls0.length : Int) + 1 == 0) = false := by rw [beq_eq_false_iff_ne]; omega
  clear hP hfr hrec hq hAt hls hold hsc
  obtain ⟨wo, rfl⟩ : ∃ wo : World, wo = w5 := ⟨_, rfl⟩
  go_wp2_with fail
  go_loopw [21, 22, 23] (fun iv fv kv wr => ∃ (i : Nat) (reg : List UInt8), i ≤ lacks.length ∧ iv = .int .i64 i ∧ Torn (r + 1) (backReg r old) s ls0 reg ∧ Blk wr go 5 (pc reg) ∧ Keeps (Only go) wo wr ∧
    (i = 0 → reg = s.reg) ∧ (0 < i → ∃ j, s.frm ≤ 88 * j ∧ 88 * j + 88 ≤ s.at_ ∧ sub reg (88 * j) 88 = sub (backReg r old) (88 * j) 88)) (fun iv _ _ _ => lacks.length - (intOf iv).toNat)
  case atStart => exact ⟨0, s.reg, Nat.zero_le _, rfl, hT0, HB5.out, Keeps.refl _ _, fun _ => rfl, fun h => absurd h (by omega)⟩
  case round =>
    obtain ⟨i, reg, hi, rfl, hT, hBr, hK, hi0, hi1⟩ := hrel
    by_cases hil : i < lacks.length
    · obtain ⟨b3, off3, rfl, hc3, hlo, hhi⟩ := HR3.out i hil
      have hc3' := (hkw5.cell hc3 id)
      have hc3'' : wr.cell? ⟨b3, off3 + i, none⟩ = some (.int .i64 lacks[i]) := hK.cell hc3' (fun e => by have := World.block_lt_of_cell? w _ hc3; unfold Only at e; simp at e this; omega)
      clear hc3 hc3'
      go_wp2_with fail
      refine (pick_any lacks[i] (P : Int) _ (by omega) (by omega) hlo hhi).mono ?_
      rintro e w6 ⟨⟨k, hk, rfl⟩, rfl⟩
      have hkP : k < P := by omega
      obtain ⟨wi, rfl⟩ : ∃ wi : World, wi = wr := ⟨_, rfl⟩
      go_wp2_with fail
      have hregl := hT.len
      obtain ⟨R, hR⟩ : ∃ R, R = sub (backReg r old) (88 * (q + k)) 88 := ⟨_, rfl⟩
      have hRl : R.length = 88 := by rw [hR]; exact sub_length _ _ _ (by omega)
      have HR := Lib.hid hR
      have HT := Lib.hid hT
      clear hR hT hch hT0
      go_loopw [23] (fun kv wr => ∃ n : Nat, n ≤ 88 ∧ kv = .int .i64 (88 * q + 88 * k + n) ∧ Blk wr go 5 (pc (lay reg (88 * (q + k)) (R.take n))) ∧ Keeps (Only go) wi wr) (fun kv _ => 88 * q + 88 * k + 88 - (intOf kv).toNat)
      case atStart => exact ⟨0, Nat.zero_le _, by simp, by rw [List.take_zero, lay_nil]; exact hBr, Keeps.refl _ _⟩
      case round =>
        obtain ⟨n, hn, rfl, hBn, hKn⟩ := hrel
        by_cases hn88 : n < 88
        · obtain ⟨b4, off4, rfl, hc4'⟩ := hAbb.out.at_ (k := 88 * q + 88 * k + n) (by omega)
          have hne : b4 ≠ go := hAbn.out _ rfl
          have hbe : (backReg r old)[88 * q + 88 * k + n]'(by omega) = R[n]'(by omega) := by
            simp [HR.out, sub, Nat.mul_add]
          rw [hbe] at hc4'
          have hcj : wr.cell? ⟨b4, off4 + (88 * q + 88 * k + n), none⟩ = some (.int .u8 (R[n]'(by omega)).toNat) := hKn.cell (hK.cell hc4' hne) hne
          have hlenj : (lay reg (88 * (q + k)) (R.take n)).length = 22528 := by rw [lay_length _ _ _ (by simp; omega)]; exact hregl
          obtain ⟨v7, hv7⟩ : ∃ v7, wr.cell? ⟨go, 88 * q + 88 * k + n, none⟩ = some v7 := ⟨_, hBn.byte (i := 88 * q + 88 * k + n) (by omega)⟩
          have hf := hBn.frozen (88 * q + 88 * k + n)
          have hnew := hBn.set (88 * (q + k) + n) (bv (R[n]'(by omega)))
          rw [set_pc, lay_step reg (88 * (q + k)) n R (by omega) (by omega)] at hnew
          rw [show 88 * (q + k) + n = 88 * q + 88 * k + n by omega] at hnew
          have HN := Lib.hid hnew
          have hknew := hKn.set (p := ⟨go, 88 * q + 88 * k + n, none⟩) rfl (bv (R[n]'(by omega)))
          have HKN := Lib.hid hknew
          clear hc4' hlenj hnew hknew hBn hKn hbe
          go_wp2_with fail
          go_roundw
          case rel => exact ⟨n + 1, by omega, by go_num, HN.out, HKN.out⟩
          case measure => simp [intOf]; omega
        · obtain rfl : n = 88 := by omega
          rw [List.take_of_length_le (by omega), HR.out] at hBn
          have hT2 := HT.out.tear hbl hat (q + k) (by rw [HHQ.out]; omega) (by rw [HHA.out]; omega)
          have hsubE : sub (lay reg (88 * (q + k)) (sub (backReg r old) (88 * (q + k)) 88)) (88 * (q + k)) 88 = sub (backReg r old) (88 * (q + k)) 88 := by
            have := lay_in (xs := reg) (R := sub (backReg r old) (88 * (q + k)) 88) (o := 88 * (q + k)) (i := 0) (n := 88) (by omega) (by rw [sub_length _ _ _ (by omega)]; omega)
            rw [Nat.add_zero] at this
            rw [this, sub_at_zero (sub_length _ _ _ (by omega))]
          have HT2 := Lib.hid hT2
          have HSE := Lib.hid hsubE
          have hkk := hK.then hKn fun _ _ e => e
          clear hT2 hsubE
          have HBn := Lib.hid hBn
          clear hBn
          go_wp2_with fail
          go_roundw
          case rel =>
            exact ⟨i + 1, _, by omega, by go_num, HT2.out, HBn.out, hkk, fun h => absurd h (by omega), fun _ => ⟨q + k, by rw [HHQ.out]; omega, by rw [HHA.out]; omega, HSE.out⟩⟩
          case measure => simp [intOf]; omega
    · have hil' : i = lacks.length := by omega
      have hkr := hkw5.then hK fun j hj e => by unfold Only at e; omega
      have hRowr := hRow5.keep hK (fun g hg e => by
        obtain ⟨vs, q1, _⟩ := hRow5
        have := (World.ownsRow.lt q1 g hg).1
        have := hBb.lt
        unfold Only at e; omega)
      obtain ⟨A5', c5', e5, hrec5, hc5⟩ := hRowr.in_recs hkr (Keeps.refl _ _)
      injection e5 with e5 _ e5'
      subst e5 e5'
      have hregl := hT.len
      by_cases hz : lacks.length = 0
      · have hreg : reg = s.reg := hi0 (by omega)
        subst hreg
        go_wp2_with fail
        rw [show ((r : Int) + 1) = ((r + 1 : Nat) : Int) from by omega]
        refine (scan_ok (r + 1) 22528 (some ⟨go, 0, none⟩) s.reg wr hregl (At.blk hBr) (Nat.le_refl _) (by omega)).mono ?_
        have hE := HSC.out
        rw [HHA.out, hnx] at hE
        rw [hE]
        rintro e w6 ⟨v6, rfl, hb6, hRow6, hK6⟩
        obtain ⟨A6, c6, hv6, hrec6, hc6⟩ := hRow6.own_recs hinv.chain.lens
        subst hv6
        have HSm := same_any A5 A6 c5 c6 s.ls s.ls w6 (recs_non hrec5 hK6) hrec6 (by omega) (by omega) rfl
        rw [hl0] at HSm hb6 ⊢
        have hb256 : ls0.length ≤ 256 := by omega
        have HS := Lib.hid HSm
        obtain ⟨gx, hgx⟩ : ∃ gx, gx = wr.heap.size := ⟨_, rfl⟩
        rw [← hgx] at hb6 ⊢
        have hkw6 := hkr.trans hK6
        clear hgx HSm hE hrec6 hRow6 hrec5 hRowr hK6 hRow5 hi0 hi1 hinv hl0 hnx hl256
        go_wp2_with (go_at_call 18; go_must (refine HS.out.mono ?_); rintro e w7 ⟨rfl, hK7⟩)
        have hb7 := Blk.non hb6 hK7
        go_wp2_with (first
          | (go_at_call 19; go_must (refine (at_any _ _ _ _ _ hb7).mono ?_); rintro e w9 ⟨rfl, rfl⟩)
          | (go_at_call 20; go_must (refine (next_any _ _ _ _ _ hb7).mono ?_); rintro e w10 ⟨rfl, rfl⟩))
        go_ret
        exact ⟨rfl, hkw6.trans hK7⟩
      · have hz1 : 0 < lacks.length := by omega
        obtain ⟨j, hj1, hj2, hj3⟩ := hi1 (by omega)
        go_wp2_with fail
        rw [show ((r : Int) + 1) = ((r + 1 : Nat) : Int) from by omega]
        refine (scan_ok (r + 1) 22528 (some ⟨go, 0, none⟩) reg wr hregl (At.blk hBr) (Nat.le_refl _) (by omega)).mono ?_
        have hE := torn_scan hT hbl5 (by rw [HHQ.out, HHA.out, ← HP.out]) hat (by omega) HREC.out HHQ.out HOLD.out j hj1 hj2 hj3
        rw [HHQ.out, Nat.add_comm 1] at hE
        have hb256 : ls0.length ≤ 256 := by omega
        rw [hE]
        rintro e w6 ⟨v6, rfl, hb6, hRow6, hK6⟩
        obtain ⟨A6, c6, hv6, hrec6, hc6⟩ := hRow6.own_recs (HCH.out.lens)
        subst hv6
        have hrec50 : Recs wr A5 ls0 := fun i hi => by
          have := hrec5 i (by rw [hl0]; omega)
          simpa [HLS.out, List.getElem_append_left hi] using this
        have HSm := same_any A5 A6 c5 c6 ls0 ls0 w6 (recs_non hrec50 hK6) hrec6 (by omega) (by omega) rfl
        have HS := Lib.hid HSm
        obtain ⟨gx, hgx⟩ : ∃ gx, gx = wr.heap.size := ⟨_, rfl⟩
        rw [← hgx] at hb6 ⊢
        have hkw6 := hkr.trans hK6
        clear hgx HSm hE hrec6 hRow6 hrec5 hrec50 hRowr hK6 hRow5 hi0 hi1 hinv hl0 hnx hl256 hj3
        go_wp2_with (go_at_call 18; go_must (refine HS.out.mono ?_); rintro e w7 ⟨rfl, hK7⟩)
        have hb7 := Blk.non hb6 hK7
        go_wp2_with (first
          | (go_at_call 19; go_must (refine (at_any _ _ _ _ _ hb7).mono ?_); rintro e w9 ⟨rfl, rfl⟩)
          | (go_at_call 20; go_must (refine (next_any _ _ _ _ _ hb7).mono ?_); rintro e w10 ⟨rfl, rfl⟩))
        go_ret
        exact ⟨rfl, hkw6.trans hK7⟩
end Go.Proofs.Ytmlffigfhhoihaa
