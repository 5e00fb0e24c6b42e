/- The walk of VolumeReads. -/
import Derived.Test.YtmlffigfhhoihabV11
import Derived.Test.YtmlffigfhhoihabV7
namespace Go.Proofs.Ytmlffigfhhoihab
open Go.RowKit Go.Uc

theorem open_any (c : Nat) (A : Option Addr) (cs : List Cel) (w : World) (hA : Cels w A cs) (hc : cs.length ≤ c) (hn : cs.length ≤ 140737488351232) : Calls Try.prog 14 #[.slice A cs.length c] w (OpenR cs w) := by
  by_cases hm : MayP cs
  · by_cases h0 : 0 < cs.length
    · by_cases h1 : cs[0].at_ = -1
      · by_cases h2 : cs[0].data.length = 4
        · exact open_main c A cs w hA hc hm h0 h1 h2
        · exact open_short c A cs w hA hn (.inr (.inr ⟨h0, .inr h2⟩))
      · exact open_short c A cs w hA hn (.inr (.inr ⟨h0, .inl h1⟩))
    · exact open_short c A cs w hA hn (.inr (.inl (by omega)))
  · exact open_short c A cs w hA hn (.inl hm)
theorem open_own (c : Nat) (A : Option Addr) (X : List UInt8) (w : World) (hX : szB (X.length : Int) = true) (hA : Cels w A (cellsTo X (X.length / 256))) (hc : (cellsTo X (X.length / 256)).length ≤ c) :
    Calls Try.prog 14 #[.slice A (cellsTo X (X.length / 256)).length c] w fun e w' => ∃ g gb, e = .returned (.tuple #[.pointer (some ⟨g, 0, none⟩), .int .i64 0]) ∧ VolB w' g gb 55 X ∧ w.heap.size ≤ gb ∧ w.heap.size ≤ g ∧ Keeps Non w w' := by
  have hs := szB_of hX
  have hl := cellsTo_length X (X.length / 256)
  refine (open_any c A _ w hA hc (by omega)).mono ?_
  rintro e w' ⟨hK, ⟨Y, g, gb, rfl, hY, hv, h1, h2⟩ | ⟨hno, _⟩⟩
  · have := hY.unique (alike_own hX)
    subst this
    exact ⟨g, gb, rfl, hv, h1, h2, hK⟩
  · exact absurd (alike_own hX) (hno X)

theorem lay_nil (xs : List UInt8) (at_ : Nat) : lay xs at_ [] = xs := by simp [lay]
theorem lay_step (xs : List UInt8) (at_ k : Nat) (R : List UInt8) (hk : k < R.length) (h : at_ + R.length ≤ xs.length) : (lay xs at_ (R.take k)).set (at_ + k) R[k] = lay xs at_ (R.take (k + 1)) := by
  have e1 : (R.take k).length = k := by simp; omega
  have e2 : (R.take (k + 1)).length = k + 1 := by simp; omega
  unfold lay
  rw [e1, e2, List.drop_eq_getElem_cons (show at_ + k < xs.length by omega), ← List.append_assoc]
  have := set_mid (xs.take at_) (R.take k) R[k] xs[at_ + k] (xs.drop (at_ + k + 1))
  rw [List.length_take, Nat.min_eq_left (by omega), e1] at this
  rw [this, take_snoc _ _ hk]
  simp [Nat.add_assoc]

/-- What a script of VolumeReads leaves. -/
def rdAt (o : Opr) (N : Nat) : Int := pk o.at_ (N + 3) - 1
def opR (N : Nat) (X : List UInt8) (o : Opr) : List UInt8 := if pk o.kind 2 = 0 then wrX X (rdAt o N) o.b else dsX X (rdAt o N) (pk o.many 700)
theorem opR_length (N : Nat) (xs : List UInt8) (o : Opr) : (opR N xs o).length = xs.length := by
  unfold opR
  split
  · exact wrX_length _ _ _
  · exact dsX_length _ _ _

set_option maxRecDepth 100000 in
set_option maxHeartbeats 8000000 in
theorem volumeReads_any (chunks : Int) (A : Option Addr) (c : Nat) (os : List Opr) (w : World) (hO : Oprs w A os) (hn : os.length ≤ 140737488351232) (hch : I64 chunks) :
    Calls Try.prog 4 #[.int .i64 chunks, .slice A os.length c] w fun e w' => e = .returned (.bool true) ∧ Keeps Non w w' := by
  have HO := Lib.hid hO
  clear hO
  unfold I64 at hch
  obtain ⟨r, hr⟩ : ∃ r : Nat, pk chunks 64 = r := ⟨(pk chunks 64).toNat, by have := pk_bounds chunks 64 (by omega); omega⟩
  have hr64 : r < 64 := by have := pk_bounds chunks 64 (by omega); omega
  have HR := Lib.hid hr
  obtain ⟨N, hN⟩ : ∃ N : Nat, N = 256 * (1 + r) := ⟨_, rfl⟩
  have hNi : 256 * (1 + (r : Int)) = (N : Int) := by omega
  have hNb : 256 ≤ N ∧ N ≤ 16384 := by omega
  have hNs : Hid (szB (N : Int) = true) := by show _ = _; simp [szB]; omega
  have hNm : Hid (N % 256 = 0) := by show _ = _; omega
  have HN := Lib.hid hNi
  clear hr hN hNi
  go_enter Try.func4, Try.ntmps4
  go_wp2_with (first
    | (go_at_call 7; go_must (refine (awake_any _).mono ?_); rintro e w1 ⟨rfl, hK1⟩)
    | (go_at_call 8; go_must (refine (pick_pk chunks 64 _ (by omega) (by omega) hch.1 hch.2).mono ?_); rw [HR.out]; rintro e w2 ⟨rfl, rfl⟩))
  rw [HN.out]
  refine (new_ok N _ hNs.out).mono ?_
  rintro e w2 ⟨g, gb, rfl, hv2, hgb2, hg2, hK2⟩
  go_wp2_with (at_make; go_must (refine wpList_make_bytes rfl _ _ 23 rfl 5 Try.underlying23 info5 .i64 .i64 _ _ N rfl rfl (by omega) (by omega) (by omega) ?_); intro w3 hB3 hK3)
  obtain ⟨gW, hgW⟩ : ∃ q, q = w2.heap.size := ⟨_, rfl⟩
  rw [← hgW] at hB3 ⊢
  have hl1 := hv2.1.lt
  have hl2 := hv2.2.1.lt
  have hv3 := hv2.non hK3
  have hk3 := (hK1.trans hK2).trans hK3
  have hlw := hB3.lt
  have hd1 : g ≠ gW ∧ gb ≠ gW ∧ g ≠ gb ∧ w.heap.size ≤ gb ∧ w.heap.size ≤ g ∧ w.heap.size ≤ gW := by have := hK1.size; have := hv2.2.2; have := hK2.size; omega
  obtain ⟨d1, d2, d3, d4, d5, d6⟩ := hd1
  clear hgW hv2 hK1 hK2 hK3 hgb2 hg2
  go_loopw [10, 11, 12, 13, 14, 15, 16] (fun iv _ _ _ _ _ _ wr => ∃ (k : Nat) (X : List UInt8), k ≤ os.length ∧ iv = .int .i64 k ∧ Hid (X.length = N) ∧ VolB wr g gb 55 X ∧ Blk wr gW 5 (pc X) ∧ Keeps Non w wr) (fun iv _ _ _ _ _ _ _ => os.length - (intOf iv).toNat)
  case atStart => exact ⟨0, zeros N, Nat.zero_le _, rfl, zeros_length N, hv3, hB3, hk3⟩
  case round =>
    obtain ⟨k, X, hk, rfl, HXl, hv, hB, hK⟩ := hrel
    by_cases hlt : k < os.length
    · obtain ⟨b, off, Ai, ci, rfl, q1, q2, q3, q4, q5, q6, q7, i1, i2, i3⟩ := HO.out k hlt
      obtain ⟨o, ho⟩ : ∃ o, o = os[k] := ⟨_, rfl⟩
      rw [← ho] at q1 q2 q3 q4 q5 q6 q7 i1 i2 i3
      clear ho
      unfold I64 at i1 i2 i3
      have p1 := hK.cell q1 id
      have p2 := hK.cell q2 id
      have p3 := hK.cell q3 id
      have p4 := hK.cell q4 id
      have q5' := Lib.hid q5
      clear q1 q2 q3 q4 q5
      have hkb := pk_bounds o.kind 2 (by omega)
      have hab := pk_bounds o.at_ ((N : Int) + 3) (by omega)
      have hmb := pk_bounds o.many 700 (by omega)
      have hgl1 := hv.1.lt
      have hgl2 := hv.2.1.lt
      have hgl3 := hB.lt
      have hwl := hK.size
      go_wp2_with fail
      obtain ⟨w5, hw5⟩ : ∃ w5, w5 = wr.alloc (.cells #[.int .i64 o.kind, .int .i64 o.at_, .int .i64 o.many, .slice Ai o.b.length ci] 25) := ⟨_, rfl⟩
      have hka : Keeps Non wr w5 := by rw [hw5]; exact (Keeps.refl _ _).alloc _
      have hB5 : Blk w5 wr.heap.size 25 #[.int .i64 o.kind, .int .i64 o.at_, .int .i64 o.many, .slice Ai o.b.length ci] := by rw [hw5]; exact Blk.new _ _ _
      rw [← hw5]
      obtain ⟨gO, hgO⟩ : ∃ q, q = wr.heap.size := ⟨_, rfl⟩
      rw [← hgO] at hB5 ⊢
      have hgo : gO ≠ gb ∧ gO ≠ g ∧ gO ≠ gW := by omega
      have hk5 := hK.trans hka
      have hv5 := hv.non hka
      have hBW := hB.non hka
      have hA5 := q5'.out.non hk5
      clear hw5 hka hgO hK hv hB p1 p2 p3 p4
      have k0 : w5.cell? ⟨gO, 0, none⟩ = some (.int .i64 o.kind) := hB5.cell 0
      have k1 : w5.cell? ⟨gO, 1, none⟩ = some (.int .i64 o.at_) := hB5.cell 1
      have k2 : w5.cell? ⟨gO, 2, none⟩ = some (.int .i64 o.many) := hB5.cell 2
      have k3 : w5.cell? ⟨gO, 3, none⟩ = some (.slice Ai o.b.length ci) := hB5.cell 3
      obtain ⟨p, hp⟩ : ∃ p : Nat, pk o.at_ ((N : Int) + 3) = p := ⟨(pk o.at_ ((N : Int) + 3)).toNat, by omega⟩
      obtain ⟨m, hm⟩ : ∃ m : Nat, pk o.many 700 = m := ⟨(pk o.many 700).toNat, by omega⟩
      have hpN : p < N + 3 := by omega
      have hm7 : m < 700 := by omega
      have HP := Lib.hid hp
      have HM := Lib.hid hm
      clear hp hm hab hmb
      refine (pick_pk o.at_ ((N : Int) + 3) _ (by omega) (by omega) i2.1 i2.2).mono ?_
      rw [HP.out]
      rintro e w6 ⟨rfl, rfl⟩
      go_wp2_with fail
      refine (pick_pk o.many 700 _ (by omega) (by omega) i3.1 i3.2).mono ?_
      rw [HM.out]
      rintro e w6 ⟨rfl, rfl⟩
      go_wp2_with fail
      refine (pick_pk o.kind 2 _ (by omega) (by omega) i1.1 i1.2).mono ?_
      by_cases hkz : pk o.kind 2 = 0
      · have HKZ := Lib.hid hkz
        rw [hkz]
        clear hkz hkb
        rintro e w6 ⟨rfl, rfl⟩
        go_wp2_with fail
        obtain ⟨M, hM⟩ : ∃ M, M = o.b.length := ⟨_, rfl⟩
        rw [← hM] at q6 q7 k3 ⊢
        have HMM := Lib.hid hM
        clear hM
        have W1 := write_all g gb ci X o.b ((p : Int) - 1) Ai w5 hv5 (by have := HXl.out; omega) hA5 (by rw [← HMM.out]; exact q6) (by rw [← HMM.out]; exact q7)
        rw [HXl.out, ← HMM.out] at W1
        by_cases hw : wB N ((p : Int) - 1) M = true
        · obtain ⟨w1', w2', w3'⟩ := wB_at hw
          obtain ⟨t, rfl⟩ : ∃ t, p = t + 1 := ⟨p - 1, by omega⟩
          have ht1 : (((t + 1 : Nat) : Int) - 1) = (t : Int) := by omega
          rw [ht1] at W1 hw ⊢
          have htM : t + M ≤ N := by omega
          have e1 : errV N (t : Int) M = 0 := by unfold errV; rw [if_pos hw]
          have e2 : wrX X (t : Int) o.b = lay X t o.b := by
            unfold wrX
            rw [HXl.out, ← HMM.out, if_pos hw, Int.toNat_natCast]
          rw [e1, e2] at W1
          have W1' := Lib.hid W1
          have hl : (lay X t o.b).length = N := by rw [lay_length _ _ _ (by have := HXl.out; have := HMM.out; omega)]; exact HXl.out
          have HL := Lib.hid hl
          have t1 : 0 ≤ (t : Int) := by omega
          have t2 : (M : Int) ≤ (N : Int) := by omega
          have t3 : (t : Int) ≤ (N : Int) - (M : Int) := by omega
          clear W1 e1 e2 hl ht1 w1' w2' w3' hw
          refine W1'.out.mono ?_
          rintro e w6 ⟨rfl, hv6, hK6⟩
          have hk6 : Keeps Non w w6 := hk5.then hK6 (fun i hi e => by unfold Only at e; omega)
          have hB6 := hB5.one hK6 hgo.1
          have hW6 := hBW.one hK6 (fun e => d2 e.symm)
          clear W1' hK6 hv5 hB5 hBW hk5 hA5 k0 k1 k2 k3
          obtain ⟨wo, hwo⟩ : ∃ wo, wo = wr := ⟨_, rfl⟩
          clear hwo
          go_wp2_with fail
          go_loopw [16] (fun i wi => ∃ j : Nat, j ≤ M ∧ i = .int .i64 j ∧ Blk wi gW 5 (pc (lay X t (o.b.take j))) ∧ Keeps (Only gW) w6 wi) (fun i _ => M - (intOf i).toNat)
          case atStart => exact ⟨0, Nat.zero_le _, rfl, by rw [List.take_zero, lay_nil]; exact hW6, Keeps.refl _ _⟩
          case round =>
            obtain ⟨j, hj, rfl, hBj, hKj⟩ := hrel
            by_cases hjl : j < M
            · have hjb : j < o.b.length := by have := HMM.out; omega
              have hkw : Keeps Non w wr := hk6.then hKj (fun i hi e => by unfold Only at e; omega)
              obtain ⟨bs, os', rfl, hcb⟩ := (q5'.out.non hkw).at_ (k := j) hjb
              obtain ⟨bs2, os2, ebs, hcb2⟩ := q5'.out.at_ (k := j) hjb
              injection ebs with ebs
              injection ebs with ebs1 ebs2
              subst ebs1 ebs2
              have hbl := World.block_lt_of_cell? w _ hcb2
              have hlj : (lay X t (o.b.take j)).length = N := by rw [lay_length _ _ _ (by have := HXl.out; simp; omega)]; exact HXl.out
              obtain ⟨v7, hv7⟩ : ∃ v7, wr.cell? ⟨gW, t + j, none⟩ = some v7 := ⟨_, hBj.byte (i := t + j) (by omega)⟩
              have hf := hBj.frozen (t + j)
              have hset1 : Blk (wr.setCell ⟨gW, t + j, none⟩ (.int .u8 0)) gW 5 (pc ((lay X t (o.b.take j)).set (t + j) 0)) := by
                have := hBj.set (t + j) (bv 0)
                rw [set_pc] at this
                exact this
              have hkset1 : Keeps (Only gW) w6 (wr.setCell ⟨gW, t + j, none⟩ (.int .u8 0)) := hKj.set (p := ⟨gW, t + j, none⟩) rfl (.int .u8 0)
              have HS1 := Lib.hid hset1
              have HK1 := Lib.hid hkset1
              have HLJ := Lib.hid hlj
              have hne : bs ≠ gW := by simp at hbl; omega
              have hB6s := hB6.keep hkset1 (fun e => hgo.2.2 e)
              have k0s : (wr.setCell ⟨gW, t + j, none⟩ (.int .u8 0)).cell? ⟨gO, 0, none⟩ = some (.int .i64 o.kind) := hB6s.cell 0
              clear hset1 hkset1 hlj hcb2 hbl hBj hKj hcb hB6s
              go_wp2_with fail
              obtain ⟨w7, hw7⟩ : ∃ w7, w7 = wr.setCell ⟨gW, t + j, none⟩ (.int .u8 0) := ⟨_, rfl⟩
              rw [← hw7] at HS1 HK1 ⊢
              have hB7 := hB6.keep HK1.out (fun e => hgo.2.2 e)
              have k0 : w7.cell? ⟨gO, 0, none⟩ = some (.int .i64 o.kind) := hB7.cell 0
              have k3 : w7.cell? ⟨gO, 3, none⟩ = some (.slice (some ⟨bs, os', none⟩) M ci) := by have := hB7.cell 3; rw [← HMM.out] at this; exact this
              have hkw7 : Keeps Non w w7 := hk6.then HK1.out (fun i hi e => by unfold Only at e; omega)
              obtain ⟨bs3, os3, ebs3, hcb3⟩ := (q5'.out.non hkw7).at_ (k := j) hjb
              injection ebs3 with ebs3
              injection ebs3 with ebs31 ebs32
              subst ebs31 ebs32
              have hcb4 : w7.cell? ⟨bs, os' + j, none⟩ = some (.int .u8 (o.b[j]).toNat) := hcb3
              obtain ⟨v8, hv8⟩ : ∃ v8, w7.cell? ⟨gW, t + j, none⟩ = some v8 := ⟨_, HS1.out.byte (i := t + j) (by have := HLJ.out; simp; omega)⟩
              have hf8 := HS1.out.frozen (t + j)
              have hset2 := HS1.out.set (t + j) (bv o.b[j])
              rw [set_pc, List.set_set, lay_step X t j o.b hjb (by have := HXl.out; have := HMM.out; omega)] at hset2
              have HS2 := Lib.hid hset2
              have HK2 := Lib.hid (HK1.out.set (p := ⟨gW, t + j, none⟩) rfl (bv o.b[j]))
              clear hw7 hv7 hf hcb3 hset2 hkw hkw7 hB7
              refine (pick_pk o.kind 2 _ (by omega) (by omega) i1.1 i1.2).mono ?_
              rw [HKZ.out]
              rintro e w8 ⟨rfl, rfl⟩
              go_wp2_with fail
              go_roundw
              case rel => exact ⟨j + 1, by omega, by go_num, HS2.out, HK2.out⟩
              case measure => simp [intOf]; omega
            · obtain rfl : j = M := by omega
              rw [List.take_of_length_le (by have := HMM.out; omega)] at hBj
              have hkr : Keeps Non w wr := hk6.then hKj (fun i hi e => by unfold Only at e; omega)
              have hvr := hv6.keep hKj (fun e => d1 e) (fun e => d2 e)
              have HBj := Lib.hid hBj
              clear hBj hKj hW6 hB6 hv6 hk6
              go_wp2_with fail
              go_roundw
              case rel => exact ⟨k + 1, lay X t o.b, by omega, by go_num, HL, hvr, HBj.out, hkr⟩
              case measure => simp [intOf]; omega
        · have e1 : errV N ((p : Int) - 1) M = 186 := by unfold errV; rw [if_neg hw]
          have e2 : wrX X ((p : Int) - 1) o.b = X := by unfold wrX; rw [HXl.out, ← HMM.out, if_neg hw]
          rw [e1, e2] at W1
          by_cases hp0 : p = 0
          · subst hp0
            have ht1 : (((0 : Nat) : Int) - 1) = -1 := by omega
            rw [ht1] at W1 ⊢
            have W1' := Lib.hid W1
            clear W1 e1 e2 ht1 hw
            refine W1'.out.mono ?_
            rintro e w6 ⟨rfl, hv6, hK6⟩
            have hk6 : Keeps Non w w6 := hk5.then hK6 (fun i hi e => by unfold Only at e; omega)
            have hW6 := Lib.hid (hBW.one hK6 (fun e => d2 e.symm))
            clear W1' hK6 hv5 hB5 hBW hk5 hA5 k0 k1 k2 k3
            go_wp2_with fail
            go_loopw [16] (fun i wi => i = .int .i64 0 ∧ wi = w6) (fun _ _ => 0)
            case atStart => exact ⟨rfl, rfl⟩
            case round =>
              obtain ⟨rfl, rfl⟩ := hrel
              by_cases hM0 : 0 < M
              · go_wp2_with fail
                go_roundw
                case rel => exact ⟨k + 1, X, by omega, by go_num, HXl, hv6, hW6.out, hk6⟩
                case measure => simp [intOf]; omega
              · go_wp2_with fail
                go_roundw
                case rel => exact ⟨k + 1, X, by omega, by go_num, HXl, hv6, hW6.out, hk6⟩
                case measure => simp [intOf]; omega
          · obtain ⟨t, rfl⟩ : ∃ t, p = t + 1 := ⟨p - 1, by omega⟩
            have ht1 : (((t + 1 : Nat) : Int) - 1) = (t : Int) := by omega
            rw [ht1] at W1 hw ⊢
            have W1' := Lib.hid W1
            have t1 : 0 ≤ (t : Int) := by omega
            have hbad : ¬ ((t : Int) + M ≤ N) := fun h => hw (by simp [wB]; omega)
            clear W1 e1 e2 ht1 hw hp0
            by_cases t2 : (M : Int) ≤ (N : Int)
            · have t3 : ¬ (t : Int) ≤ (N : Int) - (M : Int) := by omega
              refine W1'.out.mono ?_
              rintro e w6 ⟨rfl, hv6, hK6⟩
              have hk6 : Keeps Non w w6 := hk5.then hK6 (fun i hi e => by unfold Only at e; omega)
              have hW6 := Lib.hid (hBW.one hK6 (fun e => d2 e.symm))
              clear W1' hK6 hv5 hB5 hBW hk5 hA5 k0 k1 k2 k3
              go_wp2_with fail
              go_loopw [16] (fun i wi => i = .int .i64 0 ∧ wi = w6) (fun _ _ => 0)
              case atStart => exact ⟨rfl, rfl⟩
              case round =>
                obtain ⟨rfl, rfl⟩ := hrel
                by_cases hM0 : 0 < M
                · go_wp2_with fail
                  go_roundw
                  case rel => exact ⟨k + 1, X, by omega, by go_num, HXl, hv6, hW6.out, hk6⟩
                  case measure => simp [intOf]; omega
                · go_wp2_with fail
                  go_roundw
                  case rel => exact ⟨k + 1, X, by omega, by go_num, HXl, hv6, hW6.out, hk6⟩
                  case measure => simp [intOf]; omega
            · skip
              refine W1'.out.mono ?_
              rintro e w6 ⟨rfl, hv6, hK6⟩
              have hk6 : Keeps Non w w6 := hk5.then hK6 (fun i hi e => by unfold Only at e; omega)
              have hW6 := Lib.hid (hBW.one hK6 (fun e => d2 e.symm))
              clear W1' hK6 hv5 hB5 hBW hk5 hA5 k0 k1 k2 k3
              go_wp2_with fail
              go_loopw [16] (fun i wi => i = .int .i64 0 ∧ wi = w6) (fun _ _ => 0)
              case atStart => exact ⟨rfl, rfl⟩
              case round =>
                obtain ⟨rfl, rfl⟩ := hrel
                by_cases hM0 : 0 < M
                · go_wp2_with fail
                  go_roundw
                  case rel => exact ⟨k + 1, X, by omega, by go_num, HXl, hv6, hW6.out, hk6⟩
                  case measure => simp [intOf]; omega
                · go_wp2_with fail
                  go_roundw
                  case rel => exact ⟨k + 1, X, by omega, by go_num, HXl, hv6, hW6.out, hk6⟩
                  case measure => simp [intOf]; omega
      · have hkz1 : pk o.kind 2 = 1 := by omega
        have HKZ := Lib.hid hkz1
        rw [hkz1]
        clear hkz hkz1 hkb
        rintro e w6 ⟨rfl, rfl⟩
        go_wp2_with fail
        have W1 := discard_all g gb X ((p : Int) - 1) (m : Int) w5 hv5 (by have := HXl.out; omega)
        rw [HXl.out] at W1
        by_cases hw : wB N ((p : Int) - 1) (m : Int) = true
        · obtain ⟨w1', w2', w3'⟩ := wB_at hw
          obtain ⟨t, rfl⟩ : ∃ t, p = t + 1 := ⟨p - 1, by omega⟩
          have ht1 : (((t + 1 : Nat) : Int) - 1) = (t : Int) := by omega
          rw [ht1] at W1 hw ⊢
          have htM : t + m ≤ N := by omega
          have e1 : errV N (t : Int) (m : Int) = 0 := by unfold errV; rw [if_pos hw]
          have e2 : dsX X (t : Int) (m : Int) = lay X t (zeros m) := by
            unfold dsX
            rw [HXl.out, if_pos hw, Int.toNat_natCast, Int.toNat_natCast]
          rw [e1, e2] at W1
          have W1' := Lib.hid W1
          have hzl : (zeros m).length = m := zeros_length m
          have HZL := Lib.hid hzl
          have hl : (lay X t (zeros m)).length = N := by rw [lay_length _ _ _ (by have := HXl.out; omega)]; exact HXl.out
          have HL := Lib.hid hl
          have t1 : 0 ≤ (t : Int) := by omega
          have t2 : (m : Int) ≤ (N : Int) := by omega
          have t3 : (t : Int) ≤ (N : Int) - (m : Int) := by omega
          clear W1 e1 e2 hl ht1 w1' w2' w3' hw hzl
          refine W1'.out.mono ?_
          rintro e w6 ⟨rfl, hv6, hK6⟩
          have hk6 : Keeps Non w w6 := hk5.then hK6 (fun i hi e => by unfold Only at e; omega)
          have hB6 := hB5.one hK6 hgo.1
          have hW6 := hBW.one hK6 (fun e => d2 e.symm)
          clear W1' hK6 hv5 hB5 hBW hk5 hA5 k0 k1 k2 k3
          obtain ⟨wo, hwo⟩ : ∃ wo, wo = wr := ⟨_, rfl⟩
          clear hwo
          go_wp2_with fail
          go_loopw [16] (fun i wi => ∃ j : Nat, j ≤ m ∧ i = .int .i64 j ∧ Blk wi gW 5 (pc (lay X t ((zeros m).take j))) ∧ Keeps (Only gW) w6 wi) (fun i _ => m - (intOf i).toNat)
          case atStart => exact ⟨0, Nat.zero_le _, rfl, by rw [List.take_zero, lay_nil]; exact hW6, Keeps.refl _ _⟩
          case round =>
            obtain ⟨j, hj, rfl, hBj, hKj⟩ := hrel
            by_cases hjl : j < m
            · have hlj : (lay X t ((zeros m).take j)).length = N := by rw [lay_length _ _ _ (by have := HXl.out; have := HZL.out; simp; omega)]; exact HXl.out
              obtain ⟨v7, hv7⟩ : ∃ v7, wr.cell? ⟨gW, t + j, none⟩ = some v7 := ⟨_, hBj.byte (i := t + j) (by omega)⟩
              have hf := hBj.frozen (t + j)
              have hz0 : (zeros m)[j]'(by have := HZL.out; omega) = 0 := by simp [zeros]
              have hset1 : Blk (wr.setCell ⟨gW, t + j, none⟩ (.int .u8 0)) gW 5 (pc (lay X t ((zeros m).take (j + 1)))) := by
                have := hBj.set (t + j) (bv 0)
                rw [set_pc, ← hz0, lay_step X t j (zeros m) (by have := HZL.out; omega) (by have := HXl.out; have := HZL.out; omega)] at this
                rw [hz0] at this
                exact this
              have hkset1 : Keeps (Only gW) w6 (wr.setCell ⟨gW, t + j, none⟩ (.int .u8 0)) := hKj.set (p := ⟨gW, t + j, none⟩) rfl (.int .u8 0)
              have HS1 := Lib.hid hset1
              have HK1 := Lib.hid hkset1
              have hB6s := hB6.keep hkset1 (fun e => hgo.2.2 e)
              have k0s : (wr.setCell ⟨gW, t + j, none⟩ (.int .u8 0)).cell? ⟨gO, 0, none⟩ = some (.int .i64 o.kind) := hB6s.cell 0
              clear hset1 hkset1 hlj hBj hKj hB6s hz0
              go_wp2_with fail
              refine (pick_pk o.kind 2 _ (by omega) (by omega) i1.1 i1.2).mono ?_
              rw [HKZ.out]
              rintro e w8 ⟨rfl, rfl⟩
              go_wp2_with fail
              go_roundw
              case rel => exact ⟨j + 1, by omega, by go_num, HS1.out, HK1.out⟩
              case measure => simp [intOf]; omega
            · obtain rfl : j = m := by omega
              rw [List.take_of_length_le (by have := HZL.out; omega)] at hBj
              have hkr : Keeps Non w wr := hk6.then hKj (fun i hi e => by unfold Only at e; omega)
              have hvr := hv6.keep hKj (fun e => d1 e) (fun e => d2 e)
              have HBj := Lib.hid hBj
              clear hBj hKj hW6 hB6 hv6 hk6
              go_wp2_with fail
              go_roundw
              case rel => exact ⟨k + 1, lay X t (zeros j), by omega, by go_num, HL, hvr, HBj.out, hkr⟩
              case measure => simp [intOf]; omega
        · have e1 : errV N ((p : Int) - 1) m = 186 := by unfold errV; rw [if_neg hw]
          have e2 : dsX X ((p : Int) - 1) (m : Int) = X := by unfold dsX; rw [HXl.out, if_neg hw]
          rw [e1, e2] at W1
          by_cases hp0 : p = 0
          · subst hp0
            have ht1 : (((0 : Nat) : Int) - 1) = -1 := by omega
            rw [ht1] at W1 ⊢
            have W1' := Lib.hid W1
            clear W1 e1 e2 ht1 hw
            refine W1'.out.mono ?_
            rintro e w6 ⟨rfl, hv6, hK6⟩
            have hk6 : Keeps Non w w6 := hk5.then hK6 (fun i hi e => by unfold Only at e; omega)
            have hW6 := Lib.hid (hBW.one hK6 (fun e => d2 e.symm))
            clear W1' hK6 hv5 hB5 hBW hk5 hA5 k0 k1 k2 k3
            go_wp2_with fail
            go_loopw [16] (fun i wi => i = .int .i64 0 ∧ wi = w6) (fun _ _ => 0)
            case atStart => exact ⟨rfl, rfl⟩
            case round =>
              obtain ⟨rfl, rfl⟩ := hrel
              by_cases hM0 : 0 < m
              · go_wp2_with fail
                go_roundw
                case rel => exact ⟨k + 1, X, by omega, by go_num, HXl, hv6, hW6.out, hk6⟩
                case measure => simp [intOf]; omega
              · go_wp2_with fail
                go_roundw
                case rel => exact ⟨k + 1, X, by omega, by go_num, HXl, hv6, hW6.out, hk6⟩
                case measure => simp [intOf]; omega
          · obtain ⟨t, rfl⟩ : ∃ t, p = t + 1 := ⟨p - 1, by omega⟩
            have ht1 : (((t + 1 : Nat) : Int) - 1) = (t : Int) := by omega
            rw [ht1] at W1 hw ⊢
            have W1' := Lib.hid W1
            have t1 : 0 ≤ (t : Int) := by omega
            have hbad : ¬ ((t : Int) + m ≤ N) := fun h => hw (by simp [wB]; omega)
            clear W1 e1 e2 ht1 hw hp0
            by_cases t2 : (m : Int) ≤ (N : Int)
            · have t3 : ¬ (t : Int) ≤ (N : Int) - (m : Int) := by omega
              refine W1'.out.mono ?_
              rintro e w6 ⟨rfl, hv6, hK6⟩
              have hk6 : Keeps Non w w6 := hk5.then hK6 (fun i hi e => by unfold Only at e; omega)
              have hW6 := Lib.hid (hBW.one hK6 (fun e => d2 e.symm))
              clear W1' hK6 hv5 hB5 hBW hk5 hA5 k0 k1 k2 k3
              go_wp2_with fail
              go_loopw [16] (fun i wi => i = .int .i64 0 ∧ wi = w6) (fun _ _ => 0)
              case atStart => exact ⟨rfl, rfl⟩
              case round =>
                obtain ⟨rfl, rfl⟩ := hrel
                by_cases hM0 : 0 < m
                · go_wp2_with fail
                  go_roundw
                  case rel => exact ⟨k + 1, X, by omega, by go_num, HXl, hv6, hW6.out, hk6⟩
                  case measure => simp [intOf]; omega
                · go_wp2_with fail
                  go_roundw
                  case rel => exact ⟨k + 1, X, by omega, by go_num, HXl, hv6, hW6.out, hk6⟩
                  case measure => simp [intOf]; omega
            · skip
              refine W1'.out.mono ?_
              rintro e w6 ⟨rfl, hv6, hK6⟩
              have hk6 : Keeps Non w w6 := hk5.then hK6 (fun i hi e => by unfold Only at e; omega)
              have hW6 := Lib.hid (hBW.one hK6 (fun e => d2 e.symm))
              clear W1' hK6 hv5 hB5 hBW hk5 hA5 k0 k1 k2 k3
              go_wp2_with fail
              go_loopw [16] (fun i wi => i = .int .i64 0 ∧ wi = w6) (fun _ _ => 0)
              case atStart => exact ⟨rfl, rfl⟩
              case round =>
                obtain ⟨rfl, rfl⟩ := hrel
                by_cases hM0 : 0 < m
                · go_wp2_with fail
                  go_roundw
                  case rel => exact ⟨k + 1, X, by omega, by go_num, HXl, hv6, hW6.out, hk6⟩
                  case measure => simp [intOf]; omega
                · go_wp2_with fail
                  go_roundw
                  case rel => exact ⟨k + 1, X, by omega, by go_num, HXl, hv6, hW6.out, hk6⟩
                  case measure => simp [intOf]; omega
    · obtain rfl : k = os.length := by omega
      have hC := cells_any g gb X wr hv (by have := HXl.out; omega) (by rw [HXl.out]; exact hNm.out)
      have hOp := fun cc AA W => open_own cc AA X W (by rw [HXl.out]; exact hNs.out)
      have hcl := cellsTo_length X (X.length / 256)
      rw [HXl.out] at hC hOp hcl
      obtain ⟨cs, hcs⟩ : ∃ cs, cs = cellsTo X (N / 256) := ⟨_, rfl⟩
      rw [← hcs] at hC hOp hcl
      have HC := Lib.hid hC
      have HOp := Lib.hid hOp
      clear hC hOp hcs
      go_wp2_with fail
      refine HC.out.mono ?_
      rintro e w6 ⟨v6, rfl, hR6, hK6⟩
      obtain ⟨A6, c6, rfl, hC6, hc6, -⟩ := hR6.open
      have hk6 := hK.trans hK6
      have hv6 := hv.non hK6
      have hB6 := hB.non hK6
      have HO6 := Lib.hid (HOp.out c6 A6 w6 hC6 hc6)
      clear HC HOp hR6 hK6 hv hB hK
      go_wp2_with fail
      refine HO6.out.mono ?_
      rintro e w7 ⟨g2, gb2, rfl, hv7, -, -, hK7⟩
      have hk7 := hk6.trans hK7
      have hx7 := hv6.non hK7
      have hB7 := hB6.non hK7
      have e1 : errV N 0 (N : Int) = 0 := by unfold errV; rw [if_pos (by simp [wB])]
      have e2 : rdX X 0 (N : Int) = X := by
        unfold rdX
        rw [HXl.out, if_pos (by simp [wB])]
        show (X.drop 0).take N = X
        rw [List.drop_zero]
        exact List.take_of_length_le (Nat.le_of_eq HXl.out)
      have hRd1 := read_all g gb X 0 (N : Int) w7 hx7 (by have := HXl.out; omega)
      rw [HXl.out, e1, e2] at hRd1
      have HR1 := Lib.hid hRd1
      have E1 := Lib.hid e1
      have E2 := Lib.hid e2
      clear hRd1 e1 e2 HO6 hv6 hB6 hK7 hk6 hx7
      go_wp2_with fail
      refine HR1.out.mono ?_
      rintro e w8 ⟨v8, rfl, hO8, hK8⟩
      obtain ⟨A8, c8, rfl, -, -, -⟩ := hO8.open
      have hk8 := hk7.trans hK8
      have hv8 := hv7.non hK8
      have hB8 := hB7.non hK8
      have hRd2 := read_all g2 gb2 X 0 (N : Int) w8 hv8 (by have := HXl.out; omega)
      rw [HXl.out, E1.out, E2.out] at hRd2
      have HR2 := Lib.hid hRd2
      clear hRd2 HR1 hv7 hB7 hK8 hk7
      go_wp2_with fail
      refine HR2.out.mono ?_
      rintro e w9 ⟨v9, rfl, hO9, hK9⟩
      obtain ⟨A9, c9, rfl, -, hA9, -⟩ := hO9.open
      obtain ⟨A8', c8', e8, -, hA8, -⟩ := (hO8.non hK9).open
      injection e8 with e8 _ e8'
      subst e8 e8'
      have hB9 := hB8.non hK9
      have hk9 := hk8.trans hK9
      have cv1 := run_convert_at (P := Try.prog) (w := w9) 23 9 5 Try.underlying23 Try.underlying5 Try.underlying9 _ _ hA8 X.length c8 rfl
      have cv2 := run_convert_at (P := Try.prog) (w := w9) 23 9 5 Try.underlying23 Try.underlying5 Try.underlying9 _ _ hA9 X.length c9 rfl
      have cv3 := run_convert_at (P := Try.prog) (w := w9) 23 9 5 Try.underlying23 Try.underlying5 Try.underlying9 _ _ (At.blk hB9) N N HXl.out.symm
      clear HR2 hv8 hB8 hO8 hO9 hK9 hA8 hA9 hB9 hk8
      go_wp2_with fail
      go_ret
      exact ⟨rfl, hk9⟩
end Go.Proofs.Ytmlffigfhhoihab
