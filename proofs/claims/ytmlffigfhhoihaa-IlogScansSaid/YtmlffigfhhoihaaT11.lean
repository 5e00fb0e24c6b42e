import Derived.Test.YtmlffigfhhoihaaT10
import Derived.Deep.DeepMust
namespace Go.Proofs.Ytmlffigfhhoihaa
open Go.RowKit Go.Uc

theorem At.sub {w : World} {b off : Nat} {reg : List UInt8} (h : At w (some ⟨b, off, none⟩) reg) (o n : Nat) : At w (some ⟨b, off + o, none⟩) (sub reg o n) := by
  have := (h.drop o).take n
  by_cases ho : o = 0
  · subst ho; simpa [Addr.add, Ytmlffigfhhoihaa.sub] using this
  · simpa [Addr.add, ho, Ytmlffigfhhoihaa.sub] using this

set_option maxRecDepth 100000 in
theorem record_short (g c base at_ next : Nat) (reg : List UInt8) (A : Option Addr) (w : World) (hb : LogB w g 53 base at_ next) (hl : reg.length = 22528) (ha : at_ ≤ 22528) (h : 22528 < at_ + 88) :
    Calls Try.prog 29 #[.pointer (some ⟨g, 0, none⟩), .slice A 22528 c] w fun e w' => e = .returned (.tuple #[.slice none 0 0, .bool false]) ∧ Keeps Non w w' := by
  have c1 : w.cell? ⟨g, 1, none⟩ = some (.int .i64 at_) := hb.cell 1
  go_enter Try.func29, Try.ntmps29
  go_wp2
  go_ret2
  exact ⟨rfl, Keeps.refl _ _⟩

set_option maxRecDepth 100000 in
set_option maxHeartbeats 1000000 in
theorem record_full (g c base at_ next b off : Nat) (reg : List UInt8) (w : World) (hb : LogB w g 53 base at_ next) (hl : reg.length = 22528) (hA : At w (some ⟨b, off, none⟩) reg) (hc : 22528 ≤ c) (h : at_ + 88 ≤ 22528)
    (hr : roomB at_ (manyAt reg at_) = false) :
    Calls Try.prog 29 #[.pointer (some ⟨g, 0, none⟩), .slice (some ⟨b, off, none⟩) 22528 c] w fun e w' => e = .returned (.tuple #[.slice none 0 0, .bool false]) ∧ Keeps Non w w' := by
  have c1 : w.cell? ⟨g, 1, none⟩ = some (.int .i64 at_) := hb.cell 1
  have d0 : ¬ at_ + 88 = at_ := by omega
  have w1 : IntKind.i64.wrap ((at_ : Int) + 88) = (at_ : Int) + 88 := IntWalk.i64_in _ (by omega)
  have w2 : ((at_ : Int) + 88).toNat = at_ + 88 := by omega
  have w3 : 0 ≤ (at_ : Int) + 88 := by omega
  go_enter Try.func29, Try.ntmps29
  go_wp2
  go_quiet (fail)
  clear w1 w2 w3
  have hA2 : At (w.drewN nq) (some ⟨b, off + at_ + 16, none⟩) (sub reg (at_ + 16) 4) := by
    have := At.sub (hA.non ((Keeps.refl Non w).drewN nq)) (at_ + 16) 4; simpa [Nat.add_assoc] using this
  have hl4 : (sub reg (at_ + 16) 4).length = 4 := sub_length _ _ _ (by omega)
  have hr' : roomB at_ (leVal (sub reg (at_ + 16) 4)) = false := hr
  go_wp2_with (first
    | (go_at_call 34; refine (number_of _ 72 _ _ hA2 hl4).mono ?_; rintro e w1 ⟨rfl, rfl⟩)
    | (go_at_call 24; refine (room_any _ _ _ _ _ _ (Blk.drewN hb nq) (by omega)).mono ?_; rintro e w2 ⟨rfl, n2, rfl⟩))
  go_ret2
  exact ⟨rfl, ((Keeps.refl _ _).drewN _)⟩

set_option maxRecDepth 100000 in
set_option maxHeartbeats 4000000 in
theorem record_main (g c base at_ next b off : Nat) (reg : List UInt8) (w : World) (hb : LogB w g 53 base at_ next) (hl : reg.length = 22528) (hA : At w (some ⟨b, off, none⟩) reg) (hc : 22528 ≤ c) (h : at_ + 88 ≤ 22528)
    (hr : roomB at_ (manyAt reg at_) = true) (hbase : base ≤ 281474976710656) (hnext : next ≤ 100000) :
    Calls Try.prog 29 #[.pointer (some ⟨g, 0, none⟩), .slice (some ⟨b, off, none⟩) 22528 c] w fun e w' => ∃ v, e = .returned (.tuple #[v, .bool (recOf reg base at_ next).isSome]) ∧ (recOf reg base at_ next = none → v = .slice none 0 0) ∧
      (∀ bs, recOf reg base at_ next = some bs → OwnB w' w.heap.size 5 v bs) ∧ Keeps Non w w' := by
  have c1 : w.cell? ⟨g, 1, none⟩ = some (.int .i64 at_) := hb.cell 1
  have d0 : ¬ at_ + 88 = at_ := by omega
  have w1 : IntKind.i64.wrap ((at_ : Int) + 88) = (at_ : Int) + 88 := IntWalk.i64_in _ (by omega)
  have w2 : ((at_ : Int) + 88).toNat = at_ + 88 := by omega
  have w3 : 0 ≤ (at_ : Int) + 88 := by omega
  have HA := Lib.hid hA
  have HL := Lib.hid hl
  obtain ⟨m, hm⟩ : ∃ m, m = manyAt reg at_ := ⟨_, rfl⟩
  have hr2 := room_of hr
  have hm4 := room_le hr
  have hpm := pieces_mul (manyAt reg at_)
  have hbl := bytesAt_length hl hr
  rw [← hm] at hr hr2 hm4 hpm hbl
  have HM := Lib.hid hm
  have HBL := Lib.hid hbl
  clear hA hl hm hbl
  have hp := pieces_le m hm4
  go_enter Try.func29, Try.ntmps29
  go_wp2
  go_quiet (fail)
  clear w1 w2 w3 d0
  have hA2 : At (w.drewN nq) (some ⟨b, off + at_ + 16, none⟩) (sub reg (at_ + 16) 4) := by
    have := At.sub (HA.out.non ((Keeps.refl Non w).drewN nq)) (at_ + 16) 4; simpa [Nat.add_assoc] using this
  have hl4 : (sub reg (at_ + 16) 4).length = 4 := sub_length _ _ _ (by have := HL.out; omega)
  go_wp2_with (first
    | (go_at_call 34; refine (number_of _ 72 _ _ hA2 hl4).mono ?_; rw [show leVal (sub reg (at_ + 16) 4) = m from HM.out.symm]; rintro e w1 ⟨rfl, rfl⟩)
    | (go_at_call 24; refine (room_any _ _ _ _ _ _ (Blk.drewN hb nq) (by omega)).mono ?_; rw [hr]; rintro e w2 ⟨rfl, n2, rfl⟩)
    | (go_at_call 25; refine (pieces_any _ _ (by omega)).mono ?_; rintro e w3 ⟨rfl, rfl⟩))
  obtain ⟨wo, hwo⟩ : ∃ wo, wo = w.drewN (nq + n2) := ⟨_, rfl⟩
  have hKo : Keeps Non w wo := by rw [hwo]; exact (Keeps.refl _ _).drewN _
  rw [← hwo]
  clear hA2 hl4 hwo
  have hso := hKo.size
  have hbo := Blk.non hb hKo
  clear c1 hb
  go_loopw [8, 48] (fun v i wr => ∃ k : Nat, k ≤ pieces m ∧ i = .int .i64 k ∧ OwnB wr wo.heap.size 5 v (bodyTo reg at_ k) ∧ Keeps Non wo wr) (fun _ i _ => pieces m - (intOf i).toNat)
  case atStart => exact ⟨0, by omega, rfl, OwnB.nil _ _ _, Keeps.refl _ _⟩
  case round =>
    obtain ⟨k, hk, rfl, hO, hK⟩ := hrel
    have hsz := hK.size
    have hbr := Blk.non hbo hK
    have c1 : wr.cell? ⟨g, 1, none⟩ = some (.int .i64 at_) := hbr.cell 1
    by_cases hlt : k < pieces m
    · have hlb := bodyTo_length reg at_ k (by have := HL.out; omega)
      have HLB := Lib.hid hlb
      clear hlb
      have hA3 : At wr (some ⟨b, off + (at_ + k * 88) + 20, none⟩) (sub reg (at_ + 88 * k + 20) 68) := by
        have := At.sub (HA.out.non (hKo.trans hK)) (at_ + 88 * k + 20) 68
        rwa [show off + (at_ + 88 * k + 20) = off + (at_ + k * 88) + 20 by omega] at this
      have hls : Hid ((sub reg (at_ + 88 * k + 20) 68).length = 68) := sub_length _ _ _ (by have := HL.out; omega)
      go_wp2_with (at_builtin; go_must (refine wpList_append_bytes rfl (.tmp 65) (.tmp 67) 31 rfl wo.heap.size 5 Try.underlying31 info5 _ (bodyTo reg at_ k) rfl hO _ _ _ (sub reg (at_ + 88 * k + 20) 68) rfl (by have := hls.out; omega) hA3 (by have := HLB.out; have := hls.out; omega) hsz ?_); intro v2 w2 hO2 hK2 hat; have hk2 := hK.then hK2 (fun i hi e => by have := hO.new i e; omega); clear hO hK hK2 hat hA3)
      go_roundw
      case rel => exact ⟨k + 1, by omega, by go_num, hO2, hk2⟩
      case measure => simp [intOf]; omega
    · obtain rfl : k = pieces m := by omega
      obtain ⟨A2, c2, hv2, hc2, hA2, -⟩ := hO.open
      subst hv2
      have hlb : (bodyTo reg at_ (pieces m)).length = 68 * pieces m := bodyTo_length reg at_ _ (by have := HL.out; omega)
      rw [hlb] at hc2 ⊢
      have e1 : (bodyTo reg at_ (pieces m)).take m = bytesAt reg at_ := by rw [bytesAt, ← HM.out]
      have hA3 := hA2.take m
      rw [e1] at hA3
      have hA4 : At wr A2 (bytesAt reg at_) := hA3
      clear hA2 hA3 hlb e1 hO hbr c1
      obtain ⟨bs, hbs⟩ : ∃ bs, bs = bytesAt reg at_ := ⟨_, rfl⟩
      have hbl : bs.length = m := by rw [hbs]; exact HBL.out
      rw [← hbs] at hA4
      have HBS := Lib.hid hbs
      clear hbs
      obtain ⟨wp, rfl⟩ : ∃ wp : World, wp = wr := ⟨_, rfl⟩
      have HA4 := Lib.hid hA4
      have HBN := Lib.hid hbl
      clear hA4 hbl
      have hrec : recOf reg base at_ next = if recB base next bs = sub reg at_ (88 * pieces m) then some bs else none := by
        unfold recOf
        rw [if_neg (by omega), ← HM.out, if_neg (by rw [hr]; simp), ← HBS.out]
      have HR := Lib.hid hrec
      clear hrec
      have hkp := hKo.trans hK
      go_wp2_with (go_at_call 25; refine (pieces_any _ _ (by omega)).mono ?_; rintro e w3 ⟨rfl, rfl⟩)
      go_loopw [75] (fun i wr => ∃ k : Nat, k ≤ pieces m ∧ i = .int .i64 k ∧ recsTo base next bs k = sub reg at_ (88 * k) ∧ Keeps Non w3 wr) (fun i _ => pieces m - (intOf i).toNat)
      case atStart => exact ⟨0, by omega, rfl, by simp [recsTo, sub], Keeps.refl _ _⟩
      case round =>
        obtain ⟨k, hk, rfl, hE, hK2⟩ := hrel
        have HE := Lib.hid hE
        clear hE
        have hbr := Blk.non hbo (hK.trans hK2)
        have c1 : wr.cell? ⟨g, 1, none⟩ = some (.int .i64 at_) := hbr.cell 1
        have hz := zero59
        by_cases hlt : k < pieces m
        · have L := laid_any g base at_ next k c2 bs A2 wr hbr (by have := HBN.out; omega) (by omega) (by have := HBN.out; omega) (HA4.out.non hK2) (by omega) (by omega)
          rw [HBN.out] at L
          have HLd := Lib.hid L
          clear L
          go_wp2_with (first
            | (go_at_call 26; go_must (refine HLd.out.mono ?_); rintro e w4 ⟨rfl, hK4⟩)
            | ((with_reducible show wpList _ _ _ ({ dst := none, op := Op.store 59 _ _, type := _, pos := _, after := _, guard := _ } :: _) _ _); go_must (refine wpList_store_blk rfl 59 (.tmp 14) (.tmp 88) rfl w4.heap.size (pc (pieceB base next k bs)) rfl rfl 59 (pc (zeros 88)) (Blk.new _ _ _) (by rw [pc_size, pieceB_length]; kernel_rfl) (by rw [pc_size, pc_size, pieceB_length, zeros_length]) (pc_all _) ?_); intro w5 hB5 hK5))
          have hk5 : Keeps Non wr w5 := (hK4.alloc _).then hK5 fun i hi e => by have := hK4.size; unfold Only at e; omega
          obtain ⟨f, hf, hf2⟩ : ∃ f : Nat, (f : Int) = (at_ : Int) + (k : Int) * 88 ∧ f = at_ + 88 * k := ⟨at_ + 88 * k, by omega, rfl⟩
          have hfb : f + 88 ≤ 22528 := by omega
          rw [← hf]
          have W1 : IntKind.i64.wrap ((f : Int) + 88) = (f : Int) + 88 := IntWalk.i64_in _ (by omega)
          have W3 : ((f : Int) + 88).toNat = f + 88 := by omega
          have W4 : 0 ≤ (f : Int) + 88 := by omega
          have W5 : f ≤ f + 88 := by omega
          have d1 : ¬ c = f := by omega
          have d2 : f + 88 ≤ c := by omega
          have d3 : (f : Int) + 88 ≤ (c : Int) := by omega
          have d4 : f ≤ c := by omega
          have hP := Lib.hid (At.blk hB5)
          have hS : Hid (At w5 (some ⟨b, off + f, none⟩) (sub reg (at_ + 88 * k) 88)) := by
            rw [hf2]
            exact At.sub (HA.out.non (hkp.trans (hK2.trans hk5))) (at_ + 88 * k) 88
          have hSl : Hid ((sub reg (at_ + 88 * k) 88).length = 88) := sub_length _ _ _ (by have := HL.out; omega)
          have hkk := hK2.trans hk5
          clear hB5 hK4 hK5 hk5 hz c1 hbr hK2 hf hf2
          by_cases heq : pieceB base next k bs = sub reg (at_ + 88 * k) 88
          · have HQ : Hid (∀ nq, Calls Try.prog 35 #[.slice (some ⟨w4.heap.size, 0, none⟩) 88 88, .slice (some ⟨b, off + f, none⟩) 88 (c - f)] (w5.drewN nq) fun e w' => e = .returned (.bool true) ∧ ∃ q, w' = (w5.drewN nq).drewN q) := fun nq => by
              have := equal_any (some ⟨w4.heap.size, 0, none⟩) (some ⟨b, off + f, none⟩) 88 (c - f) (pieceB base next k bs) (sub reg (at_ + 88 * k) 88) (w5.drewN nq) (hP.out.non ((Keeps.refl Non _).drewN nq)) (hS.out.non ((Keeps.refl Non _).drewN nq)) (by rw [pieceB_length]; omega) (by have := hSl.out; omega) 88 _ (pieceB_length _ _ _ _).symm hSl.out.symm
              rw [decide_eq_true heq] at this
              exact this
            have HEQ := Lib.hid heq
            clear heq
            go_quiet ((go_at_call 35; exact Calls.quiet_of (HQ.out _)))
            clear W1 W3 W4 W5 d1 d2 d3 d4
            go_wp2_with fail
            go_roundw
            case rel =>
              refine ⟨k + 1, by omega, by go_num, ?_, hkk.drewN _⟩
              rw [recsTo, HE.out, HEQ.out, show 88 * (k + 1) = 88 * k + 88 by omega, sub_add]
            case measure => simp [intOf]; omega
          · have HQ : Hid (∀ nq, Calls Try.prog 35 #[.slice (some ⟨w4.heap.size, 0, none⟩) 88 88, .slice (some ⟨b, off + f, none⟩) 88 (c - f)] (w5.drewN nq) fun e w' => e = .returned (.bool false) ∧ ∃ q, w' = (w5.drewN nq).drewN q) := fun nq => by
              have := equal_any (some ⟨w4.heap.size, 0, none⟩) (some ⟨b, off + f, none⟩) 88 (c - f) (pieceB base next k bs) (sub reg (at_ + 88 * k) 88) (w5.drewN nq) (hP.out.non ((Keeps.refl Non _).drewN nq)) (hS.out.non ((Keeps.refl Non _).drewN nq)) (by rw [pieceB_length]; omega) (by have := hSl.out; omega) 88 _ (pieceB_length _ _ _ _).symm hSl.out.symm
              rw [decide_eq_false heq] at this
              exact this
            have HEQ := Lib.hid heq
            clear heq
            go_quiet ((go_at_call 35; exact Calls.quiet_of (HQ.out _)))
            clear W1 W3 W4 W5 d1 d2 d3 d4
            go_wp2_with fail
            go_ret2
            have hno : ¬ recB base next bs = sub reg at_ (88 * pieces m) := fun e => HEQ.out (by
              have h1 := recsTo_sub base next bs (pieces m) k hlt
              rw [← HBN.out, show recsTo base next bs (pieces bs.length) = recB base next bs from rfl, e, sub_sub _ _ _ _ _ (by omega)] at h1
              exact h1.symm)
            have h2 := HR.out
            rw [if_neg hno] at h2
            rw [h2]
            exact ⟨_, rfl, fun _ => rfl, (fun _ h => by cases h), (hkp.trans hkk).drewN _⟩
        · obtain rfl : k = pieces m := by omega
          have hcl := clone_any A2 c2 bs wr (HA4.out.non hK2) (by have := HBN.out; omega)
          rw [HBN.out] at hcl
          have HC := Lib.hid hcl
          clear hcl
          go_wp2_with (go_at_call 36; go_must (refine HC.out.mono ?_); rintro e w6 ⟨v, rfl, hO6, hK6⟩)
          go_ret2
          have h2 := HR.out
          have hyes : recB base next bs = sub reg at_ (88 * pieces m) := by rw [recB, HBN.out]; exact HE.out
          rw [if_pos hyes] at h2
          rw [h2]
          refine ⟨v, rfl, (fun h => by cases h), fun bs' h => ?_, (hkp.trans hK2).trans hK6⟩
          injection h with h
          subst h
          exact hO6.mono (by have := (hkp.trans hK2).size; omega)
end Go.Proofs.Ytmlffigfhhoihaa
