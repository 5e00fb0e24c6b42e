/- The document's told and Scan. -/
import Derived.Test.YtmlffigfhhoihaaT12
namespace Go.Proofs.Ytmlffigfhhoihaa
open Go.RowKit Go.Uc

theorem bodyTo_get (reg : List UInt8) (at_ k i : Nat) (hi : i < 68 * k) (h : at_ + 88 * k ≤ reg.length) : (bodyTo reg at_ k)[i]? = reg[at_ + 88 * (i / 68) + 20 + i % 68]? := by
  induction k with
  | zero => omega
  | succ k ih =>
    have hl := bodyTo_length reg at_ k (by omega)
    rw [bodyTo]
    rcases Nat.lt_or_ge i (68 * k) with hlt | hge
    · rw [List.getElem?_append_left (by omega), ih hlt (by omega)]
    · rw [List.getElem?_append_right (by omega), hl]
      have e1 : i / 68 = k := by omega
      have e2 : i % 68 = i - 68 * k := by omega
      rw [e1, e2, sub, List.getElem?_take, if_pos (by omega), List.getElem?_drop]
theorem bytesAt_get {reg : List UInt8} {at_ i : Nat} (hl : reg.length = 22528) (hr : roomB at_ (manyAt reg at_) = true) (hi : i < (bytesAt reg at_).length) (hb : at_ + 88 * (i / 68) + 20 + i % 68 < reg.length) :
    (bytesAt reg at_)[i] = reg[at_ + 88 * (i / 68) + 20 + i % 68] := by
  have h1 := room_of hr
  have h2 := pieces_mul (manyAt reg at_)
  have h3 := bytesAt_length hl hr
  have h4 := bodyTo_get reg at_ (pieces (manyAt reg at_)) i (by omega) (by omega)
  apply Option.some.inj
  rw [← List.getElem?_eq_getElem hi, ← List.getElem?_eq_getElem hb, ← h4, bytesAt, List.getElem?_take, if_pos (by omega)]

set_option maxRecDepth 100000 in
theorem told_short (g c base at_ next : Nat) (A : Option Addr) (w : World) (hb : LogB w g 55 base at_ next) (ha : at_ ≤ 22528) (h : 22528 < at_ + 88) :
    Calls Try.prog 30 #[.pointer (some ⟨g, 0, none⟩), .slice A 22528 c] w fun e w' => e = .returned (.tuple #[.slice none 0 0, .bool false]) ∧ Keeps Non w w' := by
  have c1 : w.cell? ⟨g, 1, none⟩ = some (.int .i64 at_) := hb.cell 1
  go_enter Try.func30, Try.ntmps30
  go_wp2
  go_ret2
  exact ⟨rfl, Keeps.refl _ _⟩

/-- What the document's told gives at a record's place. -/
def toldB (reg : List UInt8) (at_ : Nat) : Bool := roomB at_ (manyAt reg at_)

set_option maxRecDepth 100000 in
set_option maxHeartbeats 2000000 in
theorem told_main (g c base at_ next b off : Nat) (reg : List UInt8) (w : World) (hb : LogB w g 55 base at_ next) (hl : reg.length = 22528) (hA : At w (some ⟨b, off, none⟩) reg) (hc : 22528 ≤ c) (h : at_ + 88 ≤ 22528) :
    Calls Try.prog 30 #[.pointer (some ⟨g, 0, none⟩), .slice (some ⟨b, off, none⟩) 22528 c] w fun e w' => ∃ v, e = .returned (.tuple #[v, .bool (toldB reg at_)]) ∧ (toldB reg at_ = true → OwnB w' w.heap.size 5 v (bytesAt reg at_)) ∧ Keeps Non w w' := by
  have c1 : w.cell? ⟨g, 1, none⟩ = some (.int .i64 at_) := hb.cell 1
  have HA := Lib.hid hA
  have HL := Lib.hid hl
  have hl4 : (sub reg (at_ + 16) 4).length = 4 := sub_length _ _ _ (by omega)
  have HL4 := Lib.hid hl4
  obtain ⟨S, hS⟩ : ∃ S, S = sub reg (at_ + 16) 4 := ⟨_, rfl⟩
  rw [← hS] at hl4
  have HS := Lib.hid hS
  have HSL := Lib.hid hl4
  clear hA hl hl4 hS
  go_enter Try.func30, Try.ntmps30
  go_wp2
  go_loop [6, 7] (fun many i => ∃ k : Nat, k ≤ 4 ∧ i = .int .i64 ((k : Int) - 1) ∧ many = .int .i64 (leVal (S.drop k))) (fun _ i => (intOf i + 1).toNat)
  case atStart => exact ⟨4, by omega, by simp, by rw [List.drop_eq_nil_of_le (by have := HSL.out; omega)]; rfl⟩
  case round =>
    obtain ⟨k, hk, rfl, rfl⟩ := hrel
    by_cases hk0 : 0 < k
    · obtain ⟨j, rfl⟩ : ∃ j, k = j + 1 := ⟨k - 1, by omega⟩
      rw [show (((j + 1 : Nat) : Int) - 1) = (j : Int) by omega]
      have hj : j < reg.length := by have := HL.out; omega
      have hja : at_ + 16 + j < reg.length := by have := HL.out; omega
      obtain ⟨b', off', hab, hcell⟩ := HA.out.at_ (k := at_ + 16 + j) hja
      injection hab with hab
      injection hab with hab1 hab2
      subst hab1 hab2
      have hd : S.drop j = reg[at_ + 16 + j] :: S.drop (j + 1) := by
        rw [List.drop_eq_getElem_cons (by have := HSL.out; omega)]
        congr 1
        simp only [HS.out, sub, List.getElem_take, List.getElem_drop]
      have hv : leVal (S.drop j) = (reg[at_ + 16 + j]).toNat + 256 * leVal (S.drop (j + 1)) := by rw [hd]; rfl
      have hlt := leVal_lt (S.drop (j + 1))
      have hq : leVal (S.drop (j + 1)) < 16777216 := by
        refine Nat.lt_of_lt_of_le hlt ?_
        have : (S.drop (j + 1)).length ≤ 3 := by simp; have := HSL.out; omega
        calc 256 ^ (S.drop (j + 1)).length ≤ 256 ^ 3 := Nat.pow_le_pow_right (by omega) this
          _ = 16777216 := by decide
      obtain ⟨x, hx⟩ : ∃ x, x = reg[at_ + 16 + j] := ⟨_, rfl⟩
      rw [← hx] at hv hcell
      have hxl := x.toNat_lt
      have HV := Lib.hid hv
      obtain ⟨q, hq2⟩ : ∃ q, q = leVal (S.drop (j + 1)) := ⟨_, rfl⟩
      rw [← hq2] at hq ⊢
      have HQ := Lib.hid hq2
      have hcell' : w.cell? ⟨b, off + (at_ + 16 + j), none⟩ = some (.int .u8 x.toNat) := hcell
      clear hd hv hlt hx hq2 hcell
      go_wp2
      go_round
      case rel => exact ⟨j, by omega, by first | rfl | go_num, by rw [HV.out, ← HQ.out]; first | done | go_num | (simp; omega)⟩
      case measure => simp [intOf]
    · obtain rfl : k = 0 := by omega
      rw [List.drop_zero]
      obtain ⟨m, hm⟩ : ∃ m, m = leVal S := ⟨_, rfl⟩
      have hmm : m = manyAt reg at_ := by rw [hm, HS.out]; rfl
      rw [← hm]
      have HM := Lib.hid hmm
      have hti : toldB reg at_ = roomB at_ m := by unfold toldB; rw [hmm]
      have HTI := Lib.hid hti
      clear hm hmm
      cases hr : roomB at_ m with
      | false =>
        have HR := Lib.hid hr
        rw [hr] at hti
        have HTI2 := Lib.hid hti
        clear hr hti
        go_wp2_with (go_at_call 27; go_must (refine (refRoom_any _ _ _ _ _ _ hb (by omega)).mono ?_; rw [HR.out]); rintro e w2 ⟨rfl, n2, rfl⟩)
        go_ret2
        rw [HTI2.out]
        exact ⟨_, rfl, (fun h => by cases h), (Keeps.refl _ _).drewN _⟩
      | true =>
        have hr2 := room_of hr
        have hm4 := room_le hr
        have hr' : roomB at_ (manyAt reg at_) = true := by rw [← HM.out]; exact hr
        have hbl : (bytesAt reg at_).length = m := by rw [bytesAt_length HL.out hr']; exact HM.out.symm
        have hget := fun i hi => bytesAt_get HL.out hr' (i := i) hi
        have hpm := pieces_mul m
        have HG := Lib.hid hget
        have HBL := Lib.hid hbl
        have HR := Lib.hid hr
        rw [hr] at hti
        have HTI2 := Lib.hid hti
        have hp := pieces_le m hm4
        clear hget hbl hr hr' hti
        go_wp2_with (go_at_call 27; go_must (refine (refRoom_any _ _ _ _ _ _ hb (by omega)).mono ?_; rw [HR.out]); rintro e w2 ⟨rfl, n2, rfl⟩)
        obtain ⟨wo, hwo⟩ : ∃ wo, wo = w.drewN n2 := ⟨_, rfl⟩
        have hKo : Keeps Non w wo := by rw [hwo]; exact (Keeps.refl _ _).drewN _
        rw [← hwo]
        clear hwo
        have hso := hKo.size
        have hbo := Blk.non hb hKo
        clear c1 hb
        go_loopw [9, 10] (fun v i wr => ∃ k : Nat, k ≤ m ∧ i = .int .i64 k ∧ OwnB wr wo.heap.size 5 v ((bytesAt reg at_).take k) ∧ Keeps Non wo wr) (fun _ i _ => m - (intOf i).toNat)
        case atStart => exact ⟨0, by omega, rfl, by rw [List.take_zero]; exact OwnB.nil _ _ _, Keeps.refl _ _⟩
        case round =>
          obtain ⟨k, hk, rfl, hO, hK⟩ := hrel
          have hsz := hK.size
          have hbr := Blk.non hbo hK
          have c1 : wr.cell? ⟨g, 1, none⟩ = some (.int .i64 at_) := hbr.cell 1
          by_cases hlt : k < m
          · obtain ⟨q, hq⟩ : ∃ q, q = k / 68 := ⟨_, rfl⟩
            obtain ⟨r, hrr⟩ : ∃ r, r = k % 68 := ⟨_, rfl⟩
            have hq1 : (k : Int) / 68 = (q : Int) := by omega
            have hr1 : (k : Int) % 68 = (r : Int) := by omega
            have hqb : 88 * q + r + 20 < 88 * pieces m := by unfold pieces; omega
            have hib : at_ + 88 * q + 20 + r < reg.length := by have := HL.out; omega
            have hgk := HG.out k (by have := HBL.out; omega)
            rw [← hq, ← hrr] at hgk
            have hgk2 := hgk hib
            obtain ⟨b', off', hab, hcell⟩ := HA.out.at_ (k := at_ + 88 * q + 20 + r) hib
            injection hab with hab
            injection hab with hab1 hab2
            subst hab1 hab2
            have hcw := hK.cell (hKo.cell hcell id) id
            have hts := take_snoc (bytesAt reg at_) k (by have := HBL.out; omega)
            rw [hgk2] at hts
            obtain ⟨x, hx⟩ : ∃ x, x = reg[at_ + 88 * q + 20 + r] := ⟨_, rfl⟩
            rw [← hx] at hts hcw
            have HTS := Lib.hid hts
            have hcw' : wr.cell? ⟨b, off + (at_ + 88 * q + 20 + r), none⟩ = some (.int .u8 x.toNat) := hcw
            have hlb : ((bytesAt reg at_).take k).length ≤ 4096 := by simp; omega
            clear hq hrr hgk hgk2 hx hts hcw hcell
            go_wp2_with (at_builtin; go_must (refine wpList_append_bytes rfl (.tmp 45) (.tmp 61) 31 rfl wo.heap.size 5 Try.underlying31 info5 _ ((bytesAt reg at_).take k) rfl (hO.non ((Keeps.refl Non _).alloc _)) (some ⟨wr.heap.size, 0, none⟩) 1 1 [x] rfl rfl (At.one _ _ _ _ rfl) (by simp; omega) (by simp; omega) ?_); intro v2 w3 hO2 hK2 hat; have hk2 := (hK.alloc _).then hK2 (fun i hi e => by have := hO.new i e; omega); clear hO hK hK2 hat)
            go_roundw
            case rel => exact ⟨k + 1, by omega, by go_num, by rw [← HTS.out]; exact hO2, hk2⟩
            case measure => simp [intOf]; omega
          · obtain rfl : k = m := by omega
            rw [List.take_of_length_le (by have := HBL.out; omega)] at hO
            go_wp2
            go_ret2
            rw [HTI2.out]
            exact ⟨_, rfl, fun _ => hO.mono (by omega), hKo.trans hK⟩
end Go.Proofs.Ytmlffigfhhoihaa
