/- SumCuts: the walk. -/
import Derived.Test.YtgpamjinkiadnaaDoorU12
import Derived.Test.YtgpamjinkiadnaaDoorP1
import Derived.Test.YtgpamjinkiadnaaDoorBased
namespace Go.Proofs.YtgpamjinkiadnaaDoor
open Go.RowKit Go.Uc

/-- Bytes that lie in memory older than B. -/
def Rest (w : World) (B : Nat) (v : Value) (xs : List UInt8) : Prop := ∃ A c, v = .slice A xs.length c ∧ xs.length ≤ c ∧ At w A xs ∧ ∀ ad, A = some ad → 0 < xs.length → ad.block < B
theorem Rest.keep {S : Nat → Prop} {w w' : World} {B : Nat} {v : Value} {xs : List UInt8} (h : Rest w B v xs) (hk : Keeps S w w') (hs : ∀ k, k < B → ¬ S k) : Rest w' B v xs := by
  obtain ⟨A, c, rfl, hc, hA, hb⟩ := h
  refine ⟨A, c, rfl, hc, fun i hi => ?_, hb⟩
  obtain ⟨ad, e, hcell⟩ := hA i hi
  exact ⟨ad, e, hk.cell hcell (by rw [Addr.add_block]; exact hs _ (hb ad e (by omega)))⟩

theorem Rest.drop {w : World} {B D c : Nat} {A : Option Addr} {xs : List UInt8} (h : Rest w B (.slice A D c) xs) (q : Nat) (hq : q ≤ D) :
    Rest w B (.slice (if c = q then A else Option.map (fun x => x.add q) A) (D - q) (c - q)) (xs.drop q) := by
  obtain ⟨A', c', e, hc, hA, hb⟩ := h
  injection e with e1 e2 e3
  subst e1 e2 e3
  refine ⟨_, _, by rw [List.length_drop], by rw [List.length_drop]; omega, ?_, ?_⟩
  · by_cases hcq : c = q
    · rw [List.drop_of_length_le (by omega)]
      exact At.nil _ _
    · rw [if_neg hcq]
      exact hA.drop q
  · intro ad e hp
    rw [List.length_drop] at hp
    by_cases hcq : c = q
    · omega
    · rw [if_neg hcq] at e
      obtain ⟨ad', e', rfl⟩ := Option.map_eq_some_iff.1 e
      rw [Addr.add_block]
      exact hb ad' e' (by omega)

set_option maxRecDepth 100000 in
set_option maxHeartbeats 2000000 in
theorem sumCuts_any (A1 A2 : Option Addr) (c1 c2 : Nat) (bs : List UInt8) (zs : List Int) (w : World) (hA : At w A1 bs) (hN : Nums w A2 zs) (hc1 : bs.length ≤ c1) (_hc2 : zs.length ≤ c2) (hn1 : bs.length ≤ 140737488351232) (hn2 : zs.length ≤ 140737488351232) (hG : Good w) :
    Calls Tryd.prog 4 #[.slice A1 bs.length c1, .slice A2 zs.length c2] w fun e w' => e = .returned (.bool true) ∧ Keeps Non w w' := by
  have hR : Rest w w.heap.size (.slice A1 bs.length c1) bs := ⟨A1, c1, rfl, hc1, hA, fun ad e hp => by obtain ⟨ad', e', h'⟩ := hA.lt hp; rw [e] at e'; injection e' with e'; subst e'; exact h'⟩
  have HA := Lib.hid hA
  have HN := Lib.hid hN
  clear hA hN
  go_enter Tryd.func4, Tryd.ntmps4
  go_wp2_with fail
  refine (awake_any w hG).mono ?_
  rintro e w1 ⟨rfl, hK1⟩
  go_wp2_with fail
  refine (new_any w1).mono ?_
  rintro e w2 ⟨rfl, hB2, hK2⟩
  have hs1 := hK1.size
  have hs2 := hB2.lt
  obtain ⟨r, hr⟩ : ∃ r, r = w1.heap.size := ⟨_, rfl⟩
  rw [← hr] at hB2 hs2 hs1 ⊢
  clear hr
  go_wp2_with fail
  refine (new_any w2).mono ?_
  rintro e w3 ⟨rfl, hT3, hK3⟩
  obtain ⟨t, ht⟩ : ∃ t, t = w2.heap.size := ⟨_, rfl⟩
  rw [← ht] at hT3 hs2 ⊢
  clear ht
  have hB3 : RnB w3 r rn0 := Blk.non hB2 hK3
  have hKw : Keeps Non w w3 := (hK1.non hK2).non hK3
  have hR3 := hR.keep hKw (fun _ _ h => h)
  clear hB2 hR hK1 hK2 hK3
  go_wp2_with fail
  go_loopw [9, 8] (fun i v wr => ∃ (j m : Nat), j ≤ zs.length ∧ i = .int .i64 j ∧ m ≤ bs.length ∧ Rest wr w.heap.size v (bs.drop m) ∧ RnB wr r (rn0.add (bs.take m)) ∧ Keeps (Only r) w3 wr) (fun i _ _ => zs.length - (intOf i).toNat)
  case atStart => exact ⟨0, 0, by omega, rfl, by omega, by simpa using hR3, by simpa [Rn.add] using hB3, Keeps.refl _ _⟩
  case round =>
    obtain ⟨j, m, hj, rfl, hm, hRr, hBr, hKr⟩ := hrel
    by_cases hlt : j < zs.length
    · obtain ⟨b, off, rfl, hcz, hlo, hhi⟩ := HN.out j hlt
      have hbr : b ≠ r := by have := World.block_lt_of_cell? w _ hcz; simp at this; omega
      obtain ⟨n, hn⟩ : ∃ n, n = zs[j] := ⟨_, rfl⟩
      rw [← hn] at hcz hlo hhi
      have hcell : wr.cell? ⟨b, off + j, none⟩ = some (.int .i64 n) := hKr.cell (hKw.cell hcz id) hbr
      clear hn hcz
      have j0 : (0 : Int) ≤ (j : Int) := by omega
      have j1 : (j : Int) < (zs.length : Int) := by omega
      have j2 : ((j : Int)).toNat = j := by omega
      obtain ⟨Ar, cr, rfl, hcr, hAr, hbr2⟩ := id hRr
      obtain ⟨D, hD⟩ : ∃ D, D = (bs.drop m).length := ⟨_, rfl⟩
      have hDm : D = bs.length - m := by rw [hD]; simp
      rw [← hD] at hcr hbr2 ⊢
      have HD := Lib.hid (And.intro hD hDm)
      clear hD hDm
      obtain ⟨wx, rfl⟩ : ∃ W : World, W = wr := ⟨_, rfl⟩
      by_cases hn0 : 0 ≤ n
      · by_cases hnD : n ≤ (D : Int)
        · obtain ⟨q, rfl⟩ : ∃ q : Nat, n = (q : Int) := ⟨n.toNat, by omega⟩
          have hqD : q ≤ D := by omega
          have hqc : (q : Int) ≤ (cr : Int) := by omega
          have hDc : (D : Int) ≤ (cr : Int) := by omega
          have hq2 : ((q : Int)).toNat = q := by omega
          go_wp2_with fail
          have hql : ((bs.drop m).take q).length = q := by have := HD.out.1; rw [List.length_take]; omega
          have HAdd := add_any r _ (Rn.add_lt (bs.take m) rn0 (by decide)) Ar cr ((bs.drop m).take q) wx hBr (hAr.take q) (by omega) (by have := HD.out.2; omega) (fun hp ad e => by have := hbr2 ad e (by omega); omega)
          rw [hql, Rn.add_append, ← List.take_add] at HAdd
          refine HAdd.mono ?_
          rintro e w5 ⟨rfl, hB5, hK5⟩
          have hK6 := hKr.trans hK5
          have hA5 : At w5 Ar (bs.drop m) := fun i hi => by
            obtain ⟨ad, e, hc⟩ := hAr i hi
            exact ⟨ad, e, hK5.cell hc (by rw [Addr.add_block]; have := hbr2 ad e (by have := HD.out.1; omega); show ¬ ad.block = r; omega)⟩
          clear HAdd hBr hKr hK5 hAr hRr hcell
          go_wp2_with fail
          go_roundw
          case rel =>
            obtain ⟨hD, hDm⟩ := HD.out
            have hRs : Rest w5 w.heap.size (.slice Ar D cr) (bs.drop m) := ⟨Ar, cr, by rw [hD], by omega, hA5, fun ad e hp => hbr2 ad e (by omega)⟩
            exact ⟨j + 1, m + q, by omega, by go_num, by omega, by have := hRs.drop q (by omega); rw [List.drop_drop] at this; exact this, hB5, hK6⟩
          case measure => simp [intOf]; omega
        · have hdn : decide (n ≤ (D : Int)) = false := by simpa using hnD
          go_wp2_with fail
          go_roundw
          case rel => exact ⟨j + 1, m, by omega, by go_num, hm, by have := HD.out.1; rw [this]; exact hRr, hBr, hKr⟩
          case measure => simp [intOf]; omega
      · have hd0 : decide (0 ≤ n) = false := by simpa using hn0
        go_wp2_with fail
        go_roundw
        case rel => exact ⟨j + 1, m, by omega, by go_num, hm, by have := HD.out.1; rw [this]; exact hRr, hBr, hKr⟩
        case measure => simp [intOf]; omega
    · obtain rfl : j = zs.length := by omega
      obtain ⟨Ar, cr, rfl, hcr, hAr, hbr2⟩ := hRr
      go_wp2_with fail
      have HAdd := add_any r _ (Rn.add_lt (bs.take m) rn0 (by decide)) Ar cr (bs.drop m) wr hBr hAr hcr (by simp; omega) (fun hp ad e => by have := hbr2 ad e hp; omega)
      rw [Rn.add_append, List.take_append_drop, List.length_drop] at HAdd
      refine HAdd.mono ?_
      rintro e w5 ⟨rfl, hB5, hK5⟩
      have hK6 : Keeps (Only r) w3 w5 := hKr.trans hK5
      have hT5 : RnB w5 t rn0 := Blk.one hT3 hK6 (by omega)
      have hK7 : Keeps Non w w5 := hKw.then hK6 (fun i hi e => absurd e (by show ¬ i = r; omega))
      clear HAdd hBr hAr hbr2 hcr hKr hK5 hB3 hR3 hT3 hK6 hKw hm hlt hj
      go_wp2_with fail
      obtain ⟨wa, rfl⟩ : ∃ W : World, W = w5 := ⟨_, rfl⟩
      go_loopw [11] (fun i wr => ∃ j : Nat, j ≤ bs.length ∧ i = .int .i64 j ∧ RnB wr t (rn0.add (bs.take j)) ∧ Keeps (Only t) wa wr) (fun i _ => bs.length - (intOf i).toNat)
      case atStart => exact ⟨0, by omega, rfl, by simpa [Rn.add] using hT5, Keeps.refl _ _⟩
      case round =>
        obtain ⟨j, hj, rfl, hBt, hKt⟩ := hrel
        by_cases hlt : j < bs.length
        · have j0 : (0 : Int) ≤ (j : Int) := by omega
          have j1 : (j : Int) < (bs.length : Int) := by omega
          have j2 : ((j : Int)).toNat = j := by omega
          have j3 : IntKind.i64.wrap ((j : Int) + 1) = (j : Int) + 1 := by rw [IntKind.wrap_i64]; omega
          have j4 : ((j : Int) + 1).toNat = j + 1 := by omega
          have j5 : (j : Int) + 1 ≤ (c1 : Int) := by omega
          have j6 : (j : Int) ≤ (j : Int) + 1 := by omega
          obtain ⟨wx, rfl⟩ : ∃ W : World, W = wr := ⟨_, rfl⟩
          go_wp2_with fail
          have hL1 : ((bs.drop j).take 1).length = 1 := by rw [List.length_take, List.length_drop]; omega
          have hAx : At wx A1 bs := fun i hi => by
            obtain ⟨ad, e, hc⟩ := (HA.out.non hK7) i hi
            obtain ⟨ad', e', h'⟩ := HA.out.lt (by omega)
            rw [e] at e'; injection e' with e'; subst e'
            exact ⟨ad, e, hKt.cell hc (by rw [Addr.add_block]; show ¬ ad.block = t; omega)⟩
          have HAdd := add_any t _ (Rn.add_lt (bs.take j) rn0 (by decide)) (Option.map (fun x => x.add j) A1) (c1 - j) ((bs.drop j).take 1) wx hBt ((hAx.drop j).take 1) (by omega) (by omega) (fun hp ad e => by
            obtain ⟨ad', e', rfl⟩ := Option.map_eq_some_iff.1 e
            obtain ⟨ad2, e2, h2⟩ := HA.out.lt (by omega)
            rw [e'] at e2; injection e2 with e2; subst e2
            rw [Addr.add_block]; omega)
          rw [hL1, Rn.add_append, ← List.take_add] at HAdd
          refine HAdd.mono ?_
          rintro e w6 ⟨rfl, hB6, hK8⟩
          have hK9 := hKt.trans hK8
          clear HAdd hBt hKt hK8 hAx
          go_wp2_with fail
          go_roundw
          case rel => exact ⟨j + 1, by omega, by go_num, hB6, hK9⟩
          case measure => simp [intOf]; omega
        · obtain rfl : j = bs.length := by omega
          rw [List.take_of_length_le (Nat.le_refl _)] at hBt
          have hBr : RnB wr r (rn0.add bs) := Blk.one hB5 hKt (by omega)
          have hK8 : Keeps Non w wr := hK7.then hKt (fun i hi e => absurd e (by show ¬ i = t; omega))
          obtain ⟨S, hS⟩ : ∃ S, S = sumF bs := ⟨_, rfl⟩
          have HOf := Lib.hid (fun (W : World) (A : Option Addr) (c : Nat) (L : List UInt8) h1 h2 h3 (h4 : Good W) => of_any roundsK rfl 1 A c L W h1 h2 h3 h4.1)
          have H1 : Hid (∀ L, ofP roundsK 1 L = (sumF L, 0)) := fun L => by unfold ofP; rw [if_pos rfl]; rfl
          have HS := Lib.hid hS
          clear hS hB5 hT5 hK7 hKt hlt hj
          obtain ⟨wa, rfl⟩ : ∃ W : World, W = wr := ⟨_, rfl⟩
          go_wp2_with fail
          refine (HOf.out wa A1 c1 bs (HA.out.non hK8) hc1 (by omega) (hG.non hK8)).mono ?_
          rintro e w6 ⟨rfl, hK9⟩
          rw [H1.out, ← HS.out]
          have hBr6 := Blk.non hBr hK9
          have hBt6 := Blk.non hBt hK9
          have hK10 := hK8.non hK9
          clear hBr hBt hK8 hK9
          obtain ⟨WA, WB, WC, WD⟩ := S
          simp only [Sum4.v, sv]
          go_wp2_with (at_builtin; go_must (refine wpList_append_bytes rfl (.const (.slice none 0 0)) (.tmp 83) 22 rfl (w6.heap.size + 1) 5 Tryd.underlying22 info5 (.slice none 0 0) [] rfl (OwnB.nil _ _ _) A1 bs.length c1 bs rfl rfl ((HA.out.non hK10).non ((Keeps.refl Non _).alloc _)) (by simp; omega) (by simp) ?_); intro v1 w7 hO1 hK11 hat1; rw [List.nil_append] at hO1; have hK12 : Keeps Non (w6.alloc (.cells #[.int .u64 (v64 WA), .int .u64 (v64 WB), .int .u64 (v64 WC), .int .u64 (v64 WD)] 25)) w7 := hK11.mono (fun k e => by simp [Owned, Value.ownBlock] at e); clear hK11 hat1)
          have hW7 : Blk w7 w6.heap.size 25 #[.int .u64 (v64 WA), .int .u64 (v64 WB), .int .u64 (v64 WC), .int .u64 (v64 WD)] := (Blk.new w6 25 #[.int .u64 (v64 WA), .int .u64 (v64 WB), .int .u64 (v64 WC), .int .u64 (v64 WD)]).non hK12
          have hBr7 : RnB w7 r (rn0.add bs) := Blk.non (Blk.alloc hBr6 _) hK12
          have hBt7 : RnB w7 t (rn0.add bs) := Blk.non (Blk.alloc hBt6 _) hK12
          have hrx := Blk.lt hBr6
          have htx := Blk.lt hBt6
          have hK13 : Keeps Non w w7 := (hK10.alloc _).non hK12
          have hsz7 := hW7.lt
          obtain ⟨x, hx⟩ : ∃ x, x = w6.heap.size := ⟨_, rfl⟩
          rw [← hx] at hW7 hrx htx hO1 hsz7 ⊢
          clear hx hK10 hK12 hBr6 hBt6
          go_loopw [14] (fun v wr => ∃ z, z ≤ lacks bs.length ∧ OwnB wr (x + 1) 5 v (bs ++ zeros z) ∧ Keeps (Hi (x + 1)) w7 wr) (fun v _ => bs.length + lacks bs.length - lenV v)
          case atStart => exact ⟨0, Nat.zero_le _, by simpa [zeros] using hO1, Keeps.refl _ _⟩
          case round =>
            obtain ⟨z, hz, hO, hK⟩ := hrel
            have hg : lacks bs.length < 4 := by unfold lacks; omega
            obtain ⟨L, hL⟩ : ∃ L, L = (bs ++ zeros z).length := ⟨_, rfl⟩
            have hL2 : L = bs.length + z := by rw [hL]; simp [zeros_length]
            obtain ⟨A5, c5, rfl, hc5, hA5, hb5⟩ := id hO.open
            rw [← hL] at hc5 hb5 hO ⊢
            have HL := Lib.hid (And.intro hL hL2)
            have hLn : L ≤ 140737488351236 := by omega
            clear hL hL2
            obtain ⟨wx, rfl⟩ : ∃ W : World, W = wr := ⟨_, rfl⟩
            by_cases hlt : z = lacks bs.length
            · have hm2 : (L : Int) % 4 = 0 := by have := HL.out.2; unfold lacks at hlt; omega
              have hm1 : ((L : Int) % 4 != 0) = false := by rw [hm2]; rfl
              rw [hlt] at hO hA5
              obtain ⟨P, hP⟩ : ∃ P, P = bs ++ zeros (lacks bs.length) := ⟨_, rfl⟩
              rw [← hP] at hO hA5
              have hPL : P.length = L := by rw [HL.out.1, hP, hlt]
              have hP4 : P.length % 4 = 0 := by omega
              have hSP : sumF P = ⟨WA, WB, WC, WD⟩ := by rw [hP, sumF_pad, HS.out]
              have hNP : sumF (P ++ [0, 0, 0, 0]) = ⟨WA, WB + WA, WC + (WB + WA), WD + (WC + (WB + WA))⟩ := by rw [sumF_next P hP4, hSP]
              have HP := Lib.hid (And.intro hSP hNP)
              have h6 : 6 < w.heap.size := World.block_lt_of_cell? w _ hG.2
              have hGx : Good wx := (hG.non hK13).keep hK (by show ¬ x + 1 ≤ 2; omega) (by show ¬ x + 1 ≤ 6; omega)
              have hWx := hW7.keep hK (by show ¬ x + 1 ≤ x; omega)
              have hBrx : RnB wx r (rn0.add bs) := Blk.keep hBr7 hK (by show ¬ x + 1 ≤ r; omega)
              have hBtx : RnB wx t (rn0.add bs) := Blk.keep hBt7 hK (by show ¬ x + 1 ≤ t; omega)
              have hKx : Keeps Non w wx := hK13.then hK (fun i hi e => absurd e (by show ¬ x + 1 ≤ i; omega))
              have hszx := hK.size
              have HPL := Lib.hid hPL
              have HX := HOf.out wx A5 c5 P hA5 (by omega) (by omega) hGx
              rw [hPL] at HX
              clear hW7 hBr7 hBt7 hK13 hK hO1 hP hSP hNP hlt hm2 hP4 hz hg hb5 hA5 hPL
              go_wp2_with fail
              refine HX.mono ?_
              clear HX
              rintro e w8 ⟨rfl, hK8⟩
              rw [H1.out, HP.out.1]
              have hO8 := hO.non hK8
              have hW8 := hWx.non hK8
              have hBr8 : RnB w8 r (rn0.add bs) := Blk.non hBrx hK8
              have hBt8 : RnB w8 t (rn0.add bs) := Blk.non hBtx hK8
              have hG8 := hGx.non hK8
              have hKw8 := hKx.non hK8
              have hsz8 : x + 1 ≤ w8.heap.size := by have := hK8.size; omega
              clear hO hWx hBrx hBtx hGx hKx hK8 hszx
              simp only [Sum4.v, sv]
              go_wp2_with (at_builtin; go_must (refine wpList_append_bytes rfl (.tmp 97) (.tmp 98) 22 rfl (x + 1) 5 Tryd.underlying22 info5 (.slice A5 L c5) P rfl ((hO8.non ((Keeps.refl Non w8).alloc (.cells #[.int .u64 (v64 WA), .int .u64 (v64 WB), .int .u64 (v64 WC), .int .u64 (v64 WD)] 25))).non ((Keeps.refl Non _).alloc (.cells #[.int .u8 0, .int .u8 0, .int .u8 0, .int .u8 0] 5))) (some ⟨w8.heap.size + 1, 0, none⟩) 4 4 [0, 0, 0, 0] rfl rfl (by have := At.lit (w8.alloc (.cells #[.int .u64 (v64 WA), .int .u64 (v64 WB), .int .u64 (v64 WC), .int .u64 (v64 WD)] 25)) 5 (0, 0) #[.int .u8 0, .int .u8 0, .int .u8 0, .int .u8 0] [0, 0, 0, 0] rfl; simpa using this) (by have := HPL.out; simp only [List.length_cons, List.length_nil]; omega) (by simp; omega) ?_); intro v3 w9 hO9 hK9 hat9)
              have hY9 : Blk w9 w8.heap.size 25 #[.int .u64 (v64 WA), .int .u64 (v64 WB), .int .u64 (v64 WC), .int .u64 (v64 WD)] := ((Blk.new w8 25 #[.int .u64 (v64 WA), .int .u64 (v64 WB), .int .u64 (v64 WC), .int .u64 (v64 WD)]).alloc _).keep hK9 (fun e => by have h := hO8.old _ e; omega)
              have hW9 : Blk w9 x 25 #[.int .u64 (v64 WA), .int .u64 (v64 WB), .int .u64 (v64 WC), .int .u64 (v64 WD)] := ((hW8.alloc _).alloc _).keep hK9 (fun e => by have h := hO8.new _ e; omega)
              have hBr9 : RnB w9 r (rn0.add bs) := Blk.keep (Blk.alloc (Blk.alloc hBr8 _) _) hK9 (fun e => by have h := hO8.new _ e; omega)
              have hBt9 : RnB w9 t (rn0.add bs) := Blk.keep (Blk.alloc (Blk.alloc hBt8 _) _) hK9 (fun e => by have h := hO8.new _ e; omega)
              have hG9 : Good w9 := ((hG8.non ((Keeps.refl Non w8).alloc _)).non ((Keeps.refl Non _).alloc _)).keep hK9 (fun e => by have h := hO8.new _ e; omega) (fun e => by have h := hO8.new _ e; omega)
              have hKw9 : Keeps Non w w9 := ((hKw8.alloc _).alloc _).then hK9 (fun i hi e => by have h := hO8.new i e; omega)
              obtain ⟨A7, c7, rfl, hc7, hA7, -⟩ := id hO9.open
              have hy9 := hY9.lt
              obtain ⟨y, hy⟩ : ∃ y, y = w8.heap.size := ⟨_, rfl⟩
              rw [← hy] at hY9 hy9 hsz8 ⊢
              clear hy hK9 hat9 hO8 hW8 hBr8 hBt8 hG8 hKw8
              obtain ⟨M, hM⟩ : ∃ M, M = (P ++ [0, 0, 0, 0]).length := ⟨_, rfl⟩
              have hM2 : M = L + 4 := by rw [hM, List.length_append, HPL.out]; rfl
              have HX := HOf.out w9 A7 c7 (P ++ [0, 0, 0, 0]) hA7 hc7 (by omega) hG9
              rw [← hM] at hc7 HX ⊢
              clear hM hO9 hA7
              go_wp2_with fail
              refine HX.mono ?_
              clear HX
              rintro e w10 ⟨rfl, hK10⟩
              rw [H1.out, HP.out.2]
              have hWa := hW9.non hK10
              have hYa := hY9.non hK10
              have hBra : RnB w10 r (rn0.add bs) := Blk.non hBr9 hK10
              have hBta : RnB w10 t (rn0.add bs) := Blk.non hBt9 hK10
              have hKwa := hKw9.non hK10
              have hya := hYa.lt
              clear hW9 hY9 hBr9 hBt9 hKw9 hK10 hG9 hy9
              simp only [Sum4.v, sv]
              have y0 := hYa.cell 0
              have y1 := hYa.cell 1
              have y2 := hYa.cell 2
              have y3 := hYa.cell 3
              have x0 := hWa.cell 0
              have x1 := hWa.cell 1
              have x2 := hWa.cell 2
              have x3 := hWa.cell 3
              have ha64 := add64
              go_wp2_with fail
              obtain ⟨wz, hwz⟩ : ∃ W : World, W = w10.alloc (.cells #[.int .u64 (v64 WA), .int .u64 (v64 (WB + WA)), .int .u64 (v64 (WC + (WB + WA))), .int .u64 (v64 (WD + (WC + (WB + WA))))] 25) := ⟨_, rfl⟩
              have hWz : Blk wz x 25 #[.int .u64 (v64 WA), .int .u64 (v64 WB), .int .u64 (v64 WC), .int .u64 (v64 WD)] := by rw [hwz]; exact hWa.alloc _
              have hYz : Blk wz y 25 #[.int .u64 (v64 WA), .int .u64 (v64 WB), .int .u64 (v64 WC), .int .u64 (v64 WD)] := by rw [hwz]; exact hYa.alloc _
              have hRz : RnB wz r (rn0.add bs) := by rw [hwz]; exact Blk.alloc hBra _
              have hTz : RnB wz t (rn0.add bs) := by rw [hwz]; exact Blk.alloc hBta _
              have hKz : Keeps Non w wz := by rw [hwz]; exact hKwa.alloc _
              have hzz : w10.heap.size < wz.heap.size := by rw [hwz]; simp
              rw [← hwz]
              clear hwz y0 y1 y2 y3 x0 x1 x2 x3 ha64 hWa hYa hBra hBta hKwa hsz8
              have CR : Hid (∀ (g : Nat) (W : World), RnB W g (rn0.add bs) → Calls Tryd.prog 16 #[.pointer (some ⟨g, 0, none⟩)] W fun e w' => e = .returned (.agg #[.int .u64 (v64 WA), .int .u64 (v64 WB), .int .u64 (v64 WC), .int .u64 (v64 WD)]) ∧ Keeps Non W w') := fun g W h => by
                refine (value_any g _ (Rn.add_lt bs rn0 (by decide)) W h).mono ?_
                rintro e w' ⟨rfl, hk⟩
                refine ⟨?_, hk⟩
                have := HS.out
                rw [show (rn0.add bs).value = sumF bs from rfl, ← this]
                rfl
              have hWd := hWz.drew
              have hYd := hYz.drew
              have hRd : RnB wz.drew r (rn0.add bs) := Blk.drew hRz
              have hTd : RnB wz.drew t (rn0.add bs) := Blk.drew hTz
              have FS0 : Hid (wz.drew.cell? ⟨x, 0, none⟩ = some (.int .u64 (v64 WA)) ∧ wz.drew.cell? ⟨x, 1, none⟩ = some (.int .u64 (v64 WB)) ∧ wz.drew.cell? ⟨x, 2, none⟩ = some (.int .u64 (v64 WC)) ∧ wz.drew.cell? ⟨x, 3, none⟩ = some (.int .u64 (v64 WD)) ∧ wz.drew.cell? ⟨y, 0, none⟩ = some (.int .u64 (v64 WA)) ∧ wz.drew.cell? ⟨y, 1, none⟩ = some (.int .u64 (v64 WB)) ∧ wz.drew.cell? ⟨y, 2, none⟩ = some (.int .u64 (v64 WC)) ∧ wz.drew.cell? ⟨y, 3, none⟩ = some (.int .u64 (v64 WD))) := ⟨hWd.cell 0, hWd.cell 1, hWd.cell 2, hWd.cell 3, hYd.cell 0, hYd.cell 1, hYd.cell 2, hYd.cell 3⟩
              go_region_held3 (fun w' : World => w'.cell? ⟨x, 0, none⟩ = some (.int .u64 (v64 WA)) ∧ w'.cell? ⟨x, 1, none⟩ = some (.int .u64 (v64 WB)) ∧ w'.cell? ⟨x, 2, none⟩ = some (.int .u64 (v64 WC)) ∧ w'.cell? ⟨x, 3, none⟩ = some (.int .u64 (v64 WD)) ∧ w'.cell? ⟨y, 0, none⟩ = some (.int .u64 (v64 WA)) ∧ w'.cell? ⟨y, 1, none⟩ = some (.int .u64 (v64 WB)) ∧ w'.cell? ⟨y, 2, none⟩ = some (.int .u64 (v64 WC)) ∧ w'.cell? ⟨y, 3, none⟩ = some (.int .u64 (v64 WD)))
                (with_reducible (first | exact FS0.out | exact FS1.out | exact FS2.out))
                (first
                  | (go_at_call_of 16 r; refine (CR.out r _ hRd).mono ?_; rintro e w11 ⟨rfl, hK11⟩; go_must (have hW11 := hWd.non hK11; have hY11 := hYd.non hK11; have hT11 : RnB w11 t (rn0.add bs) := Blk.non hTd hK11; have hKb := hKz.drew.non hK11; have FS1 : Hid (w11.cell? ⟨x, 0, none⟩ = some (.int .u64 (v64 WA)) ∧ w11.cell? ⟨x, 1, none⟩ = some (.int .u64 (v64 WB)) ∧ w11.cell? ⟨x, 2, none⟩ = some (.int .u64 (v64 WC)) ∧ w11.cell? ⟨x, 3, none⟩ = some (.int .u64 (v64 WD)) ∧ w11.cell? ⟨y, 0, none⟩ = some (.int .u64 (v64 WA)) ∧ w11.cell? ⟨y, 1, none⟩ = some (.int .u64 (v64 WB)) ∧ w11.cell? ⟨y, 2, none⟩ = some (.int .u64 (v64 WC)) ∧ w11.cell? ⟨y, 3, none⟩ = some (.int .u64 (v64 WD))) := ⟨hW11.cell 0, hW11.cell 1, hW11.cell 2, hW11.cell 3, hY11.cell 0, hY11.cell 1, hY11.cell 2, hY11.cell 3⟩))
                  | (go_at_call_of 16 t; refine (CR.out t _ hT11).mono ?_; rintro e w12 ⟨rfl, hK12⟩; go_must (have hW12 := hW11.non hK12; have hY12 := hY11.non hK12; have hKc := hKb.non hK12; have FS2 : Hid (w12.cell? ⟨x, 0, none⟩ = some (.int .u64 (v64 WA)) ∧ w12.cell? ⟨x, 1, none⟩ = some (.int .u64 (v64 WB)) ∧ w12.cell? ⟨x, 2, none⟩ = some (.int .u64 (v64 WC)) ∧ w12.cell? ⟨x, 3, none⟩ = some (.int .u64 (v64 WD)) ∧ w12.cell? ⟨y, 0, none⟩ = some (.int .u64 (v64 WA)) ∧ w12.cell? ⟨y, 1, none⟩ = some (.int .u64 (v64 WB)) ∧ w12.cell? ⟨y, 2, none⟩ = some (.int .u64 (v64 WC)) ∧ w12.cell? ⟨y, 3, none⟩ = some (.int .u64 (v64 WD))) := ⟨hW12.cell 0, hW12.cell 1, hW12.cell 2, hW12.cell 3, hY12.cell 0, hY12.cell 1, hY12.cell 2, hY12.cell 3⟩)))
              go_wp2_with fail
              go_ret
              exact ⟨rfl, hKc⟩
            · have hm2 : ¬ (L : Int) % 4 = 0 := by have := HL.out.2; unfold lacks at hlt hz; omega
              have hm1 : ((L : Int) % 4 != 0) = true := by simpa using hm2
              go_wp2_with (at_builtin; go_must (refine wpList_append_bytes rfl (.tmp 89) (.tmp 90) 22 rfl (x + 1) 5 Tryd.underlying22 info5 (.slice A5 L c5) (bs ++ zeros z) rfl (hO.non ((Keeps.refl Non wx).alloc (.cells #[.int .u8 0] 5))) (some ⟨wx.heap.size, 0, none⟩) 1 1 [0] rfl rfl (At.one _ _ _ _ rfl) (by have := HL.out.1; simp only [List.length_cons, List.length_nil]; omega) (by have := hK.size; simp; omega) ?_); intro v3 w8 hO3 hK3 hat3; have hK4 : Keeps (Hi (x + 1)) w7 w8 := (hK.alloc _).then hK3 (fun i hi e => hO.new i e); clear hO hK hK3 hat3)
              go_roundw
              case rel =>
                rw [List.append_assoc bs, zeros_snoc] at hO3
                exact ⟨z + 1, by omega, hO3, hK4⟩
              case measure =>
                obtain ⟨A6, c6, rfl, -⟩ := id hO3.open
                have := HL.out.1
                have := HL.out.2
                simp [lenV, zeros_length]
                omega
#print axioms sumCuts_any
end Go.Proofs.YtgpamjinkiadnaaDoor
