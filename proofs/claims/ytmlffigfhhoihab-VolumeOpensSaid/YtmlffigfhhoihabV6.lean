import Derived.Test.YtmlffigfhhoihabV5
namespace Go.Proofs.Ytmlffigfhhoihab
open Go.RowKit Go.Uc

/-- What Write and Discard give, and leave. -/
def errV (n : Nat) (at_ many : Int) : Int := if wB n at_ many then 0 else 186
def wrX (xs : List UInt8) (at_ : Int) (bs : List UInt8) : List UInt8 := if wB xs.length at_ bs.length then lay xs at_.toNat bs else xs
def dsX (xs : List UInt8) (at_ many : Int) : List UInt8 := if wB xs.length at_ many then lay xs at_.toNat (zeros many.toNat) else xs
def rdX (xs : List UInt8) (at_ many : Int) : List UInt8 := if wB xs.length at_ many then (xs.drop at_.toNat).take many.toNat else []
theorem wB_at {n : Nat} {at_ many : Int} (h : wB n at_ many = true) : 0 ≤ at_ ∧ 0 ≤ many ∧ at_.toNat + many.toNat ≤ n := by simp [wB] at h; omega
theorem wrX_length (xs : List UInt8) (at_ : Int) (bs : List UInt8) : (wrX xs at_ bs).length = xs.length := by
  unfold wrX
  split
  · rename_i h
    have := wB_at h
    exact lay_length _ _ _ (by omega)
  · rfl
theorem dsX_length (xs : List UInt8) (at_ many : Int) : (dsX xs at_ many).length = xs.length := by
  unfold dsX
  split
  · rename_i h
    have := wB_at h
    exact lay_length _ _ _ (by rw [zeros_length]; omega)
  · rfl
theorem VolB.keep {w w' : World} {S : Nat → Prop} {g gb : Nat} {t : TypeId} {xs : List UInt8} (h : VolB w g gb t xs) (hk : Keeps S w w') (h1 : ¬ S g) (h2 : ¬ S gb) : VolB w' g gb t xs := ⟨h.1.keep hk h1, h.2.1.keep hk h2, h.2.2⟩
theorem VolB.non {w w' : World} {g gb : Nat} {t : TypeId} {xs : List UInt8} (h : VolB w g gb t xs) (hk : Keeps Non w w') : VolB w' g gb t xs := h.keep hk id id

theorem write_all (g gb c : Nat) (xs bs : List UInt8) (at_ : Int) (A : Option Addr) (w : World) (hv : VolB w g gb 55 xs) (hl : xs.length ≤ 16384) (hA : At w A bs) (hc : bs.length ≤ c) (h64 : bs.length ≤ 140737488351232) :
    Calls Try.prog 10 #[.pointer (some ⟨g, 0, none⟩), .int .i64 at_, .slice A bs.length c] w fun e w' => e = .returned (.int .i64 (errV xs.length at_ bs.length)) ∧ VolB w' g gb 55 (wrX xs at_ bs) ∧ Keeps (Only gb) w w' := by
  cases h : wB xs.length at_ bs.length with
  | true =>
    obtain ⟨h1, h2, h3⟩ := wB_at h
    obtain ⟨a, rfl⟩ := Int.eq_ofNat_of_zero_le h1
    refine (write_ok g gb c xs bs a A w hv hl hA hc (by simpa using h3)).mono ?_
    rintro e w' ⟨rfl, hv', hK⟩
    refine ⟨by unfold errV; rw [if_pos h], ?_, hK⟩
    unfold wrX
    rw [if_pos h]
    exact hv'
  | false =>
    refine (write_no g gb c xs bs at_ A w hv hl hA hc h64 h).mono ?_
    rintro e w' ⟨rfl, hK⟩
    refine ⟨by unfold errV; rw [if_neg (by rw [h]; simp)], ?_, hK.of_non⟩
    unfold wrX
    rw [if_neg (by rw [h]; simp)]
    exact hv.non hK
theorem discard_all (g gb : Nat) (xs : List UInt8) (at_ many : Int) (w : World) (hv : VolB w g gb 55 xs) (hl : xs.length ≤ 16384) :
    Calls Try.prog 11 #[.pointer (some ⟨g, 0, none⟩), .int .i64 at_, .int .i64 many] w fun e w' => e = .returned (.int .i64 (errV xs.length at_ many)) ∧ VolB w' g gb 55 (dsX xs at_ many) ∧ Keeps (Only gb) w w' := by
  cases h : wB xs.length at_ many with
  | true =>
    obtain ⟨h1, h2, h3⟩ := wB_at h
    obtain ⟨a, rfl⟩ := Int.eq_ofNat_of_zero_le h1
    obtain ⟨m, rfl⟩ := Int.eq_ofNat_of_zero_le h2
    refine (discard_ok g gb xs a m w hv hl (by simpa using h3)).mono ?_
    rintro e w' ⟨rfl, hv', hK⟩
    refine ⟨by unfold errV; rw [if_pos h], ?_, hK⟩
    unfold dsX
    rw [if_pos h]
    exact hv'
  | false =>
    refine (discard_no g gb xs at_ many w hv hl h).mono ?_
    rintro e w' ⟨rfl, rfl⟩
    refine ⟨by unfold errV; rw [if_neg (by rw [h]; simp)], ?_, Keeps.refl _ _⟩
    unfold dsX
    rw [if_neg (by rw [h]; simp)]
    exact hv
theorem read_all (g gb : Nat) (xs : List UInt8) (at_ many : Int) (w : World) (hv : VolB w g gb 55 xs) (hl : xs.length ≤ 16384) :
    Calls Try.prog 15 #[.pointer (some ⟨g, 0, none⟩), .int .i64 at_, .int .i64 many] w fun e w' => ∃ v, e = .returned (.tuple #[v, .int .i64 (errV xs.length at_ many)]) ∧ OwnB w' w.heap.size 5 v (rdX xs at_ many) ∧ Keeps Non w w' := by
  cases h : wB xs.length at_ many with
  | true =>
    obtain ⟨h1, h2, h3⟩ := wB_at h
    obtain ⟨a, rfl⟩ := Int.eq_ofNat_of_zero_le h1
    obtain ⟨m, rfl⟩ := Int.eq_ofNat_of_zero_le h2
    refine (read_ok g gb xs a m w hv hl (by simpa using h3)).mono ?_
    rintro e w' ⟨v, rfl, hO, hK⟩
    refine ⟨v, by unfold errV; rw [if_pos h], ?_, hK⟩
    unfold rdX
    rw [if_pos h]
    exact hO
  | false =>
    refine (read_no g gb xs at_ many w hv hl h).mono ?_
    rintro e w' ⟨rfl, rfl⟩
    refine ⟨_, by unfold errV; rw [if_neg (by rw [h]; simp)], ?_, Keeps.refl _ _⟩
    unfold rdX
    rw [if_neg (by rw [h]; simp)]
    exact OwnB.nil _ _ _

theorem RowC.open {w : World} {B : Nat} {v : Value} {cs : List Cel} (h : RowC w B (OwnB w B 5) v cs) : ∃ A c, v = .slice A cs.length c ∧ Cels w A cs ∧ cs.length ≤ c ∧ (∀ ad, A = some ad → B ≤ ad.block ∧ v.ownBlock = some ad.block) := by
  obtain ⟨vss, h1, h2, h3⟩ := h
  rcases h1.2 with ⟨rfl, h4⟩ | ⟨g, cap, cur, rfl, h4, h5, h6, h7, h8, h9⟩
  · obtain rfl := List.eq_nil_of_length_eq_zero h4
    exact ⟨none, 0, rfl, fun i h => absurd h (by simp), Nat.le_refl _, fun _ h => by cases h⟩
  · refine ⟨_, cap, rfl, fun i hi => ?_, h6, fun ad had => by injection had with had; subst had; exact ⟨h4, rfl⟩⟩
    obtain ⟨d, e1, hd⟩ := h3 i hi (by omega)
    obtain ⟨A, c, hdv, hdc, hdA, _⟩ := hd.open
    have key : ∀ j, j < 4 → cur[i * 4 + j]? = (vss[i]'(by omega))[j]? := fun j hj => by
      have e2 : (cur.toList.take (cs.length * 4))[i * 4 + j]? = vss.flatten[i * 4 + j]? := by rw [h9]
      rw [List.getElem?_take, if_pos (by omega)] at e2
      have e3 : vss.flatten[i * 4 + j]? = (vss[i]'(by omega))[j]? := flat4 vss (fun k hk => by obtain ⟨d', e', _⟩ := h3 k (by omega) hk; rw [e']; rfl) i j (by omega) hj
      rw [← e3, ← e2]
      simp
    subst hdv
    refine ⟨g, 0, A, c, rfl, ?_, ?_, ?_, ?_, hdA, hdc⟩
    · rw [cell_of_row w g _ cur 60 (0, 0) h5, Nat.zero_add]; have := key 0 (by omega); rw [e1] at this; simpa using this
    · rw [cell_of_row w g _ cur 60 (0, 0) h5, Nat.zero_add]; have := key 1 (by omega); rw [e1] at this; simpa using this
    · rw [cell_of_row w g _ cur 60 (0, 0) h5, Nat.zero_add]; have := key 2 (by omega); rw [e1] at this; simpa using this
    · rw [cell_of_row w g _ cur 60 (0, 0) h5, Nat.zero_add]; have := key 3 (by omega); rw [e1] at this; simpa using this
where
  flat4 : ∀ (vss : List (List Value)) (_ : ∀ k (hk : k < vss.length), vss[k].length = 4) (i j : Nat) (hi : i < vss.length) (_ : j < 4), vss.flatten[i * 4 + j]? = vss[i][j]?
    | [], _, i, j, hi, _ => absurd hi (by simp)
    | x :: r, h, 0, j, hi, hj => by
      have h0 := h 0 (by simp)
      simp at h0
      rw [List.flatten_cons, List.getElem?_append_left (by omega)]
      simp
    | x :: r, h, i + 1, j, hi, hj => by
      have h0 := h 0 (by simp)
      simp at h0
      rw [List.flatten_cons, List.getElem?_append_right (by omega), h0, show (i + 1) * 4 + j - 4 = i * 4 + j by omega]
      simp only [List.length_cons] at hi
      exact flat4 r (fun k hk => by have := h (k + 1) (by simp; omega); simpa using this) i j (by omega) hj

def awX : List UInt8 := dsX (wrX (zeros 512) 254 [97, 98, 99]) 0 256
theorem awX_len : awX.length = 512 := by unfold awX; rw [dsX_length, wrX_length, zeros_length]
theorem awC : (cellsTo awX (awX.length / 256)).length = 2 := by decide +kernel
theorem awR : rdX (wrX (zeros 512) 254 [97, 98, 99]) 253 5 = [0, 97, 98, 99, 0] := by decide +kernel
theorem awS : str [0, 97, 98, 99, 0] = ⟨#[0, 97, 98, 99, 0]⟩ := rfl

set_option maxRecDepth 100000 in
set_option maxHeartbeats 2000000 in
theorem awake_any (w : World) : Calls Try.prog 7 #[] w fun e w' => e = .returned (.bool true) ∧ Keeps Non w w' := by
  have HC := Lib.hid awC
  have HR := Lib.hid awR
  have kc := fun (w : World) (C : Array Value) (n c : Nat) => Lib.run_convert_bytes_const (P := Try.prog) w 23 5 C n c Try.underlying23 Try.underlying5
  obtain ⟨X1, hX1⟩ : ∃ X, X = wrX (zeros 512) 254 [97, 98, 99] := ⟨_, rfl⟩
  have l1 : X1.length = 512 := by rw [hX1, wrX_length, zeros_length]
  obtain ⟨X2, hX2⟩ : ∃ X, X = awX := ⟨_, rfl⟩
  have l2 : X2.length = 512 := by rw [hX2, awX_len]
  have hX12 : dsX X1 0 256 = X2 := by rw [hX2, hX1]; rfl
  have HX1 := Lib.hid hX1
  have HX2 := Lib.hid hX2
  have H12 := Lib.hid hX12
  have L1 := Lib.hid l1
  have L2 := Lib.hid l2
  clear hX1 hX2 hX12 l1 l2
  go_enter Try.func7, Try.ntmps7
  go_wp2_with fail
  refine (new_ok 512 _ (by decide)).mono ?_
  rintro e w1 ⟨g, gb, rfl, hv1, hg1, hg2, hK1⟩
  have hgl := hv1.1.lt
  have hgbl := hv1.2.1.lt
  go_wp2_with fail
  have E1 : errV (zeros 512).length 254 ([97, 98, 99] : List UInt8).length = 0 := by decide +kernel
  refine (write_all g gb 3 (zeros 512) [97, 98, 99] 254 _ _ (hv1.non ((Keeps.refl Non w1).alloc _)) (by rw [zeros_length]; omega) (At.lit _ _ _ _ _ rfl) (by decide) (by decide)).mono ?_
  rw [E1, ← HX1.out]
  rintro e w2 ⟨rfl, hv2, hK2⟩
  have hz2 : w1.heap.size < w2.heap.size := by have := hK2.size; simp at this; omega
  have hk2 : Keeps Non w w2 := (hK1.alloc _).then hK2 (fun i hi e => by unfold Only at e; omega)
  clear hK2 E1
  have E2 : errV X1.length 253 5 = 0 := by rw [L1.out]; decide +kernel
  have hW2 := read_all g gb X1 253 5 w2 hv2 (by rw [L1.out]; omega)
  rw [E2, HX1.out, HR.out] at hW2
  have HW2 := Lib.hid hW2
  clear hW2 E2
  go_wp2_with (go_at_call 15; go_must (refine HW2.out.mono ?_); rintro e w3 ⟨v3, rfl, hO3, hK3⟩; obtain ⟨A3, c3, rfl, hc3, hA3, hb3⟩ := hO3.open)
  have hv3 := hv2.non hK3
  have hk3 := hk2.trans hK3
  have E3 : errV X1.length 0 256 = 0 := by rw [L1.out]; decide +kernel
  have hW3 := discard_all g gb X1 0 256 w3 hv3 (by rw [L1.out]; omega)
  rw [E3, H12.out] at hW3
  have HW3 := Lib.hid hW3
  clear hW3 E3 HW2
  go_wp2_with (go_at_call 11; go_must (refine HW3.out.mono ?_); rintro e w4 ⟨rfl, hv4, hK4⟩)
  have hO4 := hO3.keep hK4 (fun k e1 e => by have := hO3.new k e1; unfold Only at e; omega)
  have hk4 : Keeps Non w w4 := hk3.then hK4 (fun i hi e => by unfold Only at e; omega)
  have hW4 := cells_any g gb X2 w4 hv4 (by rw [L2.out]; omega) (by rw [L2.out])
  have HW4 := Lib.hid hW4
  have HC2 : Hid ((cellsTo X2 (X2.length / 256)).length = 2) := by show _ = _; rw [HX2.out]; exact HC.out
  clear hW4 HW3 hv3 hO3 hK3 hK4 hA3 hb3
  go_wp2_with (go_at_call 13; go_must (refine HW4.out.mono ?_); rintro e w5 ⟨v5, rfl, hC5, hK5⟩; obtain ⟨A5, c5, rfl, -, hc5, -⟩ := hC5.open; rw [HC2.out] at hc5 ⊢)
  have hv5 := hv4.non hK5
  have hO5 := hO4.non hK5
  have hk5 := hk4.trans hK5
  have E5 : errV X2.length 511 ([97, 98] : List UInt8).length = 186 := by rw [L2.out]; decide +kernel
  refine (write_all g gb 2 X2 [97, 98] 511 _ _ (hv5.non ((Keeps.refl Non w5).alloc _)) (by rw [L2.out]; omega) (At.lit _ _ _ _ _ rfl) (by decide) (by decide)).mono ?_
  rw [E5]
  rintro e w6 ⟨rfl, -, hK6⟩
  have hk6 : Keeps Non w w6 := (hk5.alloc _).then hK6 (fun i hi e => by unfold Only at e; omega)
  have hO6 := (hO5.non ((Keeps.refl Non w5).alloc _)).keep hK6 (fun k e1 e => by have := hO5.new k e1; unfold Only at e; omega)
  obtain ⟨A6, c6, e6, -, hA6, -⟩ := hO6.open
  injection e6 with e6 _ e6'
  subst e6 e6'
  have cv := run_convert_at (P := Try.prog) (w := w6) 23 9 5 Try.underlying23 Try.underlying5 Try.underlying9 _ _ hA6 5 c3 rfl
  rw [awS] at cv
  clear E5 HW4 HC2 hC5 hO4 hO5 hO6 hA6 hv4 hv5 hv1 hv2 hK5 hK6
  go_wp2_with fail
  go_ret
  exact ⟨rfl, hk6⟩
end Go.Proofs.Ytmlffigfhhoihab
