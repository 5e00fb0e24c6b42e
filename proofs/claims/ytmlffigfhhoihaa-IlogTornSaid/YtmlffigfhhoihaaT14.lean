import Derived.Test.YtmlffigfhhoihaaP2
namespace Go.Proofs.Ytmlffigfhhoihaa
open Go.RowKit Go.Uc

theorem Chain.lens {reg : List UInt8} {base : Nat} : ∀ {ls : List (List UInt8)} {at_ next e : Nat}, Chain reg base at_ next ls e → ∀ b ∈ ls, b.length ≤ 4096
  | [], _, _, _, _, _, hb => by cases hb
  | _ :: _, _, _, _, ⟨h1, _, _, h4⟩, b, hb => by
    rcases List.mem_cons.1 hb with rfl | hb
    · exact h1
    · exact h4.lens b hb
theorem RowB.own_recs {w : World} {B : Nat} {v : Value} {ls : List (List UInt8)} (h : RowB w B (OwnB w B 5) v ls) (hl : ∀ b ∈ ls, b.length ≤ 4096) : ∃ A c, v = .slice A ls.length c ∧ Recs w A ls ∧ ls.length ≤ c := by
  obtain ⟨vs, h1, h2, h3⟩ := h
  refine RowB.recs ⟨vs, h1, h2, fun i a b => OwnB.slb (h3 i a b) ?_⟩
  have := hl _ (List.getElem_mem a)
  omega
theorem RowB.in_recs {W0 w w' : World} {B : Nat} {v : Value} {ls : List (List UInt8)} (h : RowB w B (SlB W0) v ls) (hW : Keeps Non W0 w') (hk : Keeps Non w w') : ∃ A c, v = .slice A ls.length c ∧ Recs w' A ls ∧ ls.length ≤ c :=
  RowB.recs ((h.keep hk fun _ _ e => e).mono fun _ _ q => q.keep hW)

set_option maxRecDepth 100000 in
set_option maxHeartbeats 4000000 in
theorem ilogBack_any (base : Int) (A1 A2 : Option Addr) (c1 c2 : Nat) (old records : List (List UInt8)) (w : World) (hR1 : Recs w A1 old) (hR2 : Recs w A2 records) (hn1 : old.length ≤ 140737488351232) (hn2 : records.length ≤ 140737488351232)
    (hb1 : -9223372036854775808 ≤ base) (hb2 : base ≤ 9223372036854775807) :
    Calls Try.prog 6 #[.int .i64 base, .slice A1 old.length c1, .slice A2 records.length c2] w fun e w' => e = .returned (.bool true) ∧ Keeps Non w w' := by
  have HR1 := Lib.hid hR1
  have HR2 := Lib.hid hR2
  clear hR1 hR2
  go_enter Try.func6, Try.ntmps6
  go_wp2_with (first
    | (go_at_call 7; go_must (refine (awake_any _).mono ?_); rintro e w1 ⟨rfl, hK1⟩)
    | (go_at_call 15; go_must (refine (pick_any base 1000 _ (by omega) (by omega) hb1 hb2).mono ?_); rintro e w2 ⟨⟨r, hr, rfl⟩, rfl⟩)
    | (at_make; go_must (refine wpList_make_bytes rfl _ _ 31 rfl 5 Try.underlying31 info5 .i64 .i64 _ _ 22528 rfl rfl (by omega) (by omega) (by omega) ?_); intro w3 hB3 hK3))
  obtain ⟨go, hgo⟩ : ∃ go, go = w1.heap.size := ⟨_, rfl⟩
  have hs1 := hK1.size
  rw [← hgo] at hB3 hs1 ⊢
  clear hgo
  have hkw3 := hK1.trans hK3
  have hgo3 := hB3.lt
  refine (written_any r go c1 A1 old (zeros 22528) w w3 HR1.out hkw3 hn1 (by omega) hB3 hs1 (zeros_length _)).mono ?_
  rintro e w4 ⟨v4, rfl, hB4', -, hK4⟩
  have hB4 : Blk w4 go 5 (pc (backReg r old)) := by unfold backReg; exact hB4'
  clear hB4'
  have hkw4 := hkw3.then hK4 fun i hi e => by unfold Only at e; omega
  obtain ⟨f4, hf4⟩ : ∃ f4 : Nat, f4 = (wrF r (zeros 22528) old).frm := ⟨_, rfl⟩
  obtain ⟨t4, ht4⟩ : ∃ t4 : Nat, t4 = (wrF r (zeros 22528) old).to := ⟨_, rfl⟩
  rw [← hf4, ← ht4]
  clear hf4 ht4 hK4 hB3 hK1 hK3
  go_wp2_with fail
  rw [show ((r : Int) + 1) = ((r + 1 : Nat) : Int) from by omega]
  refine (written_any (r + 1) go c2 A2 records (backReg r old) w w4 HR2.out hkw4 hn2 (by omega) hB4 hs1 (backReg_length r old)).mono ?_
  have hsc := back_scan r (by omega) old records
  have hnn := back_none r (by omega) old records
  have hinv := wrF_inv (backReg_length r old) (r + 1) records
  obtain ⟨s, hs⟩ : ∃ s, s = wrF (r + 1) (backReg r old) records := ⟨_, rfl⟩
  rw [← hs] at hsc hnn hinv ⊢
  clear hs
  rintro e w5 ⟨v5, rfl, hB5, hRow5, hK5⟩
  have hkw5 := hkw4.then hK5 fun i hi e => by unfold Only at e; omega
  have hto : s.to = s.at_ := hinv.ok.to
  have hnx : s.next = s.ls.length + 1 := hinv.ok.next
  have hlens := hinv.chain.lens
  have hl256 : s.ls.length ≤ 256 := by have := hinv.ok.room; have := hinv.ok.at_; omega
  rw [hto]
  rw [hnx] at hsc
  have HSC := Lib.hid hsc
  have HNN := Lib.hid hnn
  have HLN := Lib.hid hlens
  have hsl := hinv.ok.len
  obtain ⟨A5, c5, hv5, -, -⟩ := hRow5.in_recs hkw5 (Keeps.refl _ _)
  subst hv5
  obtain ⟨at5, hat5⟩ : ∃ a : Nat, a = s.at_ := ⟨_, rfl⟩
  rw [← hat5] at hsc ⊢
  obtain ⟨frm5, hfrm5⟩ : ∃ a : Nat, a = s.frm := ⟨_, rfl⟩
  rw [← hfrm5]
  have HAT := Lib.hid hat5
  clear hsc hnn hlens hto hnx hinv hat5 hfrm5 hK5 hB4
  go_wp2_with fail
  rw [show ((r : Int) + 1) = ((r + 1 : Nat) : Int) from by omega]
  refine (scan_ok (r + 1) 22528 (some ⟨go, 0, none⟩) s.reg w5 hsl (At.blk hB5) (Nat.le_refl _) (by omega)).mono ?_
  rw [HSC.out, ← HAT.out]
  rintro e w6 ⟨v6, rfl, hb6, hRow6, hK6⟩
  have hkw6 := hkw5.trans hK6
  obtain ⟨A6, c6, hv6, hrec6, hc6⟩ := hRow6.own_recs HLN.out
  subst hv6
  obtain ⟨A5', c5', e5, hrec5, hc5⟩ := hRow5.in_recs hkw6 hK6
  injection e5 with e5 _ e5'
  subst e5 e5'
  have hB6 := hB5.non hK6
  obtain ⟨gx, hgx⟩ : ∃ gx, gx = w5.heap.size := ⟨_, rfl⟩
  rw [← hgx] at hb6 ⊢
  clear hgx hRow5 hRow6 hB5 hK6 hkw5
  go_wp2_with (go_at_call 18; go_must (refine (same_any A5 A6 c5 c6 s.ls s.ls _ hrec5 hrec6 (by omega) (by omega) rfl).mono ?_); rintro e w7 ⟨rfl, hK7⟩)
  rw [show ((r : Int) + 2) = ((r + 2 : Nat) : Int) from by omega]
  refine (scan_ok (r + 2) 22528 (some ⟨go, 0, none⟩) s.reg w7 hsl (At.blk (hB6.non hK7)) (Nat.le_refl _) (by omega)).mono ?_
  rw [HNN.out]
  rintro e w8 ⟨v8, rfl, -, hRow8, hK8⟩
  obtain ⟨A8, c8, hv8, -, -⟩ := hRow8.own_recs (fun b hb => by cases hb)
  rw [List.length_nil] at hv8
  subst hv8
  have hb8 : LogB w8 gx 53 (r + 1) at5 (s.ls.length + 1) := Blk.non (Blk.non hb6 hK7) hK8
  have hkw8 := (hkw6.trans hK7).trans hK8
  clear hRow8 hK8 hK7 hB6 hb6 hrec5 hrec6
  go_wp2_with (first
    | (go_at_call 19; go_must (refine (at_any _ _ _ _ _ hb8).mono ?_); rintro e w9 ⟨rfl, rfl⟩)
    | (go_at_call 20; go_must (refine (next_any _ _ _ _ _ hb8).mono ?_); rintro e w10 ⟨rfl, rfl⟩)
    | (go_at_call 23; go_must (refine (base_any _ _ _ _ _ hb8).mono ?_); rintro e w11 ⟨rfl, rfl⟩))
  go_ret
  exact ⟨rfl, hkw8⟩
end Go.Proofs.Ytmlffigfhhoihaa
