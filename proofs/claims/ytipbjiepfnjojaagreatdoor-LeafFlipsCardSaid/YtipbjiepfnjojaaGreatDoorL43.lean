/- A sector of the log written. -/
import Derived.Test.YtipbjiepfnjojaaGreatDoorG14
namespace Go.Proofs.YtipbjiepfnjojaaGreatDoor
set_option maxRecDepth 100000
open Go.RowKit Go.Uc

/-- What stands behind the sum in a log sector. -/
def logIn (no : Nat) (bs : List UInt8) : List UInt8 := le 8 no ++ bs
def logB (no : Nat) (bs : List UInt8) : List UInt8 := (fl (logIn no bs)).bytes ++ logIn no bs
theorem logIn_len (no : Nat) (bs : List UInt8) : (logIn no bs).length = 8 + bs.length := by simp [logIn, le_length]
theorem logB_len (no : Nat) (bs : List UInt8) : (logB no bs).length = 40 + bs.length := by rw [logB, List.length_append, S4.bytes_len, logIn_len]; omega
section
variable {w0 w : World} {lf : Nat} {K : Kb} {s : Dsk} {wv : Sl} {x : Lb} {tA : Option Addr} {tc : Nat}
set_option maxHeartbeats 1000000 in
theorem logWrite13_no (at_ : Int) (no : Nat) (A : Option Addr) (n c : Nat) (v : Value) (ha : ¬ (0 ≤ at_ ∧ at_ < 256)) (w : World) :
    Calls Tryz.prog 13 #[v, .int .i64 at_, .int .u64 (no : Int), .slice A n c] w fun e w' => e = .returned (.int .i64 1) ∧ w' = w := by
  by_cases h0 : 0 ≤ at_
  · have h1 : decide (256 ≤ at_) = true := decide_eq_true (by omega)
    have h2 : decide (at_ < 0) = false := decide_eq_false (by omega)
    go_enter Tryz.func13, Tryz.ntmps13
    go_wp2_with fail
    go_ret
    exact ⟨rfl, rfl⟩
  · have h2 : decide (at_ < 0) = true := decide_eq_true (by omega)
    go_enter Tryz.func13, Tryz.ntmps13
    go_wp2_with fail
    go_ret
    exact ⟨rfl, rfl⟩
set_option maxHeartbeats 8000000 in
theorem logWrite13_on (h : Lm w0 w lf K s wv x tA tc) (ho : s.off = false) (hl1 : s.left = -1) (hn : 324 ≤ s.n) (hW : s.waits.length ≤ 1000000000) (at_ no : Nat) (ha : at_ < 256) (h1 : 1 ≤ no) (h2 : no ≤ 281474976710656) (bs : List UInt8) (hl : bs.length = 88) (A : Option Addr) (c : Nat) (hA : At w A bs) :
    Calls Tryz.prog 13 #[.pointer (some ⟨lf, 0, none⟩), .int .i64 (at_ : Int), .int .u64 (no : Int), .slice A 88 c] w fun e w' => e = .returned (.int .i64 0) ∧ Did w0 w lf K wv x tA tc (s.wr (18 + at_) 1 (logB no bs)).1 w' := by
  have HNw := Lib.hid (fun V => newWriter_any 128 (by decide) V)
  have HNm : Hid (∀ (V0 V : World) (g n : Nat) (xs : List UInt8), Wr V0 V g 128 xs → n < 18446744073709551616 → xs.length + 8 ≤ 128 → Calls Tryz.prog 42 #[.pointer (some ⟨g, 0, none⟩), .int .u64 (n : Int), .int .i64 8] V fun e w' => e = .returned (.tuple #[]) ∧ Wr V0 w' g 128 (xs ++ le 8 n) ∧ Oth V w') := Lib.hid (fun V0 V g n xs hV hn' hx => num42_any hV n 8 (by decide) (by decide) hn' hx (by decide))
  have HB1 : Hid (∀ (V0 V : World) (g : Nat), Wr V0 V g 128 (le 8 no) → At V A bs → Calls Tryz.prog 43 #[.pointer (some ⟨g, 0, none⟩), .slice A 88 c] V fun e w' => e = .returned (.tuple #[]) ∧ Wr V0 w' g 128 (logIn no bs) ∧ Oth V w') := Lib.hid (fun V0 V g hV hAV => by
    have := bytes43_any hV A c bs hAV (by rw [le_length, hl]; decide) (by decide)
    rw [hl] at this
    exact this)
  have hIl : (logIn no bs).length = 96 := by rw [logIn_len, hl]
  have HD1 : Hid (∀ (V0 V : World) (g : Nat), Wr V0 V g 128 (logIn no bs) → Calls Tryz.prog 44 #[.pointer (some ⟨g, 0, none⟩)] V fun e w' => ∃ b, e = .returned (.tuple #[.slice (some ⟨b, 0, none⟩) 96 96, .int .i64 0]) ∧ Blk w' b 5 (pc (logIn no bs)) ∧ V.heap.size ≤ b ∧ Keeps Non V w') := Lib.hid (fun V0 V g hV => by
    have := done44_any hV (by rw [hIl]; decide)
    rw [hIl] at this
    exact this)
  have HOf : Hid (∀ (V : World) (b : Nat), Blk V b 5 (pc (logIn no bs)) → Calls Tryz.prog 45 #[.int .i64 1, .slice (some ⟨b, 0, none⟩) 96 96] V fun e w' => e = .returned (.tuple #[.agg (fl (logIn no bs)).cs, .int .i64 0]) ∧ Keeps Non V w') := Lib.hid (fun V b hb => by
    have := of1_any (some ⟨b, 0, none⟩) 96 (logIn no bs) V (At.blk hb) (by omega) (by omega)
    rw [hIl] at this
    exact this)
  have HB2 : Hid (∀ (V0 V : World) (g b : Nat), Wr V0 V g 128 (fl (logIn no bs)).bytes → Blk V b 5 (pc (logIn no bs)) → Calls Tryz.prog 43 #[.pointer (some ⟨g, 0, none⟩), .slice (some ⟨b, 0, none⟩) 96 96] V fun e w' => e = .returned (.tuple #[]) ∧ Wr V0 w' g 128 (logB no bs) ∧ Oth V w') := Lib.hid (fun V0 V g b hV hb => by
    have := bytes43_any hV (some ⟨b, 0, none⟩) 96 (logIn no bs) (At.blk hb) (by rw [S4.bytes_len, hIl]; decide) (by decide)
    rw [hIl] at this
    exact this)
  have hBl : (logB no bs).length = 128 := by rw [logB_len, hl]
  have HD2 : Hid (∀ (V0 V : World) (g : Nat), Wr V0 V g 128 (logB no bs) → Calls Tryz.prog 44 #[.pointer (some ⟨g, 0, none⟩)] V fun e w' => ∃ b, e = .returned (.tuple #[.slice (some ⟨b, 0, none⟩) 128 128, .int .i64 0]) ∧ Blk w' b 5 (pc (logB no bs)) ∧ V.heap.size ≤ b ∧ Keeps Non V w') := Lib.hid (fun V0 V g hV => by
    have := done44_any hV (by rw [hBl]; decide)
    rw [hBl] at this
    exact this)
  have HWr : Hid (∀ (V : World) (b : Nat), Keeps Non w V → Blk V b 5 (pc (logB no bs)) → w.heap.size ≤ b → Calls Tryz.prog 30 #[.pointer (some ⟨K.d, 0, none⟩), .int .i64 ((18 + at_ : Nat) : Int), .slice (some ⟨b, 0, none⟩) 128 128] V fun e w' => e = .returned (.int .i64 0) ∧ Did w0 w lf K wv x tA tc (s.wr (18 + at_) 1 (logB no bs)).1 w') := Lib.hid (fun V b hV hb hbw => by
    have := write30_on (h.dm.non hV) ho hl1 (18 + at_) 1 (logB no bs) (some ⟨b, 0, none⟩) 128 (At.blk hb) hBl (by omega) (by omega) (fun ad e => by injection e with e; subst e; exact (h.dm.old hbw).1) (by omega)
    rw [Nat.mul_one] at this
    refine this.mono ?_
    rintro e w' ⟨rfl, hw⟩
    obtain ⟨wv', q1, q2, q3⟩ := Wrote.did (h.non hV) hw
    refine ⟨rfl, wv', q1, (hV.of_non).trans q2, fun q hq => ?_⟩
    rcases q3 q hq with e | e
    · exact .inl e
    · right; have := hV.size; omega)
  have HC := Lib.hid (fun v V => counted32_any 0 (by decide) v V)
  have HL0 := Lib.hid (fun V (hV : Keeps Non w V) => (h.non hV).d0)
  have hAt := Lib.hid (fun V (hV : Keeps Non w V) => hA.non hV)
  have hfo := fl_ok (logIn no bs)
  generalize logB no bs = LB at HB2 HD2 HWr hBl ⊢
  generalize hSS : (s.wr (18 + at_) 1 LB).1 = S9 at HWr ⊢
  clear hSS h hA
  generalize hFF : fl (logIn no bs) = F at HOf HB2 hfo
  clear hFF
  obtain ⟨sa, sb, sc, sd⟩ := F
  obtain ⟨q1, q2, q3, q4⟩ := hfo
  simp only at q1 q2 q3 q4
  unfold S4.cs at HOf
  simp only at HOf
  have hL := Lib.hid (fun j (hj : j ≤ 4) => S4.upto_len ⟨sa, sb, sc, sd⟩ j hj)
  go_enter Tryz.func13, Tryz.ntmps13
  go_upto_region 4 with (go_at_call 41; go_must (refine (HNw.out _).mono ?_); rintro e w2 ⟨g, rfl, hW2⟩)
  have HN2 := Lib.hid (HNm.out _ _ g no [] hW2 (by omega) (by decide))
  go_upto_region 5 with (go_at_call 42; go_must (refine HN2.out.mono ?_); rintro e w3 ⟨rfl, hW3, -⟩)
  have HB3 := Lib.hid (HB1.out _ _ _ hW3 (hAt.out w3 hW3.keep))
  go_upto_region 6 with (go_at_call 43; go_must (refine HB3.out.mono ?_); rintro e w4 ⟨rfl, hW4, -⟩)
  have HD4 := Lib.hid (HD1.out _ _ _ hW4)
  go_upto_region 9 with (go_at_call 44; go_must (refine HD4.out.mono ?_); rintro e w5 ⟨b1, rfl, hB5, hb5, hK5⟩)
  have hk5 := hW4.keep.non hK5
  have hb1w : w.heap.size ≤ b1 := by have := hW4.keep.size; omega
  have HO5 := Lib.hid (HOf.out w5 b1 hB5)
  go_upto_region 12 with (go_at_call 45; go_must (refine HO5.out.mono ?_); rintro e w6 ⟨rfl, hK6⟩)
  have hS6 := Blk.new w6 43 #[.int .u64 (sa : Int), .int .u64 (sb : Int), .int .u64 (sc : Int), .int .u64 (sd : Int)]
  have hka := (Keeps.refl Non w6).alloc (.cells #[.int .u64 (sa : Int), .int .u64 (sb : Int), .int .u64 (sc : Int), .int .u64 (sd : Int)] 43)
  obtain ⟨w7, hw7⟩ : ∃ V : World, V = w6.alloc (.cells #[.int .u64 (sa : Int), .int .u64 (sb : Int), .int .u64 (sc : Int), .int .u64 (sd : Int)] 43) := ⟨_, rfl⟩
  rw [← hw7] at hS6 hka ⊢
  clear hw7
  obtain ⟨ps, hps⟩ : ∃ z, z = w6.heap.size := ⟨_, rfl⟩
  rw [← hps] at hS6 ⊢
  clear hps
  have hk7 := (hk5.non hK6).non hka
  have hB7 := (hB5.non hK6).non hka
  go_upto_region 13 with (go_at_call 41; go_must (refine (HNw.out _).mono ?_); rintro e w8 ⟨g2, rfl, hW8⟩)
  have hS8 := hS6.non hW8.keep
  have x0 : w8.cell? ⟨ps, 0, none⟩ = some (.int .u64 (sa : Int)) := hS8.cell 0
  have x1 : w8.cell? ⟨ps, 1, none⟩ = some (.int .u64 (sb : Int)) := hS8.cell 1
  have x2 : w8.cell? ⟨ps, 2, none⟩ = some (.int .u64 (sc : Int)) := hS8.cell 2
  have x3 : w8.cell? ⟨ps, 3, none⟩ = some (.int .u64 (sd : Int)) := hS8.cell 3
  go_upto_region 14 with fail
  clear x0 x1 x2 x3
  go_loopw [69] (fun i wr => ∃ j : Nat, j ≤ 4 ∧ i = .int .i64 (j : Int) ∧ Wr w7 wr g2 128 (S4.upto ⟨sa, sb, sc, sd⟩ j)) (fun i _ => 4 - (intOf i).toNat)
  case atStart => exact ⟨0, by omega, rfl, hW8⟩
  case round =>
    obtain ⟨j, hj, rfl, hWj⟩ := hrel
    obtain ⟨wx, rfl⟩ : ∃ V : World, V = wr := ⟨_, rfl⟩
    have hlj := hL.out j hj
    by_cases hlt : j < 4
    · obtain ⟨X, hX⟩ : ∃ X, X = [sa, sb, sc, sd].getD j 0 := ⟨_, rfl⟩
      have hX8 : X < 18446744073709551616 := by
        rw [hX]
        match j, hlt with
        | 0, _ => exact q1
        | 1, _ => exact q2
        | 2, _ => exact q3
        | 3, _ => exact q4
      have hin : ∀ V : World, (Instr.index 114 (.agg #[.int .u64 (sa : Int), .int .u64 (sb : Int), .int .u64 (sc : Int), .int .u64 (sd : Int)]) (.int .i64 (j : Int))).run Tryz.prog V = .ok (.int .u64 (X : Int)) V := by
        intro V
        rw [hX]
        match j, hlt with
        | 0, _ => rfl
        | 1, _ => rfl
        | 2, _ => rfl
        | 3, _ => rfl
      have HE : Hid (S4.upto ⟨sa, sb, sc, sd⟩ j ++ le 8 X = S4.upto ⟨sa, sb, sc, sd⟩ (j + 1)) := Lib.hid (by
        rw [hX]
        match j, hlt with
        | 0, _ => simp [S4.upto]
        | 1, _ => simp [S4.upto]
        | 2, _ => simp [S4.upto]
        | 3, _ => simp [S4.upto, S4.bytes])
      have HNj := Lib.hid (HNm.out _ _ g2 X _ hWj hX8 (by omega))
      have hji : (j : Int) < 4 := by omega
      clear hX hlj
      go_wp2_with (go_at_call 42; go_must (refine HNj.out.mono ?_); rintro e w9 ⟨rfl, hW9, -⟩)
      go_roundw
      case rel =>
        rw [HE.out] at hW9
        exact ⟨j + 1, by omega, by go_num, hW9⟩
      case measure => simp [intOf]; omega
    · obtain rfl : j = 4 := by omega
      have hBx := hB7.non hWj.keep
      have HBx := Lib.hid (HB2.out _ _ _ b1 hWj hBx)
      clear hlj
      go_upto_region 19 with (go_at_call 43; go_must (refine HBx.out.mono ?_); rintro e wa ⟨rfl, hWa, -⟩)
      have HDa := Lib.hid (HD2.out _ _ _ hWa)
      go_upto_region 22 with (go_at_call 44; go_must (refine HDa.out.mono ?_); rintro e wb ⟨b2, rfl, hBb, hb2, hKb⟩)
      have hkb : Keeps Non w wb := (hk7.non hWa.keep).non hKb
      have hkbd : Keeps Non w wb.drew := hkb.drew
      have hb2w : w.heap.size ≤ b2 := by have := (hk7.non hWa.keep).size; omega
      have d0 := HL0.out _ hkbd
      obtain ⟨Q, hQ⟩ : ∃ Q, Q = 18 + at_ := ⟨_, rfl⟩
      have HWb := Lib.hid (HWr.out _ b2 hkbd (hBb.non (Keeps.refl Non wb).drew) hb2w)
      rw [← hQ] at HWb
      have hwq : IntKind.i64.wrap ((18 : Int) + (at_ : Int)) = (Q : Int) := by rw [IntKind.wrap_i64]; omega
      clear hQ
      go_region_law (first
        | (go_simp; go_at_call 30; refine HWb.out.mono ?_; rintro e wd ⟨rfl, hDd⟩; go_must (have HDd := Lib.hid hDd))
        | (go_simp; go_at_call 32; refine (HC.out _ _).mono ?_; rintro e we ⟨rfl, hwe⟩; subst we; go_must (skip)))
      all_goals
        go_wp2_with fail
        go_ret
        exact ⟨rfl, HDd.out⟩
end
end Go.Proofs.YtipbjiepfnjojaaGreatDoor
