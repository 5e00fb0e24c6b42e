/- The writer: Bytes, Pad, New, Done. The writer: New, Done; the reader's take. The reader: New, Num. The reader: Num, Bytes. The reader: Bytes, Pad, Left, Done. The reader: Pad. -/
import Derived.Test.YtolknnmaadkgiaaGreatDoorG2
import Derived.StillTailTactics
set_option linter.unusedVariables false
set_option linter.unusedSimpArgs false
namespace Go.Proofs.YtolknnmaadkgiaaGreatDoor
set_option maxRecDepth 100000
open Go.RowKit Go.Uc
set_option maxHeartbeats 2000000 in
theorem bytes43_any {w0 w : World} {g room : Nat} {bs : List UInt8} (h : Wr w0 w g room bs) (A : Option Addr) (c : Nat) (xs : List UInt8) (hA : At w A xs) (hf : bs.length + xs.length ≤ room) (hr : room ≤ 1099511627776) :
   Calls Tryz.prog 70 #[.pointer (some ⟨g, 0, none⟩), .slice A xs.length c] w fun e w' => e = .returned (.tuple #[]) ∧ Wr w0 w' g room (bs ++ xs) ∧ Oth w w' := by
 have HN : Hid (∀ (V : World) (wb bb : Nat), Wr w0 V g room bs → At V A xs → Blk V wb 158 #[.pointer (some ⟨g, 0, none⟩)] → Blk V bb 22 #[.slice A xs.length c] →
     Calls Tryz.prog 124 #[.pointer (some ⟨wb, 0, none⟩), .pointer (some ⟨bb, 0, none⟩)] V fun e w' => e = .returned (.int .i64 0) ∧ Wr w0 w' g room (bs ++ xs) ∧ Oth V w') := Lib.hid (by
   intro V wb bb hV hA' a b
   have HP := Lib.hid (put84_any hV A c xs hA' hf hr)
   have x0 := one_cell a
   have x1 := one_cell b
   go_enter Tryz.func124, Tryz.ntmps124
   go_wp2_with ((go_at_call 123; go_must (refine HP.out.mono ?_); rintro e w2 ⟨rfl, hW2, hY2⟩))
   go_ret
   exact ⟨rfl, hW2, hY2⟩)
 have HT : Hid (∀ (V : World) (wb bb : Nat), Wr w0 V g room bs → At V A xs → Blk V wb 158 #[.pointer (some ⟨g, 0, none⟩)] → Blk V bb 22 #[.slice A xs.length c] →
     Calls Tryz.prog 119 #[.pointer (some ⟨g, 0, none⟩), .func (.func 124) #[] #[.pointer (some ⟨wb, 0, none⟩), .pointer (some ⟨bb, 0, none⟩)]] V fun e w' => e = .returned (.tuple #[]) ∧ Wr w0 w' g room (bs ++ xs) ∧ Oth V w') := Lib.hid (by
   intro V wb bb hV hA' a b
   have HN2 := Lib.hid (HN.out V wb bb hV hA' a b)
   obtain ⟨c2, -⟩ := hV.cell2
   go_enter Tryz.func119, Tryz.ntmps119
   go_wp2_with ((go_at_call 124; go_must (refine HN2.out.mono ?_); rintro e w2 ⟨rfl, hW2, hY2⟩; have hc2 := hW2.cell2.1; have hf2 := hW2.cell2.2))
   go_end0
   exact ⟨rfl, hW2.ok, by obtain ⟨A, c, q1, -⟩ := hW2; exact hY2.set q1 2 _⟩)
 obtain ⟨b1, b2, hk⟩ := boxes2 w (.pointer (some ⟨g, 0, none⟩)) (.slice A xs.length c) 158 22
 go_enter Tryz.func70, Tryz.ntmps70
 go_upto_region 1 with fail
 obtain ⟨w3, hw3⟩ : ∃ V : World, V = (w.alloc (.cells #[.pointer (some ⟨g, 0, none⟩)] 158)).alloc (.cells #[.slice A xs.length c] 22) := ⟨_, rfl⟩
 rw [← hw3] at b1 b2 hk ⊢
 clear hw3
 have HT3 := Lib.hid (HT.out w3 _ _ (h.non hk) (hA.non hk) b1 b2)
 have x1 := one_cell b1
 go_wp2_with ((go_at_call 119; go_must (refine HT3.out.mono ?_); rintro e w4 ⟨rfl, hW4, hY4⟩))
 go_end0
 exact ⟨rfl, hW4, (Oth.of hk).trans hY4⟩
set_option maxHeartbeats 2000000 in
theorem pad106_any {w0 w : World} {g room : Nat} {bs : List UInt8} (h : Wr w0 w g room bs) (tn : Nat) (h1 : bs.length ≤ tn) (h2 : tn ≤ room) (hr : room ≤ 1099511627776) :
   Calls Tryz.prog 168 #[.pointer (some ⟨g, 0, none⟩), .int .i64 (tn : Int)] w fun e w' => e = .returned (.tuple #[]) ∧ Wr w0 w' g room (bs ++ zeros (tn - bs.length)) ∧ Oth w w' := by
 have HN : Hid (∀ (V : World) (tb wb : Nat), Wr w0 V g room bs → Blk V tb 3 #[.int .i64 (tn : Int)] → Blk V wb 158 #[.pointer (some ⟨g, 0, none⟩)] →
     Calls Tryz.prog 180 #[.pointer (some ⟨tb, 0, none⟩), .pointer (some ⟨wb, 0, none⟩)] V fun e w' => e = .returned (.int .i64 0) ∧ Wr w0 w' g room (bs ++ zeros (tn - bs.length)) ∧ Oth V w') := Lib.hid (by
   intro V tb wb hV a b
   obtain ⟨A, c, i1, i2, i3, i4, i5, i6⟩ := id hV
   have x0 := one_cell a
   have x1 := one_cell b
   have c0 : V.cell? ⟨g, 0, none⟩ = some (.int .i64 (room : Int)) := i1.cell 0
   have c1 : V.cell? ⟨g, 1, none⟩ = some (.slice A bs.length c) := i1.cell 1
   have d1 : decide ((tn : Int) < (bs.length : Int)) = false := decide_eq_false (by omega)
   have d2 : decide ((room : Int) < (tn : Int)) = false := decide_eq_false (by omega)
   have c1' := c1
   clear i1 i2 i3 i4 i5 i6
   go_enter Tryz.func180, Tryz.ntmps180
   go_upto_region 1 with fail
   go_quiet (fail)
   obtain ⟨V1, hV1⟩ : ∃ X : World, X = V.drewN nq := ⟨_, rfl⟩
   rw [← hV1]
   have k1 : Keeps Non V V1 := by rw [hV1]; exact (Keeps.refl _ _).drewN _
   clear hV1
   have y0 := k1.cell x0 id
   have y1 := k1.cell x1 id
   have e0 := k1.cell c0 id
   have e1 := k1.cell c1 id
   clear x0 x1 c0 c1
   go_upto_region 3 with fail
   go_quiet (fail)
   obtain ⟨V2, hV2⟩ : ∃ X : World, X = V1.drewN nq := ⟨_, rfl⟩
   rw [← hV2]
   have k2 : Keeps Non V V2 := by rw [hV2]; exact k1.drewN _
   clear hV2
   have z0 : V2.cell? ⟨tb, 0, none⟩ = some (.int .i64 (tn : Int)) := k2.cell (one_cell a) id
   have z1 : V2.cell? ⟨wb, 0, none⟩ = some (.pointer (some ⟨g, 0, none⟩)) := k2.cell (one_cell b) id
   have f1 := k2.cell c1' id
   clear y0 y1 e0 e1
   have hws : IntKind.i64.wrap ((tn : Int) - (bs.length : Int)) = ((tn - bs.length : Nat) : Int) := by rw [IntKind.wrap_i64]; omega
   have hws2 : wrap64 ((tn : Int) - (bs.length : Int)) = ((tn - bs.length : Nat) : Int) := by rw [IntWalk.wrap64_in _ ⟨by omega, by omega⟩]; omega
   have HP : Hid (∀ X : World, Keeps Non V2 X → ∀ b, At X (some ⟨b, 0, none⟩) (zeros (tn - bs.length)) → Calls Tryz.prog 123 #[.pointer (some ⟨g, 0, none⟩), .slice (some ⟨b, 0, none⟩) (tn - bs.length) (tn - bs.length)] X fun e w' => e = .returned (.int .i64 0) ∧ Wr w0 w' g room (bs ++ zeros (tn - bs.length)) ∧ Oth X w') := Lib.hid (fun X hX b hb => by
     have := put84_any ((hV.non k2).non hX) (some ⟨b, 0, none⟩) (tn - bs.length) (zeros (tn - bs.length)) hb (by rw [zeros_length]; omega) hr
     rw [zeros_length] at this
     exact this)
   go_upto_region 5 with fail
   have hkd : Keeps Non V2 V2.drew := (Keeps.refl _ _).drew
   have z0d : V2.drew.cell? ⟨tb, 0, none⟩ = some (.int .i64 (tn : Int)) := z0
   have z1d : V2.drew.cell? ⟨wb, 0, none⟩ = some (.pointer (some ⟨g, 0, none⟩)) := z1
   have f1d : V2.drew.cell? ⟨g, 1, none⟩ = some (.slice A bs.length c) := f1
   have hmk := made_bytes (tn - bs.length) (by omega)
   have HP1 : Hid (Calls Tryz.prog 123 #[.pointer (some ⟨g, 0, none⟩), .slice (some ⟨V2.heap.size, 0, none⟩) (tn - bs.length) (tn - bs.length)] (V2.alloc (.cells (pc (zeros (tn - bs.length))) 5)).drew fun e w' => e = .returned (.int .i64 0) ∧ Wr w0 w' g room (bs ++ zeros (tn - bs.length)) ∧ Oth (V2.alloc (.cells (pc (zeros (tn - bs.length))) 5)).drew w') :=
     Lib.hid (HP.out _ ((Keeps.refl Non V2).alloc _).drew _ (At.blk ((Blk.new V2 5 _).non (Keeps.refl Non _).drew)))
   have z11 : (V2.alloc (.cells (pc (zeros (tn - bs.length))) 5)).cell? ⟨wb, 0, none⟩ = some (.pointer (some ⟨g, 0, none⟩)) := ((Keeps.refl Non V2).alloc _).cell z1 id
   go_region_law (first
     | (go_simp; go_at_call 123; refine HP1.out.mono ?_; rintro e w4 ⟨rfl, hW4, hY4⟩; go_must (have HW4 := Lib.hid (And.intro hW4 ((Oth.of (k2.non ((Keeps.refl Non V2).alloc _).drew)).trans hY4)))))
   all_goals
     go_wp2_with fail
     go_ret
     exact ⟨rfl, HW4.out.1, HW4.out.2⟩)
 have HT : Hid (∀ (V : World) (tb wb : Nat), Wr w0 V g room bs → Blk V tb 3 #[.int .i64 (tn : Int)] → Blk V wb 158 #[.pointer (some ⟨g, 0, none⟩)] →
     Calls Tryz.prog 119 #[.pointer (some ⟨g, 0, none⟩), .func (.func 180) #[] #[.pointer (some ⟨tb, 0, none⟩), .pointer (some ⟨wb, 0, none⟩)]] V fun e w' => e = .returned (.tuple #[]) ∧ Wr w0 w' g room (bs ++ zeros (tn - bs.length)) ∧ Oth V w') := Lib.hid (by
   intro V tb wb hV a b
   have HN2 := Lib.hid (HN.out V tb wb hV a b)
   obtain ⟨c2, -⟩ := hV.cell2
   go_enter Tryz.func119, Tryz.ntmps119
   go_wp2_with ((go_at_call 180; go_must (refine HN2.out.mono ?_); rintro e w2 ⟨rfl, hW2, hY2⟩; have hc2 := hW2.cell2.1; have hf2 := hW2.cell2.2))
   go_end0
   exact ⟨rfl, hW2.ok, by obtain ⟨A, c, q1, -⟩ := hW2; exact hY2.set q1 2 _⟩)
 obtain ⟨b1, b2, hk⟩ := boxes2 w (.pointer (some ⟨g, 0, none⟩)) (.int .i64 (tn : Int)) 158 3
 go_enter Tryz.func168, Tryz.ntmps168
 go_upto_region 1 with fail
 obtain ⟨w3, hw3⟩ : ∃ V : World, V = (w.alloc (.cells #[.pointer (some ⟨g, 0, none⟩)] 158)).alloc (.cells #[.int .i64 (tn : Int)] 3) := ⟨_, rfl⟩
 rw [← hw3] at b1 b2 hk ⊢
 clear hw3
 have HT3 := Lib.hid (HT.out w3 _ _ (h.non hk) b2 b1)
 have x1 := one_cell b1
 go_wp2_with ((go_at_call 119; go_must (refine HT3.out.mono ?_); rintro e w4 ⟨rfl, hW4, hY4⟩))
 go_end0
 exact ⟨rfl, hW4, (Oth.of hk).trans hY4⟩
end Go.Proofs.YtolknnmaadkgiaaGreatDoor
namespace Go.Proofs.YtolknnmaadkgiaaGreatDoor
set_option maxRecDepth 100000
open Go.RowKit Go.Uc
theorem newWriter_any (room : Nat) (h0 : 0 < room) (w : World) :
   Calls Tryz.prog 68 #[.int .i64 (room : Int)] w fun e w' => ∃ g, e = .returned (.pointer (some ⟨g, 0, none⟩)) ∧ Wr w w' g room [] := by
 have hB := Blk.new w 234 #[.int .i64 (room : Int), .slice none 0 0, .int .i64 0]
 have hk := (Keeps.refl Non w).alloc (.cells #[.int .i64 (room : Int), .slice none 0 0, .int .i64 0] 234)
 go_enter Tryz.func68, Tryz.ntmps68
 go_wp2_with fail
 go_ret
 exact ⟨_, rfl, none, 0, hB, RowP.nil _ _ _ _, (by rw [own_nil]; simp), Nat.le_refl _, (fun q hq => by rw [own_nil] at hq; cases hq), hk⟩
set_option maxHeartbeats 1000000 in
theorem done44_any {w0 w : World} {g room : Nat} {bs : List UInt8} (h : Wr w0 w g room bs) (hl : bs.length ≤ 140737488355328) :
   Calls Tryz.prog 71 #[.pointer (some ⟨g, 0, none⟩)] w fun e w' => ∃ b, e = .returned (.tuple #[.slice (some ⟨b, 0, none⟩) bs.length bs.length, .int .i64 0]) ∧ Blk w' b 5 (pc bs) ∧ w.heap.size ≤ b ∧ Keeps Non w w' := by
 obtain ⟨A, c, h1, h2, -⟩ := id h
 have c1 : w.cell? ⟨g, 1, none⟩ = some (.slice A bs.length c) := h1.cell 1
 have c2 : w.cell? ⟨g, 2, none⟩ = some (.int .i64 0) := h1.cell 2
 have hA : At w A bs := by
   obtain ⟨A', c', e, -, hat⟩ := h2.ats encU_len
   injection e with e
   subst e
   rw [flat_encU] at hat
   intro i hi
   obtain ⟨ad, e1, hc⟩ := hat (by simp; omega)
   exact ⟨ad, e1, hc i _ (by rw [List.getElem?_map, List.getElem?_eq_getElem hi]; rfl)⟩
 have HC := Lib.hid (copied_any A c bs w hA hl)
 go_enter Tryz.func71, Tryz.ntmps71
 go_wp2_with ((go_at_call 125; go_must (refine HC.out.mono ?_); rintro e w2 ⟨rfl, hB2, hK2⟩))
 go_ret2
 exact ⟨_, rfl, hB2, Nat.le_refl _, hK2⟩
theorem drewN_add (w : World) (a b : Nat) : (w.drewN a).drewN b = w.drewN (a + b) := by simp [World.drewN, Nat.add_assoc]
structure Rdr (w : World) (g : Nat) (A : Option Addr) (c : Nat) (bs : List UInt8) (at_ : Nat) : Prop where
 blk : Blk w g 282 #[.slice A bs.length c, .int .i64 (at_ : Int), .int .i64 0]
 row : At w A bs
 off : ∀ ad, A = some ad → ad.block ≠ g
 cap : bs.length ≤ c
 lim : at_ ≤ bs.length
 big : bs.length ≤ 1099511627776
theorem At.dropx {w : World} {A : Option Addr} {bs : List UInt8} (h : At w A bs) {b o : Nat} (hA : A = some ⟨b, o, none⟩) (k n : Nat) : At w (some ⟨b, o + k, none⟩) ((bs.drop k).take n) := by
 subst hA
 intro i hi
 simp only [List.length_take, List.length_drop] at hi
 obtain ⟨b2, o2, e, hc⟩ := h.at_ (k := k + i) (by omega)
 injection e with e
 injection e with e1 e2
 subst e1 e2
 refine ⟨_, rfl, ?_⟩
 rw [show (⟨b, o + k, none⟩ : Addr).add i = ⟨b, o + k + i, none⟩ from by unfold Addr.add; split <;> simp_all]
 rw [show o + k + i = o + (k + i) by omega, hc, List.getElem_take, List.getElem_drop]
set_option maxHeartbeats 2000000 in
theorem take93_any {w : World} {g c at_ b o : Nat} {bs : List UInt8} (h : Rdr w g (some ⟨b, o, none⟩) c bs at_) (n : Nat) (hn : 1 ≤ n) (hf : at_ + n ≤ bs.length) :
   Calls Tryz.prog 160 #[.pointer (some ⟨g, 0, none⟩), .int .i64 (n : Int), .int .i64 0] w fun e w' => (∃ c', e = .returned (.tuple #[.slice (some ⟨b, o + at_, none⟩) n c', .bool true]) ∧ n ≤ c') ∧ ∃ q, w' = w.drewN q := by
 have hbig := h.big
 have hcap := h.cap
 have c0 : w.cell? ⟨g, 0, none⟩ = some (.slice (some ⟨b, o, none⟩) bs.length c) := h.blk.cell 0
 have c1 : w.cell? ⟨g, 1, none⟩ = some (.int .i64 (at_ : Int)) := h.blk.cell 1
 have d1 : decide ((bs.length : Int) - (at_ : Int) < (n : Int)) = false := decide_eq_false (by omega)
 have hw1 : wrap64 ((bs.length : Int) - (at_ : Int)) = (bs.length : Int) - (at_ : Int) := IntWalk.wrap64_in _ ⟨by omega, by omega⟩
 have hw2 : wrap64 ((at_ : Int) + (n : Int)) = (at_ : Int) + (n : Int) := IntWalk.wrap64_in _ ⟨by omega, by omega⟩
 go_enter Tryz.func160, Tryz.ntmps160
 go_upto_region 1 with fail
 go_quiet (fail)
 obtain ⟨w1, hw1'⟩ : ∃ X : World, X = w.drewN nq := ⟨_, rfl⟩
 rw [← hw1']
 have HQ := Lib.hid hw1'
 have y0 : w1.cell? ⟨g, 0, none⟩ = some (.slice (some ⟨b, o, none⟩) bs.length c) := by rw [hw1']; exact c0
 have y1 : w1.cell? ⟨g, 1, none⟩ = some (.int .i64 (at_ : Int)) := by rw [hw1']; exact c1
 clear hw1' c0 c1
 have s1 : (at_ : Int) ≤ (at_ : Int) + (n : Int) := by omega
 have s2 : (at_ : Int) + (n : Int) ≤ (c : Int) := by omega
 have hne : ¬ c = at_ := by omega
 have HSU : Hid (at_ + n - at_ = n) := Lib.hid (by omega)
 go_upto_region 3 with fail
 go_quiet (fail)
 go_wp2_with fail
 go_ret2
 exact ⟨⟨c - at_, by show Ending.returned (.tuple #[.slice (some ⟨b, o + at_, none⟩) (at_ + n - at_) (c - at_), .bool true]) = _; rw [HSU.out], by omega⟩, _, by rw [HQ.out]; exact drewN_add _ _ _⟩
end Go.Proofs.YtolknnmaadkgiaaGreatDoor
namespace Go.Proofs.YtolknnmaadkgiaaGreatDoor
set_option maxRecDepth 100000
open Go.RowKit Go.Uc
def Rg (w0 w : World) (g : Nat) (bs : List UInt8) (at_ : Nat) : Prop :=
 ∃ b, Blk w g 282 #[.slice (some ⟨b, 0, none⟩) bs.length bs.length, .int .i64 (at_ : Int), .int .i64 0] ∧ Blk w b 5 (pc bs) ∧ at_ ≤ bs.length ∧ bs.length ≤ 1099511627776 ∧ w0.heap.size ≤ g ∧ w0.heap.size ≤ b ∧ Keeps Non w0 w
section
variable {w0 w w' : World} {g at_ : Nat} {bs : List UInt8}
theorem Rg.non (h : Rg w0 w g bs at_) (hk : Keeps Non w w') : Rg w0 w' g bs at_ := by
 obtain ⟨b, h1, h2, h3, h4, h5, h6, h7⟩ := h
 exact ⟨b, h1.non hk, h2.non hk, h3, h4, h5, h6, h7.non hk⟩
theorem Rg.rdr (h : Rg w0 w g bs at_) : ∃ b, Rdr w g (some ⟨b, 0, none⟩) bs.length bs at_ := by
 obtain ⟨b, h1, h2, h3, h4, h5, h6, h7⟩ := h
 refine ⟨b, h1, At.blk h2, fun ad e => ?_, Nat.le_refl _, h3, h4⟩
 injection e with e
 subst e
 exact h2.ne h1 (by decide)
theorem Rg.cells (h : Rg w0 w g bs at_) : w.cell? ⟨g, 1, none⟩ = some (.int .i64 (at_ : Int)) ∧ w.cell? ⟨g, 2, none⟩ = some (.int .i64 0) ∧ (∀ i, w.frozen? ⟨g, i, none⟩ = false) ∧ at_ ≤ bs.length ∧ bs.length ≤ 1099511627776 := by
 obtain ⟨b, h1, h2, h3, h4, h5, h6, h7⟩ := h
 exact ⟨h1.cell 1, h1.cell 2, h1.frozen, h3, h4⟩
theorem Rg.ne {b t : Nat} {cs : Array Value} (h : Rg w0 w g bs at_) (hb : Blk w b t cs) (ht : t ≠ 282) : b ≠ g := by
 obtain ⟨b', h1, -⟩ := h
 exact hb.ne h1 ht
theorem Rg.on (h : Rg w0 w g bs at_) (k : Nat) (hk : k ≤ bs.length) : Rg w0 (w.setCell ⟨g, 1, none⟩ (.int .i64 (k : Int))) g bs k := by
 obtain ⟨b, h1, h2, h3, h4, h5, h6, h7⟩ := h
 exact ⟨b, h1.set 1 _, h2.far (h2.ne h1 (by decide)) _, hk, h4, h5, h6, h7.setNew (p := ⟨g, 1, none⟩) h5 _⟩
theorem Rg.ok (h : Rg w0 w g bs at_) : Rg w0 (w.setCell ⟨g, 2, none⟩ (.int .i64 0)) g bs at_ := by
 obtain ⟨b, h1, h2, h3, h4, h5, h6, h7⟩ := h
 exact ⟨b, h1.set 2 _, h2.far (h2.ne h1 (by decide)) _, h3, h4, h5, h6, h7.setNew (p := ⟨g, 2, none⟩) h5 _⟩
theorem Rg.far (h : Rg w0 w g bs at_) {p : Addr} {t : Nat} {cs : Array Value} (hb : Blk w p.block t cs) (h1 : t ≠ 282) (h2 : t ≠ 5) (hn : w0.heap.size ≤ p.block) (u : Value) : Rg w0 (w.setCell p u) g bs at_ := by
 obtain ⟨b, i1, i2, i3, i4, i5, i6, i7⟩ := h
 exact ⟨b, i1.far (i1.ne hb (Ne.symm h1)) _, i2.far (i2.ne hb (Ne.symm h2)) _, i3, i4, i5, i6, i7.setNew hn _⟩
end
theorem newReader_any (A : Option Addr) (c : Nat) (bs : List UInt8) (w : World) (hA : At w A bs) (hl : bs.length ≤ 1099511627776) :
   Calls Tryz.prog 114 #[.slice A bs.length c] w fun e w' => ∃ g, e = .returned (.pointer (some ⟨g, 0, none⟩)) ∧ Rg w w' g bs 0 := by
 have HC := Lib.hid (copied_any A c bs w hA (by omega))
 go_enter Tryz.func114, Tryz.ntmps114
 go_wp2_with ((go_at_call 125; go_must (refine HC.out.mono ?_); rintro e w2 ⟨rfl, hB2, hK2⟩))
 go_ret
 have hk := (Keeps.refl Non w2).alloc (.cells #[.slice (some ⟨w.heap.size, 0, none⟩) bs.length bs.length, .int .i64 0, .int .i64 0] 282)
 exact ⟨_, rfl, w.heap.size, Blk.new w2 282 _, hB2.non hk, Nat.zero_le _, hl, hK2.size, Nat.le_refl _, hK2.non hk⟩
set_option maxHeartbeats 2000000 in
theorem rnum92_any {w0 w : World} {g at_ : Nat} {bs : List UInt8} (h : Rg w0 w g bs at_) (k kb rb ob : Nat) (v : Value) (hk1 : 1 ≤ k) (hk8 : k ≤ 8) (hf : at_ + k ≤ bs.length) (hkb : Blk w kb 3 #[.int .i64 (k : Int)]) (hrb : Blk w rb 228 #[.pointer (some ⟨g, 0, none⟩)]) (hob : Blk w ob 29 #[v]) (hon : w0.heap.size ≤ ob) :
   Calls Tryz.prog 159 #[.pointer (some ⟨kb, 0, none⟩), .pointer (some ⟨rb, 0, none⟩), .pointer (some ⟨ob, 0, none⟩)] w fun e w' => e = .returned (.int .i64 0) ∧ Rg w0 w' g bs (at_ + k) ∧ Blk w' ob 29 #[.int .u64 (leVal ((bs.drop at_).take k) : Int)] ∧ Keeps (fun q => q = g ∨ q = ob) w w' := by
 obtain ⟨b, hR⟩ := h.rdr
 obtain ⟨-, -, -, hle, hbig⟩ := h.cells
 have x0 := one_cell hkb
 have x1 := one_cell hrb
 have x2 := one_cell hob
 have hkr : kb ≠ rb := hkb.ne hrb (by decide)
 have hko : kb ≠ ob := hkb.ne hob (by decide)
 have hro : rb ≠ ob := hrb.ne hob (by decide)
 have hkg := h.ne hkb (by decide)
 have hrg := h.ne hrb (by decide)
 have hog := h.ne hob (by decide)
 have HT := Lib.hid (take93_any hR k hk1 hf)
 have htl : ((bs.drop at_).take k).length = k := by rw [List.length_take, List.length_drop]; omega
 have HV : Hid (∀ V c', Keeps Non w V → Calls Tryz.prog 121 #[.slice (some ⟨b, at_, none⟩) k c'] V fun e w' => e = .returned (.int .u64 (leVal ((bs.drop at_).take k) : Int)) ∧ w' = V) := Lib.hid (fun V c' hV => by
   have := value_any (some ⟨b, 0 + at_, none⟩) c' ((bs.drop at_).take k) V (At.dropx (hR.row.non hV) rfl at_ k) (by rw [htl]; exact hk8)
   rw [htl, Nat.zero_add] at this
   exact this)
 rw [Nat.zero_add] at HT
 generalize leVal ((bs.drop at_).take k) = m at HV ⊢
 clear htl
 go_enter Tryz.func159, Tryz.ntmps159
 go_upto_region 4 with ((go_at_call 160; go_must (refine HT.out.mono ?_); rintro e _ ⟨⟨c', rfl, hc'⟩, q, rfl⟩))
 obtain ⟨w2, hw2⟩ : ∃ V : World, V = w.drewN q := ⟨_, rfl⟩
 have hk2 : Keeps Non w w2 := by rw [hw2]; exact (Keeps.refl _ _).drewN q
 rw [← hw2]
 clear hw2 HT
 have HV2 := Lib.hid (HV.out w2 c' hk2)
 have h2 := h.non hk2
 have hob2 := hob.non hk2
 have z0 := one_cell (hkb.non hk2)
 have z1 := one_cell (hrb.non hk2)
 have z2 := one_cell hob2
 have f2 := hob2.frozen 0
 clear x0 x1 x2
 go_upto_region 7 with ((go_at_call 121; go_must (refine HV2.out.mono ?_); rintro e w5 ⟨rfl, hw5⟩; subst w5))
 have h3 := h2.far (p := ⟨ob, 0, none⟩) hob2 (by decide) (by decide) hon (.int .u64 (m : Int))
 have hob3 := hob2.set 0 (.int .u64 (m : Int))
 have k3 : w2.setCell ⟨ob, 0, none⟩ (.int .u64 (m : Int)) = w2.setCell ⟨ob, 0, none⟩ (.int .u64 (m : Int)) := rfl
 have y0 := one_cell ((hkb.non hk2).far hko (p := ⟨ob, 0, none⟩) (.int .u64 (m : Int)))
 have y1 := one_cell ((hrb.non hk2).far hro (p := ⟨ob, 0, none⟩) (.int .u64 (m : Int)))
 have k23 : Keeps (fun q => q = g ∨ q = ob) w (w2.setCell ⟨ob, 0, none⟩ (.int .u64 (m : Int))) := (hk2.of_non).set (p := ⟨ob, 0, none⟩) (.inr rfl) _
 obtain ⟨w3, hw3⟩ : ∃ V : World, V = w2.setCell ⟨ob, 0, none⟩ (.int .u64 (m : Int)) := ⟨_, rfl⟩
 rw [← hw3] at h3 hob3 y0 y1 k23 ⊢
 clear hw3 k3 z0 z1 z2
 obtain ⟨g1, -, gf, -, -⟩ := h3.cells
 have hwv : IntKind.i64.wrap ((at_ : Int) + (k : Int)) = ((at_ + k : Nat) : Int) := by rw [IntKind.wrap_i64]; omega
 have h4 := (h3.on (at_ + k) hf).non (Keeps.refl Non _).drew
 have hob4 : Blk (w3.setCell ⟨g, 1, none⟩ (.int .i64 ((at_ + k : Nat) : Int))).drew ob 29 #[.int .u64 (m : Int)] := (hob3.far hog _).non (Keeps.refl Non _).drew
 have k34 : Keeps (fun q => q = g ∨ q = ob) w (w3.setCell ⟨g, 1, none⟩ (.int .i64 ((at_ + k : Nat) : Int))).drew := (k23.set (p := ⟨g, 1, none⟩) (.inl rfl) _).drew
 rw [← hwv] at h4 hob4 k34
 have HF := Lib.hid (And.intro h4 (And.intro hob4 k34))
 clear hwv
 have gfd : w3.drew.frozen? ⟨g, 1, none⟩ = false := gf 1
 have y0d : w3.drew.cell? ⟨kb, 0, none⟩ = some (.int .i64 (k : Int)) := y0
 have y1d : w3.drew.cell? ⟨rb, 0, none⟩ = some (.pointer (some ⟨g, 0, none⟩)) := y1
 have g1d : w3.drew.cell? ⟨g, 1, none⟩ = some (.int .i64 (at_ : Int)) := g1
 clear h3 hob3 h4 hob4
 go_region_with (fail)
 all_goals
   go_wp2_with fail
   go_ret
   exact ⟨rfl, HF.out.1, HF.out.2.1, HF.out.2.2⟩
end Go.Proofs.YtolknnmaadkgiaaGreatDoor
namespace Go.Proofs.YtolknnmaadkgiaaGreatDoor
set_option maxRecDepth 100000
open Go.RowKit Go.Uc
set_option maxHeartbeats 2000000 in
theorem rnum49_any {w0 w : World} {g at_ : Nat} {bs : List UInt8} (h : Rg w0 w g bs at_) (k : Nat) (hk1 : 1 ≤ k) (hk8 : k ≤ 8) (hf : at_ + k ≤ bs.length) :
   Calls Tryz.prog 115 #[.pointer (some ⟨g, 0, none⟩), .int .i64 (k : Int)] w fun e w' => e = .returned (.int .u64 (leVal ((bs.drop at_).take k) : Int)) ∧ Rg w0 w' g bs (at_ + k) ∧ Keeps (Only g) w w' := by
 have HT : Hid (∀ (V : World) (kb rb ob : Nat) (v : Value), Rg w0 V g bs at_ → Blk V kb 3 #[.int .i64 (k : Int)] → Blk V rb 228 #[.pointer (some ⟨g, 0, none⟩)] → Blk V ob 29 #[v] → w0.heap.size ≤ ob →
     Calls Tryz.prog 158 #[.pointer (some ⟨g, 0, none⟩), .func (.func 159) #[] #[.pointer (some ⟨kb, 0, none⟩), .pointer (some ⟨rb, 0, none⟩), .pointer (some ⟨ob, 0, none⟩)]] V fun e w' => e = .returned (.tuple #[]) ∧ Rg w0 w' g bs (at_ + k) ∧ Blk w' ob 29 #[.int .u64 (leVal ((bs.drop at_).take k) : Int)] ∧ Keeps (fun q => q = g ∨ q = ob) V w') := Lib.hid (by
   intro V kb rb ob v hV a b c hn
   have HN := Lib.hid (rnum92_any hV k kb rb ob v hk1 hk8 hf a b c hn)
   obtain ⟨-, c2, -, -, -⟩ := hV.cells
   go_enter Tryz.func158, Tryz.ntmps158
   go_wp2_with ((go_at_call 159; go_must (refine HN.out.mono ?_); rintro e w2 ⟨rfl, hW2, hO2, hQ2⟩; have hc2 := hW2.cells.2.1; have hf2 := hW2.cells.2.2.1 2))
   go_end0
   exact ⟨rfl, hW2.ok, hO2.far (hW2.ne hO2 (by decide)) _, hQ2.set (p := ⟨g, 2, none⟩) (.inl rfl) _⟩)
 generalize leVal ((bs.drop at_).take k) = m at HT ⊢
 obtain ⟨b1, b2, b3, hk⟩ := boxes3 w (.pointer (some ⟨g, 0, none⟩)) (.int .i64 (k : Int)) (.int .u64 0) 228 3 29
 have hz : w0.heap.size ≤ w.heap.size := by obtain ⟨b, i1, i2, i3, i4, i5, i6, i7⟩ := h; exact i7.size
 go_enter Tryz.func115, Tryz.ntmps115
 go_upto_region 2 with fail
 obtain ⟨w3, hw3⟩ : ∃ V : World, V = ((w.alloc (.cells #[.pointer (some ⟨g, 0, none⟩)] 228)).alloc (.cells #[.int .i64 (k : Int)] 3)).alloc (.cells #[.int .u64 0] 29) := ⟨_, rfl⟩
 rw [← hw3] at b1 b2 b3 hk ⊢
 clear hw3
 have HT3 := Lib.hid (HT.out w3 _ _ _ _ (h.non hk) b2 b1 b3 (by omega))
 have x1 := one_cell b1
 go_upto_region 3 with ((go_at_call 158; go_must (refine HT3.out.mono ?_); rintro e w4 ⟨rfl, hW4, hO4, hQ4⟩))
 have x2 := one_cell hO4
 go_wp2_with fail
 go_ret
 exact ⟨rfl, hW4, (hk.of_non (S := Only g)).then hQ4 fun i hi e => by rcases e with e | e; exact e; omega⟩
set_option maxHeartbeats 2000000 in
theorem rbytes94_any {w0 w : World} {g at_ : Nat} {bs : List UInt8} (h : Rg w0 w g bs at_) (k kb rb ob : Nat) (v : Value) (hk1 : 1 ≤ k) (hf : at_ + k ≤ bs.length) (hkb : Blk w kb 3 #[.int .i64 (k : Int)]) (hrb : Blk w rb 228 #[.pointer (some ⟨g, 0, none⟩)]) (hob : Blk w ob 22 #[v]) (hon : w0.heap.size ≤ ob) :
   Calls Tryz.prog 161 #[.pointer (some ⟨kb, 0, none⟩), .pointer (some ⟨rb, 0, none⟩), .pointer (some ⟨ob, 0, none⟩)] w fun e w' => e = .returned (.int .i64 0) ∧ Rg w0 w' g bs (at_ + k) ∧ (∃ b, Blk w' ob 22 #[.slice (some ⟨b, 0, none⟩) k k] ∧ Blk w' b 5 (pc ((bs.drop at_).take k)) ∧ w.heap.size ≤ b) ∧ Keeps (fun q => q = g ∨ q = ob) w w' := by
 obtain ⟨b, hR⟩ := h.rdr
 obtain ⟨-, -, -, hle, hbig⟩ := h.cells
 have x0 := one_cell hkb
 have x1 := one_cell hrb
 have x2 := one_cell hob
 have hko : kb ≠ ob := hkb.ne hob (by decide)
 have hro : rb ≠ ob := hrb.ne hob (by decide)
 have hog := h.ne hob (by decide)
 have HT := Lib.hid (take93_any hR k hk1 hf)
 have htl : ((bs.drop at_).take k).length = k := by rw [List.length_take, List.length_drop]; omega
 have HV : Hid (∀ V c', Keeps Non w V → Calls Tryz.prog 125 #[.slice (some ⟨b, at_, none⟩) k c'] V fun e w' => ∃ nb, e = .returned (.slice (some ⟨nb, 0, none⟩) k k) ∧ Blk w' nb 5 (pc ((bs.drop at_).take k)) ∧ V.heap.size ≤ nb ∧ Keeps Non V w') := Lib.hid (fun V c' hV => by
   have := copied_any (some ⟨b, 0 + at_, none⟩) c' ((bs.drop at_).take k) V (At.dropx (hR.row.non hV) rfl at_ k) (by rw [htl]; omega)
   rw [htl, Nat.zero_add] at this
   exact this.mono fun e w' ⟨i, j, l⟩ => ⟨_, i, j, Nat.le_refl _, l⟩)
 rw [Nat.zero_add] at HT
 generalize (bs.drop at_).take k = xs at HV ⊢
 clear htl
 have hk0 : ¬ (k : Int) < 0 := by omega
 go_enter Tryz.func161, Tryz.ntmps161
 go_upto_region 4 with ((go_at_call 160; go_must (refine HT.out.mono ?_); rintro e _ ⟨⟨c', rfl, hc'⟩, q, rfl⟩))
 obtain ⟨w2, hw2⟩ : ∃ V : World, V = w.drewN q := ⟨_, rfl⟩
 have hk2 : Keeps Non w w2 := by rw [hw2]; exact (Keeps.refl _ _).drewN q
 rw [← hw2]
 clear hw2 HT
 have HV2 := Lib.hid (HV.out w2 c' hk2)
 have z0 := one_cell (hkb.non hk2)
 have z1 := one_cell (hrb.non hk2)
 have z2 := one_cell (hob.non hk2)
 have f2 := (hob.non hk2).frozen 0
 have hsz := hk2.size
 clear x0 x1 x2
 go_upto_region 7 with ((go_at_call 125; go_must (refine HV2.out.mono ?_); rintro e w5 ⟨nb, rfl, hB5, hn5, hK5⟩; have zz2 : w5.cell? ⟨ob, 0, none⟩ = some v := hK5.cell z2 id; have ff2 : w5.frozen? ⟨ob, 0, none⟩ = false := ((hob.non hk2).non hK5).frozen 0))
 have hk5 := hk2.non hK5
 have h2 := h.non hk5
 have hob2 := hob.non hk5
 have h3 := h2.far (p := ⟨ob, 0, none⟩) hob2 (by decide) (by decide) hon (.slice (some ⟨nb, 0, none⟩) k k)
 have hob3 := hob2.set 0 (.slice (some ⟨nb, 0, none⟩) k k)
 have hnb3 := hB5.far (hB5.ne hob2 (by decide)) (p := ⟨ob, 0, none⟩) (.slice (some ⟨nb, 0, none⟩) k k)
 have y0 := one_cell ((hkb.non hk5).far hko (p := ⟨ob, 0, none⟩) (.slice (some ⟨nb, 0, none⟩) k k))
 have y1 := one_cell ((hrb.non hk5).far hro (p := ⟨ob, 0, none⟩) (.slice (some ⟨nb, 0, none⟩) k k))
 have k23 : Keeps (fun q => q = g ∨ q = ob) w (w5.setCell ⟨ob, 0, none⟩ (.slice (some ⟨nb, 0, none⟩) k k)) := (hk5.of_non).set (p := ⟨ob, 0, none⟩) (.inr rfl) _
 obtain ⟨w3, hw3⟩ : ∃ V : World, V = w5.setCell ⟨ob, 0, none⟩ (.slice (some ⟨nb, 0, none⟩) k k) := ⟨_, rfl⟩
 rw [← hw3] at h3 hob3 hnb3 y0 y1 k23 ⊢
 clear hw3 z0 z1 z2 zz2 ff2
 obtain ⟨g1, -, gf, -, -⟩ := h3.cells
 have hnbg := h3.ne hnb3 (by decide)
 have hwv : IntKind.i64.wrap ((at_ : Int) + (k : Int)) = ((at_ + k : Nat) : Int) := by rw [IntKind.wrap_i64]; omega
 have h4 := (h3.on (at_ + k) hf).non (Keeps.refl Non _).drew
 have hob4 : Blk (w3.setCell ⟨g, 1, none⟩ (.int .i64 ((at_ + k : Nat) : Int))).drew ob 22 #[.slice (some ⟨nb, 0, none⟩) k k] := (hob3.far hog _).non (Keeps.refl Non _).drew
 have hnb4 : Blk (w3.setCell ⟨g, 1, none⟩ (.int .i64 ((at_ + k : Nat) : Int))).drew nb 5 (pc xs) := (hnb3.far hnbg _).non (Keeps.refl Non _).drew
 have k34 : Keeps (fun q => q = g ∨ q = ob) w (w3.setCell ⟨g, 1, none⟩ (.int .i64 ((at_ + k : Nat) : Int))).drew := (k23.set (p := ⟨g, 1, none⟩) (.inl rfl) _).drew
 rw [← hwv] at h4 hob4 hnb4 k34
 have HF := Lib.hid (And.intro h4 (And.intro hob4 (And.intro hnb4 k34)))
 clear hwv
 have gfd : w3.drew.frozen? ⟨g, 1, none⟩ = false := gf 1
 have y0d : w3.drew.cell? ⟨kb, 0, none⟩ = some (.int .i64 (k : Int)) := y0
 have y1d : w3.drew.cell? ⟨rb, 0, none⟩ = some (.pointer (some ⟨g, 0, none⟩)) := y1
 have g1d : w3.drew.cell? ⟨g, 1, none⟩ = some (.int .i64 (at_ : Int)) := g1
 clear h3 hob3 hnb3 h4 hob4 hnb4
 go_region_with (fail)
 all_goals
   go_wp2_with fail
   go_ret
   exact ⟨rfl, HF.out.1, ⟨nb, HF.out.2.1, HF.out.2.2.1, by omega⟩, HF.out.2.2.2⟩
end Go.Proofs.YtolknnmaadkgiaaGreatDoor
namespace Go.Proofs.YtolknnmaadkgiaaGreatDoor
set_option maxRecDepth 100000
open Go.RowKit Go.Uc
set_option maxHeartbeats 2000000 in
theorem rbytes50_any {w0 w : World} {g at_ : Nat} {bs : List UInt8} (h : Rg w0 w g bs at_) (k : Nat) (hk1 : 1 ≤ k) (hf : at_ + k ≤ bs.length) :
   Calls Tryz.prog 116 #[.pointer (some ⟨g, 0, none⟩), .int .i64 (k : Int)] w fun e w' => ∃ b, e = .returned (.slice (some ⟨b, 0, none⟩) k k) ∧ Rg w0 w' g bs (at_ + k) ∧ Blk w' b 5 (pc ((bs.drop at_).take k)) ∧ w.heap.size ≤ b ∧ Keeps (Only g) w w' := by
 have HT : Hid (∀ (V : World) (kb rb ob : Nat) (v : Value), Rg w0 V g bs at_ → Blk V kb 3 #[.int .i64 (k : Int)] → Blk V rb 228 #[.pointer (some ⟨g, 0, none⟩)] → Blk V ob 22 #[v] → w0.heap.size ≤ ob →
     Calls Tryz.prog 158 #[.pointer (some ⟨g, 0, none⟩), .func (.func 161) #[] #[.pointer (some ⟨kb, 0, none⟩), .pointer (some ⟨rb, 0, none⟩), .pointer (some ⟨ob, 0, none⟩)]] V fun e w' => e = .returned (.tuple #[]) ∧ Rg w0 w' g bs (at_ + k) ∧ (∃ b, Blk w' ob 22 #[.slice (some ⟨b, 0, none⟩) k k] ∧ Blk w' b 5 (pc ((bs.drop at_).take k)) ∧ V.heap.size ≤ b) ∧ Keeps (fun q => q = g ∨ q = ob) V w') := Lib.hid (by
   intro V kb rb ob v hV a b c hn
   have HN := Lib.hid (rbytes94_any hV k kb rb ob v hk1 hf a b c hn)
   obtain ⟨-, c2, -, -, -⟩ := hV.cells
   go_enter Tryz.func158, Tryz.ntmps158
   go_wp2_with ((go_at_call 161; go_must (refine HN.out.mono ?_); rintro e w2 ⟨rfl, hW2, ⟨nb, hO2, hB2, hn2⟩, hQ2⟩; have hc2 := hW2.cells.2.1; have hf2 := hW2.cells.2.2.1 2))
   go_end0
   exact ⟨rfl, hW2.ok, ⟨nb, hO2.far (hW2.ne hO2 (by decide)) _, hB2.far (hW2.ne hB2 (by decide)) _, hn2⟩, hQ2.set (p := ⟨g, 2, none⟩) (.inl rfl) _⟩)
 generalize (bs.drop at_).take k = xs at HT ⊢
 obtain ⟨b1, b2, b3, hk⟩ := boxes3 w (.pointer (some ⟨g, 0, none⟩)) (.int .i64 (k : Int)) (.slice none 0 0) 228 3 22
 have hz : w0.heap.size ≤ w.heap.size := by obtain ⟨b, i1, i2, i3, i4, i5, i6, i7⟩ := h; exact i7.size
 go_enter Tryz.func116, Tryz.ntmps116
 go_upto_region 2 with fail
 obtain ⟨w3, hw3⟩ : ∃ V : World, V = ((w.alloc (.cells #[.pointer (some ⟨g, 0, none⟩)] 228)).alloc (.cells #[.int .i64 (k : Int)] 3)).alloc (.cells #[.slice none 0 0] 22) := ⟨_, rfl⟩
 rw [← hw3] at b1 b2 b3 hk ⊢
 clear hw3
 have HT3 := Lib.hid (HT.out w3 _ _ _ _ (h.non hk) b2 b1 b3 (by omega))
 have x1 := one_cell b1
 have hz3 := hk.size
 go_upto_region 3 with ((go_at_call 158; go_must (refine HT3.out.mono ?_); rintro e w4 ⟨rfl, hW4, ⟨nb, hO4, hB4, hn4⟩, hQ4⟩))
 have x2 := one_cell hO4
 go_wp2_with fail
 go_ret
 exact ⟨nb, rfl, hW4, hB4, by omega, (hk.of_non (S := Only g)).then hQ4 fun i hi e => by rcases e with e | e; exact e; omega⟩
set_option maxHeartbeats 1000000 in
theorem left130_any {w0 w : World} {g at_ : Nat} {bs : List UInt8} (h : Rg w0 w g bs at_) :
   Calls Tryz.prog 179 #[.pointer (some ⟨g, 0, none⟩)] w fun e w' => e = .returned (.int .i64 ((bs.length - at_ : Nat) : Int)) ∧ ∃ q, w' = w.drewN q := by
 obtain ⟨b, i1, i2, i3, i4, i5, i6, i7⟩ := h
 have c0 : w.cell? ⟨g, 0, none⟩ = some (.slice (some ⟨b, 0, none⟩) bs.length bs.length) := i1.cell 0
 have c1 : w.cell? ⟨g, 1, none⟩ = some (.int .i64 (at_ : Int)) := i1.cell 1
 have hwr : wrap64 ((bs.length : Int) - (at_ : Int)) = ((bs.length - at_ : Nat) : Int) := by rw [IntWalk.wrap64_in _ ⟨by omega, by omega⟩]; omega
 have HW : Hid ((bs.length : Int) - (at_ : Int) = ((bs.length - at_ : Nat) : Int)) := Lib.hid (by omega)
 clear i1 i2 i7
 go_enter Tryz.func179, Tryz.ntmps179
 go_upto_region 1 with fail
 go_quiet (fail)
 go_wp2_with fail
 go_ret
 exact ⟨by first | rfl | (show Ending.returned (Value.int .i64 _) = _; rw [← HW.out]), _, rfl⟩
set_option maxHeartbeats 2000000 in
theorem done112_any {w0 w : World} {g : Nat} {bs : List UInt8} (h : Rg w0 w g bs bs.length) :
   Calls Tryz.prog 165 #[.pointer (some ⟨g, 0, none⟩)] w fun e w' => e = .returned (.int .i64 0) ∧ ∃ q, w' = w.drewN q := by
 have HL := Lib.hid (left130_any h)
 rw [Nat.sub_self] at HL
 obtain ⟨-, c2, -, -, -⟩ := h.cells
 go_enter Tryz.func165, Tryz.ntmps165
 go_wp2_with ((go_at_call 179; go_must (refine HL.out.mono ?_); rintro e _ ⟨rfl, q, rfl⟩))
 go_ret
 exact ⟨rfl, q, rfl⟩
end Go.Proofs.YtolknnmaadkgiaaGreatDoor
namespace Go.Proofs.YtolknnmaadkgiaaGreatDoor
set_option maxRecDepth 100000
open Go.RowKit Go.Uc
set_option maxHeartbeats 2000000 in
theorem rpad129_any {w0 w : World} {g at_ : Nat} {bs : List UInt8} (h : Rg w0 w g bs at_) (tb rb : Nat) (hlt : at_ < bs.length) (hz : bs.drop at_ = zeros (bs.length - at_)) (htb : Blk w tb 3 #[.int .i64 (bs.length : Int)]) (hrb : Blk w rb 228 #[.pointer (some ⟨g, 0, none⟩)]) :
   Calls Tryz.prog 178 #[.pointer (some ⟨tb, 0, none⟩), .pointer (some ⟨rb, 0, none⟩)] w fun e w' => e = .returned (.int .i64 0) ∧ Rg w0 w' g bs bs.length ∧ Keeps (Only g) w w' := by
 obtain ⟨b, i1, i2, i3, i4, i5, i6, i7⟩ := id h
 have HB : Hid (∀ V, Keeps Non w V → ∀ i, at_ + i < bs.length → V.cell? ⟨b, at_ + i, none⟩ = some (.int .u8 0)) := Lib.hid (fun V hV i hi => by
   have h1 := (i2.non hV).byte hi
   have h2 : bs[at_ + i]'hi = 0 := by
     have : (bs.drop at_)[i]? = some (bs[at_ + i]'hi) := by rw [List.getElem?_drop, List.getElem?_eq_getElem hi]
     rw [hz] at this
     unfold zeros at this
     rw [List.getElem?_replicate, if_pos (by omega)] at this
     injection this with this
     exact this.symm
   rw [h1, h2]
   rfl)
 have x0 := one_cell htb
 have x1 := one_cell hrb
 have c0 : w.cell? ⟨g, 0, none⟩ = some (.slice (some ⟨b, 0, none⟩) bs.length bs.length) := i1.cell 0
 have c1 : w.cell? ⟨g, 1, none⟩ = some (.int .i64 (at_ : Int)) := i1.cell 1
 have d1 : decide ((bs.length : Int) < (at_ : Int)) = false := decide_eq_false (by omega)
 have d2 : decide ((bs.length : Int) < (bs.length : Int)) = false := decide_eq_false (by omega)
 have HE := Lib.hid (fun V (hV : Keeps Non w V) => And.intro (one_cell (htb.non hV)) (And.intro (one_cell (hrb.non hV)) (And.intro ((i1.non hV).cell 0) ((i1.non hV).cell 1))))
 have HRg := Lib.hid (fun V (hV : Keeps Non w V) => h.non hV)
 have HFz := Lib.hid (fun V (hV : Keeps Non w V) => (i1.non hV).frozen 1)
 clear i1 i2 i5 i6 i7 h htb hrb hz
 go_enter Tryz.func178, Tryz.ntmps178
 go_upto_region 1 with fail
 go_quiet (fail)
 obtain ⟨w1, hw1⟩ : ∃ X : World, X = w.drewN nq := ⟨_, rfl⟩
 rw [← hw1]
 have k1 : Keeps Non w w1 := by rw [hw1]; exact (Keeps.refl _ _).drewN _
 clear hw1 x0 x1 c0 c1
 obtain ⟨x0, x1, c0, c1⟩ := HE.out w1 k1
 go_upto_region 3 with fail
 go_quiet (fail)
 obtain ⟨w2, hw2⟩ : ∃ X : World, X = w1.drewN nq := ⟨_, rfl⟩
 rw [← hw2]
 have k2 : Keeps Non w w2 := by rw [hw2]; exact k1.drewN _
 clear hw2 x0 x1 c0 c1
 obtain ⟨x0, x1, c0, c1⟩ := HE.out w2 k2
 have hne : ¬ bs.length = at_ := by omega
 have HSU : Hid (bs.length - at_ = bs.length - at_) := Lib.hid rfl
 go_upto_region 5 with fail
 go_quiet (fail)
 obtain ⟨w3, hw3⟩ : ∃ X : World, X = w2.drewN nq := ⟨_, rfl⟩
 rw [← hw3]
 have k3 : Keeps Non w w3 := by rw [hw3]; exact k2.drewN _
 clear hw3 x0 x1 c0 c1
 obtain ⟨x0, x1, c0, c1⟩ := HE.out w3 k3
 have hlen : ((bs.length - at_ : Nat) : Int) = (bs.length : Int) - (at_ : Int) := by omega
 have HL := Lib.hid hlen
 clear hlen
 go_upto_region 6 with fail
 go_loop [31] (fun i => ∃ j : Nat, j ≤ bs.length - at_ ∧ i = .int .i64 (j : Int)) (fun i => (bs.length - at_) - (intOf i).toNat)
 case atStart => exact ⟨0, Nat.zero_le _, rfl⟩
 case round =>
   obtain ⟨j, hj, rfl⟩ := hrel
   by_cases hjl : j < bs.length - at_
   · have hc := HB.out w3 k3 j (by omega)
     have hji : (j : Int) < ((bs.length - at_ : Nat) : Int) := by omega
     have hji2 : (j : Int) < (bs.length : Int) - (at_ : Int) := by omega
     go_wp2_with fail
     go_round
     case rel => exact ⟨j + 1, by omega, by go_num⟩
     case measure => simp [intOf]; omega
   · obtain rfl : j = bs.length - at_ := by omega
     have f3 := HFz.out w3 k3
     have hR := Lib.hid ((HRg.out w3 k3).on bs.length (Nat.le_refl _))
     go_wp2_with fail
     go_ret
     exact ⟨rfl, hR.out, (k3.of_non (S := Only g)).set (p := ⟨g, 1, none⟩) rfl _⟩
set_option maxHeartbeats 2000000 in
theorem rpad111_any {w0 w : World} {g at_ : Nat} {bs : List UInt8} (h : Rg w0 w g bs at_) (hlt : at_ < bs.length) (hz : bs.drop at_ = zeros (bs.length - at_)) :
   Calls Tryz.prog 164 #[.pointer (some ⟨g, 0, none⟩), .int .i64 (bs.length : Int)] w fun e w' => e = .returned (.tuple #[]) ∧ Rg w0 w' g bs bs.length ∧ Keeps (Only g) w w' := by
 have HT : Hid (∀ (V : World) (tb rb : Nat), Rg w0 V g bs at_ → Blk V tb 3 #[.int .i64 (bs.length : Int)] → Blk V rb 228 #[.pointer (some ⟨g, 0, none⟩)] →
     Calls Tryz.prog 158 #[.pointer (some ⟨g, 0, none⟩), .func (.func 178) #[] #[.pointer (some ⟨tb, 0, none⟩), .pointer (some ⟨rb, 0, none⟩)]] V fun e w' => e = .returned (.tuple #[]) ∧ Rg w0 w' g bs bs.length ∧ Keeps (Only g) V w') := Lib.hid (by
   intro V tb rb hV a b
   have HN := Lib.hid (rpad129_any hV tb rb hlt hz a b)
   obtain ⟨-, c2, -, -, -⟩ := hV.cells
   go_enter Tryz.func158, Tryz.ntmps158
   go_wp2_with ((go_at_call 178; go_must (refine HN.out.mono ?_); rintro e w2 ⟨rfl, hW2, hQ2⟩; have hc2 := hW2.cells.2.1; have hf2 := hW2.cells.2.2.1 2))
   go_end0
   exact ⟨rfl, hW2.ok, hQ2.set (p := ⟨g, 2, none⟩) rfl _⟩)
 obtain ⟨b1, b2, hk⟩ := boxes2 w (.pointer (some ⟨g, 0, none⟩)) (.int .i64 (bs.length : Int)) 228 3
 go_enter Tryz.func164, Tryz.ntmps164
 go_upto_region 1 with fail
 obtain ⟨w3, hw3⟩ : ∃ V : World, V = (w.alloc (.cells #[.pointer (some ⟨g, 0, none⟩)] 228)).alloc (.cells #[.int .i64 (bs.length : Int)] 3) := ⟨_, rfl⟩
 rw [← hw3] at b1 b2 hk ⊢
 clear hw3
 have HT3 := Lib.hid (HT.out w3 _ _ (h.non hk) b2 b1)
 have x1 := one_cell b1
 go_wp2_with ((go_at_call 158; go_must (refine HT3.out.mono ?_); rintro e w4 ⟨rfl, hW4, hQ4⟩))
 go_end0
 exact ⟨rfl, hW4, (hk.of_non (S := Only g)).then hQ4 fun i hi e => e⟩
end Go.Proofs.YtolknnmaadkgiaaGreatDoor
