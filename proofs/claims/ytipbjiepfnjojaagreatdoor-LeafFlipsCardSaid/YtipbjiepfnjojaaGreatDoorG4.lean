/- The reader: Num, Bytes. The reader: Bytes, Pad, Left, Done. The reader: Pad. A sum, a pointer of noughts, an uberblock laid down. A sum taken up. A pointer of noughts, an uberblock laid down; may it be?. An uberblock laid down; may it be?. -/
import Derived.Test.YtipbjiepfnjojaaGreatDoorG3
import Derived.Lib.SmallJoins
namespace Go.Proofs.YtipbjiepfnjojaaGreatDoor
set_option maxRecDepth 100000
open Go.RowKit Go.Uc

set_option maxHeartbeats 2000000 in
theorem rnum49_any {w0 w : World} {g at_ : Nat} {bs : List UInt8} (h : Rg w0 w g bs at_) (k : Nat) (hk1 : 1 ≤ k) (hk8 : k ≤ 8) (hf : at_ + k ≤ bs.length) :
    Calls Tryz.prog 49 #[.pointer (some ⟨g, 0, none⟩), .int .i64 (k : Int)] w fun e w' => e = .returned (.int .u64 (leVal ((bs.drop at_).take k) : Int)) ∧ Rg w0 w' g bs (at_ + k) ∧ Keeps (Only g) w w' := by
  have HT : Hid (∀ (V : World) (kb rb ob : Nat) (v : Value), Rg w0 V g bs at_ → Blk V kb 3 #[.int .i64 (k : Int)] → Blk V rb 116 #[.pointer (some ⟨g, 0, none⟩)] → Blk V ob 27 #[v] → w0.heap.size ≤ ob →
      Calls Tryz.prog 91 #[.pointer (some ⟨g, 0, none⟩), .func (.func 92) #[] #[.pointer (some ⟨kb, 0, none⟩), .pointer (some ⟨rb, 0, none⟩), .pointer (some ⟨ob, 0, none⟩)]] V fun e w' => e = .returned (.tuple #[]) ∧ Rg w0 w' g bs (at_ + k) ∧ Blk w' ob 27 #[.int .u64 (leVal ((bs.drop at_).take k) : Int)] ∧ Keeps (fun q => q = g ∨ q = ob) V w') := Lib.hid (by
    intro V kb rb ob v hV a b c hn
    have HN := Lib.hid (rnum92_any hV k kb rb ob v hk1 hk8 hf a b c hn)
    obtain ⟨-, c2, -, -, -⟩ := hV.cells
    go_enter Tryz.func91, Tryz.ntmps91
    go_wp2_with ((go_at_call 92; go_must (refine HN.out.mono ?_); rintro e w2 ⟨rfl, hW2, hO2, hQ2⟩; have hc2 := hW2.cells.2.1; have hf2 := hW2.cells.2.2.1 2))
    go_end0
    exact ⟨rfl, hW2.ok, hO2.far (hW2.ne hO2 (by decide)) _, hQ2.set (p := ⟨g, 2, none⟩) (.inl rfl) _⟩)
  generalize leVal ((bs.drop at_).take k) = m at HT ⊢
  obtain ⟨b1, b2, b3, hk⟩ := boxes3 w (.pointer (some ⟨g, 0, none⟩)) (.int .i64 (k : Int)) (.int .u64 0) 116 3 27
  have hz : w0.heap.size ≤ w.heap.size := by obtain ⟨b, i1, i2, i3, i4, i5, i6, i7⟩ := h; exact i7.size
  go_enter Tryz.func49, Tryz.ntmps49
  go_upto_region 2 with fail
  obtain ⟨w3, hw3⟩ : ∃ V : World, V = ((w.alloc (.cells #[.pointer (some ⟨g, 0, none⟩)] 116)).alloc (.cells #[.int .i64 (k : Int)] 3)).alloc (.cells #[.int .u64 0] 27) := ⟨_, rfl⟩
  rw [← hw3] at b1 b2 b3 hk ⊢
  clear hw3
  have HT3 := Lib.hid (HT.out w3 _ _ _ _ (h.non hk) b2 b1 b3 (by omega))
  have x1 := one_cell b1
  go_upto_region 3 with ((go_at_call 91; go_must (refine HT3.out.mono ?_); rintro e w4 ⟨rfl, hW4, hO4, hQ4⟩))
  have x2 := one_cell hO4
  go_wp2_with fail
  go_ret
  exact ⟨rfl, hW4, (hk.of_non (S := Only g)).then hQ4 fun i hi e => by rcases e with e | e; exact e; omega⟩
set_option maxHeartbeats 2000000 in
theorem rbytes94_any {w0 w : World} {g at_ : Nat} {bs : List UInt8} (h : Rg w0 w g bs at_) (k kb rb ob : Nat) (v : Value) (hk1 : 1 ≤ k) (hf : at_ + k ≤ bs.length) (hkb : Blk w kb 3 #[.int .i64 (k : Int)]) (hrb : Blk w rb 116 #[.pointer (some ⟨g, 0, none⟩)]) (hob : Blk w ob 55 #[v]) (hon : w0.heap.size ≤ ob) :
    Calls Tryz.prog 94 #[.pointer (some ⟨kb, 0, none⟩), .pointer (some ⟨rb, 0, none⟩), .pointer (some ⟨ob, 0, none⟩)] w fun e w' => e = .returned (.int .i64 0) ∧ Rg w0 w' g bs (at_ + k) ∧ (∃ b, Blk w' ob 55 #[.slice (some ⟨b, 0, none⟩) k k] ∧ Blk w' b 5 (pc ((bs.drop at_).take k)) ∧ w.heap.size ≤ b) ∧ Keeps (fun q => q = g ∨ q = ob) w w' := by
  obtain ⟨b, hR⟩ := h.rdr
  obtain ⟨-, -, -, hle, hbig⟩ := h.cells
  have x0 := one_cell hkb
  have x1 := one_cell hrb
  have x2 := one_cell hob
  have hko : kb ≠ ob := hkb.ne hob (by decide)
  have hro : rb ≠ ob := hrb.ne hob (by decide)
  have hog := h.ne hob (by decide)
  have HT := Lib.hid (take93_any hR k hk1 hf)
  have htl : ((bs.drop at_).take k).length = k := by rw [List.length_take, List.length_drop]; omega
  have HV : Hid (∀ V c', Keeps Non w V → Calls Tryz.prog 86 #[.slice (some ⟨b, at_, none⟩) k c'] V fun e w' => ∃ nb, e = .returned (.slice (some ⟨nb, 0, none⟩) k k) ∧ Blk w' nb 5 (pc ((bs.drop at_).take k)) ∧ V.heap.size ≤ nb ∧ Keeps Non V w') := Lib.hid (fun V c' hV => by
    have := copied_any (some ⟨b, 0 + at_, none⟩) c' ((bs.drop at_).take k) V (At.dropx (hR.row.non hV) rfl at_ k) (by rw [htl]; omega)
    rw [htl, Nat.zero_add] at this
    exact this.mono fun e w' ⟨i, j, l⟩ => ⟨_, i, j, Nat.le_refl _, l⟩)
  rw [Nat.zero_add] at HT
  generalize (bs.drop at_).take k = xs at HV ⊢
  clear htl
  have hk0 : ¬ (k : Int) < 0 := by omega
  go_enter Tryz.func94, Tryz.ntmps94
  go_upto_region 4 with ((go_at_call 93; go_must (refine HT.out.mono ?_); rintro e _ ⟨⟨c', rfl, hc'⟩, q, rfl⟩))
  obtain ⟨w2, hw2⟩ : ∃ V : World, V = w.drewN q := ⟨_, rfl⟩
  have hk2 : Keeps Non w w2 := by rw [hw2]; exact (Keeps.refl _ _).drewN q
  rw [← hw2]
  clear hw2 HT
  have HV2 := Lib.hid (HV.out w2 c' hk2)
  have z0 := one_cell (hkb.non hk2)
  have z1 := one_cell (hrb.non hk2)
  have z2 := one_cell (hob.non hk2)
  have f2 := (hob.non hk2).frozen 0
  have hsz := hk2.size
  clear x0 x1 x2
  go_upto_region 7 with ((go_at_call 86; go_must (refine HV2.out.mono ?_); rintro e w5 ⟨nb, rfl, hB5, hn5, hK5⟩; have zz2 : w5.cell? ⟨ob, 0, none⟩ = some v := hK5.cell z2 id; have ff2 : w5.frozen? ⟨ob, 0, none⟩ = false := ((hob.non hk2).non hK5).frozen 0))
  have hk5 := hk2.non hK5
  have h2 := h.non hk5
  have hob2 := hob.non hk5
  have h3 := h2.far (p := ⟨ob, 0, none⟩) hob2 (by decide) (by decide) hon (.slice (some ⟨nb, 0, none⟩) k k)
  have hob3 := hob2.set 0 (.slice (some ⟨nb, 0, none⟩) k k)
  have hnb3 := hB5.far (hB5.ne hob2 (by decide)) (p := ⟨ob, 0, none⟩) (.slice (some ⟨nb, 0, none⟩) k k)
  have y0 := one_cell ((hkb.non hk5).far hko (p := ⟨ob, 0, none⟩) (.slice (some ⟨nb, 0, none⟩) k k))
  have y1 := one_cell ((hrb.non hk5).far hro (p := ⟨ob, 0, none⟩) (.slice (some ⟨nb, 0, none⟩) k k))
  have k23 : Keeps (fun q => q = g ∨ q = ob) w (w5.setCell ⟨ob, 0, none⟩ (.slice (some ⟨nb, 0, none⟩) k k)) := (hk5.of_non).set (p := ⟨ob, 0, none⟩) (.inr rfl) _
  obtain ⟨w3, hw3⟩ : ∃ V : World, V = w5.setCell ⟨ob, 0, none⟩ (.slice (some ⟨nb, 0, none⟩) k k) := ⟨_, rfl⟩
  rw [← hw3] at h3 hob3 hnb3 y0 y1 k23 ⊢
  clear hw3 z0 z1 z2 zz2 ff2
  obtain ⟨g1, -, gf, -, -⟩ := h3.cells
  have hnbg := h3.ne hnb3 (by decide)
  have hwv : IntKind.i64.wrap ((at_ : Int) + (k : Int)) = ((at_ + k : Nat) : Int) := by rw [IntKind.wrap_i64]; omega
  have h4 := (h3.on (at_ + k) hf).non (Keeps.refl Non _).drew
  have hob4 : Blk (w3.setCell ⟨g, 1, none⟩ (.int .i64 ((at_ + k : Nat) : Int))).drew ob 55 #[.slice (some ⟨nb, 0, none⟩) k k] := (hob3.far hog _).non (Keeps.refl Non _).drew
  have hnb4 : Blk (w3.setCell ⟨g, 1, none⟩ (.int .i64 ((at_ + k : Nat) : Int))).drew nb 5 (pc xs) := (hnb3.far hnbg _).non (Keeps.refl Non _).drew
  have k34 : Keeps (fun q => q = g ∨ q = ob) w (w3.setCell ⟨g, 1, none⟩ (.int .i64 ((at_ + k : Nat) : Int))).drew := (k23.set (p := ⟨g, 1, none⟩) (.inl rfl) _).drew
  rw [← hwv] at h4 hob4 hnb4 k34
  have HF := Lib.hid (And.intro h4 (And.intro hob4 (And.intro hnb4 k34)))
  clear hwv
  have gfd : w3.drew.frozen? ⟨g, 1, none⟩ = false := gf 1
  have y0d : w3.drew.cell? ⟨kb, 0, none⟩ = some (.int .i64 (k : Int)) := y0
  have y1d : w3.drew.cell? ⟨rb, 0, none⟩ = some (.pointer (some ⟨g, 0, none⟩)) := y1
  have g1d : w3.drew.cell? ⟨g, 1, none⟩ = some (.int .i64 (at_ : Int)) := g1
  clear h3 hob3 hnb3 h4 hob4 hnb4
  go_region_with (fail)
  all_goals
    go_wp2_with fail
    go_ret
    exact ⟨rfl, HF.out.1, ⟨nb, HF.out.2.1, HF.out.2.2.1, by omega⟩, HF.out.2.2.2⟩
end Go.Proofs.YtipbjiepfnjojaaGreatDoor
namespace Go.Proofs.YtipbjiepfnjojaaGreatDoor
set_option maxRecDepth 100000
open Go.RowKit Go.Uc

set_option maxHeartbeats 2000000 in
theorem rbytes50_any {w0 w : World} {g at_ : Nat} {bs : List UInt8} (h : Rg w0 w g bs at_) (k : Nat) (hk1 : 1 ≤ k) (hf : at_ + k ≤ bs.length) :
    Calls Tryz.prog 50 #[.pointer (some ⟨g, 0, none⟩), .int .i64 (k : Int)] w fun e w' => ∃ b, e = .returned (.slice (some ⟨b, 0, none⟩) k k) ∧ Rg w0 w' g bs (at_ + k) ∧ Blk w' b 5 (pc ((bs.drop at_).take k)) ∧ w.heap.size ≤ b ∧ Keeps (Only g) w w' := by
  have HT : Hid (∀ (V : World) (kb rb ob : Nat) (v : Value), Rg w0 V g bs at_ → Blk V kb 3 #[.int .i64 (k : Int)] → Blk V rb 116 #[.pointer (some ⟨g, 0, none⟩)] → Blk V ob 55 #[v] → w0.heap.size ≤ ob →
      Calls Tryz.prog 91 #[.pointer (some ⟨g, 0, none⟩), .func (.func 94) #[] #[.pointer (some ⟨kb, 0, none⟩), .pointer (some ⟨rb, 0, none⟩), .pointer (some ⟨ob, 0, none⟩)]] V fun e w' => e = .returned (.tuple #[]) ∧ Rg w0 w' g bs (at_ + k) ∧ (∃ b, Blk w' ob 55 #[.slice (some ⟨b, 0, none⟩) k k] ∧ Blk w' b 5 (pc ((bs.drop at_).take k)) ∧ V.heap.size ≤ b) ∧ Keeps (fun q => q = g ∨ q = ob) V w') := Lib.hid (by
    intro V kb rb ob v hV a b c hn
    have HN := Lib.hid (rbytes94_any hV k kb rb ob v hk1 hf a b c hn)
    obtain ⟨-, c2, -, -, -⟩ := hV.cells
    go_enter Tryz.func91, Tryz.ntmps91
    go_wp2_with ((go_at_call 94; go_must (refine HN.out.mono ?_); rintro e w2 ⟨rfl, hW2, ⟨nb, hO2, hB2, hn2⟩, hQ2⟩; have hc2 := hW2.cells.2.1; have hf2 := hW2.cells.2.2.1 2))
    go_end0
    exact ⟨rfl, hW2.ok, ⟨nb, hO2.far (hW2.ne hO2 (by decide)) _, hB2.far (hW2.ne hB2 (by decide)) _, hn2⟩, hQ2.set (p := ⟨g, 2, none⟩) (.inl rfl) _⟩)
  generalize (bs.drop at_).take k = xs at HT ⊢
  obtain ⟨b1, b2, b3, hk⟩ := boxes3 w (.pointer (some ⟨g, 0, none⟩)) (.int .i64 (k : Int)) (.slice none 0 0) 116 3 55
  have hz : w0.heap.size ≤ w.heap.size := by obtain ⟨b, i1, i2, i3, i4, i5, i6, i7⟩ := h; exact i7.size
  go_enter Tryz.func50, Tryz.ntmps50
  go_upto_region 2 with fail
  obtain ⟨w3, hw3⟩ : ∃ V : World, V = ((w.alloc (.cells #[.pointer (some ⟨g, 0, none⟩)] 116)).alloc (.cells #[.int .i64 (k : Int)] 3)).alloc (.cells #[.slice none 0 0] 55) := ⟨_, rfl⟩
  rw [← hw3] at b1 b2 b3 hk ⊢
  clear hw3
  have HT3 := Lib.hid (HT.out w3 _ _ _ _ (h.non hk) b2 b1 b3 (by omega))
  have x1 := one_cell b1
  have hz3 := hk.size
  go_upto_region 3 with ((go_at_call 91; go_must (refine HT3.out.mono ?_); rintro e w4 ⟨rfl, hW4, ⟨nb, hO4, hB4, hn4⟩, hQ4⟩))
  have x2 := one_cell hO4
  go_wp2_with fail
  go_ret
  exact ⟨nb, rfl, hW4, hB4, by omega, (hk.of_non (S := Only g)).then hQ4 fun i hi e => by rcases e with e | e; exact e; omega⟩
set_option maxHeartbeats 1000000 in
theorem left130_any {w0 w : World} {g at_ : Nat} {bs : List UInt8} (h : Rg w0 w g bs at_) :
    Calls Tryz.prog 130 #[.pointer (some ⟨g, 0, none⟩)] w fun e w' => e = .returned (.int .i64 ((bs.length - at_ : Nat) : Int)) ∧ ∃ q, w' = w.drewN q := by
  obtain ⟨b, i1, i2, i3, i4, i5, i6, i7⟩ := h
  have c0 : w.cell? ⟨g, 0, none⟩ = some (.slice (some ⟨b, 0, none⟩) bs.length bs.length) := i1.cell 0
  have c1 : w.cell? ⟨g, 1, none⟩ = some (.int .i64 (at_ : Int)) := i1.cell 1
  have hwr : wrap64 ((bs.length : Int) - (at_ : Int)) = ((bs.length - at_ : Nat) : Int) := by rw [IntWalk.wrap64_in _ ⟨by omega, by omega⟩]; omega
  have HW : Hid ((bs.length : Int) - (at_ : Int) = ((bs.length - at_ : Nat) : Int)) := Lib.hid (by omega)
  clear i1 i2 i7
  go_enter Tryz.func130, Tryz.ntmps130
  go_upto_region 1 with fail
  go_quiet (fail)
  go_wp2_with fail
  go_ret
  exact ⟨by first | rfl | (show Ending.returned (Value.int .i64 _) = _; rw [← HW.out]), _, rfl⟩
set_option maxHeartbeats 2000000 in
theorem done112_any {w0 w : World} {g : Nat} {bs : List UInt8} (h : Rg w0 w g bs bs.length) :
    Calls Tryz.prog 112 #[.pointer (some ⟨g, 0, none⟩)] w fun e w' => e = .returned (.int .i64 0) ∧ ∃ q, w' = w.drewN q := by
  have HL := Lib.hid (left130_any h)
  rw [Nat.sub_self] at HL
  obtain ⟨-, c2, -, -, -⟩ := h.cells
  go_enter Tryz.func112, Tryz.ntmps112
  go_wp2_with ((go_at_call 130; go_must (refine HL.out.mono ?_); rintro e _ ⟨rfl, q, rfl⟩))
  go_ret
  exact ⟨rfl, q, rfl⟩
end Go.Proofs.YtipbjiepfnjojaaGreatDoor
namespace Go.Proofs.YtipbjiepfnjojaaGreatDoor
set_option maxRecDepth 100000
open Go.RowKit Go.Uc

set_option maxHeartbeats 2000000 in
theorem rpad129_any {w0 w : World} {g at_ : Nat} {bs : List UInt8} (h : Rg w0 w g bs at_) (tb rb : Nat) (hlt : at_ < bs.length) (hz : bs.drop at_ = zeros (bs.length - at_)) (htb : Blk w tb 3 #[.int .i64 (bs.length : Int)]) (hrb : Blk w rb 116 #[.pointer (some ⟨g, 0, none⟩)]) :
    Calls Tryz.prog 129 #[.pointer (some ⟨tb, 0, none⟩), .pointer (some ⟨rb, 0, none⟩)] w fun e w' => e = .returned (.int .i64 0) ∧ Rg w0 w' g bs bs.length ∧ Keeps (Only g) w w' := by
  obtain ⟨b, i1, i2, i3, i4, i5, i6, i7⟩ := id h
  have HB : Hid (∀ V, Keeps Non w V → ∀ i, at_ + i < bs.length → V.cell? ⟨b, at_ + i, none⟩ = some (.int .u8 0)) := Lib.hid (fun V hV i hi => by
    have h1 := (i2.non hV).byte hi
    have h2 : bs[at_ + i]'hi = 0 := by
      have : (bs.drop at_)[i]? = some (bs[at_ + i]'hi) := by rw [List.getElem?_drop, List.getElem?_eq_getElem hi]
      rw [hz] at this
      unfold zeros at this
      rw [List.getElem?_replicate, if_pos (by omega)] at this
      injection this with this
      exact this.symm
    rw [h1, h2]
    rfl)
  have x0 := one_cell htb
  have x1 := one_cell hrb
  have c0 : w.cell? ⟨g, 0, none⟩ = some (.slice (some ⟨b, 0, none⟩) bs.length bs.length) := i1.cell 0
  have c1 : w.cell? ⟨g, 1, none⟩ = some (.int .i64 (at_ : Int)) := i1.cell 1
  have d1 : decide ((bs.length : Int) < (at_ : Int)) = false := decide_eq_false (by omega)
  have d2 : decide ((bs.length : Int) < (bs.length : Int)) = false := decide_eq_false (by omega)
  have HE := Lib.hid (fun V (hV : Keeps Non w V) => And.intro (one_cell (htb.non hV)) (And.intro (one_cell (hrb.non hV)) (And.intro ((i1.non hV).cell 0) ((i1.non hV).cell 1))))
  have HRg := Lib.hid (fun V (hV : Keeps Non w V) => h.non hV)
  have HFz := Lib.hid (fun V (hV : Keeps Non w V) => (i1.non hV).frozen 1)
  clear i1 i2 i5 i6 i7 h htb hrb hz
  go_enter Tryz.func129, Tryz.ntmps129
  go_upto_region 1 with fail
  go_quiet (fail)
  obtain ⟨w1, hw1⟩ : ∃ X : World, X = w.drewN nq := ⟨_, rfl⟩
  rw [← hw1]
  have k1 : Keeps Non w w1 := by rw [hw1]; exact (Keeps.refl _ _).drewN _
  clear hw1 x0 x1 c0 c1
  obtain ⟨x0, x1, c0, c1⟩ := HE.out w1 k1
  go_upto_region 3 with fail
  go_quiet (fail)
  obtain ⟨w2, hw2⟩ : ∃ X : World, X = w1.drewN nq := ⟨_, rfl⟩
  rw [← hw2]
  have k2 : Keeps Non w w2 := by rw [hw2]; exact k1.drewN _
  clear hw2 x0 x1 c0 c1
  obtain ⟨x0, x1, c0, c1⟩ := HE.out w2 k2
  have hne : ¬ bs.length = at_ := by omega
  have HSU : Hid (bs.length - at_ = bs.length - at_) := Lib.hid rfl
  go_upto_region 5 with fail
  go_quiet (fail)
  obtain ⟨w3, hw3⟩ : ∃ X : World, X = w2.drewN nq := ⟨_, rfl⟩
  rw [← hw3]
  have k3 : Keeps Non w w3 := by rw [hw3]; exact k2.drewN _
  clear hw3 x0 x1 c0 c1
  obtain ⟨x0, x1, c0, c1⟩ := HE.out w3 k3
  have hlen : ((bs.length - at_ : Nat) : Int) = (bs.length : Int) - (at_ : Int) := by omega
  have HL := Lib.hid hlen
  clear hlen
  go_upto_region 6 with fail
  go_loop [31] (fun i => ∃ j : Nat, j ≤ bs.length - at_ ∧ i = .int .i64 (j : Int)) (fun i => (bs.length - at_) - (intOf i).toNat)
  case atStart => exact ⟨0, Nat.zero_le _, rfl⟩
  case round =>
    obtain ⟨j, hj, rfl⟩ := hrel
    by_cases hjl : j < bs.length - at_
    · have hc := HB.out w3 k3 j (by omega)
      have hji : (j : Int) < ((bs.length - at_ : Nat) : Int) := by omega
      have hji2 : (j : Int) < (bs.length : Int) - (at_ : Int) := by omega
      go_wp2_with fail
      go_round
      case rel => exact ⟨j + 1, by omega, by go_num⟩
      case measure => simp [intOf]; omega
    · obtain rfl : j = bs.length - at_ := by omega
      have f3 := HFz.out w3 k3
      have hR := Lib.hid ((HRg.out w3 k3).on bs.length (Nat.le_refl _))
      go_wp2_with fail
      go_ret
      exact ⟨rfl, hR.out, (k3.of_non (S := Only g)).set (p := ⟨g, 1, none⟩) rfl _⟩
set_option maxHeartbeats 2000000 in
theorem rpad111_any {w0 w : World} {g at_ : Nat} {bs : List UInt8} (h : Rg w0 w g bs at_) (hlt : at_ < bs.length) (hz : bs.drop at_ = zeros (bs.length - at_)) :
    Calls Tryz.prog 111 #[.pointer (some ⟨g, 0, none⟩), .int .i64 (bs.length : Int)] w fun e w' => e = .returned (.tuple #[]) ∧ Rg w0 w' g bs bs.length ∧ Keeps (Only g) w w' := by
  have HT : Hid (∀ (V : World) (tb rb : Nat), Rg w0 V g bs at_ → Blk V tb 3 #[.int .i64 (bs.length : Int)] → Blk V rb 116 #[.pointer (some ⟨g, 0, none⟩)] →
      Calls Tryz.prog 91 #[.pointer (some ⟨g, 0, none⟩), .func (.func 129) #[] #[.pointer (some ⟨tb, 0, none⟩), .pointer (some ⟨rb, 0, none⟩)]] V fun e w' => e = .returned (.tuple #[]) ∧ Rg w0 w' g bs bs.length ∧ Keeps (Only g) V w') := Lib.hid (by
    intro V tb rb hV a b
    have HN := Lib.hid (rpad129_any hV tb rb hlt hz a b)
    obtain ⟨-, c2, -, -, -⟩ := hV.cells
    go_enter Tryz.func91, Tryz.ntmps91
    go_wp2_with ((go_at_call 129; go_must (refine HN.out.mono ?_); rintro e w2 ⟨rfl, hW2, hQ2⟩; have hc2 := hW2.cells.2.1; have hf2 := hW2.cells.2.2.1 2))
    go_end0
    exact ⟨rfl, hW2.ok, hQ2.set (p := ⟨g, 2, none⟩) rfl _⟩)
  obtain ⟨b1, b2, hk⟩ := boxes2 w (.pointer (some ⟨g, 0, none⟩)) (.int .i64 (bs.length : Int)) 116 3
  go_enter Tryz.func111, Tryz.ntmps111
  go_upto_region 1 with fail
  obtain ⟨w3, hw3⟩ : ∃ V : World, V = (w.alloc (.cells #[.pointer (some ⟨g, 0, none⟩)] 116)).alloc (.cells #[.int .i64 (bs.length : Int)] 3) := ⟨_, rfl⟩
  rw [← hw3] at b1 b2 hk ⊢
  clear hw3
  have HT3 := Lib.hid (HT.out w3 _ _ (h.non hk) b2 b1)
  have x1 := one_cell b1
  go_wp2_with ((go_at_call 91; go_must (refine HT3.out.mono ?_); rintro e w4 ⟨rfl, hW4, hQ4⟩))
  go_end0
  exact ⟨rfl, hW4, (hk.of_non (S := Only g)).then hQ4 fun i hi e => e⟩
end Go.Proofs.YtipbjiepfnjojaaGreatDoor
namespace Go.Proofs.YtipbjiepfnjojaaGreatDoor
set_option maxRecDepth 100000
open Go.RowKit Go.Uc

/-- A sum's four words. -/
structure S4 where
  a : Nat
  b : Nat
  c : Nat
  d : Nat
def S4.ok (s : S4) : Prop := s.a < 18446744073709551616 ∧ s.b < 18446744073709551616 ∧ s.c < 18446744073709551616 ∧ s.d < 18446744073709551616
def S4.cs (s : S4) : Array Value := #[.int .u64 (s.a : Int), .int .u64 (s.b : Int), .int .u64 (s.c : Int), .int .u64 (s.d : Int)]
def S4.bytes (s : S4) : List UInt8 := le 8 s.a ++ le 8 s.b ++ le 8 s.c ++ le 8 s.d
def S4.upto (s : S4) : Nat → List UInt8
  | 0 => []
  | 1 => le 8 s.a
  | 2 => le 8 s.a ++ le 8 s.b
  | 3 => le 8 s.a ++ le 8 s.b ++ le 8 s.c
  | _ => s.bytes
theorem S4.upto_len (s : S4) (j : Nat) (hj : j ≤ 4) : (s.upto j).length = 8 * j := by
  match j, hj with
  | 0, _ => rfl
  | 1, _ => simp [S4.upto, le_length]
  | 2, _ => simp [S4.upto, le_length]
  | 3, _ => simp [S4.upto, le_length]
  | 4, _ => simp [S4.upto, S4.bytes, le_length]
set_option maxHeartbeats 4000000 in
theorem laySum_any {w0 w : World} {g room : Nat} {bs : List UInt8} (h : Wr w0 w g room bs) (s : S4) (hs : s.ok) (hf : bs.length + 32 ≤ room) (hr : room ≤ 1099511627776) :
    Calls Tryz.prog 105 #[.pointer (some ⟨g, 0, none⟩), .agg s.cs] w fun e w' => e = .returned (.tuple #[]) ∧ Wr w0 w' g room (bs ++ s.bytes) ∧ Oth w w' := by
  obtain ⟨sa, sb, sc, sd⟩ := s
  obtain ⟨q1, q2, q3, q4⟩ := hs
  simp only at q1 q2 q3 q4
  have HN := Lib.hid (fun V xs n (hV : Wr w0 V g room xs) (hn : n < 256 ^ 8) (hx : xs.length + 8 ≤ room) => num42_any hV n 8 (by decide) (by decide) hn hx hr)
  have hL := Lib.hid (fun j (hj : j ≤ 4) => S4.upto_len ⟨sa, sb, sc, sd⟩ j hj)
  have hB := Blk.new w 43 #[.int .u64 (sa : Int), .int .u64 (sb : Int), .int .u64 (sc : Int), .int .u64 (sd : Int)]
  have hk := (Keeps.refl Non w).alloc (.cells #[.int .u64 (sa : Int), .int .u64 (sb : Int), .int .u64 (sc : Int), .int .u64 (sd : Int)] 43)
  unfold S4.cs
  go_enter Tryz.func105, Tryz.ntmps105
  go_upto_region 1 with fail
  have h1 := h.non hk
  obtain ⟨w1, hw1⟩ : ∃ V : World, V = w.alloc (.cells #[.int .u64 (sa : Int), .int .u64 (sb : Int), .int .u64 (sc : Int), .int .u64 (sd : Int)] 43) := ⟨_, rfl⟩
  have hk1 := hk
  rw [← hw1] at hB h1 hk1 ⊢
  clear hw1
  have x0 : w1.cell? ⟨w.heap.size, 0, none⟩ = some (.int .u64 (sa : Int)) := hB.cell 0
  have x1 : w1.cell? ⟨w.heap.size, 1, none⟩ = some (.int .u64 (sb : Int)) := hB.cell 1
  have x2 : w1.cell? ⟨w.heap.size, 2, none⟩ = some (.int .u64 (sc : Int)) := hB.cell 2
  have x3 : w1.cell? ⟨w.heap.size, 3, none⟩ = some (.int .u64 (sd : Int)) := hB.cell 3
  go_upto_region 2 with fail
  clear x0 x1 x2 x3 hB
  go_loopw [15] (fun i wr => ∃ j : Nat, j ≤ 4 ∧ i = .int .i64 (j : Int) ∧ Wr w0 wr g room (bs ++ S4.upto ⟨sa, sb, sc, sd⟩ j) ∧ Oth w wr) (fun i _ => 4 - (intOf i).toNat)
  case atStart => exact ⟨0, by omega, rfl, by rw [show S4.upto ⟨sa, sb, sc, sd⟩ 0 = [] from rfl, List.append_nil]; exact h1, Oth.of hk1⟩
  case round =>
    obtain ⟨j, hj, rfl, hW, hY⟩ := hrel
    obtain ⟨wx, rfl⟩ : ∃ V : World, V = wr := ⟨_, rfl⟩
    clear h1
    have hl := hL.out j hj
    by_cases hj4 : j = 4
    · subst hj4
      go_wp2_with fail
      go_end0
      exact ⟨rfl, hW, hY⟩
    · have hlt : j < 4 := by omega
      obtain ⟨X, hX⟩ : ∃ X, X = [sa, sb, sc, sd].getD j 0 := ⟨_, rfl⟩
      have hX8 : X < 256 ^ 8 := by
        rw [hX]
        match j, hlt with
        | 0, _ => exact q1
        | 1, _ => exact q2
        | 2, _ => exact q3
        | 3, _ => exact q4
      have hin : ∀ V : World, (Instr.index 114 (.agg #[.int .u64 (sa : Int), .int .u64 (sb : Int), .int .u64 (sc : Int), .int .u64 (sd : Int)]) (.int .i64 (j : Int))).run Tryz.prog V = .ok (.int .u64 (X : Int)) V := by
        intro V
        rw [hX]
        match j, hlt with
        | 0, _ => rfl
        | 1, _ => rfl
        | 2, _ => rfl
        | 3, _ => rfl
      have HE : Hid (bs ++ S4.upto ⟨sa, sb, sc, sd⟩ j ++ le 8 X = bs ++ S4.upto ⟨sa, sb, sc, sd⟩ (j + 1)) := Lib.hid (by
        rw [hX]
        match j, hlt with
        | 0, _ => simp [S4.upto]
        | 1, _ => simp [S4.upto]
        | 2, _ => simp [S4.upto]
        | 3, _ => simp [S4.upto, S4.bytes])
      clear hX
      have H := Lib.hid (HN.out wx _ X hW hX8 (by rw [List.length_append, hl]; omega))
      have hji : (j : Int) < 4 := by omega
      go_wp2_with ((go_at_call 42; go_must (refine H.out.mono ?_); rintro e w2 ⟨rfl, hW2, hY2⟩))
      go_roundw
      case rel => exact ⟨j + 1, by omega, by go_num, by rw [← HE.out]; exact hW2, hY.trans hY2⟩
      case measure => simp [intOf]; omega
end Go.Proofs.YtipbjiepfnjojaaGreatDoor
namespace Go.Proofs.YtipbjiepfnjojaaGreatDoor
set_option maxRecDepth 100000
open Go.RowKit Go.Uc

theorem Rg.one {w0 w w' : World} {g at_ p t : Nat} {bs : List UInt8} {cs : Array Value} (h : Rg w0 w g bs at_) (hb : Blk w p t cs) (h1 : t ≠ 169) (h2 : t ≠ 5) (hn : w0.heap.size ≤ p) (hk : Keeps (Only p) w w') : Rg w0 w' g bs at_ := by
  obtain ⟨b, i1, i2, i3, i4, i5, i6, i7⟩ := h
  exact ⟨b, i1.one hk (i1.ne hb (Ne.symm h1)), i2.one hk (i2.ne hb (Ne.symm h2)), i3, i4, i5, i6, i7.then hk fun i hi e => by unfold Only at e; omega⟩
/-- A number of eight bytes at a place. -/
def n8 (bs : List UInt8) (k : Nat) : Nat := leVal ((bs.drop k).take 8)
def sumAt (bs : List UInt8) (k : Nat) : S4 := ⟨n8 bs k, n8 bs (k + 8), n8 bs (k + 16), n8 bs (k + 24)⟩
set_option maxHeartbeats 4000000 in
theorem takeSum110_any {w0 w : World} {g at_ : Nat} {bs : List UInt8} (h : Rg w0 w g bs at_) (hf : at_ + 32 ≤ bs.length) :
    Calls Tryz.prog 110 #[.pointer (some ⟨g, 0, none⟩)] w fun e w' => e = .returned (.agg (sumAt bs at_).cs) ∧ Rg w0 w' g bs (at_ + 32) ∧ Keeps (Only g) w w' := by
  have HN := Lib.hid (fun (V : World) (k : Nat) (hV : Rg w0 V g bs k) (hk : k + 8 ≤ bs.length) => rnum49_any hV 8 (by decide) (by decide) hk)
  have hgl : g < w.heap.size := by obtain ⟨b, i1, -⟩ := h; exact i1.lt
  have hB := Blk.new w 43 #[.int .u64 0, .int .u64 0, .int .u64 0, .int .u64 0]
  have hk := (Keeps.refl Non w).alloc (.cells #[.int .u64 0, .int .u64 0, .int .u64 0, .int .u64 0] 43)
  unfold sumAt S4.cs n8
  go_enter Tryz.func110, Tryz.ntmps110
  go_upto_region 1 with fail
  obtain ⟨w1, hw1⟩ : ∃ V : World, V = w.alloc (.cells #[.int .u64 0, .int .u64 0, .int .u64 0, .int .u64 0] 43) := ⟨_, rfl⟩
  rw [← hw1] at hB hk ⊢
  clear hw1
  obtain ⟨pb, hpb⟩ : ∃ z, z = w.heap.size := ⟨_, rfl⟩
  rw [← hpb] at hB hgl ⊢
  have hpg : pb ≠ g := by omega
  have hpw : w.heap.size ≤ pb := by omega
  clear hpb
  go_wp2_with fail
  refine (HN.out w1 at_ (h.non hk) (by omega)).mono ?_
  rintro e w2 ⟨rfl, hR2, hK2⟩
  go_wp2_with fail
  refine (HN.out w2 _ hR2 (by omega)).mono ?_
  rintro e w3 ⟨rfl, hR3, hK3⟩
  go_wp2_with fail
  refine (HN.out w3 _ hR3 (by omega)).mono ?_
  rintro e w4 ⟨rfl, hR4, hK4⟩
  go_wp2_with fail
  refine (HN.out w4 _ hR4 (by omega)).mono ?_
  rintro e w5 ⟨rfl, hR5, hK5⟩
  have hKx : Keeps (Only g) w1 w5 := ((hK2.trans hK3).trans hK4).trans hK5
  have hB5 := hB.one hKx hpg
  have hKy : Keeps (Only g) w w5 := (hk.of_non (S := Only g)).trans hKx
  have e16 : at_ + 8 + 8 = at_ + 16 := by omega
  have e24 : at_ + 8 + 8 + 8 = at_ + 24 := by omega
  have e32 : at_ + 8 + 8 + 8 + 8 = at_ + 32 := by omega
  rw [e32] at hR5
  have HE := Lib.hid (And.intro e16 e24)
  clear e16 e24 e32
  obtain ⟨a1, ha1⟩ : ∃ z, z = leVal ((bs.drop at_).take 8) := ⟨_, rfl⟩
  obtain ⟨a2, ha2⟩ : ∃ z, z = leVal ((bs.drop (at_ + 8)).take 8) := ⟨_, rfl⟩
  obtain ⟨a3, ha3⟩ : ∃ z, z = leVal ((bs.drop (at_ + 8 + 8)).take 8) := ⟨_, rfl⟩
  obtain ⟨a4, ha4⟩ : ∃ z, z = leVal ((bs.drop (at_ + 8 + 8 + 8)).take 8) := ⟨_, rfl⟩
  rw [← ha1, ← ha2, ← ha3, ← ha4]
  have HA := Lib.hid (And.intro ha1 (And.intro ha2 (And.intro ha3 ha4)))
  clear ha1 ha2 ha3 ha4
  go_wp2_with ((with_reducible show wpList _ _ _ ({ dst := none, op := Op.store 43 _ _, type := _, pos := _, after := _, guard := _ } :: _) _ _); go_must (refine wpList_store_blk rfl 43 (.tmp 2) (.tmp 11) rfl pb #[.int .u64 (a1 : Int), .int .u64 (a2 : Int), .int .u64 (a3 : Int), .int .u64 (a4 : Int)] rfl rfl 43 _ hB5 (by kernel_rfl) rfl (by kernel_rfl) ?_); intro w6 hB6 hK6)
  obtain ⟨q1, q2, q3, q4⟩ := HA.out
  refine bodyPost_ret (results_cell_blk (ty := 43) rfl _ pb 43 _ _ rfl hB6 Tryz.underlying43 rfl (by kernel_rfl)) rfl ⟨by rw [q1, q2, q3, q4, show at_ + 8 + 8 + 8 = at_ + 24 by omega, show at_ + 8 + 8 = at_ + 16 by omega], ?_, ?_⟩
  · exact hR5.one hB5 (by decide) (by decide) (by obtain ⟨b', i1, i2, i3, i4, i5, i6, i7⟩ := h; have := i7.size; omega) hK6
  · exact hKy.then hK6 fun i hi e => by unfold Only at e; omega
end Go.Proofs.YtipbjiepfnjojaaGreatDoor
namespace Go.Proofs.YtipbjiepfnjojaaGreatDoor
set_option maxRecDepth 100000
open Go.RowKit Go.Uc

theorem le_zero (k : Nat) : le k 0 = zeros k := by
  induction k with
  | zero => rfl
  | succ k ih => rw [le]; simp [ih, zeros, List.replicate_succ]
set_option maxHeartbeats 4000000 in
theorem layPtr0_any {w0 w : World} {g room : Nat} {bs : List UInt8} (h : Wr w0 w g room bs) (hf : bs.length + 48 ≤ room) (hr : room ≤ 1099511627776) :
    Calls Tryz.prog 108 #[.pointer (some ⟨g, 0, none⟩), .agg #[.int .i64 0, .int .i64 0, .int .i64 0, .int .u64 0, .int .i64 0, .int .u64 0, .int .u64 0, .int .u64 0, .int .u64 0]] w fun e w' => e = .returned (.tuple #[]) ∧ Wr w0 w' g room (bs ++ zeros 48) ∧ Oth w w' := by
  have HN : Hid (∀ (V : World) (m k : Nat), Wr w0 V g room (bs ++ zeros m) → 1 ≤ k → k ≤ 8 → m + k ≤ 48 → Calls Tryz.prog 42 #[.pointer (some ⟨g, 0, none⟩), .int .u64 0, .int .i64 (k : Int)] V fun e w' => e = .returned (.tuple #[]) ∧ Wr w0 w' g room (bs ++ zeros (m + k)) ∧ Oth V w') := Lib.hid (fun V m k hV h1 h8 hm => by
    have := num42_any hV 0 k h1 h8 (Nat.pow_pos (by decide)) (by rw [List.length_append, zeros_length]; omega) hr
    rw [le_zero, List.append_assoc, zeros_add] at this
    exact this)
  have HS : Hid (∀ V : World, Wr w0 V g room (bs ++ zeros 16) → Calls Tryz.prog 105 #[.pointer (some ⟨g, 0, none⟩), .agg #[.int .u64 0, .int .u64 0, .int .u64 0, .int .u64 0]] V fun e w' => e = .returned (.tuple #[]) ∧ Wr w0 w' g room (bs ++ zeros 48) ∧ Oth V w') := Lib.hid (fun V hV => by
    have := laySum_any hV ⟨0, 0, 0, 0⟩ ⟨by decide, by decide, by decide, by decide⟩ (by rw [List.length_append, zeros_length]; omega) hr
    rw [show S4.bytes ⟨0, 0, 0, 0⟩ = zeros 32 by unfold S4.bytes; simp only [le_zero, zeros_add], List.append_assoc, zeros_add] at this
    exact this)
  have hB := Blk.new w 45 #[.int .i64 0, .int .i64 0, .int .i64 0, .int .u64 0, .int .i64 0, .int .u64 0, .int .u64 0, .int .u64 0, .int .u64 0]
  have hk := (Keeps.refl Non w).alloc (.cells #[.int .i64 0, .int .i64 0, .int .i64 0, .int .u64 0, .int .i64 0, .int .u64 0, .int .u64 0, .int .u64 0, .int .u64 0] 45)
  go_enter Tryz.func108, Tryz.ntmps108
  go_upto_region 1 with fail
  have h1 : Wr w0 (w.alloc (.cells #[.int .i64 0, .int .i64 0, .int .i64 0, .int .u64 0, .int .i64 0, .int .u64 0, .int .u64 0, .int .u64 0, .int .u64 0] 45)) g room (bs ++ zeros 0) := by rw [show zeros 0 = [] from rfl, List.append_nil]; exact h.non hk
  obtain ⟨w1, hw1⟩ : ∃ V : World, V = w.alloc (.cells #[.int .i64 0, .int .i64 0, .int .i64 0, .int .u64 0, .int .i64 0, .int .u64 0, .int .u64 0, .int .u64 0, .int .u64 0] 45) := ⟨_, rfl⟩
  have hY1 := Oth.of hk
  rw [← hw1] at hB h1 hY1 ⊢
  clear hw1 hk
  obtain ⟨pb, hpb⟩ : ∃ z, z = w.heap.size := ⟨_, rfl⟩
  rw [← hpb] at hB ⊢
  clear hpb
  have HC : Hid (∀ V, Oth w1 V → ∀ i v, (#[.int .i64 0, .int .i64 0, .int .i64 0, .int .u64 0, .int .i64 0, .int .u64 0, .int .u64 0, .int .u64 0, .int .u64 0] : Array Value)[i]? = some v → V.cell? ⟨pb, i, none⟩ = some v) := Lib.hid (fun V hV i v hi => by rw [(hV pb 45 _ hB (by decide) (by decide)).cell]; exact hi)
  have x0 : w1.cell? ⟨pb, 0, none⟩ = some (.int .i64 0) := HC.out w1 (Oth.of (Keeps.refl _ _)) 0 _ rfl
  have H1 := Lib.hid (HN.out w1 0 1 h1 (by decide) (by decide) (by decide))
  clear hB
  go_upto_region 2 with ((go_at_call 42; go_must (refine H1.out.mono ?_); rintro e w2 ⟨rfl, hW2, hY2⟩))
  have x1 : w2.cell? ⟨pb, 4, none⟩ = some (.int .i64 0) := HC.out w2 hY2 4 _ rfl
  have H2 := Lib.hid (HN.out w2 1 1 hW2 (by decide) (by decide) (by decide))
  go_upto_region 3 with ((go_at_call 42; go_must (refine H2.out.mono ?_); rintro e w3 ⟨rfl, hW3, hY3⟩))
  have x2 : w3.cell? ⟨pb, 2, none⟩ = some (.int .i64 0) := HC.out w3 (hY2.trans hY3) 2 _ rfl
  have H3 := Lib.hid (HN.out w3 2 2 hW3 (by decide) (by decide) (by decide))
  go_upto_region 4 with ((go_at_call 42; go_must (refine H3.out.mono ?_); rintro e w4 ⟨rfl, hW4, hY4⟩))
  have x3 : w4.cell? ⟨pb, 1, none⟩ = some (.int .i64 0) := HC.out w4 ((hY2.trans hY3).trans hY4) 1 _ rfl
  have H4 := Lib.hid (HN.out w4 4 4 hW4 (by decide) (by decide) (by decide))
  go_upto_region 5 with ((go_at_call 42; go_must (refine H4.out.mono ?_); rintro e w5 ⟨rfl, hW5, hY5⟩))
  have hY15 := ((hY2.trans hY3).trans hY4).trans hY5
  have x4 : w5.cell? ⟨pb, 3, none⟩ = some (.int .u64 0) := HC.out w5 hY15 3 _ rfl
  have H5 := Lib.hid (HN.out w5 8 8 hW5 (by decide) (by decide) (by decide))
  go_upto_region 6 with ((go_at_call 42; go_must (refine H5.out.mono ?_); rintro e w6 ⟨rfl, hW6, hY6⟩))
  have hY16 := hY15.trans hY6
  have x5 : w6.cell? ⟨pb, 5, none⟩ = some (.int .u64 0) := HC.out w6 hY16 5 _ rfl
  have x6 : w6.cell? ⟨pb, 6, none⟩ = some (.int .u64 0) := HC.out w6 hY16 6 _ rfl
  have x7 : w6.cell? ⟨pb, 7, none⟩ = some (.int .u64 0) := HC.out w6 hY16 7 _ rfl
  have x8 : w6.cell? ⟨pb, 8, none⟩ = some (.int .u64 0) := HC.out w6 hY16 8 _ rfl
  have H6 := Lib.hid (HS.out w6 hW6)
  go_wp2_with ((go_at_call 105; go_must (refine H6.out.mono ?_); rintro e w7 ⟨rfl, hW7, hY7⟩))
  go_end0
  exact ⟨rfl, hW7, (hY1.trans hY16).trans hY7⟩
end Go.Proofs.YtipbjiepfnjojaaGreatDoor
namespace Go.Proofs.YtipbjiepfnjojaaGreatDoor
set_option maxRecDepth 100000
open Go.RowKit Go.Uc

/-- What an uberblock says of itself, its root all noughts. -/
def uberH (pool txg note : Nat) : List UInt8 := [85, 67, 85, 66] ++ le 8 pool ++ le 8 txg ++ le 8 note ++ zeros 48
set_option maxHeartbeats 4000000 in
theorem layUber_any {w0 w : World} {g room : Nat} (h : Wr w0 w g room []) (pool txg note : Nat) (hp : pool < 18446744073709551616) (ht : txg < 18446744073709551616) (hn : note < 18446744073709551616) (hf : 76 ≤ room) (hr : room ≤ 1099511627776) :
    Calls Tryz.prog 69 #[.pointer (some ⟨g, 0, none⟩), .agg #[.int .u64 (pool : Int), .int .u64 (txg : Int), .int .u64 (note : Int), .int .i64 0, .int .i64 0, .int .i64 0, .int .u64 0, .int .i64 0, .int .u64 0, .int .u64 0, .int .u64 0, .int .u64 0]] w fun e w' => e = .returned (.tuple #[]) ∧ Wr w0 w' g room (uberH pool txg note) ∧ Oth w w' := by
  have HN : Hid (∀ (V : World) (xs : List UInt8) (n : Nat), Wr w0 V g room xs → n < 18446744073709551616 → xs.length + 8 ≤ room → Calls Tryz.prog 42 #[.pointer (some ⟨g, 0, none⟩), .int .u64 (n : Int), .int .i64 8] V fun e w' => e = .returned (.tuple #[]) ∧ Wr w0 w' g room (xs ++ le 8 n) ∧ Oth V w') := Lib.hid (fun V xs n hV hn hx => num42_any hV n 8 (by decide) (by decide) hn hx hr)
  have HB : Hid (∀ (V : World) (b : Nat), Wr w0 V g room [] → At V (some ⟨b, 0, none⟩) [85, 67, 85, 66] → Calls Tryz.prog 43 #[.pointer (some ⟨g, 0, none⟩), .slice (some ⟨b, 0, none⟩) 4 4] V fun e w' => e = .returned (.tuple #[]) ∧ Wr w0 w' g room [85, 67, 85, 66] ∧ Oth V w') := Lib.hid (fun V b hV hb => bytes43_any hV (some ⟨b, 0, none⟩) 4 [85, 67, 85, 66] hb (by show 0 + 4 ≤ room; omega) hr)
  have HPt : Hid (∀ (V : World) (xs : List UInt8), Wr w0 V g room xs → xs.length + 48 ≤ room → Calls Tryz.prog 108 #[.pointer (some ⟨g, 0, none⟩), .agg #[.int .i64 0, .int .i64 0, .int .i64 0, .int .u64 0, .int .i64 0, .int .u64 0, .int .u64 0, .int .u64 0, .int .u64 0]] V fun e w' => e = .returned (.tuple #[]) ∧ Wr w0 w' g room (xs ++ zeros 48) ∧ Oth V w') := Lib.hid (fun V xs hV hx => layPtr0_any hV hx hr)
  have hB := Blk.new w 47 #[.int .u64 (pool : Int), .int .u64 (txg : Int), .int .u64 (note : Int), .int .i64 0, .int .i64 0, .int .i64 0, .int .u64 0, .int .i64 0, .int .u64 0, .int .u64 0, .int .u64 0, .int .u64 0]
  have hk := (Keeps.refl Non w).alloc (.cells #[.int .u64 (pool : Int), .int .u64 (txg : Int), .int .u64 (note : Int), .int .i64 0, .int .i64 0, .int .i64 0, .int .u64 0, .int .i64 0, .int .u64 0, .int .u64 0, .int .u64 0, .int .u64 0] 47)
  go_enter Tryz.func69, Tryz.ntmps69
  go_upto_region 1 with fail
  have h1 := h.non hk
  obtain ⟨w1, hw1⟩ : ∃ V : World, V = w.alloc (.cells #[.int .u64 (pool : Int), .int .u64 (txg : Int), .int .u64 (note : Int), .int .i64 0, .int .i64 0, .int .i64 0, .int .u64 0, .int .i64 0, .int .u64 0, .int .u64 0, .int .u64 0, .int .u64 0] 47) := ⟨_, rfl⟩
  have hY1 := Oth.of hk
  rw [← hw1] at hB h1 hY1 ⊢
  clear hw1 hk
  obtain ⟨pb, hpb⟩ : ∃ z, z = w.heap.size := ⟨_, rfl⟩
  rw [← hpb] at hB ⊢
  clear hpb
  have HC : Hid (∀ V, Oth w1 V → ∀ i v, (#[.int .u64 (pool : Int), .int .u64 (txg : Int), .int .u64 (note : Int), .int .i64 0, .int .i64 0, .int .i64 0, .int .u64 0, .int .i64 0, .int .u64 0, .int .u64 0, .int .u64 0, .int .u64 0] : Array Value)[i]? = some v → V.cell? ⟨pb, i, none⟩ = some v) := Lib.hid (fun V hV i v hi => by rw [(hV pb 47 _ hB (by decide) (by decide)).cell]; exact hi)
  clear hB
  have hka := (Keeps.refl Non w1).alloc (.cells #[.int .u8 85, .int .u8 67, .int .u8 85, .int .u8 66] 5 (4, 5))
  have H0 := Lib.hid (HB.out _ w1.heap.size (h1.non hka) (At.lit w1 5 (4, 5) _ [85, 67, 85, 66] rfl))
  have hcv : (convert 55 55 (.slice (some ⟨w1.heap.size, 0, none⟩) 4 4)).run Tryz.prog (w1.alloc (.cells #[.int .u8 85, .int .u8 67, .int .u8 85, .int .u8 66] 5)) = .ok (.slice (some ⟨w1.heap.size, 0, none⟩) 4 4) (w1.alloc (.cells #[.int .u8 85, .int .u8 67, .int .u8 85, .int .u8 66] 5 (4, 5))) := Joins.run_convert_bytes_const_at w1 55 5 #[.int .u8 85, .int .u8 67, .int .u8 85, .int .u8 66] 4 4 w1.heap.size rfl Tryz.underlying55 Tryz.underlying5
  go_upto_region 2 with ((go_at_call 43; go_must (refine H0.out.mono ?_); rintro e w2 ⟨rfl, hW2, hY2'⟩))
  have hY2 := (Oth.of hka).trans hY2'
  have x0 : w2.cell? ⟨pb, 0, none⟩ = some (.int .u64 (pool : Int)) := HC.out w2 hY2 0 _ rfl
  have H1 := Lib.hid (HN.out w2 _ pool hW2 hp (by show 4 + 8 ≤ room; omega))
  clear hka hY2'
  go_upto_region 3 with ((go_at_call 42; go_must (refine H1.out.mono ?_); rintro e w3 ⟨rfl, hW3, hY3⟩))
  have x1 : w3.cell? ⟨pb, 1, none⟩ = some (.int .u64 (txg : Int)) := HC.out w3 (hY2.trans hY3) 1 _ rfl
  have H2 := Lib.hid (HN.out w3 _ txg hW3 ht (by simp [le_length]; omega))
  go_upto_region 4 with ((go_at_call 42; go_must (refine H2.out.mono ?_); rintro e w4 ⟨rfl, hW4, hY4⟩))
  have hY14 := (hY2.trans hY3).trans hY4
  have x2 : w4.cell? ⟨pb, 2, none⟩ = some (.int .u64 (note : Int)) := HC.out w4 hY14 2 _ rfl
  have H3 := Lib.hid (HN.out w4 _ note hW4 hn (by simp [le_length]; omega))
  go_upto_region 5 with ((go_at_call 42; go_must (refine H3.out.mono ?_); rintro e w5 ⟨rfl, hW5, hY5⟩))
  have hY15 := hY14.trans hY5
  have y0 : w5.cell? ⟨pb, 3, none⟩ = some (.int .i64 0) := HC.out w5 hY15 3 _ rfl
  have y1 : w5.cell? ⟨pb, 4, none⟩ = some (.int .i64 0) := HC.out w5 hY15 4 _ rfl
  have y2 : w5.cell? ⟨pb, 5, none⟩ = some (.int .i64 0) := HC.out w5 hY15 5 _ rfl
  have y3 : w5.cell? ⟨pb, 6, none⟩ = some (.int .u64 0) := HC.out w5 hY15 6 _ rfl
  have y4 : w5.cell? ⟨pb, 7, none⟩ = some (.int .i64 0) := HC.out w5 hY15 7 _ rfl
  have y5 : w5.cell? ⟨pb, 8, none⟩ = some (.int .u64 0) := HC.out w5 hY15 8 _ rfl
  have y6 : w5.cell? ⟨pb, 9, none⟩ = some (.int .u64 0) := HC.out w5 hY15 9 _ rfl
  have y7 : w5.cell? ⟨pb, 10, none⟩ = some (.int .u64 0) := HC.out w5 hY15 10 _ rfl
  have y8 : w5.cell? ⟨pb, 11, none⟩ = some (.int .u64 0) := HC.out w5 hY15 11 _ rfl
  have H5 := Lib.hid (HPt.out w5 _ hW5 (by simp [le_length]; omega))
  go_wp2_with ((go_at_call 108; go_must (refine H5.out.mono ?_); rintro e w6 ⟨rfl, hW6, hY6⟩))
  go_end0
  exact ⟨rfl, hW6, (hY1.trans hY15).trans hY6⟩
end Go.Proofs.YtipbjiepfnjojaaGreatDoor
