/- A replica asks and stands as the document's. -/
import Derived.Test.YteigjlkgbpgkjaaR20
import Derived.StillTailTactics
import Derived.Deep.Cut
import Derived.Deep.CutRange
namespace Go.Proofs.Yteigjlkgbpgkjaa
open Go.RowKit Go.Uc

theorem owned_one {g n c k : Nat} : Owned (.slice (some ⟨g, 0, none⟩) n c) k ↔ k = g := by simp [Owned, Value.ownBlock, eq_comm]
/-- They can't be told apart. -/
def Alike (x y : St) : Prop := x.how = y.how ∧ x.has = y.has ∧ x.why = y.why ∧ (x.how = 0 → x = y)
/-- A replica of the program and one of the document, both younger than the law's call. -/
structure Pair (w0 w : World) (g q : Nat) (j : Job) (x y : St) : Prop where
  rep : ∃ on pv, RepS w g on j x pv ∧ OwnB w 0 5 pv x.piece
  doc : DocR w0 w q j y
  step : x.at_ < 6
  len : x.piece.length ≤ 140737488355328
  ali : Alike x y
  kp : Keeps Non w0 w
  gg : w0.heap.size ≤ g
  qq : w0.heap.size ≤ q
theorem alike_next (j : Job) {x y : St} (h : Alike x y) : nextV j y = nextV j x ∧ nextW y = nextW x ∧ decide (y.how = 0) = decide (x.how = 0) := by
  obtain ⟨h1, -, -, h4⟩ := h
  by_cases h0 : x.how = 0
  · rw [h4 h0]; exact ⟨rfl, rfl, rfl⟩
  · have h0' : ¬ y.how = 0 := by rw [← h1]; exact h0
    unfold nextV nextW
    rw [if_neg h0, if_neg h0, if_neg h0', if_neg h0', h1]
    exact ⟨rfl, rfl, rfl⟩
section
variable {g q : Nat} {on : Option Nat} {j : Job} {x y : St} {pv : Value}
theorem next_any (w : World) (h : RepS w g on j x pv) (hk : x.at_ < 6) (hO : OwnB w 0 5 pv x.piece) (hn : x.piece.length ≤ 140737488355328) :
    Calls Try.prog 11 #[.pointer (some ⟨g, 0, none⟩)] w fun en w' => ∃ on' dv, en = .returned (.tuple #[.agg (rqC (nextV j x) dv), .int .i64 (nextW x), .bool (decide (x.how = 0))]) ∧ OwnB w' w.heap.size 5 dv (nextV j x).data ∧ RepS w' g on' j x pv ∧ Keeps (Only g) w w' := by
  by_cases h0 : x.how = 0
  · refine (next_on w h hk h0 hO hn).mono ?_
    rintro en w' ⟨gs, dv, rfl, h1, h2, h3⟩
    refine ⟨some gs, dv, ?_, ?_, h2, h3⟩
    · rw [show nextW x = whoK x.at_ from if_pos h0, decide_eq_true h0]
    · rw [show nextV j x = { askV j x with ses := j.ses, id := x.id } from if_pos h0]; exact h1
  · refine (next_off w h h0).mono ?_
    rintro en w' ⟨rfl, h1⟩
    refine ⟨on, .slice none 0 0, ?_, ?_, h.non h1, h1.of_non⟩
    · rw [show nextW x = 0 from if_neg h0, decide_eq_false h0, show nextV j x = Rq.none from if_neg h0]
    · rw [show nextV j x = Rq.none from if_neg h0]; exact OwnB.nil _ _ _
theorem rnext_any (w0 w : World) (hB : Blk w q 64 (docC j x pv)) (hpv : PcA w0 pv x.piece) (hk : x.how = 0 → x.at_ < 6) :
    Calls Try.prog 8 #[.pointer (some ⟨q, 0, none⟩)] w fun en w' => ∃ dv, en = .returned (.tuple #[.agg (rqC (nextV j x) dv), .int .i64 (nextW x), .bool (decide (x.how = 0))]) ∧ PcA w0 dv (nextV j x).data ∧ Keeps Non w w' := by
  by_cases h0 : x.how = 0
  · refine (rnext_on w0 w hB hpv (hk h0) h0).mono ?_
    rintro en w' ⟨dv, rfl, h1, h2⟩
    exact ⟨dv, by rw [show nextW x = whoK x.at_ from if_pos h0, decide_eq_true h0], h1, h2⟩
  · refine (rnext_off w hB h0).mono ?_
    rintro en w' ⟨rfl, h1⟩
    refine ⟨.slice none 0 0, ?_, ?_, h1⟩
    · rw [show nextW x = 0 from if_neg h0, decide_eq_false h0, show nextV j x = Rq.none from if_neg h0]
    · rw [show nextV j x = Rq.none from if_neg h0]; exact ⟨none, 0, rfl, At.nil _ _⟩
theorem RepS.owned {w w' : World} {B n : Nat} {v : Value} {xs : List Value} (h : RepS w g on j x pv) (hO : w.ownsRow B 5 1 v n xs) (hk : Keeps (Owned v) w w') : RepS w' g on j x pv := by
  rcases h with ⟨h1, h⟩ | ⟨gs, h1, h, h2⟩
  · exact .inl ⟨h1, h.keep hk fun e => Blk.apart h hO (by decide) g e rfl⟩
  · exact .inr ⟨gs, h1, h.keep hk fun e => Blk.apart h hO (by decide) g e rfl, h2.keep hk fun e => Blk.apart h2 hO (by decide) gs e rfl⟩
/-- What one wrote into, and what lies below it. -/
theorem OwnB.far {w w' : World} {B B' : Nat} {v u : Value} {bs : List UInt8} (h : OwnB w B 5 u bs) (hk : Keeps (Owned v) w w') (hv : ∀ i, Owned v i → B' ≤ i) (hu : ∀ i, u.ownBlock = some i → i < B') : OwnB w' B 5 u bs :=
  h.keep hk fun i hi e => by have := hv i e; have := hu i hi; omega
theorem OwnB.young {w : World} {B : Nat} {v : Value} {bs : List UInt8} (h : OwnB w B 5 v bs) : ∀ i, Owned v i → B ≤ i := fun i e => by
  obtain ⟨A, c, -, -, -, h3⟩ := h.open
  rcases h.form with ⟨rfl, -⟩ | ⟨g, cap, cur, rfl, hB, -⟩
  · cases e
  · simp [Owned, Value.ownBlock] at e
    omega
theorem OwnB.old {w : World} {B : Nat} {v : Value} {bs : List UInt8} (h : OwnB w B 5 v bs) : ∀ i, v.ownBlock = some i → i < w.heap.size := fun i e => by
  rcases h.form with ⟨rfl, -⟩ | ⟨g, cap, cur, rfl, hB, hb, -⟩
  · cases e
  · simp [Value.ownBlock] at e
    have := hb.lt
    omega
set_option maxRecDepth 100000 in
set_option maxHeartbeats 8000000 in
theorem same_any (w0 w : World) (h : Pair w0 w g q j x y) :
    Calls Try.prog 7 #[.pointer (some ⟨g, 0, none⟩), .pointer (some ⟨q, 0, none⟩)] w fun en w' => en = .returned (.bool true) ∧ Pair w0 w' g q j x y ∧ Keeps (Only g) w w' := by
  obtain ⟨on, pv, hr, hO⟩ := h.rep
  obtain ⟨pvy, hB, hpy⟩ := h.doc
  obtain ⟨dg, sg, hG, -⟩ := hr.blk
  have hqg : q ≠ g := hB.ne hG (by decide)
  have hnx := next_any w hr h.step hO h.len
  obtain ⟨e1, e2, e3⟩ := alike_next j h.ali
  have hny := fun W (hb : Blk W q 64 (docC j y pvy)) => rnext_any w0 W hb hpy (fun h0 => by rw [← h.ali.2.2.2 (h.ali.1.trans h0)]; exact h.step)
  rw [e1, e2, e3] at hny
  obtain ⟨R, hR⟩ : ∃ R, R = nextV j x := ⟨_, rfl⟩
  obtain ⟨vw, hvw⟩ : ∃ v, v = nextW x := ⟨_, rfl⟩
  obtain ⟨vb, hvb⟩ : ∃ v, v = decide (x.how = 0) := ⟨_, rfl⟩
  rw [← hR, ← hvw, ← hvb] at hnx hny
  unfold rqC at hnx hny
  obtain ⟨ph, hph⟩ : ∃ p, p = pv := ⟨_, rfl⟩
  have HOo : Hid (∀ i, pv.ownBlock = some i → i < w.heap.size) := hO.old
  have HAP : Hid (∀ i, pv.ownBlock = some i → i ≠ g) := Blk.apart hG hO (by decide)
  have HNX := Lib.hid hnx
  have HNY := Lib.hid hny
  have HP := Lib.hid h
  have HB := Lib.hid hB
  have HPY := Lib.hid hpy
  have HO := Lib.hid hO
  clear h hr hO hB hpy hG hnx hny e1 e2 e3 hR hvw hvb hph
  go_enter Try.func7, Try.ntmps7
  go_upto_region 2 with (go_at_call 11; go_must (refine HNX.out.mono ?_); rintro en w1 ⟨on1, dv, rfl, hOd, h1, hK1⟩; obtain ⟨Av, cv, rfl, -, hAv, -⟩ := id hOd.open)
  obtain ⟨a, ha⟩ : ∃ a, a = w1.heap.size := ⟨_, rfl⟩
  obtain ⟨w2, hw2⟩ : ∃ W, W = w1.alloc (.cells #[.int .i64 R.ses, .int .i64 R.id, .int .i64 R.verb, .string R.name, .string R.item, .string R.other, .string R.path, .int .i64 R.at_, .int .i64 R.many, .slice Av R.data.length cv] 41) := ⟨_, rfl⟩
  have hk2 : Keeps Non w1 w2 := by rw [hw2]; exact (Keeps.refl _ _).alloc _
  have ha2 : Blk w2 a 41 #[.int .i64 R.ses, .int .i64 R.id, .int .i64 R.verb, .string R.name, .string R.item, .string R.other, .string R.path, .int .i64 R.at_, .int .i64 R.many, .slice Av R.data.length cv] := by rw [hw2, ha]; exact Blk.new _ _ _
  have hB2 := (HB.out.one hK1 hqg).non hk2
  have HNY2 := Lib.hid (HNY.out w2 hB2)
  rw [← hw2, ← ha]
  clear hw2 ha
  go_upto_region 3 with (go_at_call 8; go_must (refine HNY2.out.mono ?_); rintro en w3 ⟨dw, rfl, hdw, hK3⟩; obtain ⟨Ad, cd, rfl, hAd⟩ := id hdw)
  obtain ⟨b, hb⟩ : ∃ b, b = w3.heap.size := ⟨_, rfl⟩
  obtain ⟨w4, hw4⟩ : ∃ W, W = w3.alloc (.cells #[.int .i64 R.ses, .int .i64 R.id, .int .i64 R.verb, .string R.name, .string R.item, .string R.other, .string R.path, .int .i64 R.at_, .int .i64 R.many, .slice Ad R.data.length cd] 41) := ⟨_, rfl⟩
  have hk4 : Keeps Non w3 w4 := by rw [hw4]; exact (Keeps.refl _ _).alloc _
  have hb4 : Blk w4 b 41 #[.int .i64 R.ses, .int .i64 R.id, .int .i64 R.verb, .string R.name, .string R.item, .string R.other, .string R.path, .int .i64 R.at_, .int .i64 R.many, .slice Ad R.data.length cd] := by rw [hw4, hb]; exact Blk.new _ _ _
  have ha4 := (ha2.non hK3).non hk4
  have hk14 : Keeps Non w1 w4 := (hk2.trans hK3).trans hk4
  have hO4 : OwnB w4 w.heap.size 5 (.slice Av R.data.length cv) R.data := hOd.non hk14
  have h4 := h1.non hk14
  have hB4 := (hB2.non hK3).non hk4
  have hk04 : Keeps (Only g) w w4 := hK1.trans hk14.of_non
  have HSR := Lib.hid (sameReq R Av cv Ad cd w4 (hAv.non hk14) (hAd.non (HP.out.kp.then hk04 fun i hi e => by have := HP.out.gg; unfold Only at e; omega)))
  have ax0 : w4.cell? ⟨a, 0, none⟩ = some (.int .i64 R.ses) := ha4.cell 0
  have ax1 : w4.cell? ⟨a, 1, none⟩ = some (.int .i64 R.id) := ha4.cell 1
  have ax2 : w4.cell? ⟨a, 2, none⟩ = some (.int .i64 R.verb) := ha4.cell 2
  have ax3 : w4.cell? ⟨a, 3, none⟩ = some (.string R.name) := ha4.cell 3
  have ax4 : w4.cell? ⟨a, 4, none⟩ = some (.string R.item) := ha4.cell 4
  have ax5 : w4.cell? ⟨a, 5, none⟩ = some (.string R.other) := ha4.cell 5
  have ax6 : w4.cell? ⟨a, 6, none⟩ = some (.string R.path) := ha4.cell 6
  have ax7 : w4.cell? ⟨a, 7, none⟩ = some (.int .i64 R.at_) := ha4.cell 7
  have ax8 : w4.cell? ⟨a, 8, none⟩ = some (.int .i64 R.many) := ha4.cell 8
  have bx0 : w4.cell? ⟨b, 0, none⟩ = some (.int .i64 R.ses) := hb4.cell 0
  have bx1 : w4.cell? ⟨b, 1, none⟩ = some (.int .i64 R.id) := hb4.cell 1
  have bx2 : w4.cell? ⟨b, 2, none⟩ = some (.int .i64 R.verb) := hb4.cell 2
  have bx3 : w4.cell? ⟨b, 3, none⟩ = some (.string R.name) := hb4.cell 3
  have bx4 : w4.cell? ⟨b, 4, none⟩ = some (.string R.item) := hb4.cell 4
  have bx5 : w4.cell? ⟨b, 5, none⟩ = some (.string R.other) := hb4.cell 5
  have bx6 : w4.cell? ⟨b, 6, none⟩ = some (.string R.path) := hb4.cell 6
  have bx7 : w4.cell? ⟨b, 7, none⟩ = some (.int .i64 R.at_) := hb4.cell 7
  have bx8 : w4.cell? ⟨b, 8, none⟩ = some (.int .i64 R.many) := hb4.cell 8
  have ax9 : w4.cell? ⟨a, 9, none⟩ = some (.slice Av R.data.length cv) := ha4.cell 9
  have bx9 : w4.cell? ⟨b, 9, none⟩ = some (.slice Ad R.data.length cd) := hb4.cell 9
  rw [← hw4, ← hb]
  have F4 := Lib.hid (And.intro h4 (And.intro hB4 (And.intro hO4 (And.intro ha4 hk04))))
  clear hw4 hb hk4 hb4 ha4 hk14 hO4 h4 hB4 hk04 hAd hdw hK3 ha2 hB2 HNY2 hk2 hOd h1 hK1 hAv HNX HNY
  go_upto_region 4 with (go_at_call 13; go_must (refine HSR.out.mono ?_); rintro en w5 ⟨rfl, hK5⟩)
  clear ax0 ax1 ax2 ax3 ax4 ax5 ax6 ax7 ax8 bx0 bx1 bx2 bx3 bx4 bx5 bx6 bx7 bx8 bx9
  have h5 := F4.out.1.non hK5
  have hB5 := F4.out.2.1.non hK5
  have hO5 : w5.ownsRow w.heap.size 5 1 (.slice Av R.data.length cv) R.data.length (R.data.map bv) := F4.out.2.2.1.non hK5
  have ha5 := F4.out.2.2.2.1.non hK5
  have hk05 : Keeps (Only g) w w5 := F4.out.2.2.2.2.non hK5
  have HY : Hid (∀ i, Owned (.slice Av R.data.length cv) i → w.heap.size ≤ i) := OwnB.young (w := w5) (bs := R.data) hO5
  have HNA : Hid (¬ Owned (.slice Av R.data.length cv) a) := fun e => Blk.apart ha5 hO5 (by decide) a e rfl
  have HNQ : Hid (¬ Owned (.slice Av R.data.length cv) q) := fun e => Blk.apart hB5 hO5 (by decide) q e rfl
  have F5 := Lib.hid (And.intro h5 (And.intro hB5 (And.intro ha5 (And.intro hk05 hO5))))
  obtain ⟨n, hn⟩ : ∃ n, n = R.data.length := ⟨_, rfl⟩
  have hnl : Hid (n ≤ 140737488355328 ∨ True) := .inr trivial
  clear h5 hB5 ha5 hk05 hK5 F4 ax9
  rw [← hn] at F5 HY HNA HNQ hO5
  obtain ⟨xs, hxs⟩ : ∃ xs, xs = R.data.map bv := ⟨_, rfl⟩
  rw [← hxs] at hO5
  have HN := Lib.hid hn
  clear hn hxs
  clear hO5
  go_wp2_with fail
  go_loopw [12] (fun i wr => ∃ (k : Nat) (xs : List Value), k ≤ n ∧ i = .int .i64 k ∧ wr.ownsRow w.heap.size 5 1 (.slice Av n cv) n xs ∧ Keeps (Owned (.slice Av n cv)) w5 wr) (fun i _ => n - (intOf i).toNat)
  case atStart => exact ⟨0, _, Nat.zero_le _, rfl, F5.out.2.2.2.2, Keeps.refl _ _⟩
  case round =>
    obtain ⟨k, cu, hk, rfl, hOr, hK⟩ := hrel
    have ax9 : wr.cell? ⟨a, 9, none⟩ = some (.slice Av n cv) := (F5.out.2.2.1.keep hK HNA.out).cell 9
    by_cases hlt : k < n
    · obtain ⟨gd, cap', cur, e1, h2, h3, h4, h5, h6, h7⟩ := row_form hOr (by omega)
      injection e1 with e1 _ e2
      subst e1 e2
      obtain ⟨v, hc2⟩ : ∃ v, wr.cell? ⟨gd, k, none⟩ = some v := ⟨_, by rw [h3.cell]; exact Array.getElem?_eq_getElem (by omega)⟩
      have hf := h3.frozen k
      have hO' := row_set hOr hlt (.int .u8 99)
      have hK' := hK.set (p := ⟨gd, k, none⟩) (owned_one.2 rfl) (.int .u8 99)
      unfold maxLen at h5
      clear h7 h6 h3 hOr hK
      go_wp2_with fail
      go_roundw
      case rel => exact ⟨k + 1, _, by omega, by go_num, hO', hK'⟩
      case measure => simp [intOf]; omega
    · obtain rfl : k = n := by omega
      have hr6 := F5.out.1.owned F5.out.2.2.2.2 hK
      have hk6 : Keeps (Only g) w wr := F5.out.2.2.2.1.then hK fun i hi e => absurd (HY.out i e) (by omega)
      have hB6 := F5.out.2.1.keep hK HNQ.out
      have hO6 : OwnB wr 0 5 pv x.piece := OwnB.far (OwnB.keep HO.out F5.out.2.2.2.1 HAP.out) hK HY.out HOo.out
      have HST := Lib.hid (state_any wr hr6)
      have F6 := Lib.hid (And.intro hr6 (And.intro hk6 (And.intro hB6 hO6)))
      clear hr6 hk6 hB6 hO6 hK hOr
      go_upto_region 9 with (go_at_call 12; go_must (refine HST.out.mono ?_); rintro en w7 ⟨rfl, hK7⟩)
      have hB7 := F6.out.2.2.1.non hK7
      have d13 : w7.cell? ⟨q, 13, none⟩ = some (.int .i64 x.how) := by rw [HP.out.ali.1]; exact hB7.cell 13
      have d10 : w7.cell? ⟨q, 10, none⟩ = some (.int .i64 x.has) := by rw [HP.out.ali.2.1]; exact hB7.cell 10
      have d14 : w7.cell? ⟨q, 14, none⟩ = some (.int .i64 x.why) := by rw [HP.out.ali.2.2.1]; exact hB7.cell 14
      have q1 : (vw == vw) = true := by simp
      have q2 : (vb == vb) = true := by simp
      have q3 : (x.how == x.how) = true := by simp
      have q4 : (x.has == x.has) = true := by simp
      have q5 : (x.why == x.why) = true := by simp
      have F7 := Lib.hid (And.intro hB7 hK7)
      clear hB7 hK7 ax9 HST
      go_wp2_with fail
      go_ret
      have hkk := F6.out.2.1.non F7.out.2
      exact ⟨rfl, ⟨⟨on1, pv, F6.out.1.non F7.out.2, F6.out.2.2.2.non F7.out.2⟩, ⟨pvy, F7.out.1, HPY.out⟩, HP.out.step, HP.out.len, HP.out.ali, HP.out.kp.then hkk (fun i hi e => by have := HP.out.gg; unfold Only at e; omega), HP.out.gg, HP.out.qq⟩, hkk⟩
end
end Go.Proofs.Yteigjlkgbpgkjaa
