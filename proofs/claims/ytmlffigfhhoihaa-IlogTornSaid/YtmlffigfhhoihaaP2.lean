/- The plain law of the log: what was written where Append said is found again. -/
import Derived.Test.YtmlffigfhhoihaaT13
namespace Go.Proofs.Ytmlffigfhhoihaa
open Go.RowKit Go.Uc

theorem lay_before {xs R : List UInt8} {o i n : Nat} (ho : o ≤ xs.length) (h : i + n ≤ o) : sub (lay xs o R) i n = sub xs i n := by
  have e : (xs.take o).length = o := by simp; omega
  unfold lay
  rw [sub_append_left _ _ _ _ (by omega)]
  simp only [sub, List.drop_take, List.take_take]
  rw [Nat.min_eq_left (by omega)]
theorem lay_in {xs R : List UInt8} {o i n : Nat} (ho : o ≤ xs.length) (h : i + n ≤ R.length) : sub (lay xs o R) (o + i) n = sub R i n := by
  have e : (xs.take o).length = o := by simp; omega
  have := sub_append_right (xs.take o) (R ++ xs.drop (o + R.length)) i n
  rw [e] at this
  unfold lay
  rw [this, sub_append_left _ _ _ _ h]
theorem lay_behind {xs R : List UInt8} {o i n : Nat} (ho : o ≤ xs.length) (h : o + R.length ≤ i) : sub (lay xs o R) i n = sub xs i n := by
  have e : (xs.take o).length = o := by simp; omega
  have h1 := sub_append_right (xs.take o) (R ++ xs.drop (o + R.length)) (R.length + (i - (o + R.length))) n
  have h2 := sub_append_right R (xs.drop (o + R.length)) (i - (o + R.length)) n
  rw [e, h2, show o + (R.length + (i - (o + R.length))) = i by omega] at h1
  unfold lay
  rw [h1]
  simp only [sub, List.drop_drop]
  congr 2
  omega

/-- Records that stand one behind the other. -/
def Chain (reg : List UInt8) (base : Nat) : Nat → Nat → List (List UInt8) → Nat → Prop
  | at_, _, [], e => at_ = e
  | at_, next, b :: ls, e => b.length ≤ 4096 ∧ at_ + 88 * pieces b.length ≤ 22528 ∧ sub reg at_ (88 * pieces b.length) = recB base next b ∧ Chain reg base (at_ + 88 * pieces b.length) (next + 1) ls e
theorem Chain.le {reg : List UInt8} {base : Nat} : ∀ {ls : List (List UInt8)} {at_ next e : Nat}, Chain reg base at_ next ls e → at_ ≤ e
  | [], _, _, _, h => Nat.le_of_eq h
  | _ :: _, _, _, _, h => Nat.le_trans (Nat.le_add_right _ _) h.2.2.2.le
theorem Chain.scan {reg : List UInt8} {base : Nat} (f : Nat) : ∀ {ls : List (List UInt8)} {at_ next e : Nat}, Chain reg base at_ next ls e →
    scanF reg base (ls.length + f) at_ next = (ls ++ (scanF reg base f e (next + ls.length)).1, (scanF reg base f e (next + ls.length)).2)
  | [], at_, next, e, h => by
    cases h
    simp
  | b :: ls, at_, next, e, h => by
    obtain ⟨h1, h2, h3, h4⟩ := h
    rw [List.length_cons, show ls.length + 1 + f = (ls.length + f) + 1 by omega, scanF, recOf_written h1 h2 h3]
    simp only
    rw [h4.scan f]
    simp [show next + 1 + ls.length = next + (ls.length + 1) by omega]
theorem Chain.lay {reg : List UInt8} {base o : Nat} {R : List UInt8} (ho : o ≤ reg.length) : ∀ {ls : List (List UInt8)} {at_ next e : Nat}, Chain reg base at_ next ls e → e ≤ o → Chain (lay reg o R) base at_ next ls e
  | [], _, _, _, h, _ => h
  | _ :: _, _, _, _, ⟨h1, h2, h3, h4⟩, he => ⟨h1, h2, by rw [lay_before ho (Nat.le_trans h4.le he)]; exact h3, h4.lay ho he⟩
theorem Chain.snoc {reg : List UInt8} {base : Nat} {b : List UInt8} : ∀ {ls : List (List UInt8)} {at_ next e : Nat}, Chain reg base at_ next ls e → b.length ≤ 4096 → e + 88 * pieces b.length ≤ 22528 →
    sub reg e (88 * pieces b.length) = recB base (next + ls.length) b → Chain reg base at_ next (ls ++ [b]) (e + 88 * pieces b.length)
  | [], _, _, _, h, h1, h2, h3 => by
    cases h
    exact ⟨h1, h2, by simpa using h3, rfl⟩
  | _ :: ls, at_, next, e, ⟨g1, g2, g3, g4⟩, h1, h2, h3 => ⟨g1, g2, g3, g4.snoc h1 h2 (by rw [List.length_cons] at h3; rw [show next + 1 + ls.length = next + (ls.length + 1) by omega]; exact h3)⟩

/-- What writing keeps to: the records stand, in whole pieces; each piece behind them is as it was. -/
structure WInv (base : Nat) (reg0 : List UInt8) (s : WS) : Prop where
  ok : WOk s
  chain : Chain s.reg base 0 1 s.ls s.at_
  whole : ∃ q, s.at_ = 88 * q
  own : ∀ j, 88 * j < s.at_ → sub s.reg (88 * j) 8 = le 8 base
  old : ∀ j, s.at_ ≤ 88 * j → sub s.reg (88 * j) 88 = sub reg0 (88 * j) 88
theorem recB_base (base next : Nat) (bs : List UInt8) (k : Nat) (hk : k < pieces bs.length) : sub (recB base next bs) (88 * k) 8 = le 8 base := by
  have h := recsTo_sub base next bs (pieces bs.length) k hk
  rw [← pieceB_head base next k bs, ← h, sub_sub _ _ _ _ _ (by omega)]
  rfl
theorem WInv.step {base : Nat} {reg0 : List UInt8} {s : WS} (h : WInv base reg0 s) (bs : List UInt8) : WInv base reg0 (wrStep base s bs) := by
  have hok := h.ok.step base bs
  by_cases h0 : okB s.at_ bs = true
  · have e : wrStep base s bs = { reg := lay s.reg s.at_ (recB base s.next bs), at_ := s.at_ + 88 * pieces bs.length, next := s.next + 1, ls := s.ls ++ [bs], frm := s.at_, to := s.at_ + 88 * pieces bs.length } := by rw [wrStep, if_pos h0]
    rw [e] at hok ⊢
    have h1 := h0
    simp only [okB, Bool.and_eq_true, decide_eq_true_eq] at h1
    have h2 := room_of h1.2
    have h3 := pieces_le bs.length h1.1
    have hl := h.ok.len
    have hR := recB_length base s.next bs
    have ha := h.ok.at_
    have hn : s.next = 1 + s.ls.length := by have := h.ok.next; omega
    obtain ⟨q, hq⟩ := h.whole
    refine ⟨hok, ?_, ⟨q + pieces bs.length, by simp only; omega⟩, ?_, ?_⟩
    · refine (h.chain.lay (by omega) (Nat.le_refl _)).snoc h1.1 h2 ?_
      have := lay_in (xs := s.reg) (R := recB base s.next bs) (o := s.at_) (i := 0) (n := 88 * pieces bs.length) (by omega) (by omega)
      rw [Nat.add_zero] at this
      rw [this, sub_at_zero hR, hn]
    · intro j hj
      simp only at hj ⊢
      rcases Nat.lt_or_ge (88 * j) s.at_ with hlt | hge
      · rw [lay_before (by omega) (by omega)]; exact h.own j hlt
      · have e2 : 88 * j = s.at_ + 88 * (j - q) := by omega
        rw [e2, lay_in (by omega) (by omega), recB_base _ _ _ _ (by omega)]
    · intro j hj
      simp only at hj ⊢
      rw [lay_behind (by omega) (by omega)]
      exact h.old j (by omega)
  · have e : wrStep base s bs = s := by rw [wrStep, if_neg h0]
    rw [e]; exact h
theorem wrF_inv {reg : List UInt8} (h : reg.length = 22528) (base : Nat) : ∀ rs, WInv base reg (wrF base reg rs) := by
  have : ∀ (rs : List (List UInt8)) (s : WS), WInv base reg s → WInv base reg (rs.foldl (wrStep base) s) := by
    intro rs
    induction rs with
    | nil => intro s h; exact h
    | cons b rs ih => intro s h; exact ih _ (h.step b)
  refine fun rs => this rs _ ⟨WOk.zero h, rfl, ⟨0, rfl⟩, fun j hj => ?_, fun j _ => rfl⟩
  simp [wr0] at hj

theorem sub8 {a b : List UInt8} {j : Nat} (h : sub a (88 * j) 88 = sub b (88 * j) 88) : sub a (88 * j) 8 = sub b (88 * j) 8 := by
  have h1 := sub_sub a (88 * j) 88 0 8 (by omega)
  have h2 := sub_sub b (88 * j) 88 0 8 (by omega)
  rw [h] at h1
  exact h1.symm.trans h2
theorem zeros_sub (n i m : Nat) (h : i + m ≤ n) : sub (zeros n) i m = zeros m := by simp [sub, zeros]; omega
/-- Each piece that stands in a region over which a log was written begins with its base, or with that of what was there. -/
theorem old_base (a : Nat) (old : List (List UInt8)) (j : Nat) (hj : 88 * j + 88 ≤ 22528) : sub (wrF a (zeros 22528) old).reg (88 * j) 8 = le 8 a ∨ sub (wrF a (zeros 22528) old).reg (88 * j) 8 = le 8 0 := by
  have h := wrF_inv (zeros_length 22528) a old
  rcases Nat.lt_or_ge (88 * j) (wrF a (zeros 22528) old).at_ with hlt | hge
  · exact .inl (h.own j hlt)
  · exact .inr (by rw [sub8 (h.old j hge), zeros_sub _ _ _ (by omega)]; rfl)
theorem le_ne {a b : Nat} (ha : a < 10000) (hb : b < 10000) (h : a ≠ b) : le 8 a ≠ le 8 b := fun e => h (le_inj (by omega) (by omega) e)

def backReg (a : Nat) (old : List (List UInt8)) : List UInt8 := (wrF a (zeros 22528) old).reg
theorem backReg_length (a : Nat) (old : List (List UInt8)) : (backReg a old).length = 22528 := (wrF_ok (zeros_length 22528) a old).len
theorem back_scan (a : Nat) (ha : a ≤ 1000) (old records : List (List UInt8)) : scanAll (wrF (a + 1) (backReg a old) records).reg (a + 1) =
    ((wrF (a + 1) (backReg a old) records).ls, (wrF (a + 1) (backReg a old) records).at_, (wrF (a + 1) (backReg a old) records).next) := by
  have h := wrF_inv (backReg_length a old) (a + 1) records
  obtain ⟨s, hs⟩ : ∃ s, s = wrF (a + 1) (backReg a old) records := ⟨_, rfl⟩
  rw [← hs] at h ⊢
  obtain ⟨q, hq⟩ := h.whole
  have hlen : s.ls.length ≤ 256 := by have := h.ok.room; have := h.ok.at_; omega
  have hnone : recOf s.reg (a + 1) s.at_ (1 + s.ls.length) = none := by
    refine recOf_none_at h.ok.len fun hr => ?_
    rw [hq, sub8 (h.old q (by omega))]
    rcases old_base a old q (by omega) with e | e
    · exact fun e' => le_ne (by omega) (by omega) (show a ≠ a + 1 by omega) (e.symm.trans e')
    · exact fun e' => le_ne (by omega) (by omega) (show 0 ≠ a + 1 by omega) (e.symm.trans e')
  unfold scanAll
  rw [show 300 = s.ls.length + (300 - s.ls.length) by omega, h.chain.scan, scanF_stop hnone]
  simp [h.ok.next, Nat.add_comm]
theorem back_none (a : Nat) (ha : a ≤ 1000) (old records : List (List UInt8)) : scanAll (wrF (a + 1) (backReg a old) records).reg (a + 2) = ([], 0, 1) := by
  have h := wrF_inv (backReg_length a old) (a + 1) records
  obtain ⟨s, hs⟩ : ∃ s, s = wrF (a + 1) (backReg a old) records := ⟨_, rfl⟩
  rw [← hs] at h ⊢
  refine scanF_stop (recOf_none_at h.ok.len fun hr => ?_) 300
  rcases Nat.lt_or_ge 0 s.at_ with hlt | hge
  · have := h.own 0 (by omega)
    exact fun e' => le_ne (by omega) (by omega) (show a + 1 ≠ a + 2 by omega) (this.symm.trans e')
  · have e0 := sub8 (h.old 0 (by omega))
    rw [show 88 * 0 = 0 from rfl] at e0
    rw [e0]
    rcases old_base a old 0 (by omega) with e | e
    · exact fun e' => le_ne (by omega) (by omega) (show a ≠ a + 2 by omega) (e.symm.trans e')
    · exact fun e' => le_ne (by omega) (by omega) (show 0 ≠ a + 2 by omega) (e.symm.trans e')
end Go.Proofs.Ytmlffigfhhoihaa
