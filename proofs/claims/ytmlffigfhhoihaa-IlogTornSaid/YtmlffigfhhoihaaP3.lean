/- The plain law of the log: a record of which a piece was not written is not there. -/
import Derived.Test.YtmlffigfhhoihaaT14
namespace Go.Proofs.Ytmlffigfhhoihaa
open Go.RowKit Go.Uc

/-- The last record, where there is one. -/
def WLast (base : Nat) (s : WS) : Prop := s.ls = [] ∨ ∃ ls0 b q, s.ls = ls0 ++ [b] ∧ Chain s.reg base 0 1 ls0 s.frm ∧ b.length ≤ 4096 ∧ s.frm + 88 * pieces b.length = s.at_ ∧
  sub s.reg s.frm (88 * pieces b.length) = recB base (1 + ls0.length) b ∧ s.frm = 88 * q
theorem WLast.step {base : Nat} {reg0 : List UInt8} {s : WS} (h : WInv base reg0 s) (hl : WLast base s) (bs : List UInt8) : WLast base (wrStep base s bs) := by
  by_cases h0 : okB s.at_ bs = true
  · have e : wrStep base s bs = { reg := lay s.reg s.at_ (recB base s.next bs), at_ := s.at_ + 88 * pieces bs.length, next := s.next + 1, ls := s.ls ++ [bs], frm := s.at_, to := s.at_ + 88 * pieces bs.length } := by rw [wrStep, if_pos h0]
    rw [e]
    have h1 := h0
    simp only [okB, Bool.and_eq_true, decide_eq_true_eq] at h1
    have hR := recB_length base s.next bs
    have ha := h.ok.at_
    have hln := h.ok.len
    have hn : s.next = 1 + s.ls.length := by have := h.ok.next; omega
    obtain ⟨q, hq⟩ := h.whole
    refine .inr ⟨s.ls, bs, q, rfl, h.chain.lay (by omega) (Nat.le_refl _), h1.1, rfl, ?_, hq⟩
    have := lay_in (xs := s.reg) (R := recB base s.next bs) (o := s.at_) (i := 0) (n := 88 * pieces bs.length) (by omega) (by omega)
    rw [Nat.add_zero] at this
    simp only
    rw [this, sub_at_zero hR, hn]
  · have e : wrStep base s bs = s := by rw [wrStep, if_neg h0]
    rw [e]; exact hl
theorem wrF_last {reg : List UInt8} (h : reg.length = 22528) (base : Nat) : ∀ rs, WLast base (wrF base reg rs) := by
  have : ∀ (rs : List (List UInt8)) (s : WS), WInv base reg s → WLast base s → WLast base (rs.foldl (wrStep base) s) := by
    intro rs
    induction rs with
    | nil => intro s _ hl; exact hl
    | cons b rs ih => intro s hi hl; exact ih _ (hi.step b) (hl.step hi b)
  exact fun rs => this rs _ (by have := wrF_inv h base []; exact this) (.inl rfl)

/-- A region with some pieces of the last record as they were before. -/
structure Torn (base : Nat) (before : List UInt8) (s : WS) (ls0 : List (List UInt8)) (reg : List UInt8) : Prop where
  len : reg.length = 22528
  chain : Chain reg base 0 1 ls0 s.frm
  each : ∀ j, s.frm ≤ 88 * j → 88 * j + 88 ≤ s.at_ → sub reg (88 * j) 88 = sub s.reg (88 * j) 88 ∨ sub reg (88 * j) 88 = sub before (88 * j) 88
/-- One piece more torn. -/
theorem Torn.tear {base : Nat} {before reg : List UInt8} {s : WS} {ls0 : List (List UInt8)} (h : Torn base before s ls0 reg) (hb : before.length = 22528) (ha : s.at_ ≤ 22528) (j : Nat) (h1 : s.frm ≤ 88 * j) (h2 : 88 * j + 88 ≤ s.at_) :
    Torn base before s ls0 (lay reg (88 * j) (sub before (88 * j) 88)) := by
  have hl := h.len
  have hsl : (sub before (88 * j) 88).length = 88 := sub_length _ _ _ (by omega)
  refine ⟨by rw [lay_length _ _ _ (by omega), hl], h.chain.lay (by omega) h1, fun i hi1 hi2 => ?_⟩
  rcases Nat.lt_trichotomy i j with hlt | rfl | hgt
  · rw [lay_before (by omega) (by omega)]; exact h.each i hi1 hi2
  · have := lay_in (xs := reg) (R := sub before (88 * i) 88) (o := 88 * i) (i := 0) (n := 88) (by omega) (by omega)
    rw [Nat.add_zero] at this
    exact .inr (by rw [this, sub_at_zero hsl])
  · rw [lay_behind (by omega) (by omega)]; exact h.each i hi1 hi2

theorem torn_none {base next : Nat} {before reg : List UInt8} {s : WS} {ls0 : List (List UInt8)} {b : List UInt8} {q : Nat} (h : Torn base before s ls0 reg) (hbl : b.length ≤ 4096) (hto : s.frm + 88 * pieces b.length = s.at_) (ha : s.at_ ≤ 22528)
    (hrec : sub s.reg s.frm (88 * pieces b.length) = recB base next b) (hq : s.frm = 88 * q) (hold : ∀ j, 88 * j + 88 ≤ 22528 → sub before (88 * j) 8 ≠ le 8 base)
    (j : Nat) (h1 : s.frm ≤ 88 * j) (h2 : 88 * j + 88 ≤ s.at_) (hj : sub reg (88 * j) 88 = sub before (88 * j) 88) : recOf reg base s.frm next = none := by
  cases hr : recOf reg base s.frm next with
  | none => rfl
  | some b' =>
    exfalso
    obtain ⟨g1, g2, g3⟩ := recOf_some h.len hr
    have hp := pieces_le b.length hbl
    have hp' := pieces_le b'.length g1
    have hbase := fun k hk => recOf_base h.len hr k hk
    have hb0 := hbase 0 (by omega)
    rw [Nat.mul_zero, Nat.add_zero] at hb0
    have e0 := h.each q (by omega) (by omega)
    rcases e0 with e0 | e0
    · have p1 : sub reg s.frm 88 = pieceB base next 0 b := by
        rw [hq, e0, ← recsTo_sub base next b (pieces b.length) 0 (by omega), show recsTo base next b (pieces b.length) = recB base next b from rfl, ← hrec, sub_sub _ _ _ _ _ (by omega), hq]
        rfl
      have p2 : sub reg s.frm 88 = pieceB base next 0 b' := by
        rw [← recsTo_sub base next b' (pieces b'.length) 0 (by omega), show recsTo base next b' (pieces b'.length) = recB base next b' from rfl, ← g3, sub_sub _ _ _ _ _ (by omega)]
        rfl
      have e1 : le 4 b.length = le 4 b'.length := by rw [← pieceB_many base next 0 b, ← pieceB_many base next 0 b', ← p1, ← p2]
      have e2 : b.length = b'.length := le_inj (by omega) (by omega) e1
      have e3 := hbase (j - q) (by rw [← e2]; omega)
      rw [show s.frm + 88 * (j - q) = 88 * j by omega, sub8 hj] at e3
      exact hold j (by omega) e3
    · rw [hq, sub8 e0] at hb0
      exact hold q (by omega) hb0
theorem torn_scan {base : Nat} {before reg : List UInt8} {s : WS} {ls0 : List (List UInt8)} {b : List UInt8} {q : Nat} (h : Torn base before s ls0 reg) (hbl : b.length ≤ 4096) (hto : s.frm + 88 * pieces b.length = s.at_) (ha : s.at_ ≤ 22528) (hn : ls0.length ≤ 256)
    (hrec : sub s.reg s.frm (88 * pieces b.length) = recB base (1 + ls0.length) b) (hq : s.frm = 88 * q) (hold : ∀ j, 88 * j + 88 ≤ 22528 → sub before (88 * j) 8 ≠ le 8 base)
    (j : Nat) (h1 : s.frm ≤ 88 * j) (h2 : 88 * j + 88 ≤ s.at_) (hj : sub reg (88 * j) 88 = sub before (88 * j) 88) : scanAll reg base = (ls0, s.frm, 1 + ls0.length) := by
  have hnone := torn_none h hbl hto ha hrec hq hold j h1 h2 hj
  unfold scanAll
  rw [show 300 = ls0.length + (300 - ls0.length) by omega, h.chain.scan, scanF_stop hnone]
  simp
end Go.Proofs.Ytmlffigfhhoihaa
