/- Scan, once more: its records lie apart. -/
import Derived.Test.YtmlffigfhhoihaaT17
namespace Go.Proofs.Ytmlffigfhhoihaa
open Go.RowKit Go.Uc

/-- Rows of the call's own that lie apart from one another. -/
def Apart (vs : List Value) : Prop := ∀ i j (hi : i < vs.length) (hj : j < vs.length), i < j → ∀ g, vs[i].ownBlock = some g → vs[j].ownBlock ≠ some g
def RowD (w : World) (B : Nat) (v : Value) (ls : List (List UInt8)) : Prop := ∃ vs : List Value, w.ownsRow B 31 1 v ls.length vs ∧ vs.length = ls.length ∧ (∀ i (h : i < ls.length) (h' : i < vs.length), OwnB w B 5 vs[i] ls[i]) ∧ Apart vs
theorem RowD.nil (w : World) (B : Nat) : RowD w B (.slice none 0 0) [] := ⟨[], World.ownsRow_nil _ _ _ _, rfl, (fun i h => absurd h (by simp)), fun i j h => absurd h (by simp)⟩
theorem RowD.all {w w' : World} {S : Nat → Prop} {B : Nat} {v : Value} {ls : List (List UInt8)} (h : RowD w B v ls) (hk : Keeps S w w') (hS : ∀ k, B ≤ k → ¬ S k) : RowD w' B v ls := by
  obtain ⟨vs, h1, h2, h3, h4⟩ := h
  exact ⟨vs, row_keep h1 hk fun g hg => hS g (World.ownsRow.lt h1 g hg).1, h2, (fun i a b => (h3 i a b).keep hk fun g hg => hS g ((h3 i a b).new g hg)), h4⟩
theorem RowD.base {w : World} {B B' : Nat} {v : Value} {ls : List (List UInt8)} (h : RowD w B v ls) (hB : B' ≤ B) : RowD w B' v ls := by
  obtain ⟨vs, h1, h2, h3, h4⟩ := h
  obtain ⟨vs', g1, g2, g3⟩ := RowB.base ⟨vs, h1, h2, h3⟩ hB
  refine ⟨vs, ⟨h1.1, ?_⟩, h2, fun i a b => (h3 i a b).mono hB, h4⟩
  rcases h1.2 with q | ⟨g, cap, cur, e, q, r⟩
  · exact .inl q
  · exact .inr ⟨g, cap, cur, e, Nat.le_trans hB q, r⟩
theorem scan_growD {w w2 w3 : World} {B : Nat} {u v v3 : Value} {o : Obj} {ls : List (List UInt8)} {vs : List Value} {bs : List UInt8} (h1 : w.ownsRow B 31 1 u ls.length vs) (h2 : vs.length = ls.length)
    (h3 : ∀ i (h : i < ls.length) (h' : i < vs.length), OwnB w B 5 vs[i] ls[i]) (h4 : Apart vs) (hk : Keeps Non w w2) (hv : OwnB w2 w.heap.size 5 v bs) (hB : B ≤ w.heap.size) (hr : w3.ownsRow B 31 1 v3 (ls.length + 1) (vs ++ [v])) (hk3 : Keeps (Owned u) (w2.alloc o) w3) : RowD w3 B v3 (ls ++ [bs]) := by
  have hka := (Keeps.refl Non w2).alloc o
  have h1' := row_keep (row_keep h1 hk fun _ _ e => e) hka fun _ _ e => e
  have hlast : OwnB w3 B 5 v bs := ((hv.mono hB).non hka).keep hk3 (own_types h1' (hv.non hka))
  refine ⟨vs ++ [v], by simpa using hr, by simp [h2], fun i a b => ?_, fun i j hi hj hij g hg => ?_⟩
  · rcases Nat.lt_or_ge i ls.length with hl | hl
    · rw [List.getElem_append_left (by omega), List.getElem_append_left hl]
      have := ((h3 i hl (by omega)).non hk).non hka
      exact this.keep hk3 (own_types h1' this)
    · simp at a
      obtain rfl : i = ls.length := by omega
      rw [List.getElem_append_right (by omega), List.getElem_append_right (by omega)]
      simpa [h2] using hlast
  · simp at hi hj
    rw [List.getElem_append_left (by omega)] at hg
    rcases Nat.lt_or_ge j vs.length with hl | hl
    · rw [List.getElem_append_left hl]; exact h4 i j (by omega) hl hij g hg
    · rw [List.getElem_append_right (by omega)]
      have e1 : [v][j - vs.length]'(by simp; omega) = v := by simp
      rw [e1]
      intro e
      have a1 := hv.new g e
      have a2 := (h3 i (by omega) (by omega)).old g hg
      omega

set_option maxHeartbeats 2000000 in
theorem scanD_ok (base c : Nat) (A : Option Addr) (reg : List UInt8) (w : World) (hl : reg.length = 22528) (hA : At w A reg) (hc : 22528 ≤ c) (hbase : base ≤ 281474976710656) :
    Calls Try.prog 17 #[.int .i64 base, .slice A 22528 c] w fun e w' => ∃ v, e = .returned (.tuple #[.pointer (some ⟨w.heap.size, 0, none⟩), v, .int .i64 0]) ∧ LogB w' w.heap.size 53 base (scanAll reg base).2.1 (scanAll reg base).2.2 ∧
      RowD w' w.heap.size v (scanAll reg base).1 ∧ Keeps Non w w' := by
  have HA := Lib.hid hA
  clear hA
  go_enter Try.func17, Try.ntmps17
  go_wp2_with (go_at_call 8; go_must (refine (new_ok base _ hbase).mono ?_); rintro e w1 ⟨rfl, hx, hK1⟩)
  go_loopg [9] 300 (fun gk v wr => ∃ (at_ next : Nat) (ls : List (List UInt8)), scanAll reg base = (ls ++ (scanF reg base gk at_ next).1, (scanF reg base gk at_ next).2) ∧ at_ ≤ 22528 ∧ 22528 < at_ + 88 * gk ∧ next = ls.length + 1 ∧ 88 * ls.length ≤ at_ ∧
    LogB wr w.heap.size 53 base at_ next ∧ RowD wr w1.heap.size v ls ∧ Keeps Non w wr ∧ w1.heap.size ≤ wr.heap.size)
  case atStart => exact ⟨0, 1, [], rfl, by omega, by omega, rfl, by simp, hx, RowD.nil _ _, hK1, Nat.le_refl _⟩
  case round =>
    obtain ⟨at_, next, ls, hS, hat, hgk, hnx, hls, hb, hR, hK, hsz⟩ := hrel
    have HS := Lib.hid hS
    have HNX := Lib.hid hnx
    have hnx2 : next ≤ 100000 := by omega
    clear hS hnx
    have hw1 := hx.lt
    have HR := record_all w.heap.size c base at_ next A reg wr hb hl (HA.out.non hK) hc hat hbase hnx2
    cases hrec : recOf reg base at_ next with
    | none =>
      rw [hrec] at HR
      have HRec := Lib.hid HR
      have HE := Lib.hid hrec
      clear HR hrec
      go_wp2_with (go_at_call 29; go_must (refine HRec.out.mono ?_); rintro e w2 ⟨v, rfl, hv, -, hK2⟩)
      go_ret3
      have h1 := scanF_stop HE.out gk
      have h2 := HS.out
      rw [h1] at h2
      rw [h2]
      refine ⟨_, rfl, Blk.non hb hK2, ?_, hK.trans hK2⟩
      rw [List.append_nil]
      exact (hR.all hK2 fun _ _ e => e).base (by omega)
    | some bs =>
      rw [hrec] at HR
      have HRec := Lib.hid HR
      obtain ⟨hb1, hb2, hb3⟩ := recOf_some hl hrec
      have HE := Lib.hid hrec
      clear HR hrec hb3
      obtain ⟨vs, r1, r2, r3, r4⟩ := hR
      have hR3 := Lib.hid r3
      have hR2 := Lib.hid r2
      have hR4 := Lib.hid r4
      clear r2 r3 r4
      go_wp2_with (first
        | (go_at_call 29; go_must (refine HRec.out.mono ?_); rintro e w2 ⟨v, rfl, -, hv, hK2⟩; have hv2 := hv bs rfl; clear hv; obtain ⟨A2, c2, rfl, hc2, hA2, -⟩ := hv2.open)
        | (at_builtin; go_must (refine wpList_append_vals rfl (.tmp 33) (.tmp 35) 22 rfl w1.heap.size 31 (.slice none 0 0) 24 Try.underlying22 info31 rfl u9 ls.length vs rfl (row_keep (row_keep r1 hK2 fun _ _ e => e) ((Keeps.refl Non _).alloc _) fun _ _ e => e) (some ⟨w2.heap.size, 0, none⟩) 1 1 [.slice A2 bs.length c2] rfl rfl (Ats.one _ _ _) (by intro u hu; simp at hu; subst hu; rfl) (by unfold maxLen; omega) (by omega) (by have := hK2.size; simp; omega) ?_); intro v3 w3 hR6 hK3 hat3; have hG := scan_growD r1 hR2.out hR3.out hR4.out hK2 hv2 hsz hR6 hK3))
      have hka := ((Keeps.refl Non w2).alloc (.cells #[.slice A2 bs.length c2] 31))
      have hlow : ∀ k, Owned u9 k → w1.heap.size ≤ k := fun k hk => (World.ownsRow.lt r1 k hk).1
      have hb3 : LogB w3 w.heap.size 53 base at_ next := Blk.keep (Blk.non (Blk.non hb hK2) hka) hK3 fun e => by have := hlow _ e; omega
      have hk3 : Keeps Non w w3 := ((hK.trans hK2).trans hka).then hK3 fun i hi e => by have := hlow _ e; omega
      have hs3 : w1.heap.size ≤ w3.heap.size := by have := hK2.size; have := hK3.size; simp at this; omega
      have q1 : w3.cell? ⟨w.heap.size, 1, none⟩ = some (.int .i64 at_) := hb3.cell 1
      have q2 : w3.cell? ⟨w.heap.size, 2, none⟩ = some (.int .i64 next) := hb3.cell 2
      have f1 := Blk.frozen hb3 1
      have f2 := Blk.frozen hb3 2
      have hp := pieces_le bs.length hb1
      obtain ⟨gk', rfl⟩ : ∃ gk', gk = gk' + 1 := ⟨gk - 1, by omega⟩
      clear hK2 hK3 hat3 hR6 hv2 r1 hA2 hka hlow hK hb
      go_region_with (go_at_call 25; refine (pieces_any _ _ (by omega)).mono ?_; rintro e w' ⟨rfl, rfl⟩)
      all_goals
        go_wp2
        go_roundg gk'
      case measure => omega
      case measure => omega
      all_goals
        have hset := set_two w3 w.heap.size (.int .i64 ((at_ : Int) + (pieces bs.length : Int) * 88)) (.int .i64 ((next : Int) + 1))
        refine ⟨at_ + 88 * pieces bs.length, next + 1, ls ++ [bs], ?_, by omega, by omega, by rw [List.length_append, HNX.out]; rfl, by rw [List.length_append]; simp; omega, Blk.drew (log_two hb3 (by omega) (by omega)), ?_, ?_, ?_⟩
        · rw [HS.out, scanF, HE.out]
          simp
        · exact (hG.all hset fun k hk => by unfold Only; omega).all ((Keeps.refl Non _).drew) fun _ _ e => e
        · exact (hk3.then hset fun i hi e => by unfold Only at e; omega).drew
        · have := hset.size
          exact Nat.le_trans hs3 this
end Go.Proofs.Ytmlffigfhhoihaa
