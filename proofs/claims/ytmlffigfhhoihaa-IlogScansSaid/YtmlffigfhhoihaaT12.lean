import Derived.Test.YtmlffigfhhoihaaT11
import Derived.Deep.LoopGhost
import Derived.Deep.RegionWith
namespace Go.Proofs.Ytmlffigfhhoihaa
open Go.RowKit Go.Uc

theorem record_all (g c base at_ next : Nat) (A : Option Addr) (reg : List UInt8) (w : World) (hb : LogB w g 53 base at_ next) (hl : reg.length = 22528) (hA : At w A reg) (hc : 22528 ≤ c) (h : at_ ≤ 22528)
    (hbase : base ≤ 281474976710656) (hnext : next ≤ 100000) :
    Calls Try.prog 29 #[.pointer (some ⟨g, 0, none⟩), .slice A 22528 c] w fun e w' => ∃ v, e = .returned (.tuple #[v, .bool (recOf reg base at_ next).isSome]) ∧ (recOf reg base at_ next = none → v = .slice none 0 0) ∧
      (∀ bs, recOf reg base at_ next = some bs → OwnB w' w.heap.size 5 v bs) ∧ Keeps Non w w' := by
  by_cases h1 : 22528 < at_ + 88
  · have e1 : recOf reg base at_ next = none := by unfold recOf; rw [if_pos h1]
    refine (record_short g c base at_ next reg A w hb hl h h1).mono ?_
    rintro e w' ⟨rfl, hK⟩
    rw [e1]
    exact ⟨_, rfl, fun _ => rfl, (fun _ h => by cases h), hK⟩
  · obtain ⟨b, off, rfl, _⟩ := hA.at_ (k := 0) (by omega)
    by_cases h2 : roomB at_ (manyAt reg at_) = true
    · exact record_main g c base at_ next b off reg w hb hl hA hc (by omega) h2 hbase hnext
    · have h2' : roomB at_ (manyAt reg at_) = false := by simpa using h2
      have e1 : recOf reg base at_ next = none := by unfold recOf; rw [if_neg h1, if_pos h2']
      refine (record_full g c base at_ next b off reg w hb hl hA hc (by omega) h2').mono ?_
      rintro e w' ⟨rfl, hK⟩
      rw [e1]
      exact ⟨_, rfl, fun _ => rfl, (fun _ h => by cases h), hK⟩

theorem own_types {w : World} {B B' : Nat} {u v : Value} {n : Nat} {vs : List Value} {xs : List UInt8} (h : w.ownsRow B 31 1 u n vs) (h' : OwnB w B' 5 v xs) : ∀ g, v.ownBlock = some g → ¬ Owned u g := by
  intro g hg hu
  rcases h.2 with ⟨rfl, _⟩ | ⟨g1, c1, cu1, rfl, _, hh1, _⟩
  · cases hu
  · rcases h'.2 with ⟨rfl, _⟩ | ⟨g2, c2, cu2, rfl, _, hh2, _⟩
    · cases hg
    · simp [Value.ownBlock] at hg
      simp [Owned, Value.ownBlock] at hu
      subst hg hu
      rw [hh1] at hh2
      injection hh2 with hh2
      injection hh2 with _ hh2
      cases hh2
theorem RowB.all {w w' : World} {S : Nat → Prop} {B : Nat} {v : Value} {ls : List (List UInt8)} (h : RowB w B (OwnB w B 5) v ls) (hk : Keeps S w w') (hS : ∀ k, B ≤ k → ¬ S k) : RowB w' B (OwnB w' B 5) v ls := by
  obtain ⟨vs, h1, h2, h3⟩ := h
  exact ⟨vs, row_keep h1 hk fun g hg => hS g (World.ownsRow.lt h1 g hg).1, h2, fun i a b => (h3 i a b).keep hk fun g hg => hS g ((h3 i a b).new g hg)⟩
theorem RowB.base {w : World} {B B' : Nat} {v : Value} {ls : List (List UInt8)} (h : RowB w B (OwnB w B 5) v ls) (hB : B' ≤ B) : RowB w B' (OwnB w B' 5) v ls := by
  obtain ⟨vs, h1, h2, h3⟩ := h
  refine ⟨vs, ⟨h1.1, ?_⟩, h2, fun i a b => (h3 i a b).mono hB⟩
  rcases h1.2 with q | ⟨g, cap, cur, e, q, r⟩
  · exact .inl q
  · exact .inr ⟨g, cap, cur, e, Nat.le_trans hB q, r⟩
/-- One record more in the row: what the round's append leaves. -/
theorem scan_grow {w w2 w3 : World} {B : Nat} {u v v3 : Value} {o : Obj} {ls : List (List UInt8)} {vs : List Value} {bs : List UInt8} (h1 : w.ownsRow B 31 1 u ls.length vs) (h2 : vs.length = ls.length)
    (h3 : ∀ i (h : i < ls.length) (h' : i < vs.length), OwnB w B 5 vs[i] ls[i]) (hk : Keeps Non w w2) (hv : OwnB w2 B 5 v bs) (hr : w3.ownsRow B 31 1 v3 (ls.length + 1) (vs ++ [v])) (hk3 : Keeps (Owned u) (w2.alloc o) w3) : RowB w3 B (OwnB w3 B 5) v3 (ls ++ [bs]) := by
  have hka := (Keeps.refl Non w2).alloc o
  have h1' := row_keep (row_keep h1 hk fun _ _ e => e) hka fun _ _ e => e
  refine RowB.snoc hr h2 (fun i a b => ?_) (((hv.non hka)).keep hk3 (own_types h1' (hv.non hka)))
  have := ((h3 i a b).non hk).non hka
  exact this.keep hk3 (own_types h1' this)

def scanAll (reg : List UInt8) (base : Nat) : List (List UInt8) × Nat × Nat := scanF reg base 300 0 1

set_option maxHeartbeats 2000000 in
theorem scan_ok (base c : Nat) (A : Option Addr) (reg : List UInt8) (w : World) (hl : reg.length = 22528) (hA : At w A reg) (hc : 22528 ≤ c) (hbase : base ≤ 281474976710656) :
    Calls Try.prog 17 #[.int .i64 base, .slice A 22528 c] w fun e w' => ∃ v, e = .returned (.tuple #[.pointer (some ⟨w.heap.size, 0, none⟩), v, .int .i64 0]) ∧ LogB w' w.heap.size 53 base (scanAll reg base).2.1 (scanAll reg base).2.2 ∧
      RowB w' w.heap.size (OwnB w' w.heap.size 5) v (scanAll reg base).1 ∧ Keeps Non w w' := by
  have HA := Lib.hid hA
  clear hA
  go_enter Try.func17, Try.ntmps17
  go_wp2_with (go_at_call 8; go_must (refine (new_ok base _ hbase).mono ?_); rintro e w1 ⟨rfl, hx, hK1⟩)
  go_loopg [9] 300 (fun gk v wr => ∃ (at_ next : Nat) (ls : List (List UInt8)), scanAll reg base = (ls ++ (scanF reg base gk at_ next).1, (scanF reg base gk at_ next).2) ∧ at_ ≤ 22528 ∧ 22528 < at_ + 88 * gk ∧ next = ls.length + 1 ∧ 88 * ls.length ≤ at_ ∧
    LogB wr w.heap.size 53 base at_ next ∧ RowB wr w1.heap.size (OwnB wr w1.heap.size 5) v ls ∧ Keeps Non w wr ∧ w1.heap.size ≤ wr.heap.size)
  case atStart => exact ⟨0, 1, [], rfl, by omega, by omega, rfl, by simp, hx, RowB.nil _ _ _, hK1, Nat.le_refl _⟩
  case round =>
    obtain ⟨at_, next, ls, hS, hat, hgk, hnx, hls, hb, hR, hK, hsz⟩ := hrel
    have HS := Lib.hid hS
    have HNX := Lib.hid hnx
    have hnx2 : next ≤ 100000 := by omega
    clear hS hnx
    have hw1 := hx.lt
    have HR := record_all w.heap.size c base at_ next A reg wr hb hl (HA.out.non hK) hc hat hbase hnx2
    cases hrec : recOf reg base at_ next with
    | none =>
      rw [hrec] at HR
      have HRec := Lib.hid HR
      have HE := Lib.hid hrec
      clear HR hrec
      go_wp2_with (go_at_call 29; go_must (refine HRec.out.mono ?_); rintro e w2 ⟨v, rfl, hv, -, hK2⟩)
      go_ret3
      have h1 := scanF_stop HE.out gk
      have h2 := HS.out
      rw [h1] at h2
      rw [h2]
      refine ⟨_, rfl, Blk.non hb hK2, ?_, hK.trans hK2⟩
      rw [List.append_nil]
      exact (hR.all hK2 fun _ _ e => e).base (by omega)
    | some bs =>
      rw [hrec] at HR
      have HRec := Lib.hid HR
      obtain ⟨hb1, hb2, hb3⟩ := recOf_some hl hrec
      have HE := Lib.hid hrec
      clear HR hrec hb3
      obtain ⟨vs, r1, r2, r3⟩ := hR
      have hR3 := Lib.hid r3
      have hR2 := Lib.hid r2
      clear r2 r3
      go_wp2_with (first
        | (go_at_call 29; go_must (refine HRec.out.mono ?_); rintro e w2 ⟨v, rfl, -, hv, hK2⟩; have hv2 := hv bs rfl; clear hv; obtain ⟨A2, c2, rfl, hc2, hA2, -⟩ := hv2.open)
        | (at_builtin; go_must (refine wpList_append_vals rfl (.tmp 33) (.tmp 35) 22 rfl w1.heap.size 31 (.slice none 0 0) 24 Try.underlying22 info31 rfl u9 ls.length vs rfl (row_keep (row_keep r1 hK2 fun _ _ e => e) ((Keeps.refl Non _).alloc _) fun _ _ e => e) (some ⟨w2.heap.size, 0, none⟩) 1 1 [.slice A2 bs.length c2] rfl rfl (Ats.one _ _ _) (by intro u hu; simp at hu; subst hu; rfl) (by unfold maxLen; omega) (by omega) (by have := hK2.size; simp; omega) ?_); intro v3 w3 hR4 hK3 hat3; have hG := scan_grow r1 hR2.out hR3.out hK2 (hv2.mono hsz) hR4 hK3))
      have hka := ((Keeps.refl Non w2).alloc (.cells #[.slice A2 bs.length c2] 31))
      have hlow : ∀ k, Owned u9 k → w1.heap.size ≤ k := fun k hk => (World.ownsRow.lt r1 k hk).1
      have hb3 : LogB w3 w.heap.size 53 base at_ next := Blk.keep (Blk.non (Blk.non hb hK2) hka) hK3 fun e => by have := hlow _ e; omega
      have hk3 : Keeps Non w w3 := ((hK.trans hK2).trans hka).then hK3 fun i hi e => by have := hlow _ e; omega
      have hs3 : w1.heap.size ≤ w3.heap.size := by have := hK2.size; have := hK3.size; simp at this; omega
      have q1 : w3.cell? ⟨w.heap.size, 1, none⟩ = some (.int .i64 at_) := hb3.cell 1
      have q2 : w3.cell? ⟨w.heap.size, 2, none⟩ = some (.int .i64 next) := hb3.cell 2
      have f1 := Blk.frozen hb3 1
      have f2 := Blk.frozen hb3 2
      have hp := pieces_le bs.length hb1
      obtain ⟨gk', rfl⟩ : ∃ gk', gk = gk' + 1 := ⟨gk - 1, by omega⟩
      clear hK2 hK3 hat3 hR4 hv2 r1 hA2 hka hlow hK hb
      go_region_with (go_at_call 25; refine (pieces_any _ _ (by omega)).mono ?_; rintro e w' ⟨rfl, rfl⟩)
      all_goals
        go_wp2
        go_roundg gk'
      case measure => omega
      case measure => omega
      all_goals
        have hset := set_two w3 w.heap.size (.int .i64 ((at_ : Int) + (pieces bs.length : Int) * 88)) (.int .i64 ((next : Int) + 1))
        refine ⟨at_ + 88 * pieces bs.length, next + 1, ls ++ [bs], ?_, by omega, by omega, by rw [List.length_append, HNX.out]; rfl, by rw [List.length_append]; simp; omega, Blk.drew (log_two hb3 (by omega) (by omega)), ?_, ?_, ?_⟩
        · rw [HS.out, scanF, HE.out]
          simp
        · exact (hG.all hset fun k hk => by unfold Only; omega).all ((Keeps.refl Non _).drew) fun _ _ e => e
        · exact (hk3.then hset fun i hi e => by unfold Only at e; omega).drew
        · have := hset.size
          exact Nat.le_trans hs3 this
end Go.Proofs.Ytmlffigfhhoihaa
