/- The document's table: is, Of. -/
import Derived.Test.YtmlffigfhhoihacS17
namespace Go.Proofs.Ytmlffigfhhoihac
open Go.RowKit Go.Uc

/-- Slices that read as a reply, where the law was called. -/
def RdE (w0 : World) (l d : Value) (r : Rp) : Prop := RdR w0 l d r ∧ RpB r
/-- The document's table. -/
def Doc (w0 w : World) (B q : Nat) (K : Nat → Rp) (f a r : Int) : Prop := ∃ v, B ≤ q ∧ Blk w q 45 #[v, .int .i64 f, .int .i64 a, .int .i64 r] ∧ RowR w B (RdE w0) v (listTo K 9)
theorem Doc.keep {w0 w w' : World} {S : Nat → Prop} {B q : Nat} {K : Nat → Rp} {f a r : Int} (h : Doc w0 w B q K f a r) (hk : Keeps S w w') (hq : ¬ S q) (hS : ∀ k, S k → ∀ cs, ¬ Blk w k 31 cs) : Doc w0 w' B q K f a r := by
  obtain ⟨v, h1, h2, h3⟩ := h
  refine ⟨v, h1, h2.keep hk hq, h3.keep hk fun g hg hs => ?_⟩
  obtain ⟨vss, ho, -⟩ := h3
  rcases ho.2 with ⟨rfl, h4⟩ | ⟨g', cap, cur, rfl, h4, h5, -⟩
  · cases hg
  · simp [Value.ownBlock] at hg
    subst hg
    exact hS _ hs _ h5
theorem Doc.non {w0 w w' : World} {B q : Nat} {K : Nat → Rp} {f a r : Int} (h : Doc w0 w B q K f a r) (hk : Keeps Non w w') : Doc w0 w' B q K f a r := h.keep hk id fun _ e => e.elim
theorem RdE.zero (w : World) : RdE w (.slice none 0 0) (.slice none 0 0) Rp.none := ⟨RdR.zero w, by simp [RpB, Rp.none]⟩

theorem refis_any (s i : Int) (w : World) : Calls Try.prog 40 #[.int .i64 s, .int .i64 i] w fun e w' => e = .returned (.bool (isB s i)) ∧ w' = w := by
  unfold isB
  by_cases h1 : 1 ≤ s
  · by_cases h2 : s ≤ 8
    · by_cases h3 : 1 ≤ i
      · go_enter Try.func40, Try.ntmps40
        go_wp2
        go_ret
        exact ⟨ret_bool (by simp [h1, h2, h3]), rfl⟩
      · go_enter Try.func40, Try.ntmps40
        go_wp2
        go_ret
        exact ⟨ret_bool (by simp; omega), rfl⟩
    · go_enter Try.func40, Try.ntmps40
      go_wp2
      go_ret
      exact ⟨ret_bool (by simp; omega), rfl⟩
  · go_enter Try.func40, Try.ntmps40
    go_wp2
    go_ret
    exact ⟨ret_bool (by simp; omega), rfl⟩

set_option maxRecDepth 100000 in
set_option maxHeartbeats 4000000 in
theorem of_any (w0 : World) {B q : Nat} {K : Nat → Rp} {f a r : Int} (s : Int) (w : World) (h : Doc w0 w B q K f a r) (hG : Good K) :
    Calls Try.prog 32 #[.pointer (some ⟨q, 0, none⟩), .int .i64 s] w fun e w' => ∃ l d, e = .returned (.agg #[.int .i64 (ofV K s).ses, .int .i64 (ofV K s).id, .int .i64 (ofV K s).err, .int .i64 (ofV K s).num, .string (ofV K s).text, l, d]) ∧ RdE w0 l d (ofV K s) ∧ Keeps Non w w' := by
  obtain ⟨v, -, hb, hR⟩ := h
  obtain ⟨A, c, rfl, hlc, hRE, -⟩ := hR.open
  have hln := listTo_length K 9
  have HOF := Lib.hid (fun r (hr : r ∈ listTo K 9) => of_found hG hr)
  have HON := Lib.hid (fun (hr : ∀ r ∈ listTo K 9, r.ses ≠ s) => of_none hG hr)
  obtain ⟨L, hL⟩ : ∃ L, L = listTo K 9 := ⟨_, rfl⟩
  rw [← hL] at hb hlc hRE hln HOF HON
  obtain ⟨w1, hw1⟩ : ∃ w1, w1 = w.alloc (.cells zeroRep.toArray 31) := ⟨_, rfl⟩
  obtain ⟨p, hp⟩ : ∃ p, p = w.heap.size := ⟨_, rfl⟩
  have hk1 : Keeps Non w w1 := by rw [hw1]; exact (Keeps.refl _ _).alloc _
  have hP1 : Blk w1 p 31 zeroRep.toArray := by rw [hw1, hp]; exact Blk.new _ _ _
  have hpw : w.heap.size ≤ p := by omega
  have HRE := Lib.hid (hRE.non hk1)
  have HB1 := Lib.hid (hb.non hk1)
  have hpq : p ≠ q := hP1.ne HB1.out (by decide)
  clear hR hb hRE hL hG
  go_enter Try.func32, Try.ntmps32
  go_upto_region 2 with fail
  rw [show (#[.int .i64 0, .int .i64 0, .int .i64 0, .int .i64 0, .string { data := #[] }, .slice none 0 0, .slice none 0 0] : Array Value) = zeroRep.toArray from rfl, ← hw1, ← hp]
  clear hw1 hp
  go_loopw [5] (fun i wr => ∃ k : Nat, k ≤ L.length ∧ i = .int .i64 k ∧ Hid (∀ j (hj : j < L.length), j < k → L[j].ses ≠ s) ∧ Keeps Non w1 wr) (fun i _ => L.length - (intOf i).toNat)
  case atStart => exact ⟨0, Nat.zero_le _, rfl, fun j _ h => absurd h (by omega), Keeps.refl _ _⟩
  case round =>
    obtain ⟨k, hk, rfl, HNo, hK⟩ := hrel
    have t0 : wr.cell? ⟨q, 0, none⟩ = some (.slice A L.length c) := (HB1.out.non hK).cell 0
    by_cases hlt : k < L.length
    · obtain ⟨b, off, l, d, rfl, q0, q1, q2, q3, q4, q5, q6, hrd⟩ := (HRE.out.non hK).get hlt
      have hof := HOF.out _ (List.getElem_mem hlt)
      obtain ⟨x, hx⟩ : ∃ x, x = L[k] := ⟨_, rfl⟩
      rw [← hx] at q0 q1 q2 q3 q4 hrd hof
      obtain ⟨Al, cl, Ad, cd, rfl, rfl, -⟩ := id hrd.1
      by_cases hs : x.ses = s
      · have hsb : (x.ses == s) = true := by rw [hs]; simp
        rw [hs] at hof
        have HX := Lib.hid hof
        have HRD := Lib.hid hrd
        have HSS := Lib.hid hs
        have hPr := hP1.non hK
        obtain ⟨⟨va0, sa0⟩, fa0, ⟨va1, sa1⟩, fa1, ⟨va2, sa2⟩, fa2, ⟨va3, sa3⟩, fa3, ⟨va4, sa4⟩, fa4, ⟨va5, sa5⟩, fa5, ⟨va6, sa6⟩, fa6, hBa, hKa⟩ := store_seven hPr (0) (by decide) (.int .i64 x.ses) (.int .i64 x.id) (.int .i64 x.err) (.int .i64 x.num) (.string x.text) (.slice Al x.list.length cl) (.slice Ad x.data.length cd); simp only [Nat.zero_add] at sa0 fa0 sa1 fa1 sa2 fa2 sa3 fa3 sa4 fa4 sa5 fa5 sa6 fa6 hBa hKa
        have hB8 : Blk _ p 31 #[.int .i64 x.ses, .int .i64 x.id, .int .i64 x.err, .int .i64 x.num, .string x.text, (.slice Al x.list.length cl), (.slice Ad x.data.length cd)] := hBa
        have FB := Lib.hid hB8
        have FK := Lib.hid ((hk1.trans hK).then hKa fun i hi e => by unfold Only at e; omega)
        clear hBa hKa hB8 hPr hK hx hof hrd hs
        go_wp2_with fail
        refine bodyPost_ret (results_cell_row (ty := 31) rfl _ _ p 31 _ (0, 0) _ rfl FB.out Try.underlying30 rfl (by kernel_rfl)) rfl ?_
        rw [HX.out]
        exact ⟨_, _, rfl, HRD.out, FK.out⟩
      · have hsb : (x.ses == s) = false := by rw [beq_eq_false_iff_ne]; exact hs
        have HNo2 : Hid (∀ j (hj : j < L.length), j < k + 1 → L[j].ses ≠ s) := fun j hj h => by
          by_cases e : j = k
          · subst e; rw [← hx]; exact hs
          · exact HNo.out j hj (by omega)
        clear hx hof hrd hs
        go_wp2_with fail
        go_roundw
        case rel => exact ⟨k + 1, by omega, by go_num, HNo2, hK⟩
        case measure => simp [intOf]; omega
    · obtain rfl : k = L.length := by omega
      have hz : ofV K s = Rp.none := HON.out fun r hr => by
        obtain ⟨j, hj, rfl⟩ := List.getElem_of_mem hr
        exact HNo.out j hj hj
      have HZ := Lib.hid hz
      have hPr := hP1.non hK
      obtain ⟨⟨va0, sa0⟩, fa0, ⟨va1, sa1⟩, fa1, ⟨va2, sa2⟩, fa2, ⟨va3, sa3⟩, fa3, ⟨va4, sa4⟩, fa4, ⟨va5, sa5⟩, fa5, ⟨va6, sa6⟩, fa6, hBa, hKa⟩ := store_seven hPr (0) (by decide) (.int .i64 0) (.int .i64 0) (.int .i64 0) (.int .i64 0) (.string { data := #[] }) (.slice none 0 0) (.slice none 0 0); simp only [Nat.zero_add] at sa0 fa0 sa1 fa1 sa2 fa2 sa3 fa3 sa4 fa4 sa5 fa5 sa6 fa6 hBa hKa
      rw [set7_zero] at hBa
      have FB := Lib.hid hBa
      have FK := Lib.hid ((hk1.trans hK).then hKa fun i hi e => by unfold Only at e; omega)
      clear hBa hKa hPr hK hz
      go_wp2_with fail
      refine bodyPost_ret (results_cell_row (ty := 31) rfl _ _ p 31 _ (0, 0) _ rfl FB.out Try.underlying30 rfl (by kernel_rfl)) rfl ?_
      rw [HZ.out]
      exact ⟨_, _, rfl, RdE.zero _, FK.out⟩
end Go.Proofs.Ytmlffigfhhoihac
