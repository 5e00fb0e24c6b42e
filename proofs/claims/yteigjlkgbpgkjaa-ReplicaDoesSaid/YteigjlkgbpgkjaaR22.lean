/- Hear, twice, of any reply; the plain law: they stay alike. -/
import Derived.Test.YteigjlkgbpgkjaaR21
namespace Go.Proofs.Yteigjlkgbpgkjaa
open Go.RowKit Go.Uc

section
variable {g q : Nat} {on : Option Nat} {j : Job} {x y : St} {pv : Value}
theorem hear_any (who : Int) (p : Rp) (Al : Option Addr) (cl : Nat) (Ad : Option Addr) (cd : Nat) (w : World) (h : RepS w g on j x pv) (hk : x.at_ < 6) (hO : OwnB w 0 5 pv x.piece) (hn : x.piece.length ≤ 140737488355328) (hrd : ∀ W, Keeps (Only g) w W → AtS W Al p.list ∧ At W Ad p.data) (hpb : RpB p) :
    Calls Try.prog 9 #[.pointer (some ⟨g, 0, none⟩), .int .i64 who, .agg #[.int .i64 p.ses, .int .i64 p.id, .int .i64 p.err, .int .i64 p.num, .string p.text, (.slice Al p.list.length cl), (.slice Ad p.data.length cd)]] w fun en w' => en = .returned (.tuple #[]) ∧ ∃ on' pv', RepS w' g on' j (hearV j x who p) pv' ∧ OwnB w' 0 5 pv' (hearV j x who p).piece ∧ (∀ i, pv'.ownBlock = some i → pv.ownBlock = some i ∨ w.heap.size ≤ i) ∧ Keeps (Only g) w w' := by
  obtain ⟨dd, steps, hG, -⟩ := h.blk
  have hc : Calls Try.prog 9 #[.pointer (some ⟨g, 0, none⟩), .int .i64 who, .agg #[.int .i64 p.ses, .int .i64 p.id, .int .i64 p.err, .int .i64 p.num, .string p.text, (.slice Al p.list.length cl), (.slice Ad p.data.length cd)]] w (HearQ g j pv x (hearV j x who p) w) := by
    by_cases h0 : x.how = 0
    · exact hear_on who p Al cl Ad cd w h h0 hk hO hn hrd hpb
    · exact hear_off who p Al cl Ad cd w h h0
  refine hc.mono ?_
  rintro en w' ⟨rfl, on', pv', h1, h2, h3⟩
  rcases h2 with ⟨rfl, e⟩ | h2
  · exact ⟨rfl, on', pv', h1, by rw [e]; exact hO.keep h3 (Blk.apart hG hO (by decide)), fun i hi => .inl hi, h3⟩
  · exact ⟨rfl, on', pv', h1, h2.mono (Nat.zero_le _), fun i hi => .inr (OwnB.young h2 i hi), h3⟩
theorem rhear_any (w0 : World) (who : Int) (p : Rp) (Al : Option Addr) (cl : Nat) (Ad : Option Addr) (cd : Nat) (w : World) (h : DocR w0 w q j x) (hk : x.how = 0 → x.at_ < 6) (hrd : ∀ W, Keeps (Only q) w W → AtS W Al p.list) (hpdat : At w0 Ad p.data) (hpb : RpB p) :
    Calls Try.prog 10 #[.pointer (some ⟨q, 0, none⟩), .int .i64 who, .agg #[.int .i64 p.ses, .int .i64 p.id, .int .i64 p.err, .int .i64 p.num, .string p.text, (.slice Al p.list.length cl), (.slice Ad p.data.length cd)]] w (HearT w0 q j (hearVD j x who p) w) := by
  obtain ⟨pv, hB, hpv⟩ := h
  unfold RpB at hpb
  by_cases h0 : x.how = 0
  · exact rhear_on w0 who p Al cl Ad cd w hB hpv h0 (hk h0) hrd hpdat (by omega) (by omega)
  · exact rhear_off w0 who p Al cl Ad cd w hB hpv h0
end

/- The plain law. -/
theorem goes_at (x : St) (n : Nat) (e : Int) (m : Option Int) (hx : x.at_ < 6) (hn : n < 6) : (goesV x n e m).at_ < 6 := by
  unfold goesV
  split
  · exact hn
  · split
    · exact (by decide : 1 < 6)
    · exact hx
theorem hearS_at (x : St) (p : Rp) (hx : x.at_ < 6) : (hearS x p).at_ < 6 := by
  unfold hearS
  split
  · exact goes_at _ _ _ _ hx (by decide)
  · exact goes_at _ _ _ _ hx (by decide)
  · unfold toldV
    exact goes_at _ _ _ _ (by split <;> exact hx) (by split <;> decide)
  · unfold sentV
    split
    · have : (sentW x p).at_ < 6 := by
        unfold sentW
        split
        · exact (by decide : 2 < 6)
        · exact (by decide : 4 < 6)
      split
      · exact this
      · exact this
    · exact goes_at _ _ _ _ hx (by decide)
  · unfold fedV
    split
    · exact (by decide : 1 < 6)
    · split
      · exact (by decide : 2 < 6)
      · split <;> exact hx
  · unfold doneV
    split
    · exact hx
    · exact goes_at _ _ _ _ hx (by decide)
theorem hearS_piece (x : St) (p : Rp) : (hearS x p).piece = x.piece ∨ (hearS x p).piece = p.data := by
  unfold hearS
  split
  · exact .inl (goes_piece _ _ _ _)
  · exact .inl (goes_piece _ _ _ _)
  · unfold toldV
    rw [goes_piece]
    left
    split <;> rfl
  · unfold sentV
    split
    · right
      have : (sentW x p).piece = p.data := by unfold sentW; split <;> rfl
      split
      · exact this
      · exact this
    · exact .inl (goes_piece _ _ _ _)
  · left
    unfold fedV
    split
    · rfl
    · split
      · rfl
      · split <;> rfl
  · left
    unfold doneV
    split
    · rfl
    · exact goes_piece _ _ _ _
theorem end_at (y : St) : (endV y).at_ = y.at_ := by unfold endV; split <;> rfl
theorem end_piece (y : St) : (endV y).piece = y.piece := by unfold endV; split <;> rfl
theorem hearV_at (j : Job) (x : St) (who : Int) (p : Rp) (hx : x.at_ < 6) : (hearV j x who p).at_ < 6 := by
  unfold hearV
  split
  · rw [end_at]; exact hearS_at x p hx
  · exact hx
theorem hearV_len (j : Job) (x : St) (who : Int) (p : Rp) (hx : x.piece.length ≤ 140737488355328) (hp : RpB p) : (hearV j x who p).piece.length ≤ 140737488355328 := by
  unfold hearV
  split
  · rw [end_piece]
    rcases hearS_piece x p with e | e
    · rw [e]; exact hx
    · rw [e]; exact hp.2
  · exact hx
theorem alike_fed (x : St) (p : Rp) : Alike (fedV x p) (fedD x p) := by
  unfold fedV fedD
  by_cases h : p.err = 222
  · rw [if_pos h, if_pos h]; exact ⟨rfl, rfl, rfl, fun _ => rfl⟩
  · rw [if_neg h, if_neg h]
    by_cases ht : (fedW x p).tries < 3
    · rw [if_pos ht, if_pos ht]; exact ⟨rfl, rfl, rfl, fun _ => rfl⟩
    · rw [if_neg ht, if_neg ht]
      by_cases h0 : p.err = 0
      · rw [if_pos h0, if_pos h0]; exact ⟨rfl, rfl, rfl, fun e => absurd e (by show ¬ (2 : Int) = 0; decide)⟩
      · rw [if_neg h0, if_neg h0]; exact ⟨rfl, rfl, rfl, fun e => absurd e (by show ¬ (2 : Int) = 0; decide)⟩
theorem alike_hear (x : St) (p : Rp) : Alike (hearS x p) (hearD x p) := by
  by_cases h4 : x.at_ = 4
  · rw [show hearD x p = fedD x p from if_pos h4, show hearS x p = fedV x p by unfold hearS; rw [h4]; rfl]
    exact alike_fed x p
  · rw [show hearD x p = hearS x p from if_neg h4]
    exact ⟨rfl, rfl, rfl, fun _ => rfl⟩
theorem alike_end {x y : St} (h : Alike x y) (hid : x.id = y.id) : Alike (endV x) (endV y) := by
  obtain ⟨h1, h2, h3, h4⟩ := h
  by_cases h0 : x.how = 0
  · rw [h4 h0]; exact ⟨rfl, rfl, rfl, fun _ => rfl⟩
  · have h0' : ¬ y.how = 0 := by rw [← h1]; exact h0
    unfold endV
    rw [if_neg (fun h => h0 h.2), if_neg (fun h => h0' h.2)]
    exact ⟨h1, h2, h3, fun e => absurd e h0⟩
theorem goes_id (x : St) (n : Nat) (e : Int) (m : Option Int) : (goesV x n e m).id = x.id := by
  unfold goesV
  split
  · rfl
  · split <;> rfl
theorem fed_ids (x : St) (p : Rp) : (fedV x p).id = x.id ∧ (fedD x p).id = x.id := by
  unfold fedV fedD
  constructor
  · split
    · rfl
    · split
      · rfl
      · split <;> rfl
  · split
    · rfl
    · split <;> rfl
theorem alike_hearV (j : Job) (who : Int) (p : Rp) {x y : St} (h : Alike x y) : Alike (hearV j x who p) (hearVD j y who p) := by
  by_cases h0 : x.how = 0
  · obtain rfl := h.2.2.2 h0
    unfold hearV hearVD
    split
    · refine alike_end (alike_hear x p) ?_
      by_cases h4 : x.at_ = 4
      · rw [show hearD x p = fedD x p from if_pos h4, show hearS x p = fedV x p by unfold hearS; rw [h4]; rfl]
        exact (fed_ids x p).1.trans (fed_ids x p).2.symm
      · rw [show hearD x p = hearS x p from if_neg h4]
    · exact ⟨rfl, rfl, rfl, fun _ => rfl⟩
  · have h0' : ¬ y.how = 0 := by rw [← h.1]; exact h0
    rw [show hearV j x who p = x from if_neg (fun h => h0 h.1), show hearVD j y who p = y from if_neg (fun h => h0' h.1)]
    exact h
theorem alike_start (j : Job) : Alike (startV j) (startV j) := ⟨rfl, rfl, rfl, fun _ => rfl⟩
end Go.Proofs.Yteigjlkgbpgkjaa
