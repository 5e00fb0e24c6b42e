/- New, Last, Counts, pick, SameReply. -/
import Derived.Test.YtmlffigfhhoihacS8
import Derived.BigQuiet
import Derived.Deep.QuietTactic
namespace Go.Proofs.Ytmlffigfhhoihac
open Go.RowKit Go.Uc

def I64 (n : Int) : Prop := -9223372036854775808 ≤ n ∧ n ≤ 9223372036854775807
def pk (c n : Int) : Int := if c < 0 then (-(c + 1)).tmod n else c % n
theorem pk_bounds (c n : Int) (h : 0 < n) : 0 ≤ pk c n ∧ pk c n < n := by
  unfold pk
  split
  · exact ⟨Int.tmod_nonneg n (by omega), Int.tmod_lt_of_pos _ h⟩
  · exact ⟨Int.emod_nonneg c (by omega), Int.emod_lt_of_pos c h⟩
theorem pick_pk (c n : Int) (w : World) (h1 : 0 < n) (h2 : n ≤ 9223372036854775807) (h3 : I64 c) :
    Calls Try.prog 8 #[.int .i64 c, .int .i64 n] w fun e w' => e = .returned (.int .i64 (pk c n)) ∧ w = w' := by
  unfold I64 at h3
  obtain ⟨h3, h4⟩ := h3
  unfold pk
  by_cases hc : c < 0
  · go_enter Try.func8, Try.ntmps8
    go_wp2
    go_ret
    exact ⟨ret_int (by simp [Int.neg_tmod]), rfl⟩
  · go_enter Try.func8, Try.ntmps8
    go_wp2
    go_ret
    exact ⟨ret_int (by first | rfl | simp), rfl⟩

theorem new_any (B : Nat) (A : Nat → Prop) (w : World) (hB : B ≤ w.heap.size) :
    Calls Try.prog 7 #[] w fun e w' => e = .returned (.pointer (some ⟨w.heap.size, 0, none⟩)) ∧ Tab w' B A w.heap.size none (fun _ => Rp.none) 0 0 0 ∧ Keeps Non w w' := by
  go_enter Try.func7, Try.ntmps7
  go_wp2
  go_ret
  exact ⟨rfl, .inl ⟨rfl, hB, Blk.new _ _ _, fun _ => rfl⟩, (Keeps.refl _ _).alloc _⟩

/-- The number that a session was answered last. -/
def lastV (K : Nat → Rp) (s : Int) : Int := if isB s 1 then (K s.toNat).id else 0
set_option maxHeartbeats 1000000 in
theorem last_any {B g : Nat} {ok : Option Nat} {A : Nat → Prop} {K : Nat → Rp} {f a r : Int} (s : Int) (w : World) (h : Tab w B A g ok K f a r) (hB : B ≤ w.heap.size) :
    Calls Try.prog 11 #[.pointer (some ⟨g, 0, none⟩), .int .i64 s] w fun e w' => ∃ ok', e = .returned (.int .i64 (lastV K s)) ∧ Tab w' B A g ok' K f a r ∧ Ext w ok ok' ∧ Keeps (Only g) w w' := by
  unfold lastV
  have HIS := Lib.hid (fun W => is_any s 1 W)
  have HH := Lib.hid h
  cases hs : isB s 1 with
  | false =>
    have HS := Lib.hid hs
    clear hs
    go_enter Try.func11, Try.ntmps11
    go_wp2_with fail
    refine (HIS.out _).mono ?_
    rw [HS.out]
    rintro e w2 ⟨rfl, hw2⟩
    subst w2
    go_wp2_with fail
    go_ret
    exact ⟨rfl, ok, HH.out, .inl rfl, Keeps.refl _ _⟩
  | true =>
    have hb := isB_of hs
    obtain ⟨sn, rfl⟩ := Int.eq_ofNat_of_zero_le (show 0 ≤ s by omega)
    have HS := Lib.hid hs
    have HP := Lib.hid (places_any w h hB)
    clear hs
    go_enter Try.func11, Try.ntmps11
    go_wp2_with fail
    refine (HIS.out _).mono ?_
    rw [HS.out]
    rintro e w2 ⟨rfl, hw2⟩
    subst w2
    go_wp2_with fail
    refine HP.out.mono ?_
    rintro e w3 ⟨gk, rfl, hT3, hE3, hK3⟩
    obtain ⟨cur, hcb, hcz, hcv⟩ := hT3.row
    obtain ⟨l, d, -, e1, -⟩ := hcv sn (by omega)
    have c1 : w3.cell? ⟨gk, sn * 7 + 1, none⟩ = some (.int .i64 (K sn).id) := by rw [hcb.cell]; exact e1
    have HT3 := Lib.hid hT3.tab
    clear hcb hcv e1 hT3
    go_wp2_with fail
    go_ret
    exact ⟨rfl, some gk, HT3.out, hE3, hK3⟩

set_option maxRecDepth 100000 in
set_option maxHeartbeats 1000000 in
theorem counts_any {B g : Nat} {ok : Option Nat} {A : Nat → Prop} {K : Nat → Rp} {f a r : Int} (w : World) (h : Tab w B A g ok K f a r) :
    Calls Try.prog 17 #[.pointer (some ⟨g, 0, none⟩)] w fun e w' => e = .returned (.tuple #[.int .i64 f, .int .i64 a, .int .i64 r]) ∧ Keeps Non w w' := by
  obtain ⟨d, kept, hb, -⟩ := h.blk
  have L4 := Lib.hid (fun n => load_any ⟨g, 4, none⟩ f (w.drewN n) (hb.drewN n |>.cell 4))
  have L5 := Lib.hid (fun n => load_any ⟨g, 5, none⟩ a (w.drewN n) (hb.drewN n |>.cell 5))
  have L6 := Lib.hid (fun n => load_any ⟨g, 6, none⟩ r (w.drewN n) (hb.drewN n |>.cell 6))
  clear hb h
  go_enter Try.func17, Try.ntmps17
  go_wp2_with fail
  go_quiet (first
    | (go_at_call 25; refine Calls.quiet_of_same (L4.out _))
    | (go_at_call 25; refine Calls.quiet_of_same (L5.out _))
    | (go_at_call 25; refine Calls.quiet_of_same (L6.out _)))
  go_wp2_with fail
  go_ret3
  exact ⟨rfl, (Keeps.refl _ _).drewN _⟩

set_option maxRecDepth 100000 in
set_option maxHeartbeats 4000000 in
theorem same_any (p : Rp) (l d l' d' : Value) (w : World) (h1 : RdR w l d p) (h2 : RdR w l' d' p) (hb : RpB p) :
    Calls Try.prog 12 #[.agg #[.int .i64 p.ses, .int .i64 p.id, .int .i64 p.err, .int .i64 p.num, .string p.text, l, d], .agg #[.int .i64 p.ses, .int .i64 p.id, .int .i64 p.err, .int .i64 p.num, .string p.text, l', d']] w fun e w' => e = .returned (.bool true) ∧ Keeps Non w w' := by
  obtain ⟨Al, cl, Ad, cd, rfl, rfl, s1, s2, s3, s4⟩ := h1
  obtain ⟨Bl, dl, Bd, dd, rfl, rfl, t1, t2, t3, t4⟩ := h2
  obtain ⟨b1, b2⟩ := hb
  obtain ⟨w1, hw1⟩ : ∃ w1, w1 = (w.alloc (.cells #[.int .i64 p.ses, .int .i64 p.id, .int .i64 p.err, .int .i64 p.num, .string p.text, (.slice Al p.list.length cl), (.slice Ad p.data.length cd)] 31)).alloc (.cells #[.int .i64 p.ses, .int .i64 p.id, .int .i64 p.err, .int .i64 p.num, .string p.text, (.slice Bl p.list.length dl), (.slice Bd p.data.length dd)] 31) := ⟨_, rfl⟩
  obtain ⟨q, hq⟩ : ∃ q, q = w.heap.size := ⟨_, rfl⟩
  have hk1 : Keeps Non w w1 := by rw [hw1]; exact ((Keeps.refl _ _).alloc _).alloc _
  have hX : Blk w1 q 31 #[.int .i64 p.ses, .int .i64 p.id, .int .i64 p.err, .int .i64 p.num, .string p.text, (.slice Al p.list.length cl), (.slice Ad p.data.length cd)] := by rw [hw1, hq]; exact (Blk.new _ _ _).alloc _
  have hY : Blk w1 (q + 1) 31 #[.int .i64 p.ses, .int .i64 p.id, .int .i64 p.err, .int .i64 p.num, .string p.text, (.slice Bl p.list.length dl), (.slice Bd p.data.length dd)] := by rw [hw1, hq]; have := Blk.new (w.alloc (.cells #[.int .i64 p.ses, .int .i64 p.id, .int .i64 p.err, .int .i64 p.num, .string p.text, (.slice Al p.list.length cl), (.slice Ad p.data.length cd)] 31)) 31 #[.int .i64 p.ses, .int .i64 p.id, .int .i64 p.err, .int .i64 p.num, .string p.text, (.slice Bl p.list.length dl), (.slice Bd p.data.length dd)]; simpa using this
  have x0 : w1.cell? ⟨q, 0, none⟩ = some (.int .i64 p.ses) := hX.cell 0
  have x1 : w1.cell? ⟨q, 1, none⟩ = some (.int .i64 p.id) := hX.cell 1
  have x2 : w1.cell? ⟨q, 2, none⟩ = some (.int .i64 p.err) := hX.cell 2
  have x3 : w1.cell? ⟨q, 3, none⟩ = some (.int .i64 p.num) := hX.cell 3
  have x4 : w1.cell? ⟨q, 4, none⟩ = some (.string p.text) := hX.cell 4
  have x5 : w1.cell? ⟨q, 5, none⟩ = some (.slice Al p.list.length cl) := hX.cell 5
  have y0 : w1.cell? ⟨q + 1, 0, none⟩ = some (.int .i64 p.ses) := hY.cell 0
  have y1 : w1.cell? ⟨q + 1, 1, none⟩ = some (.int .i64 p.id) := hY.cell 1
  have y2 : w1.cell? ⟨q + 1, 2, none⟩ = some (.int .i64 p.err) := hY.cell 2
  have y3 : w1.cell? ⟨q + 1, 3, none⟩ = some (.int .i64 p.num) := hY.cell 3
  have y4 : w1.cell? ⟨q + 1, 4, none⟩ = some (.string p.text) := hY.cell 4
  have y5 : w1.cell? ⟨q + 1, 5, none⟩ = some (.slice Bl p.list.length dl) := hY.cell 5
  have S1 := Lib.hid (s1.non hk1)
  have S2 := Lib.hid (s2.non hk1)
  have T1 := Lib.hid (t1.non hk1)
  have T2 := Lib.hid (t2.non hk1)
  have HX := Lib.hid hX
  have HY := Lib.hid hY
  clear s1 s2 t1 t2 hX hY
  go_enter Try.func12, Try.ntmps12
  go_wp2_with fail
  rw [← hw1, ← hq]
  clear hw1 hq
  go_loopw [5] (fun i wr => ∃ k : Nat, k ≤ p.list.length ∧ i = .int .i64 k ∧ Keeps Non w1 wr) (fun i _ => p.list.length - (intOf i).toNat)
  case atStart => exact ⟨0, Nat.zero_le _, rfl, Keeps.refl _ _⟩
  case round =>
    clear x0 x1 x2 x3 x4 x5 y0 y1 y2 y3 y4 y5
    obtain ⟨k, hk, rfl, hK⟩ := hrel
    have x5 : wr.cell? ⟨q, 5, none⟩ = some (.slice Al p.list.length cl) := (HX.out.non hK).cell 5
    have y5 : wr.cell? ⟨q + 1, 5, none⟩ = some (.slice Bl p.list.length dl) := (HY.out.non hK).cell 5
    by_cases hlt : k < p.list.length
    · obtain ⟨bx, ox, rfl, cx⟩ := (S1.out.non hK).at_ hlt
      obtain ⟨by_, oy, rfl, cy⟩ := (T1.out.non hK).at_ hlt
      go_wp2
      go_quiet (fail)
      go_wp2
      go_roundw
      case rel => exact ⟨k + 1, by omega, by go_num, hK.drewN _⟩
      case measure => simp [intOf]; omega
    · have x6 : wr.cell? ⟨q, 6, none⟩ = some (.slice Ad p.data.length cd) := (HX.out.non hK).cell 6
      have y6 : wr.cell? ⟨q + 1, 6, none⟩ = some (.slice Bd p.data.length dd) := (HY.out.non hK).cell 6
      have cv1 := run_convert_at (P := Try.prog) (w := wr) 29 9 5 Try.underlying29 Try.underlying5 Try.underlying9 _ _ (S2.out.non hK) p.data.length cd rfl
      have cv2 := run_convert_at (P := Try.prog) (w := wr) 29 9 5 Try.underlying29 Try.underlying5 Try.underlying9 _ _ (T2.out.non hK) p.data.length dd rfl
      go_wp2
      go_ret
      exact ⟨rfl, hk1.trans hK⟩
end Go.Proofs.Ytmlffigfhhoihac
