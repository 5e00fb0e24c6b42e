/- SumTexts: the walk. -/
import Derived.Test.YtbkhfemoogcpkaaDoorW7
namespace Go.Proofs.YtbkhfemoogcpkaaDoor
set_option maxRecDepth 100000
open Go.RowKit Go.Uc

theorem parse_any (s : List UInt8) (hn : s.length ≤ 9223372036854775807) (w : World) (hE : ErrW w) (h6 : w.cell? ⟨6, 15, none⟩ = some (.int .u8 4)) : Calls Tryd.prog 6 #[.string (str s)] w (ParsR (parseO s) w) := by
  by_cases h : s.length = 64
  · exact parse_long s h w hE h6
  · exact parse_short s h hn w
theorem refparse_any (s : List UInt8) (hn : s.length ≤ 9223372036854775807) (w : World) : Calls Tryd.prog 7 #[.string (str s)] w (ParsR (refO s) w) := by
  by_cases h : s.length = 64
  · exact refparse_long s h w
  · exact refparse_short s h hn w
/-- A result's cells and its number. -/
def resS (o : Option (BitVec 64 × BitVec 64 × BitVec 64 × BitVec 64)) : Sum4 := match o with | some x => ⟨x.1, x.2.1, x.2.2.1, x.2.2.2⟩ | none => sum0
def resE (o : Option (BitVec 64 × BitVec 64 × BitVec 64 × BitVec 64)) : Int := match o with | some _ => 0 | none => 21
theorem ParsR.eq {o : Option (BitVec 64 × BitVec 64 × BitVec 64 × BitVec 64)} {w w' : World} {e : Ending} (h : ParsR o w e w') : e = .returned (.tuple #[(resS o).v, .int .i64 (resE o)]) ∧ Keeps Non w w' := by
  cases o with
  | none => exact h
  | some x => exact h
theorem parseO_text (a b c d : BitVec 64) : parseO (text4 a b c d) = some (a, b, c, d) := by
  unfold parseO
  rw [if_pos (by unfold text4; simp [text64_length]), parseP_text]

set_option maxHeartbeats 2000000 in
theorem sumTexts_any (s : Sum4) (x : List UInt8) (hn : x.length ≤ 9223372036854775807) (w : World) (hG : Good w) (hE : ErrW w) :
    Calls Tryd.prog 3 #[s.v, .string (str x)] w fun e w' => e = .returned (.bool true) ∧ Keeps Non w w' := by
  obtain ⟨A, B, C, D⟩ := s
  rw [show (⟨A, B, C, D⟩ : Sum4).v = .agg #[.int .u64 (v64 A), .int .u64 (v64 B), .int .u64 (v64 C), .int .u64 (v64 D)] from rfl]
  obtain ⟨o, ho⟩ : ∃ o, o = parseO x := ⟨_, rfl⟩
  have HP : Hid (∀ W, ErrW W → W.cell? ⟨6, 15, none⟩ = some (.int .u8 4) → Calls Tryd.prog 6 #[.string (str x)] W fun e w' => e = .returned (.tuple #[(resS o).v, .int .i64 (resE o)]) ∧ Keeps Non W w') := fun W h1 h2 => by
    rw [ho]; exact (parse_any x hn W h1 h2).mono fun e w' h => h.eq
  have HR : Hid (∀ W, Calls Tryd.prog 7 #[.string (str x)] W fun e w' => e = .returned (.tuple #[(resS o).v, .int .i64 (resE o)]) ∧ Keeps Non W w') := fun W => by
    rw [ho, parseO_ref]; exact (refparse_any x hn W).mono fun e w' h => h.eq
  have HB : Hid (∀ W, ErrW W → W.cell? ⟨6, 15, none⟩ = some (.int .u8 4) → Calls Tryd.prog 6 #[.string (str (text4 A B C D))] W fun e w' => e = .returned (.tuple #[.agg #[.int .u64 (v64 A), .int .u64 (v64 B), .int .u64 (v64 C), .int .u64 (v64 D)], .int .i64 0]) ∧ Keeps Non W w') := fun W h1 h2 => by
    refine (parse_any _ (by unfold text4; simp [text64_length]) W h1 h2).mono fun e w' h => ?_
    have := h.eq
    rw [parseO_text] at this
    exact this
  clear ho
  obtain ⟨⟨XA, XB, XC, XD⟩, hX⟩ : ∃ X, X = resS o := ⟨_, rfl⟩
  obtain ⟨xe, hxe⟩ : ∃ X, X = resE o := ⟨_, rfl⟩
  rw [← hX, ← hxe] at HP HR
  clear hX hxe
  simp only [Sum4.v, sv] at HP HR
  go_enter Tryd.func3, Tryd.ntmps3
  go_wp2_with fail
  have h1 := Blk.new w 24 #[.int .u64 (v64 A), .int .u64 (v64 B), .int .u64 (v64 C), .int .u64 (v64 D)]
  have hK := (Keeps.refl Non w).alloc (.cells #[.int .u64 (v64 A), .int .u64 (v64 B), .int .u64 (v64 C), .int .u64 (v64 D)] 24)
  obtain ⟨w1, hw⟩ : ∃ W : World, W = w.alloc (.cells #[.int .u64 (v64 A), .int .u64 (v64 B), .int .u64 (v64 C), .int .u64 (v64 D)] 24) := ⟨_, rfl⟩
  rw [← hw] at h1 hK ⊢
  obtain ⟨g1, hg⟩ : ∃ r, r = w.heap.size := ⟨_, rfl⟩
  rw [← hg] at h1 ⊢
  clear hw hg
  replace hG := hG.non hK
  replace hE := hE.non hK
  refine (awake_any w1 hG).mono ?_
  rintro e w2 ⟨rfl, hK2⟩
  replace h1 := h1.non hK2
  replace hK := hK.non hK2
  replace hG := hG.non hK2
  replace hE := hE.non hK2
  clear hK2
  have c0 : w2.cell? ⟨g1, 0, none⟩ = some (.int .u64 (v64 A)) := h1.cell 0
  have c1 : w2.cell? ⟨g1, 1, none⟩ = some (.int .u64 (v64 B)) := h1.cell 1
  have c2 : w2.cell? ⟨g1, 2, none⟩ = some (.int .u64 (v64 C)) := h1.cell 2
  have c3 : w2.cell? ⟨g1, 3, none⟩ = some (.int .u64 (v64 D)) := h1.cell 3
  go_wp2_with fail
  clear c0 c1 c2 c3
  refine (print_all ⟨A, B, C, D⟩ w2 hG.2).mono ?_
  rintro e w3 ⟨rfl, hK2⟩
  replace h1 := h1.non hK2
  replace hK := hK.non hK2
  replace hG := hG.non hK2
  replace hE := hE.non hK2
  clear hK2
  go_wp2_with fail
  refine (HB.out w3 hE hG.2).mono ?_
  rintro e w4 ⟨rfl, hK2⟩
  replace h1 := h1.non hK2
  replace hK := hK.non hK2
  replace hG := hG.non hK2
  replace hE := hE.non hK2
  clear hK2
  go_wp2_with fail
  have h2 := Blk.new w4 24 #[.int .u64 (v64 A), .int .u64 (v64 B), .int .u64 (v64 C), .int .u64 (v64 D)]
  replace h1 := h1.alloc (.cells #[.int .u64 (v64 A), .int .u64 (v64 B), .int .u64 (v64 C), .int .u64 (v64 D)] 24)
  have hk := (Keeps.refl Non w4).alloc (.cells #[.int .u64 (v64 A), .int .u64 (v64 B), .int .u64 (v64 C), .int .u64 (v64 D)] 24)
  obtain ⟨w5, hw⟩ : ∃ W : World, W = w4.alloc (.cells #[.int .u64 (v64 A), .int .u64 (v64 B), .int .u64 (v64 C), .int .u64 (v64 D)] 24) := ⟨_, rfl⟩
  rw [← hw] at h1 h2 hk ⊢
  obtain ⟨g2, hg⟩ : ∃ r, r = w4.heap.size := ⟨_, rfl⟩
  rw [← hg] at h2 ⊢
  clear hw hg
  replace hK := hK.non hk
  replace hG := hG.non hk
  replace hE := hE.non hk
  refine (HP.out w5 hE hG.2).mono ?_
  rintro e w6 ⟨rfl, hK2⟩
  replace h1 := h1.non hK2
  replace h2 := h2.non hK2
  replace hK := hK.non hK2
  clear hK2 hE hG hk
  go_wp2_with fail
  have h3 := Blk.new w6 24 #[.int .u64 (v64 XA), .int .u64 (v64 XB), .int .u64 (v64 XC), .int .u64 (v64 XD)]
  replace h1 := h1.alloc (.cells #[.int .u64 (v64 XA), .int .u64 (v64 XB), .int .u64 (v64 XC), .int .u64 (v64 XD)] 24)
  replace h2 := h2.alloc (.cells #[.int .u64 (v64 XA), .int .u64 (v64 XB), .int .u64 (v64 XC), .int .u64 (v64 XD)] 24)
  replace hK := hK.alloc (.cells #[.int .u64 (v64 XA), .int .u64 (v64 XB), .int .u64 (v64 XC), .int .u64 (v64 XD)] 24)
  obtain ⟨w7, hw⟩ : ∃ W : World, W = w6.alloc (.cells #[.int .u64 (v64 XA), .int .u64 (v64 XB), .int .u64 (v64 XC), .int .u64 (v64 XD)] 24) := ⟨_, rfl⟩
  rw [← hw] at h1 h2 h3 hK ⊢
  obtain ⟨g3, hg⟩ : ∃ r, r = w6.heap.size := ⟨_, rfl⟩
  rw [← hg] at h3 ⊢
  clear hw hg
  refine (HR.out w7).mono ?_
  rintro e w8 ⟨rfl, hK2⟩
  replace h1 := h1.non hK2
  replace h2 := h2.non hK2
  replace h3 := h3.non hK2
  replace hK := hK.non hK2
  clear hK2
  have hl1 := h1.lt
  have c0 : w8.cell? ⟨g1, 0, none⟩ = some (.int .u64 (v64 A)) := h1.cell 0
  have c1 : w8.cell? ⟨g1, 1, none⟩ = some (.int .u64 (v64 B)) := h1.cell 1
  have c2 : w8.cell? ⟨g1, 2, none⟩ = some (.int .u64 (v64 C)) := h1.cell 2
  have c3 : w8.cell? ⟨g1, 3, none⟩ = some (.int .u64 (v64 D)) := h1.cell 3
  go_wp2_with fail
  clear c0 c1 c2 c3
  have h4 := Blk.new w8 24 #[.int .u64 (v64 XA), .int .u64 (v64 XB), .int .u64 (v64 XC), .int .u64 (v64 XD)]
  replace h1 := h1.alloc (.cells #[.int .u64 (v64 XA), .int .u64 (v64 XB), .int .u64 (v64 XC), .int .u64 (v64 XD)] 24)
  replace h2 := h2.alloc (.cells #[.int .u64 (v64 XA), .int .u64 (v64 XB), .int .u64 (v64 XC), .int .u64 (v64 XD)] 24)
  replace h3 := h3.alloc (.cells #[.int .u64 (v64 XA), .int .u64 (v64 XB), .int .u64 (v64 XC), .int .u64 (v64 XD)] 24)
  replace hK := hK.alloc (.cells #[.int .u64 (v64 XA), .int .u64 (v64 XB), .int .u64 (v64 XC), .int .u64 (v64 XD)] 24)
  obtain ⟨w9, hw⟩ : ∃ W : World, W = w8.alloc (.cells #[.int .u64 (v64 XA), .int .u64 (v64 XB), .int .u64 (v64 XC), .int .u64 (v64 XD)] 24) := ⟨_, rfl⟩
  rw [← hw] at h1 h2 h3 h4 hK ⊢
  obtain ⟨g4, hg⟩ : ∃ r, r = w8.heap.size := ⟨_, rfl⟩
  rw [← hg] at h4 ⊢
  clear hw hg
  refine (refprint_any ⟨A, B, C, D⟩ w9).mono ?_
  rintro e w10 ⟨rfl, hK2⟩
  replace h1 := h1.non hK2
  replace h2 := h2.non hK2
  replace h3 := h3.non hK2
  replace h4 := h4.non hK2
  replace hK := hK.non hK2
  clear hK2 hl1
  have c0 : w10.cell? ⟨g1, 0, none⟩ = some (.int .u64 (v64 A)) := h1.cell 0
  have c1 : w10.cell? ⟨g1, 1, none⟩ = some (.int .u64 (v64 B)) := h1.cell 1
  have c2 : w10.cell? ⟨g1, 2, none⟩ = some (.int .u64 (v64 C)) := h1.cell 2
  have c3 : w10.cell? ⟨g1, 3, none⟩ = some (.int .u64 (v64 D)) := h1.cell 3
  have d0 : w10.cell? ⟨g2, 0, none⟩ = some (.int .u64 (v64 A)) := h2.cell 0
  have d1 : w10.cell? ⟨g2, 1, none⟩ = some (.int .u64 (v64 B)) := h2.cell 1
  have d2 : w10.cell? ⟨g2, 2, none⟩ = some (.int .u64 (v64 C)) := h2.cell 2
  have d3 : w10.cell? ⟨g2, 3, none⟩ = some (.int .u64 (v64 D)) := h2.cell 3
  have x0 : w10.cell? ⟨g3, 0, none⟩ = some (.int .u64 (v64 XA)) := h3.cell 0
  have x1 : w10.cell? ⟨g3, 1, none⟩ = some (.int .u64 (v64 XB)) := h3.cell 1
  have x2 : w10.cell? ⟨g3, 2, none⟩ = some (.int .u64 (v64 XC)) := h3.cell 2
  have x3 : w10.cell? ⟨g3, 3, none⟩ = some (.int .u64 (v64 XD)) := h3.cell 3
  have y0 : w10.cell? ⟨g4, 0, none⟩ = some (.int .u64 (v64 XA)) := h4.cell 0
  have y1 : w10.cell? ⟨g4, 1, none⟩ = some (.int .u64 (v64 XB)) := h4.cell 1
  have y2 : w10.cell? ⟨g4, 2, none⟩ = some (.int .u64 (v64 XC)) := h4.cell 2
  have y3 : w10.cell? ⟨g4, 3, none⟩ = some (.int .u64 (v64 XD)) := h4.cell 3
  go_wp2_with fail
  go_ret
  refine ⟨ret_bool ?_, hK⟩
  simp
end Go.Proofs.YtbkhfemoogcpkaaDoor
