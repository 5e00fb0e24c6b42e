/- The chapter's example. -/
import Derived.Test.YteigjlkgbpgkjaaR22
namespace Go.Proofs.Yteigjlkgbpgkjaa
open Go.RowKit Go.Uc

def jA : Job := ⟨{ data := #[97] }, { data := #[115] }, { data := #[] }, false, { data := #[98] }, 1, 1, true⟩
def xA : St := ⟨0, 1, 0, 0, [], 0, 0⟩
def xB : St := ⟨1, 2, 0, 0, [], 0, 0⟩
def xC : St := ⟨1, 3, 0, 0, [], 2, 170⟩
theorem newA (w : World) : Calls Try.prog 5 #[.agg #[.string { data := #[97] }, .string { data := #[115] }, .string { data := #[] }, .bool false, .string { data := #[98] }, .int .i64 1, .int .i64 1, .bool true]] w fun en w' => ∃ g, en = .returned (.tuple #[.pointer (some ⟨g, 0, none⟩), .int .i64 0]) ∧ w.heap.size ≤ g ∧ RepS w' g none jA xA (.slice none 0 0) ∧ Keeps Non w w' := by
  refine (new_any jA w).mono ?_
  rintro en w' ⟨hk, ⟨h, -⟩ | ⟨-, g, rfl, hg, h⟩⟩
  · exact absurd (by unfold okJ; decide) h
  · exact ⟨g, rfl, hg, h, hk⟩
section
variable {g : Nat} {on : Option Nat} {pv : Value}
theorem nextA (w : World) (h : RepS w g on jA xA pv) (hO : OwnB w 0 5 pv []) : Calls Try.prog 11 #[.pointer (some ⟨g, 0, none⟩)] w fun en w' => ∃ on' A c, en = .returned (.tuple #[.agg #[.int .i64 1, .int .i64 1, .int .i64 27, .string { data := #[98] }, .string { data := #[] }, .string { data := #[] }, .string { data := #[] }, .int .i64 0, .int .i64 0, .slice A 0 c], .int .i64 1, .bool true]) ∧ RepS w' g on' jA xA pv ∧ Keeps (Only g) w w' := by
  refine (next_any w h (by decide) hO (by decide)).mono ?_
  rintro en w' ⟨on', dv, rfl, h1, h2, h3⟩
  obtain ⟨A, c, rfl, -⟩ := h1.open
  exact ⟨on', A, c, by kernel_rfl, h2, h3⟩
theorem nextB (w : World) (h : RepS w g on jA xB pv) (hO : OwnB w 0 5 pv []) : Calls Try.prog 11 #[.pointer (some ⟨g, 0, none⟩)] w fun en w' => ∃ on' A c, en = .returned (.tuple #[.agg #[.int .i64 1, .int .i64 2, .int .i64 24, .string { data := #[98] }, .string { data := #[] }, .string { data := #[] }, .string { data := #[] }, .int .i64 0, .int .i64 0, .slice A 0 c], .int .i64 1, .bool true]) ∧ RepS w' g on' jA xB pv ∧ Keeps (Only g) w w' := by
  refine (next_any w h (by decide) hO (by decide)).mono ?_
  rintro en w' ⟨on', dv, rfl, h1, h2, h3⟩
  obtain ⟨A, c, rfl, -⟩ := h1.open
  exact ⟨on', A, c, by kernel_rfl, h2, h3⟩
theorem hearA (w : World) (h : RepS w g on jA xA pv) (hO : OwnB w 0 5 pv []) :
    Calls Try.prog 9 #[.pointer (some ⟨g, 0, none⟩), .int .i64 1, .agg #[.int .i64 1, .int .i64 1, .int .i64 222, .int .i64 0, .string { data := #[] }, .slice none 0 0, .slice none 0 0]] w fun en w' => en = .returned (.tuple #[]) ∧ ∃ on' pv', RepS w' g on' jA xB pv' ∧ OwnB w' 0 5 pv' [] ∧ Keeps (Only g) w w' := by
  refine (hear_any (x := xA) 1 ⟨1, 1, 222, 0, { data := #[] }, [], []⟩ none 0 none 0 w h (by decide) hO (by decide) (fun W _ => ⟨AtS.nil _ _, At.nil _ _⟩) (by constructor <;> decide)).mono ?_
  rintro en w' ⟨rfl, on', pv', h1, h2, -, h3⟩
  have e : hearV jA xA 1 ⟨1, 1, 222, 0, { data := #[] }, [], []⟩ = xB := by kernel_rfl
  rw [e] at h1 h2
  exact ⟨rfl, on', pv', h1, h2, h3⟩
theorem hearB (w : World) (h : RepS w g on jA xB pv) (hO : OwnB w 0 5 pv []) :
    Calls Try.prog 9 #[.pointer (some ⟨g, 0, none⟩), .int .i64 0, .agg #[.int .i64 1, .int .i64 2, .int .i64 0, .int .i64 0, .string { data := #[] }, .slice none 0 0, .slice none 0 0]] w fun en w' => en = .returned (.tuple #[]) ∧ ∃ on' pv', RepS w' g on' jA xB pv' ∧ OwnB w' 0 5 pv' [] ∧ Keeps (Only g) w w' := by
  refine (hear_any (x := xB) 0 ⟨1, 2, 0, 0, { data := #[] }, [], []⟩ none 0 none 0 w h (by decide) hO (by decide) (fun W _ => ⟨AtS.nil _ _, At.nil _ _⟩) (by constructor <;> decide)).mono ?_
  rintro en w' ⟨rfl, on', pv', h1, h2, -, h3⟩
  have e : hearV jA xB 0 ⟨1, 2, 0, 0, { data := #[] }, [], []⟩ = xB := by kernel_rfl
  rw [e] at h1 h2
  exact ⟨rfl, on', pv', h1, h2, h3⟩
theorem hearC (w : World) (h : RepS w g on jA xB pv) (hO : OwnB w 0 5 pv []) :
    Calls Try.prog 9 #[.pointer (some ⟨g, 0, none⟩), .int .i64 1, .agg #[.int .i64 1, .int .i64 2, .int .i64 170, .int .i64 0, .string { data := #[] }, .slice none 0 0, .slice none 0 0]] w fun en w' => en = .returned (.tuple #[]) ∧ ∃ on' pv', RepS w' g on' jA xC pv' ∧ OwnB w' 0 5 pv' [] ∧ Keeps (Only g) w w' := by
  refine (hear_any (x := xB) 1 ⟨1, 2, 170, 0, { data := #[] }, [], []⟩ none 0 none 0 w h (by decide) hO (by decide) (fun W _ => ⟨AtS.nil _ _, At.nil _ _⟩) (by constructor <;> decide)).mono ?_
  rintro en w' ⟨rfl, on', pv', h1, h2, -, h3⟩
  have e : hearV jA xB 1 ⟨1, 2, 170, 0, { data := #[] }, [], []⟩ = xC := by kernel_rfl
  rw [e] at h1 h2
  exact ⟨rfl, on', pv', h1, h2, h3⟩

end
set_option maxRecDepth 100000 in
set_option maxHeartbeats 8000000 in
theorem awake_any (w : World) : Calls Try.prog 4 #[] w fun en w' => en = .returned (.bool true) ∧ Keeps Non w w' := by
  have HNW := Lib.hid (newA w)
  go_enter Try.func4, Try.ntmps4
  go_upto_region 4 with (go_at_call 5; go_must (refine HNW.out.mono ?_); rintro en w1 ⟨g, rfl, hg, h1, hK1⟩)
  have HNX := Lib.hid (nextA w1 h1 (OwnB.nil _ _ _))
  have HK1 := Lib.hid hK1
  clear hK1 h1 HNW
  go_upto_region 5 with (go_at_call 11; go_must (refine HNX.out.mono ?_); rintro en w2 ⟨on2, A1, c1, rfl, h2, hK2⟩)
  obtain ⟨a, ha⟩ : ∃ a, a = w2.heap.size := ⟨_, rfl⟩
  obtain ⟨w3, hw3⟩ : ∃ W, W = w2.alloc (.cells #[.int .i64 1, .int .i64 1, .int .i64 27, .string { data := #[98] }, .string { data := #[] }, .string { data := #[] }, .string { data := #[] }, .int .i64 0, .int .i64 0, .slice A1 0 c1] 41) := ⟨_, rfl⟩
  have hA3 : Blk w3 a 41 #[.int .i64 1, .int .i64 1, .int .i64 27, .string { data := #[98] }, .string { data := #[] }, .string { data := #[] }, .string { data := #[] }, .int .i64 0, .int .i64 0, .slice A1 0 c1] := by rw [hw3, ha]; exact Blk.new _ _ _
  have hk3 : Keeps Non w2 w3 := by rw [hw3]; exact (Keeps.refl _ _).alloc _
  have h3 := h2.non hk3
  have hag : a ≠ g := by
    obtain ⟨dd, ss, hb, -⟩ := h3.blk
    exact hA3.ne hb (by decide)
  have HH1 := Lib.hid (hearA w3 h3 (OwnB.nil _ _ _))
  have hKw3 : Keeps (Only g) w1 w3 := hK2.non hk3
  rw [← hw3, ← ha]
  clear hw3 ha hk3 h3 h2 hK2 HNX
  go_upto_region 6 with (go_at_call 9; go_must (refine HH1.out.mono ?_); rintro en w4 ⟨rfl, on4, pv4, h4, hO4, hK4⟩)
  have HNX := Lib.hid (nextB w4 h4 hO4)
  have hA4 := hA3.one hK4 hag
  have hKw4 := hKw3.trans hK4
  obtain ⟨d4, s4, hg4, -⟩ := h4.blk
  have hpa : ∀ k, pv4.ownBlock = some k → k ≠ g := Blk.apart hg4 hO4 (by decide)
  clear h4 hg4 hK4 hA3 hKw3 HH1
  go_upto_region 7 with (go_at_call 11; go_must (refine HNX.out.mono ?_); rintro en w5 ⟨on5, A2, c2, rfl, h5, hK5⟩)
  obtain ⟨b, hb⟩ : ∃ b, b = w5.heap.size := ⟨_, rfl⟩
  obtain ⟨w6, hw6⟩ : ∃ W, W = w5.alloc (.cells #[.int .i64 1, .int .i64 2, .int .i64 24, .string { data := #[98] }, .string { data := #[] }, .string { data := #[] }, .string { data := #[] }, .int .i64 0, .int .i64 0, .slice A2 0 c2] 41) := ⟨_, rfl⟩
  have hB6 : Blk w6 b 41 #[.int .i64 1, .int .i64 2, .int .i64 24, .string { data := #[98] }, .string { data := #[] }, .string { data := #[] }, .string { data := #[] }, .int .i64 0, .int .i64 0, .slice A2 0 c2] := by rw [hw6, hb]; exact Blk.new _ _ _
  have hk6 : Keeps Non w5 w6 := by rw [hw6]; exact (Keeps.refl _ _).alloc _
  have h6 := h5.non hk6
  obtain ⟨dd, ss, hg6, -⟩ := h6.blk
  have hbg : b ≠ g := hB6.ne hg6 (by decide)
  have hA6 := (hA4.one hK5 hag).non hk6
  have hKw6 := hKw4.trans (hK5.non hk6)
  have HH2 := Lib.hid (hearB w6 h6 (OwnB.keep hO4 (hK5.non hk6) hpa))
  rw [← hw6, ← hb]
  clear hw6 hb hk6 hg6 h5 h6 hK5 hA4 hKw4 hO4 HNX hpa
  go_upto_region 8 with (go_at_call 9; go_must (refine HH2.out.mono ?_); rintro en w7 ⟨rfl, on7, pv7, h7, hO7, hK7⟩)
  have HH3 := Lib.hid (hearC w7 h7 hO7)
  have hA7 := hA6.one hK7 hag
  have hB7 := hB6.one hK7 hbg
  have hKw7 := hKw6.trans hK7
  clear h7 hO7 hK7 hA6 hB6 hKw6 HH2
  go_upto_region 9 with (go_at_call 9; go_must (refine HH3.out.mono ?_); rintro en w8 ⟨rfl, on8, pv8, h8, hO8, hK8⟩)
  have HST := Lib.hid (state_any w8 h8)
  have hA8 := hA7.one hK8 hag
  have hB8 := hB7.one hK8 hbg
  have hKw8 := hKw7.trans hK8
  clear h8 hO8 hK8 hA7 hB7 hKw7 HH3
  go_upto_region 10 with (go_at_call 12; go_must (refine HST.out.mono ?_); rintro en w9 ⟨rfl, hK9⟩)
  have hA9 := hA8.non hK9
  have hB9 := hB8.non hK9
  have a2 : w9.cell? ⟨a, 2, none⟩ = some (.int .i64 27) := hA9.cell 2
  have a3 : w9.cell? ⟨a, 3, none⟩ = some (.string { data := #[98] }) := hA9.cell 3
  have a1 : w9.cell? ⟨a, 1, none⟩ = some (.int .i64 1) := hA9.cell 1
  have b2 : w9.cell? ⟨b, 2, none⟩ = some (.int .i64 24) := hB9.cell 2
  have b1 : w9.cell? ⟨b, 1, none⟩ = some (.int .i64 2) := hB9.cell 1
  have HK := Lib.hid (HK1.out.then (hKw8.non hK9) fun i hi e => by unfold Only at e; omega)
  unfold xC
  clear hA9 hB9 hA8 hB8 hKw8 hK9 HST
  go_wp2_with fail
  go_ret
  exact ⟨rfl, HK.out⟩
end Go.Proofs.Yteigjlkgbpgkjaa
