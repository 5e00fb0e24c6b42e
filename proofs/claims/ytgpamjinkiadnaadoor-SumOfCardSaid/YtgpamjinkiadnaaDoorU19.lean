/- SumOf: the walk. -/
import Derived.Test.YtgpamjinkiadnaaDoorU17
import Derived.Test.YtgpamjinkiadnaaDoorU18
namespace Go.Proofs.YtgpamjinkiadnaaDoor
open Go.RowKit Go.Uc

theorem Sum4.eqv_refl (s : Sum4) : s.eqv s = true := (Sum4.eqv_iff s s).2 rfl

set_option maxRecDepth 100000 in
set_option maxHeartbeats 2000000 in
theorem sumOf_any (kind : Int) (A : Option Addr) (c : Nat) (bs : List UInt8) (s : Sum4) (w : World) (hA : At w A bs) (hc : bs.length ≤ c) (hn : bs.length ≤ 140737488351232) (hG : Good2 w) :
    Calls Tryd.prog 3 #[.int .i64 kind, .slice A bs.length c, s.v] w fun e w' => e = .returned (.bool true) ∧ Keeps Non w w' := by
  obtain ⟨o, ho⟩ : ∃ o, o = ofP roundsK kind bs := ⟨_, rfl⟩
  have HOf : Hid (∀ (W : World) (A : Option Addr) (c : Nat), At W A bs → bs.length ≤ c → Good2 W → Calls Tryd.prog 9 #[.int .i64 kind, .slice A bs.length c] W fun e w' => e = .returned (.tuple #[o.1.v, .int .i64 o.2]) ∧ Keeps Non W w') :=
    fun W A c h1 h2 h3 => by rw [ho]; exact of_any roundsK rfl kind A c bs W h1 h2 (by omega) h3.1.1
  have HRf : Hid (∀ (W : World) (A : Option Addr) (c : Nat), At W A bs → bs.length ≤ c → Good2 W → Calls Tryd.prog 10 #[.int .i64 kind, .slice A bs.length c] W fun e w' => e = .returned (.tuple #[o.1.v, .int .i64 o.2]) ∧ Keeps Non W w') :=
    fun W A c h1 h2 h3 => by rw [ho]; exact refof_any kind A c bs W h1 h2 (by omega) h3
  have HCk : Hid (∀ (W : World) (A : Option Addr) (c : Nat) (s : Sum4), At W A bs → bs.length ≤ c → Good2 W → Calls Tryd.prog 13 #[.int .i64 kind, s.v, .slice A bs.length c] W fun e w' => e = .returned (.bool (o.2 == 0 && s.eqv o.1)) ∧ Keeps Non W w') :=
    fun W A c s h1 h2 h3 => by rw [ho]; exact check_any roundsK rfl kind s A c bs W h1 h2 (by omega) h3.1.1
  have HRc : Hid (∀ (W : World) (A : Option Addr) (c : Nat) (s : Sum4), At W A bs → bs.length ≤ c → Good2 W → Calls Tryd.prog 12 #[.int .i64 kind, s.v, .slice A bs.length c] W fun e w' => e = .returned (.bool (o.2 == 0 && s.eqv o.1)) ∧ Keeps Non W w') :=
    fun W A c s h1 h2 h3 => by rw [ho]; exact refcheck_any kind s A c bs W h1 h2 (by omega) h3
  clear ho
  obtain ⟨X, er⟩ := o
  obtain ⟨rt, hrt⟩ : ∃ rt, rt = (er == 0 && s.eqv X) := ⟨_, rfl⟩
  obtain ⟨eb, heb⟩ : ∃ eb, eb = (er == 0) := ⟨_, rfl⟩
  have HC1 : Hid (∀ (W : World) (A : Option Addr) (c : Nat), At W A bs → bs.length ≤ c → Good2 W → Calls Tryd.prog 13 #[.int .i64 kind, s.v, .slice A bs.length c] W fun e w' => e = .returned (.bool rt) ∧ Keeps Non W w') :=
    fun W A c h1 h2 h3 => by rw [hrt]; exact HCk.out W A c s h1 h2 h3
  have HC2 : Hid (∀ (W : World) (A : Option Addr) (c : Nat), At W A bs → bs.length ≤ c → Good2 W → Calls Tryd.prog 13 #[.int .i64 kind, X.v, .slice A bs.length c] W fun e w' => e = .returned (.bool eb) ∧ Keeps Non W w') :=
    fun W A c h1 h2 h3 => by
      have := HCk.out W A c X h1 h2 h3
      rw [show ((X, er).2 == 0 && X.eqv (X, er).1) = eb by rw [heb, Sum4.eqv_refl, Bool.and_true]] at this
      exact this
  have HR1 : Hid (∀ (W : World) (A : Option Addr) (c : Nat), At W A bs → bs.length ≤ c → Good2 W → Calls Tryd.prog 12 #[.int .i64 kind, s.v, .slice A bs.length c] W fun e w' => e = .returned (.bool rt) ∧ Keeps Non W w') :=
    fun W A c h1 h2 h3 => by rw [hrt]; exact HRc.out W A c s h1 h2 h3
  clear hrt HCk HRc
  obtain ⟨SA, SB, SC, SD⟩ := s
  obtain ⟨XA, XB, XC, XD⟩ := X
  have HA := Lib.hid hA
  clear hA
  rw [show (⟨SA, SB, SC, SD⟩ : Sum4).v = .agg #[.int .u64 (v64 SA), .int .u64 (v64 SB), .int .u64 (v64 SC), .int .u64 (v64 SD)] from rfl]
  go_enter Tryd.func3, Tryd.ntmps3
  go_wp2_with fail
  obtain ⟨w0, hw0⟩ : ∃ W : World, W = w.alloc (.cells #[.int .u64 (v64 SA), .int .u64 (v64 SB), .int .u64 (v64 SC), .int .u64 (v64 SD)] 25) := ⟨_, rfl⟩
  have hS0 : Blk w0 w.heap.size 25 #[.int .u64 (v64 SA), .int .u64 (v64 SB), .int .u64 (v64 SC), .int .u64 (v64 SD)] := by rw [hw0]; exact Blk.new _ _ _
  have hK0 : Keeps Non w w0 := by rw [hw0]; exact (Keeps.refl _ _).alloc _
  rw [← hw0]
  obtain ⟨p, hp⟩ : ∃ p, p = w.heap.size := ⟨_, rfl⟩
  rw [← hp] at hS0 ⊢
  clear hw0 hp
  refine (awake_any w0 (hG.non hK0).1).mono ?_
  rintro e w1 ⟨rfl, hK⟩
  have hS1 := hS0.non hK
  have hK1 := hK0.non hK
  clear hS0 hK0 hK
  go_wp2_with fail
  refine (lent_any A c bs w1 (HA.out.non hK1) (by omega)).mono ?_
  rintro e w2 ⟨g, cap, rfl, hO2, hcap, hK⟩
  have hS2 := hS1.non hK
  have hK2 := hK1.non hK
  clear hS1 hK1 hK
  obtain ⟨B, hB⟩ : ∃ B, B = w1.heap.size := ⟨_, rfl⟩
  rw [← hB] at hO2
  clear hB
  have hlA : ∀ W, OwnB W B 5 (.slice (some ⟨g, 0, none⟩) (bs.length + 2) cap) (bs ++ [77, 78]) → At W (some ⟨g, 0, none⟩) bs := fun W h => by
    obtain ⟨A1, c1, e1, -, hA1, -⟩ := h.open
    injection e1 with e1 _ _
    subst e1
    have := hA1.take bs.length
    rw [List.take_left' rfl] at this
    exact this
  have HLA := Lib.hid hlA
  clear hlA
  go_wp2_with fail
  refine (HOf.out w2 _ cap (HLA.out _ hO2) (by omega) (hG.non hK2)).mono ?_
  rintro e w3 ⟨rfl, hK⟩
  have hS3 := hS2.non hK
  have hO3 := hO2.non hK
  have hK3 := hK2.non hK
  clear hS2 hO2 hK2 hK
  simp only [Sum4.v, sv]
  go_wp2_with fail
  obtain ⟨w4, hw4⟩ : ∃ W : World, W = w3.alloc (.cells #[.int .u64 (v64 XA), .int .u64 (v64 XB), .int .u64 (v64 XC), .int .u64 (v64 XD)] 25) := ⟨_, rfl⟩
  have hX4 : Blk w4 w3.heap.size 25 #[.int .u64 (v64 XA), .int .u64 (v64 XB), .int .u64 (v64 XC), .int .u64 (v64 XD)] := by rw [hw4]; exact Blk.new _ _ _
  have hS4 : Blk w4 p 25 #[.int .u64 (v64 SA), .int .u64 (v64 SB), .int .u64 (v64 SC), .int .u64 (v64 SD)] := by rw [hw4]; exact hS3.alloc _
  have hO4 : OwnB w4 B 5 (.slice (some ⟨g, 0, none⟩) (bs.length + 2) cap) (bs ++ [77, 78]) := by rw [hw4]; exact hO3.non ((Keeps.refl Non w3).alloc _)
  have hK4 : Keeps Non w w4 := by rw [hw4]; exact hK3.alloc _
  rw [← hw4]
  obtain ⟨x, hx⟩ : ∃ x, x = w3.heap.size := ⟨_, rfl⟩
  rw [← hx] at hX4 ⊢
  clear hw4 hx hS3 hO3 hK3
  refine (HRf.out w4 A c (HA.out.non hK4) hc (hG.non hK4)).mono ?_
  rintro e w5 ⟨rfl, hK⟩
  have hX5 := hX4.non hK
  have hS5 := hS4.non hK
  have hO5 := hO4.non hK
  have hK5 := hK4.non hK
  clear hX4 hS4 hO4 hK4 hK
  simp only [Sum4.v, sv]
  go_wp2_with fail
  obtain ⟨w6, hw6⟩ : ∃ W : World, W = w5.alloc (.cells #[.int .u64 (v64 XA), .int .u64 (v64 XB), .int .u64 (v64 XC), .int .u64 (v64 XD)] 25) := ⟨_, rfl⟩
  have hY6 : Blk w6 w5.heap.size 25 #[.int .u64 (v64 XA), .int .u64 (v64 XB), .int .u64 (v64 XC), .int .u64 (v64 XD)] := by rw [hw6]; exact Blk.new _ _ _
  have hX6 : Blk w6 x 25 #[.int .u64 (v64 XA), .int .u64 (v64 XB), .int .u64 (v64 XC), .int .u64 (v64 XD)] := by rw [hw6]; exact hX5.alloc _
  have hS6 : Blk w6 p 25 #[.int .u64 (v64 SA), .int .u64 (v64 SB), .int .u64 (v64 SC), .int .u64 (v64 SD)] := by rw [hw6]; exact hS5.alloc _
  have hO6 : OwnB w6 B 5 (.slice (some ⟨g, 0, none⟩) (bs.length + 2) cap) (bs ++ [77, 78]) := by rw [hw6]; exact hO5.non ((Keeps.refl Non w5).alloc _)
  have hK6 : Keeps Non w w6 := by rw [hw6]; exact hK5.alloc _
  rw [← hw6]
  obtain ⟨y, hy⟩ : ∃ y, y = w5.heap.size := ⟨_, rfl⟩
  rw [← hy] at hY6 ⊢
  clear hw6 hy hX5 hS5 hO5 hK5
  refine (still_any A c g cap B bs w6 (HA.out.non hK6) hO6 hcap hc (by omega)).mono ?_
  rintro e w7 ⟨rfl, hK⟩
  have hY7 := hY6.non hK
  have hX7 := hX6.non hK
  have hS7 := hS6.non hK
  have hO7 := hO6.non hK
  have hK7 := hK6.non hK
  clear hY6 hX6 hS6 hO6 hK6 hK
  have s0 := hS7.cell 0
  have s1 := hS7.cell 1
  have s2 := hS7.cell 2
  have s3 := hS7.cell 3
  go_wp2_with fail
  clear s0 s1 s2 s3
  refine (HR1.out w7 A c (HA.out.non hK7) hc (hG.non hK7)).mono ?_
  rintro e w8 ⟨rfl, hK⟩
  have hY8 := hY7.non hK
  have hX8 := hX7.non hK
  have hS8 := hS7.non hK
  have hO8 := hO7.non hK
  have hK8 := hK7.non hK
  clear hY7 hX7 hS7 hO7 hK7 hK
  have x0 := hX8.cell 0
  have x1 := hX8.cell 1
  have x2 := hX8.cell 2
  have x3 := hX8.cell 3
  go_wp2_with fail
  clear x0 x1 x2 x3
  refine (HC2.out w8 _ cap (HLA.out _ hO8) (by omega) (hG.non hK8)).mono ?_
  rintro e w9 ⟨rfl, hK⟩
  have hY9 := hY8.non hK
  have hX9 := hX8.non hK
  have hS9 := hS8.non hK
  have hK9 := hK8.non hK
  clear hY8 hX8 hS8 hO8 hK8 hK
  have s0 := hS9.cell 0
  have s1 := hS9.cell 1
  have s2 := hS9.cell 2
  have s3 := hS9.cell 3
  have x0 := hX9.cell 0
  have x1 := hX9.cell 1
  have x2 := hX9.cell 2
  have x3 := hX9.cell 3
  have y0 := hY9.cell 0
  have y1 := hY9.cell 1
  have y2 := hY9.cell 2
  have y3 := hY9.cell 3
  go_wp2_with fail
  clear s0 s1 s2 s3 x0 x1 x2 x3 y0 y1 y2 y3
  refine (HC1.out w9 A c (HA.out.non hK9) hc (hG.non hK9)).mono ?_
  rintro e w10 ⟨rfl, hK⟩
  have hK10 := hK9.non hK
  have heb' := heb.symm
  clear heb
  go_wp2_with fail
  go_ret
  refine ⟨?_, hK10⟩
  refine ret_bool ?_
  simp
#print axioms sumOf_any
end Go.Proofs.YtgpamjinkiadnaaDoor
