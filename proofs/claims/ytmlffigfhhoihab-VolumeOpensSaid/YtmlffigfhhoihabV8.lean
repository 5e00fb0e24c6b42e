/- cells.May, slices.EqualFunc on cells. -/
import Derived.Test.YtmlffigfhhoihabV6
namespace Go.Proofs.Ytmlffigfhhoihab
open Go.RowKit Go.Uc

/-- Cells with bounds on their sizes. -/
def okC (c : Cel) : Prop := 1 ≤ c.obj ∧ c.obj ≤ 1048576 ∧ -1 ≤ c.at_ ∧ c.at_ ≤ 255 ∧ 1 ≤ c.data.length ∧ c.data.length ≤ 256
def ltC (a b : Cel) : Prop := a.obj < b.obj ∨ (a.obj = b.obj ∧ a.at_ < b.at_)
def mayTo (cs : List Cel) (k : Nat) : Prop := ∀ i (h : i < cs.length), i < k → okC cs[i] ∧ (∀ j (h' : j < cs.length), j + 1 = i → ltC cs[j] cs[i])
def MayP (cs : List Cel) : Prop := mayTo cs cs.length ∧ cs.length ≤ 240
open Classical in
noncomputable def mayB (cs : List Cel) : Bool := decide (MayP cs)
theorem mayB_yes {cs : List Cel} (h : MayP cs) : mayB cs = true := by unfold mayB; simp [h]
theorem mayB_no {cs : List Cel} (h : ¬ MayP cs) : mayB cs = false := by unfold mayB; simp [h]

/-- The value of a cell. -/
def celV (c : Cel) (A : Option Addr) (n : Nat) : Value := .agg #[.int .i64 c.obj, .int .i64 c.at_, .int .i64 c.birth, .slice A c.data.length n]

set_option maxHeartbeats 1000000 in
theorem order_any (a b : Cel) (A B : Option Addr) (n m : Nat) (w : World) (ha : okC a) (hb : okC b) :
    Calls Try.prog 35 #[.agg #[.int .i64 a.obj, .int .i64 a.at_, .int .i64 a.birth, .slice A a.data.length n], .agg #[.int .i64 b.obj, .int .i64 b.at_, .int .i64 b.birth, .slice B b.data.length m]] w fun e w' => ∃ x : Int, e = .returned (.int .i64 x) ∧ (ltC a b → x < 0) ∧ (¬ ltC a b → 0 ≤ x) ∧ Keeps Non w w' := by
  unfold okC at ha hb
  obtain ⟨a1, a2, a3, a4, -, -⟩ := ha
  obtain ⟨b1, b2, b3, b4, -, -⟩ := hb
  unfold ltC
  by_cases h : a.obj = b.obj
  · have hne : (a.obj != b.obj) = false := by rw [h]; simp
    have H := Lib.hid h
    clear h
    go_enter Try.func35, Try.ntmps35
    go_wp2
    go_ret
    have h := H.out
    exact ⟨_, rfl, by omega, by omega, ((Keeps.refl _ _).alloc _).alloc _⟩
  · have hne : (a.obj != b.obj) = true := by simpa using h
    go_enter Try.func35, Try.ntmps35
    go_wp2
    go_ret
    exact ⟨_, rfl, by omega, by omega, ((Keeps.refl _ _).alloc _).alloc _⟩

set_option maxRecDepth 100000 in
set_option maxHeartbeats 4000000 in
theorem may_any (A : Option Addr) (c : Nat) (cs : List Cel) (w : World) (hA : Cels w A cs) (hn : cs.length ≤ 140737488351232) :
    Calls Try.prog 27 #[.slice A cs.length c] w fun e w' => e = .returned (.bool (mayB cs)) ∧ Keeps Non w w' := by
  have HA := Lib.hid hA
  clear hA
  go_enter Try.func27, Try.ntmps27
  go_wp2
  go_loopw [3, 4, 7] (fun _ _ i wr => ∃ k : Nat, k ≤ cs.length ∧ i = .int .i64 k ∧ Hid (mayTo cs k) ∧ Keeps Non w wr) (fun _ _ i _ => cs.length - (intOf i).toNat)
  case atStart => exact ⟨0, Nat.zero_le _, rfl, (fun i h h' => absurd h' (by omega)), Keeps.refl _ _⟩
  case round =>
    obtain ⟨k, hk, rfl, HM, hK⟩ := hrel
    by_cases hlt : k < cs.length
    · obtain ⟨b, off, Ai, ci, rfl, a1, a2, a3, a4, -, -⟩ := (HA.out.non hK) k hlt
      have hbad : ¬ okC cs[k] → mayB cs = false := fun h => mayB_no fun hm => h (hm.1 k hlt hlt).1
      have HBAD := Lib.hid hbad
      have hbad2 : ∀ j (h' : j < cs.length), j + 1 = k → ¬ ltC cs[j] cs[k] → mayB cs = false := fun j h' e h => mayB_no fun hm => h ((hm.1 k hlt hlt).2 j h' e)
      have HBAD2 := Lib.hid hbad2
      have hstep : okC cs[k] → (∀ j (h' : j < cs.length), j + 1 = k → ltC cs[j] cs[k]) → mayTo cs (k + 1) := fun h1 h2 i hi hik => by
        rcases Nat.lt_or_ge i k with hl | hl
        · exact HM.out i hi hl
        · obtain rfl : i = k := by omega
          exact ⟨h1, h2⟩
      have HSTEP := Lib.hid hstep
      obtain ⟨cc, hcc⟩ : ∃ cc, cc = cs[k] := ⟨_, rfl⟩
      rw [← hcc] at a1 a2 a3 a4 HBAD
      have HCC := Lib.hid hcc
      clear hbad hbad2 hstep hcc
      by_cases hok : okC cc
      · have hok2 := hok
        unfold okC at hok2
        obtain ⟨o1, o2, o3, o4, o5, o6⟩ := hok2
        by_cases hk0 : k < 1
        · have hd : decide (0 < k) = false := by simp; omega
          go_wp2
          go_quiet (fail)
          go_wp2
          go_roundw
          case rel => exact ⟨k + 1, by omega, by go_num, HSTEP.out (by rw [← HCC.out]; exact hok) (fun j h' e => absurd e (by omega)), (hK.alloc _).drewN _⟩
          case measure => simp [intOf]; omega
        · obtain ⟨j, rfl⟩ : ∃ j, k = j + 1 := ⟨k - 1, by omega⟩
          have hj : j < cs.length := by omega
          have hokj := (HM.out j hj (by omega)).1
          have HOJ := Lib.hid hokj
          obtain ⟨cj', hcj⟩ : ∃ c', c' = cs[j] := ⟨_, rfl⟩
          rw [← hcj] at HOJ
          have HCJ := Lib.hid hcj
          clear hcj hokj
          have hd : decide (0 < (j : Int) + 1) = true := by rw [decide_eq_true_eq]; omega
          have HOK := Lib.hid hok
          clear hok
          go_wp2
          obtain ⟨w5, hw5⟩ : ∃ w5, w5 = wr.alloc (.cells #[.int .i64 cc.obj, .int .i64 cc.at_, .int .i64 cc.birth, .slice Ai cc.data.length ci] 60) := ⟨_, rfl⟩
          have hka : Keeps Non wr w5 := by rw [hw5]; exact (Keeps.refl _ _).alloc _
          have hB5 : Blk w5 wr.heap.size 60 #[.int .i64 cc.obj, .int .i64 cc.at_, .int .i64 cc.birth, .slice Ai cc.data.length ci] := by rw [hw5]; exact Blk.new _ _ _
          rw [← hw5]
          obtain ⟨gO, hgO⟩ : ∃ g, g = wr.heap.size := ⟨_, rfl⟩
          rw [← hgO] at hB5 ⊢
          have hk5 := hK.trans hka
          have hCels := HA.out.non hk5 j hj
          rw [← HCJ.out] at hCels
          obtain ⟨b', off', Aj, cj, hA', p1, p2, p3, p4, -, -⟩ := hCels
          injection hA' with hA'
          injection hA' with e1 e2
          subst e1 e2
          clear hw5 hgO hka hK a1 a2 a3 a4
          have k0 : w5.cell? ⟨gO, 0, none⟩ = some (.int .i64 cc.obj) := hB5.cell 0
          have k1 : w5.cell? ⟨gO, 1, none⟩ = some (.int .i64 cc.at_) := hB5.cell 1
          have k2 : w5.cell? ⟨gO, 2, none⟩ = some (.int .i64 cc.birth) := hB5.cell 2
          have k3 : w5.cell? ⟨gO, 3, none⟩ = some (.slice Ai cc.data.length ci) := hB5.cell 3
          have W1 : IntKind.i64.wrap ((j : Int) + 1 - 1) = (j : Int) := by rw [IntWalk.i64_in _ (by omega)]; omega
          have W2 : IntKind.i64.wrap (j : Int) = (j : Int) := IntWalk.i64_in _ (by omega)
          go_still_tail 9, (by kernel_rfl)
          clear W1 W2 k0 k1 k2 k3 p1 p2 p3 p4
          have hor := fun W => order_any cj' cc Aj Ai cj ci W HOJ.out HOK.out
          have HOR := Lib.hid hor
          clear hor
          have hk6 : Keeps Non w w5.drew := hk5.drew
          by_cases hlt2 : ltC cj' cc
          · have HLT := Lib.hid hlt2
            clear hlt2
            go_wp2_with (go_at_call 35; go_must (refine (HOR.out _).mono ?_); rintro e w6 ⟨x, rfl, hx1, -, hK6⟩; have hx2 := hx1 HLT.out; clear hx1)
            go_roundw
            case rel => exact ⟨j + 1 + 1, by omega, by go_num, HSTEP.out (by rw [← HCC.out]; exact HOK.out) (fun i h' e => by
              obtain rfl : i = j := by omega
              rw [← HCC.out, ← HCJ.out]; exact HLT.out), hk6.trans hK6⟩
            case measure => simp [intOf]; omega
          · have hb := HBAD2.out j hj rfl (by rw [← HCC.out, ← HCJ.out]; exact hlt2)
            have HB := Lib.hid hb
            have HLT := Lib.hid hlt2
            clear hlt2 hb
            go_wp2_with (go_at_call 35; go_must (refine (HOR.out _).mono ?_); rintro e w6 ⟨x, rfl, -, hx1, hK6⟩; have hx2 := hx1 HLT.out; clear hx1)
            go_ret
            exact ⟨ret_bool HB.out.symm, hk6.trans hK6⟩
      · have hb := HBAD.out hok
        unfold okC at hok
        have HB := Lib.hid hb
        clear hb
        go_wp2
        all_goals
          first
            | omega
            | (go_ret
               exact ⟨ret_bool HB.out.symm, hK.alloc _⟩)
    · obtain rfl : k = cs.length := by omega
      by_cases hl : cs.length ≤ 240
      · go_wp2
        go_ret
        exact ⟨ret_bool (by rw [mayB_yes ⟨HM.out, hl⟩]; simp; omega), hK⟩
      · go_wp2
        go_ret
        exact ⟨ret_bool (by rw [mayB_no (fun h => hl h.2)]; simp; omega), hK⟩
end Go.Proofs.Ytmlffigfhhoihab
